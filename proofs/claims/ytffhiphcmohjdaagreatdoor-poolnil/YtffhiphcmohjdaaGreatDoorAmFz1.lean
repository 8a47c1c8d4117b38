import Derived.Test.YtffhiphcmohjdaaGreatDoorAmRunS
set_option linter.all false
/- A quick machine for the kernel: trees for frames and heaps, ropes for cells, everything in the style of 'what comes next'. -/
section
set_option linter.all false
namespace Am.Fz
open Go

/-- A tree by numbers. -/
inductive Tr (α : Type) where
  | nil
  | node (l : Tr α) (x : Option α) (r : Tr α)

def Tr.get {α : Type} : Tr α → Nat → Option α
  | .nil, _ => none
  | .node l x r, i => if i = 0 then x else if i % 2 = 1 then l.get (i / 2) else r.get (i / 2 - 1)

noncomputable def getK {α : Type} : Tr α → Nat → Bool → (α → Bool) → Bool :=
  @Tr.rec α (fun _ => Nat → Bool → (α → Bool) → Bool) (fun _ d _ => d)
    (fun _ x _ gl gr i d k => @Bool.rec (fun _ => Bool)
      (@Bool.rec (fun _ => Bool) (gr (Nat.sub (Nat.div i (nat_lit 2)) (nat_lit 1)) d k) (gl (Nat.div i (nat_lit 2)) d k) (Nat.beq (Nat.mod i (nat_lit 2)) (nat_lit 1)))
      (@Option.rec α (fun _ => Bool) d k x) (Nat.beq i (nat_lit 0)))

theorem getK_eq {α : Type} (t : Tr α) : ∀ (i : Nat) (d : Bool) (k : α → Bool), getK t i d k = match t.get i with
    | some v => k v
    | none => d := by
  induction t with
  | nil => intro i d k; rfl
  | node l x r ihl ihr =>
    intro i d k
    show @Bool.rec (fun _ => Bool) (@Bool.rec (fun _ => Bool) (getK r (i / 2 - 1) d k) (getK l (i / 2) d k) (Nat.beq (i % 2) 1)) (@Option.rec α (fun _ => Bool) d k x) (Nat.beq i 0) = _
    rw [ihl, ihr]
    simp only [Tr.get]
    by_cases h : i = 0
    · subst h; cases x <;> rfl
    · have h0 : Nat.beq i 0 = false := by cases hb : Nat.beq i 0 with
        | false => rfl
        | true => exact absurd (Nat.eq_of_beq_eq_true hb) h
      rw [h0, if_neg h]
      by_cases h1 : i % 2 = 1
      · rw [if_pos h1, h1]; rfl
      · have h2 : Nat.beq (i % 2) 1 = false := by cases hb : Nat.beq (i % 2) 1 with
          | false => rfl
          | true => exact absurd (Nat.eq_of_beq_eq_true hb) h1
        rw [if_neg h1, h2]

theorem beq_false {a b : Nat} (h : ¬ a = b) : Nat.beq a b = false := by
  cases hb : Nat.beq a b with
  | false => rfl
  | true => exact absurd (Nat.eq_of_beq_eq_true hb) h

noncomputable def setK {α : Type} : Nat → Tr α → Nat → α → (Tr α → Bool) → Bool :=
  @Nat.rec (fun _ => Tr α → Nat → α → (Tr α → Bool) → Bool) (fun _ _ _ _ => false)
    (fun _ ih t => @Tr.rec α (fun _ => Nat → α → (Tr α → Bool) → Bool)
      (fun i v k => @Bool.rec (fun _ => Bool)
        (@Bool.rec (fun _ => Bool) (ih .nil (Nat.sub (Nat.div i (nat_lit 2)) (nat_lit 1)) v (fun r => k (.node .nil none r))) (ih .nil (Nat.div i (nat_lit 2)) v (fun l => k (.node l none .nil))) (Nat.beq (Nat.mod i (nat_lit 2)) (nat_lit 1)))
        (k (.node .nil (some v) .nil)) (Nat.beq i (nat_lit 0)))
      (fun l x r _ _ i v k => @Bool.rec (fun _ => Bool)
        (@Bool.rec (fun _ => Bool) (ih r (Nat.sub (Nat.div i (nat_lit 2)) (nat_lit 1)) v (fun r' => k (.node l x r'))) (ih l (Nat.div i (nat_lit 2)) v (fun l' => k (.node l' x r))) (Nat.beq (Nat.mod i (nat_lit 2)) (nat_lit 1)))
        (k (.node l (some v) r)) (Nat.beq i (nat_lit 0))) t)

theorem bif_eq {c : Bool} {x y : Bool} (h : @Bool.rec (fun _ => Bool) x y c = true) : (c = true ∧ y = true) ∨ (c = false ∧ x = true) := by
  cases c
  · exact .inr ⟨rfl, h⟩
  · exact .inl ⟨rfl, h⟩

theorem setK_ok {α : Type} : ∀ (n : Nat) (t : Tr α) (i : Nat) (v : α) (k : Tr α → Bool), setK n t i v k = true → ∃ t', k t' = true ∧ ∀ j, t'.get j = if j = i then some v else t.get j
  | 0, _, _, _, _, h => Bool.noConfusion h
  | n + 1, .nil, i, v, k, h => by
    rcases bif_eq (show @Bool.rec (fun _ => Bool) (@Bool.rec (fun _ => Bool) (setK n .nil (i / 2 - 1) v (fun r => k (.node .nil none r))) (setK n .nil (i / 2) v (fun l => k (.node l none .nil))) (Nat.beq (i % 2) 1)) (k (.node .nil (some v) .nil)) (Nat.beq i 0) = true from h) with ⟨hc, h⟩ | ⟨hc, h⟩
    · obtain rfl := Nat.eq_of_beq_eq_true hc
      refine ⟨_, h, fun j => ?_⟩
      by_cases hj : j = 0
      · subst hj; rfl
      · simp only [Tr.get, if_neg hj]; split <;> rfl
    · have hi : i ≠ 0 := fun e => by subst e; exact Bool.noConfusion hc
      rcases bif_eq h with ⟨hc1, h⟩ | ⟨hc1, h⟩
      · obtain ⟨t', h1, h2⟩ := setK_ok n _ _ _ _ h
        have ho := Nat.eq_of_beq_eq_true hc1
        refine ⟨_, h1, fun j => ?_⟩
        simp only [Tr.get, h2]
        by_cases hj : j = i
        · subst hj; simp [hi, ho]
        · rw [if_neg hj]
          by_cases hj0 : j = 0
          · simp [hj0]
          · rw [if_neg hj0]
            by_cases hj1 : j % 2 = 1
            · rw [if_pos hj1, if_neg (by omega)]
            · rw [if_neg hj1]
      · obtain ⟨t', h1, h2⟩ := setK_ok n _ _ _ _ h
        have ho : ¬ i % 2 = 1 := fun e => by rw [e] at hc1; exact Bool.noConfusion hc1
        refine ⟨_, h1, fun j => ?_⟩
        simp only [Tr.get, h2]
        by_cases hj : j = i
        · subst hj; simp [hi, ho]
        · rw [if_neg hj]
          by_cases hj0 : j = 0
          · simp [hj0]
          · rw [if_neg hj0]
            by_cases hj1 : j % 2 = 1
            · rw [if_pos hj1]
            · rw [if_neg hj1, if_neg (by omega)]
  | n + 1, .node l x r, i, v, k, h => by
    rcases bif_eq (show @Bool.rec (fun _ => Bool) (@Bool.rec (fun _ => Bool) (setK n r (i / 2 - 1) v (fun r' => k (.node l x r'))) (setK n l (i / 2) v (fun l' => k (.node l' x r))) (Nat.beq (i % 2) 1)) (k (.node l (some v) r)) (Nat.beq i 0) = true from h) with ⟨hc, h⟩ | ⟨hc, h⟩
    · obtain rfl := Nat.eq_of_beq_eq_true hc
      refine ⟨_, h, fun j => ?_⟩
      by_cases hj : j = 0
      · subst hj; rfl
      · simp only [Tr.get, if_neg hj]
    · have hi : i ≠ 0 := fun e => by subst e; exact Bool.noConfusion hc
      rcases bif_eq h with ⟨hc1, h⟩ | ⟨hc1, h⟩
      · obtain ⟨t', h1, h2⟩ := setK_ok n _ _ _ _ h
        have ho := Nat.eq_of_beq_eq_true hc1
        refine ⟨_, h1, fun j => ?_⟩
        simp only [Tr.get, h2]
        by_cases hj : j = i
        · subst hj; simp [hi, ho]
        · rw [if_neg hj]
          by_cases hj0 : j = 0
          · simp [hj0]
          · rw [if_neg hj0, if_neg hj0]
            by_cases hj1 : j % 2 = 1
            · rw [if_pos hj1, if_pos hj1, if_neg (by omega)]
            · rw [if_neg hj1, if_neg hj1]
      · obtain ⟨t', h1, h2⟩ := setK_ok n _ _ _ _ h
        have ho : ¬ i % 2 = 1 := fun e => by rw [e] at hc1; exact Bool.noConfusion hc1
        refine ⟨_, h1, fun j => ?_⟩
        simp only [Tr.get, h2]
        by_cases hj : j = i
        · subst hj; simp [hi, ho]
        · rw [if_neg hj]
          by_cases hj0 : j = 0
          · simp [hj0]
          · rw [if_neg hj0, if_neg hj0]
            by_cases hj1 : j % 2 = 1
            · rw [if_pos hj1, if_pos hj1]
            · rw [if_neg hj1, if_neg hj1, if_neg (by omega)]

/-- A number made plain. -/
noncomputable def forceN (n : Nat) (k : Nat → Bool) : Bool := @Nat.rec (fun _ => Bool) (k (nat_lit 0)) (fun m _ => k (Nat.succ m)) n
theorem forceN_eq (n : Nat) (k : Nat → Bool) : forceN n k = k n := by cases n <;> rfl

noncomputable def forceI (i : Int) (k : Int → Bool) : Bool := @Int.rec (fun _ => Bool) (fun n => forceN n (fun m => k (.ofNat m))) (fun n => forceN n (fun m => k (.negSucc m))) i
theorem forceI_eq (n : Int) (k : Int → Bool) : forceI n k = k n := by
  cases n with
  | ofNat n => exact forceN_eq n (fun m => k (.ofNat m))
  | negSucc n => exact forceN_eq n (fun m => k (.negSucc m))

noncomputable def forceB (b : Bool) (k : Bool → Bool) : Bool := @Bool.rec (fun _ => Bool) (k false) (k true) b
theorem forceB_eq (n : Bool) (k : Bool → Bool) : forceB n k = k n := by cases n <;> rfl

/-- A value made plain. -/
noncomputable def forceV (v : AVal) (k : AVal → Bool) : Bool :=
  @AVal.casesOn (fun _ => Bool) v (k .junk) (fun b => forceB b fun b => k (.bool b)) (fun kd n => forceI n fun n => k (.int kd n)) (fun s => k (.str s))
    (fun r v off => forceN off fun off => k (.ptr r v off)) (k .nilp) (fun r v off len sz => forceN off fun off => forceN len fun len => k (.sl r v off len sz)) (k .nils)
    (fun f len c => k (.fz f len c)) (fun c => k (.fq c)) (fun f a b => k (.fn f a b)) (k .nilf) (fun t v => k (.iface t v)) (k .nili) (fun c => k (.agg c)) (fun c => k (.tup c)) (k .mapn)
    (fun j => k (.yld j)) (fun j => k (.mpv j)) (fun r v off len mc sz => forceN off fun off => forceN len fun len => k (.slm r v off len mc sz))
theorem forceV_eq (v : AVal) (k : AVal → Bool) : forceV v k = k v := by
  cases v <;> simp [forceV, forceB_eq, forceI_eq, forceN_eq]

noncomputable def lenL {α : Type} (l : List α) : Nat := @List.rec α (fun _ => Nat) (nat_lit 0) (fun _ _ n => Nat.succ n) l
theorem lenL_eq {α : Type} (l : List α) : lenL l = l.length := by
  induction l with
  | nil => rfl
  | cons a l ih => show Nat.succ (lenL l) = _; rw [ih]; rfl

/-- The i-th of some. -/
noncomputable def lnthK {α : Type} : List α → Nat → (α → Bool) → Bool :=
  @List.rec α (fun _ => Nat → (α → Bool) → Bool) (fun _ _ => false) (fun a _ ih i k => @Bool.rec (fun _ => Bool) (ih (Nat.sub i (nat_lit 1)) k) (k a) (Nat.beq i (nat_lit 0)))
theorem lnthK_ok {α : Type} : ∀ (l : List α) (i : Nat) (k : α → Bool), lnthK l i k = true → ∃ v, l[i]? = some v ∧ k v = true
  | [], _, _, h => Bool.noConfusion h
  | a :: l, i, k, h => by
    rcases bif_eq (show @Bool.rec (fun _ => Bool) (lnthK l (i - 1) k) (k a) (Nat.beq i 0) = true from h) with ⟨hc, h⟩ | ⟨hc, h⟩
    · obtain rfl := Nat.eq_of_beq_eq_true hc
      exact ⟨a, rfl, h⟩
    · obtain ⟨v, h1, h2⟩ := lnthK_ok l _ _ h
      have hi : i ≠ 0 := fun e => by subst e; exact Bool.noConfusion hc
      obtain ⟨j, rfl⟩ : ∃ j, i = j + 1 := ⟨i - 1, by omega⟩
      exact ⟨v, by simpa using h1, h2⟩

/-- Cells laid over others. -/
noncomputable def lsplK {α : Type} : List α → Nat → List α → (List α → Bool) → Bool :=
  @List.rec α (fun _ => Nat → List α → (List α → Bool) → Bool)
    (fun off cs k => @Bool.rec (fun _ => Bool) false (@List.rec α (fun _ => Bool) (k []) (fun _ _ _ => false) cs) (Nat.beq off (nat_lit 0)))
    (fun a t ih off cs k => @Bool.rec (fun _ => Bool) (ih (Nat.sub off (nat_lit 1)) cs (fun t' => k (a :: t'))) (@List.rec α (fun _ => Bool) (k (a :: t)) (fun c cs' _ => ih (nat_lit 0) cs' (fun t' => k (c :: t'))) cs) (Nat.beq off (nat_lit 0)))

def spl {α : Type} (l : List α) (off : Nat) (cs : List α) : List α := l.take off ++ cs ++ l.drop (off + cs.length)

theorem lsplK_ok {α : Type} : ∀ (l : List α) (off : Nat) (cs : List α) (k : List α → Bool), lsplK l off cs k = true → off + cs.length ≤ l.length ∧ k (spl l off cs) = true
  | [], off, cs, k, h => by
    rcases bif_eq (show @Bool.rec (fun _ => Bool) false (@List.rec α (fun _ => Bool) (k []) (fun _ _ _ => false) cs) (Nat.beq off 0) = true from h) with ⟨hc, h⟩ | ⟨_, h⟩
    · obtain rfl := Nat.eq_of_beq_eq_true hc
      cases cs with
      | nil => exact ⟨Nat.le_refl _, h⟩
      | cons c cs => exact Bool.noConfusion h
    · exact Bool.noConfusion h
  | a :: l, off, cs, k, h => by
    rcases bif_eq (show @Bool.rec (fun _ => Bool) (lsplK l (off - 1) cs (fun t' => k (a :: t'))) (@List.rec α (fun _ => Bool) (k (a :: l)) (fun c cs' _ => lsplK l 0 cs' (fun t' => k (c :: t'))) cs) (Nat.beq off 0) = true from h) with ⟨hc, h⟩ | ⟨hc, h⟩
    · obtain rfl := Nat.eq_of_beq_eq_true hc
      cases cs with
      | nil => exact ⟨by simp, by
          have e : spl (a :: l) 0 [] = a :: l := by simp [spl]
          rw [e]; exact h⟩
      | cons c cs =>
        obtain ⟨h1, h2⟩ := lsplK_ok l 0 cs _ h
        refine ⟨by simp at h1 ⊢; omega, ?_⟩
        simp only [spl, List.length_cons, List.take_zero, List.nil_append, Nat.zero_add, List.drop_succ_cons, List.cons_append] at h2 ⊢
        exact h2
    · obtain ⟨h1, h2⟩ := lsplK_ok l _ _ _ h
      have hi : off ≠ 0 := fun e => by subst e; exact Bool.noConfusion hc
      obtain ⟨j, rfl⟩ : ∃ j, off = j + 1 := ⟨off - 1, by omega⟩
      refine ⟨by simp at h1 ⊢; omega, ?_⟩
      have he : spl (a :: l) (j + 1) cs = a :: spl l j cs := by simp [spl, Nat.add_right_comm j 1]
      rw [he]; exact h2

noncomputable def lappK {α : Type} : List α → List α → (List α → Bool) → Bool :=
  @List.rec α (fun _ => List α → (List α → Bool) → Bool) (fun m k => k m) (fun a _ ih m k => ih m (fun t => k (a :: t)))
theorem lappK_eq {α : Type} : ∀ (l m : List α) (k : List α → Bool), lappK l m k = k (l ++ m)
  | [], _, _ => rfl
  | a :: l, m, k => by show lappK l m (fun t => k (a :: t)) = _; rw [lappK_eq l]; rfl

noncomputable def ldropK {α : Type} : List α → Nat → (List α → Bool) → Bool :=
  @List.rec α (fun _ => Nat → (List α → Bool) → Bool) (fun i k => @Bool.rec (fun _ => Bool) false (k []) (Nat.beq i (nat_lit 0))) (fun a t ih i k => @Bool.rec (fun _ => Bool) (ih (Nat.sub i (nat_lit 1)) k) (k (a :: t)) (Nat.beq i (nat_lit 0)))
theorem ldropK_ok {α : Type} : ∀ (l : List α) (i : Nat) (k : List α → Bool), ldropK l i k = true → i ≤ l.length ∧ k (l.drop i) = true
  | [], i, k, h => by
    rcases bif_eq (show @Bool.rec (fun _ => Bool) false (k []) (Nat.beq i 0) = true from h) with ⟨hc, h⟩ | ⟨_, h⟩
    · obtain rfl := Nat.eq_of_beq_eq_true hc; exact ⟨Nat.le_refl _, h⟩
    · exact Bool.noConfusion h
  | a :: l, i, k, h => by
    rcases bif_eq (show @Bool.rec (fun _ => Bool) (ldropK l (i - 1) k) (k (a :: l)) (Nat.beq i 0) = true from h) with ⟨hc, h⟩ | ⟨hc, h⟩
    · obtain rfl := Nat.eq_of_beq_eq_true hc; exact ⟨by simp, h⟩
    · obtain ⟨h1, h2⟩ := ldropK_ok l _ _ h
      have hi : i ≠ 0 := fun e => by subst e; exact Bool.noConfusion hc
      obtain ⟨j, rfl⟩ : ∃ j, i = j + 1 := ⟨i - 1, by omega⟩
      exact ⟨by simp at h1 ⊢; omega, h2⟩

noncomputable def ltakeK {α : Type} : List α → Nat → (List α → Bool) → Bool :=
  @List.rec α (fun _ => Nat → (List α → Bool) → Bool) (fun i k => @Bool.rec (fun _ => Bool) false (k []) (Nat.beq i (nat_lit 0))) (fun a _ ih i k => @Bool.rec (fun _ => Bool) (ih (Nat.sub i (nat_lit 1)) (fun t => k (a :: t))) (k []) (Nat.beq i (nat_lit 0)))
theorem ltakeK_ok {α : Type} : ∀ (l : List α) (i : Nat) (k : List α → Bool), ltakeK l i k = true → i ≤ l.length ∧ k (l.take i) = true
  | [], i, k, h => by
    rcases bif_eq (show @Bool.rec (fun _ => Bool) false (k []) (Nat.beq i 0) = true from h) with ⟨hc, h⟩ | ⟨_, h⟩
    · obtain rfl := Nat.eq_of_beq_eq_true hc; exact ⟨Nat.le_refl _, h⟩
    · exact Bool.noConfusion h
  | a :: l, i, k, h => by
    rcases bif_eq (show @Bool.rec (fun _ => Bool) (ltakeK l (i - 1) (fun t => k (a :: t))) (k []) (Nat.beq i 0) = true from h) with ⟨hc, h⟩ | ⟨hc, h⟩
    · obtain rfl := Nat.eq_of_beq_eq_true hc; exact ⟨by simp, h⟩
    · obtain ⟨h1, h2⟩ := ltakeK_ok l _ _ h
      have hi : i ≠ 0 := fun e => by subst e; exact Bool.noConfusion hc
      obtain ⟨j, rfl⟩ : ∃ j, i = j + 1 := ⟨i - 1, by omega⟩
      exact ⟨by simp at h1 ⊢; omega, h2⟩

/-- Cells as a rope. -/
inductive CT where
  | leaf (l : List AVal)
  | node (n : Nat) (a b : CT)

def CT.toL : CT → List AVal
  | .leaf l => l
  | .node _ a b => a.toL ++ b.toL
def CT.wf : CT → Prop
  | .leaf _ => True
  | .node n a b => a.wf ∧ b.wf ∧ a.toL.length = n

noncomputable def nthK : CT → Nat → (AVal → Bool) → Bool :=
  @CT.rec (fun _ => Nat → (AVal → Bool) → Bool) (fun l i k => lnthK l i k) (fun n _ _ ga gb i k => @Bool.rec (fun _ => Bool) (ga i k) (gb (Nat.sub i n) k) (Nat.ble n i))
theorem nthK_ok : ∀ (t : CT) (i : Nat) (k : AVal → Bool), t.wf → nthK t i k = true → ∃ v, t.toL[i]? = some v ∧ k v = true
  | .leaf l, i, k, _, h => lnthK_ok l i k h
  | .node n a b, i, k, hw, h => by
    rcases bif_eq (show @Bool.rec (fun _ => Bool) (nthK a i k) (nthK b (i - n) k) (Nat.ble n i) = true from h) with ⟨hc, h⟩ | ⟨hc, h⟩
    · obtain ⟨v, h1, h2⟩ := nthK_ok b _ _ hw.2.1 h
      have := Nat.le_of_ble_eq_true hc
      exact ⟨v, by rw [CT.toL, List.getElem?_append_right (by rw [hw.2.2]; exact this), hw.2.2]; exact h1, h2⟩
    · obtain ⟨v, h1, h2⟩ := nthK_ok a _ _ hw.1 h
      exact ⟨v, by rw [CT.toL, List.getElem?_append_left (List.getElem?_eq_some_iff.1 h1).1]; exact h1, h2⟩

/-- All cells of a rope, ahead of others. -/
noncomputable def toLK : CT → List AVal → (List AVal → Bool) → Bool :=
  @CT.rec (fun _ => List AVal → (List AVal → Bool) → Bool) (fun l m k => lappK l m k) (fun _ _ _ ga gb m k => gb m (fun m' => ga m' k))
theorem toLK_eq : ∀ (t : CT) (m : List AVal) (k : List AVal → Bool), toLK t m k = k (t.toL ++ m)
  | .leaf l, m, k => lappK_eq l m k
  | .node n a b, m, k => by
    show toLK b m (fun m' => toLK a m' k) = _
    rw [toLK_eq b, toLK_eq a, CT.toL, List.append_assoc]

/-- Some cells of a rope. -/
noncomputable def rngK : CT → Nat → Nat → (List AVal → Bool) → Bool :=
  @CT.rec (fun _ => Nat → Nat → (List AVal → Bool) → Bool) (fun l off n k => ldropK l off (fun r => ltakeK r n k))
    (fun m _ _ ga gb off n k => @Bool.rec (fun _ => Bool)
      (@Bool.rec (fun _ => Bool) (ga off (Nat.sub m off) (fun x => gb (nat_lit 0) (Nat.sub n (Nat.sub m off)) (fun y => lappK x y k))) (ga off n k) (Nat.ble (Nat.add off n) m))
      (gb (Nat.sub off m) n k) (Nat.ble m off))
theorem rngK_ok : ∀ (t : CT) (off n : Nat) (k : List AVal → Bool), t.wf → rngK t off n k = true → off + n ≤ t.toL.length ∧ k ((t.toL.drop off).take n) = true
  | .leaf l, off, n, k, _, h => by
    obtain ⟨h1, h⟩ := ldropK_ok l off _ h
    obtain ⟨h2, h⟩ := ltakeK_ok _ n _ h
    exact ⟨by simp only [CT.toL, List.length_drop] at h2 ⊢; omega, h⟩
  | .node m a b, off, n, k, hw, h => by
    rcases bif_eq (show @Bool.rec (fun _ => Bool) (@Bool.rec (fun _ => Bool) (rngK a off (m - off) (fun x => rngK b 0 (n - (m - off)) (fun y => lappK x y k))) (rngK a off n k) (Nat.ble (off + n) m)) (rngK b (off - m) n k) (Nat.ble m off) = true from h) with ⟨hc, h⟩ | ⟨hc, h⟩
    · have hm := Nat.le_of_ble_eq_true hc
      obtain ⟨h1, h⟩ := rngK_ok b _ _ _ hw.2.1 h
      refine ⟨by rw [CT.toL, List.length_append, hw.2.2]; omega, ?_⟩
      rw [CT.toL, List.drop_append, List.drop_eq_nil_of_le (by rw [hw.2.2]; exact hm), hw.2.2, List.nil_append]; exact h
    · have hm : ¬ m ≤ off := fun e => by rw [Nat.ble_eq_true_of_le e] at hc; exact Bool.noConfusion hc
      rcases bif_eq h with ⟨hc, h⟩ | ⟨hc, h⟩
      · have hm' := Nat.le_of_ble_eq_true hc
        obtain ⟨h1, h⟩ := rngK_ok a _ _ _ hw.1 h
        refine ⟨by rw [CT.toL, List.length_append]; omega, ?_⟩
        rw [CT.toL, List.drop_append_of_le_length (by omega), List.take_append_of_le_length (by simp; omega)]; exact h
      · obtain ⟨h1, h⟩ := rngK_ok a _ _ _ hw.1 h
        obtain ⟨h2, h⟩ := rngK_ok b _ _ _ hw.2.1 h
        rw [lappK_eq] at h
        have hm' : ¬ off + n ≤ m := fun e => by rw [Nat.ble_eq_true_of_le e] at hc; exact Bool.noConfusion hc
        have hl := hw.2.2
        refine ⟨by rw [CT.toL, List.length_append, hl]; omega, ?_⟩
        rw [CT.toL, List.drop_append_of_le_length (by omega), List.take_append, List.length_drop, hl]
        rw [List.take_of_length_le (by simp; omega)] at h
        rw [List.take_of_length_le (by simp; omega)]
        simpa using h

/-- Sixteen cells at most, and the rest. -/
noncomputable def takeK : Nat → List AVal → (List AVal → Nat → List AVal → Bool) → Bool :=
  @Nat.rec (fun _ => List AVal → (List AVal → Nat → List AVal → Bool) → Bool) (fun l k => k [] (nat_lit 0) l)
    (fun _ ih l k => @List.rec AVal (fun _ => Bool) (k [] (nat_lit 0) []) (fun a t _ => forceV a (fun a => ih t (fun c m r => k (a :: c) (Nat.succ m) r))) l)
theorem takeK_ok : ∀ (n : Nat) (l : List AVal) (k : List AVal → Nat → List AVal → Bool), takeK n l k = true → ∃ c r, l = c ++ r ∧ k c c.length r = true
  | 0, l, k, h => ⟨[], l, rfl, h⟩
  | n + 1, [], k, h => ⟨[], [], rfl, h⟩
  | n + 1, a :: t, k, h => by
    have h : forceV a (fun a => takeK n t (fun c m r => k (a :: c) (Nat.succ m) r)) = true := h
    rw [forceV_eq] at h
    obtain ⟨c, r, e, h⟩ := takeK_ok n t (fun c m r => k (a :: c) (Nat.succ m) r) h
    exact ⟨a :: c, r, by rw [e]; rfl, h⟩

noncomputable def ofLK : Nat → List AVal → (Nat → CT → Bool) → Bool :=
  @Nat.rec (fun _ => List AVal → (Nat → CT → Bool) → Bool) (fun _ _ => false)
    (fun _ ih l k => takeK (nat_lit 16) l (fun c m r => @List.rec AVal (fun _ => Bool) (k m (.leaf c)) (fun _ _ _ => ih r (fun n t => k (Nat.add m n) (.node m (.leaf c) t))) r))
theorem ofLK_ok : ∀ (f : Nat) (l : List AVal) (k : Nat → CT → Bool), ofLK f l k = true → ∃ t, t.wf ∧ t.toL = l ∧ k l.length t = true
  | 0, _, _, h => Bool.noConfusion h
  | f + 1, l, k, h => by
    obtain ⟨c, r, e, h⟩ := takeK_ok 16 l (fun c m r => @List.rec AVal (fun _ => Bool) (k m (.leaf c)) (fun _ _ _ => ofLK f r (fun n t => k (m + n) (.node m (.leaf c) t))) r) h
    cases r with
    | nil => exact ⟨.leaf c, trivial, by simp [CT.toL, e], by rw [e, List.append_nil]; exact h⟩
    | cons a r =>
      obtain ⟨t, h1, h2, h3⟩ := ofLK_ok f (a :: r) (fun n t => k (c.length + n) (.node c.length (.leaf c) t)) h
      exact ⟨.node c.length (.leaf c) t, ⟨trivial, h1, rfl⟩, by simp [CT.toL, h2, e], by rw [e, List.length_append]; exact h3⟩

noncomputable def newT (l : List AVal) (k : Nat → CT → Bool) : Bool := ofLK (nat_lit 4000) l (fun n t => forceN n (fun n => k n t))
theorem newT_ok {l : List AVal} {k : Nat → CT → Bool} (h : newT l k = true) : ∃ t, t.wf ∧ t.toL = l ∧ k l.length t = true := by
  obtain ⟨t, h1, h2, h3⟩ := ofLK_ok _ _ _ h
  rw [forceN_eq] at h3
  exact ⟨t, h1, h2, h3⟩

/-- Cells of a rope laid over. -/
noncomputable def splK : CT → Nat → Nat → List AVal → (CT → Bool) → Bool :=
  @CT.rec (fun _ => Nat → Nat → List AVal → (CT → Bool) → Bool) (fun l off _ cs k => lsplK l off cs (fun l' => k (.leaf l')))
    (fun m a b ga gb off n cs k => @Bool.rec (fun _ => Bool)
      (@Bool.rec (fun _ => Bool)
        (ltakeK cs (Nat.sub m off) (fun c1 => ldropK cs (Nat.sub m off) (fun c2 => ga off (Nat.sub m off) c1 (fun a' => gb (nat_lit 0) (Nat.sub n (Nat.sub m off)) c2 (fun b' => k (.node m a' b'))))))
        (ga off n cs (fun a' => k (.node m a' b))) (Nat.ble (Nat.add off n) m))
      (gb (Nat.sub off m) n cs (fun b' => k (.node m a b'))) (Nat.ble m off))

theorem spl_len {α : Type} {l : List α} {off : Nat} {cs : List α} (h : off + cs.length ≤ l.length) : (spl l off cs).length = l.length := by
  simp [spl]; omega

theorem spl_right {α : Type} {a b cs : List α} {off : Nat} (h : a.length ≤ off) : spl (a ++ b) off cs = a ++ spl b (off - a.length) cs := by
  simp only [spl]
  rw [List.take_append, List.drop_append, List.take_of_length_le h, List.drop_eq_nil_of_le (by omega), List.nil_append, List.append_assoc, List.append_assoc, List.append_assoc]
  congr 4; omega
theorem spl_left {α : Type} {a b cs : List α} {off : Nat} (h : off + cs.length ≤ a.length) : spl (a ++ b) off cs = spl a off cs ++ b := by
  simp only [spl]
  rw [List.take_append_of_le_length (by omega), List.drop_append_of_le_length (by omega)]
  simp
theorem spl_mid {α : Type} {a b cs : List α} {off : Nat} (h : off ≤ a.length) (h' : a.length ≤ off + cs.length) : spl (a ++ b) off cs = spl a off (cs.take (a.length - off)) ++ spl b 0 (cs.drop (a.length - off)) := by
  simp only [spl]
  rw [List.take_append_of_le_length h, List.drop_append]
  rw [List.length_take, List.length_drop, Nat.min_eq_left (by omega), List.drop_eq_nil_of_le (by omega : a.length ≤ off + cs.length), List.drop_eq_nil_of_le (by omega : a.length ≤ off + (a.length - off))]
  simp only [List.take_zero, List.nil_append, List.append_nil, List.append_assoc, Nat.zero_add]
  rw [← List.append_assoc (cs.take _), List.take_append_drop]
  congr 3; omega

theorem splK_ok : ∀ (t : CT) (off n : Nat) (cs : List AVal) (k : CT → Bool), t.wf → n = cs.length → splK t off n cs k = true →
    ∃ t' : CT, t'.wf ∧ off + n ≤ t.toL.length ∧ t'.toL = spl t.toL off cs ∧ k t' = true
  | .leaf l, off, n, cs, k, _, hn, h => by
    obtain ⟨h1, h2⟩ := lsplK_ok l off cs _ h
    exact ⟨.leaf _, trivial, by rw [hn]; exact h1, rfl, h2⟩
  | .node m a b, off, n, cs, k, hw, hn, h => by
    subst hn
    have hl := hw.2.2
    rcases bif_eq (show @Bool.rec (fun _ => Bool) (@Bool.rec (fun _ => Bool) (ltakeK cs (m - off) (fun c1 => ldropK cs (m - off) (fun c2 => splK a off (m - off) c1 (fun a' => splK b 0 (cs.length - (m - off)) c2 (fun b' => k (.node m a' b'))))))
        (splK a off cs.length cs (fun a' => k (.node m a' b))) (Nat.ble (off + cs.length) m)) (splK b (off - m) cs.length cs (fun b' => k (.node m a b'))) (Nat.ble m off) = true from h) with ⟨hc, h⟩ | ⟨hc, h⟩
    · have hm := Nat.le_of_ble_eq_true hc
      obtain ⟨b', h1, h2, h3, h4⟩ := splK_ok b _ _ _ _ hw.2.1 rfl h
      refine ⟨.node m a b', ⟨hw.1, h1, hl⟩, by rw [CT.toL, List.length_append]; omega, ?_, h4⟩
      simp only [CT.toL, h3]
      rw [spl_right (by omega), hl]
    · have hm : ¬ m ≤ off := fun e => by rw [Nat.ble_eq_true_of_le e] at hc; exact Bool.noConfusion hc
      rcases bif_eq h with ⟨hc, h⟩ | ⟨hc, h⟩
      · have hm' := Nat.le_of_ble_eq_true hc
        obtain ⟨a', h1, h2, h3, h4⟩ := splK_ok a _ _ _ _ hw.1 rfl h
        refine ⟨.node m a' b, ⟨h1, hw.2.1, by rw [h3, spl_len (by omega), hl]⟩, by rw [CT.toL, List.length_append]; omega, ?_, h4⟩
        simp only [CT.toL, h3]
        rw [spl_left (by omega)]
      · have hm' : ¬ off + cs.length ≤ m := fun e => by rw [Nat.ble_eq_true_of_le e] at hc; exact Bool.noConfusion hc
        obtain ⟨g1, h⟩ := ltakeK_ok _ _ _ h
        obtain ⟨g2, h⟩ := ldropK_ok _ _ _ h
        obtain ⟨a', h1, h2, h3, h⟩ := splK_ok a _ _ _ _ hw.1 (by simp; omega) h
        obtain ⟨b', k1, k2, k3, h⟩ := splK_ok b _ _ _ _ hw.2.1 (by simp) h
        refine ⟨.node m a' b', ⟨h1, k1, by rw [h3, spl_len (by simp; omega), hl]⟩, by rw [CT.toL, List.length_append]; omega, ?_, h⟩
        simp only [CT.toL, h3, k3]
        rw [spl_mid (by omega) (by omega), hl]

/-- Cells added behind a rope; n: how many it has. -/
noncomputable def addK : CT → Nat → List AVal → (CT → Bool) → Bool :=
  @CT.rec (fun _ => Nat → List AVal → (CT → Bool) → Bool)
    (fun l n cs k => @Bool.rec (fun _ => Bool) (newT cs (fun _ t => k (.node n (.leaf l) t))) (lappK l cs (fun l' => k (.leaf l'))) (Nat.ble (Nat.add n (lenL cs)) (nat_lit 24)))
    (fun m a _ _ gb n cs k => gb (Nat.sub n m) cs (fun b' => k (.node m a b')))
theorem addK_ok : ∀ (t : CT) (n : Nat) (cs : List AVal) (k : CT → Bool), t.wf → n = t.toL.length → addK t n cs k = true → ∃ t' : CT, t'.wf ∧ t'.toL = t.toL ++ cs ∧ k t' = true
  | .leaf l, n, cs, k, _, hn, h => by
    rcases bif_eq (show @Bool.rec (fun _ => Bool) (newT cs (fun _ t => k (.node n (.leaf l) t))) (lappK l cs (fun l' => k (.leaf l'))) (Nat.ble (n + lenL cs) 24) = true from h) with ⟨_, h⟩ | ⟨_, h⟩
    · rw [lappK_eq] at h; exact ⟨.leaf _, trivial, rfl, h⟩
    · obtain ⟨t, h1, h2, h3⟩ := newT_ok h
      exact ⟨.node n (.leaf l) t, ⟨trivial, h1, hn.symm⟩, by simp [CT.toL, h2], h3⟩
  | .node m a b, n, cs, k, hw, hn, h => by
    have hl := hw.2.2
    obtain ⟨b', h1, h2, h3⟩ := addK_ok b (n - m) cs _ hw.2.1 (by rw [hn, CT.toL, List.length_append]; omega) h
    exact ⟨.node m a b', ⟨hw.1, h1, hl⟩, by simp [CT.toL, h2], h3⟩

/-- A block. -/
inductive FB where
  | dead
  | live (v n : Nat) (t : CT)
  | loop (st : LoopState) (pe : Option Ex)
  | mp (es : List (AVal × AVal)) (clock : Nat)

def FB.abs : FB → ABlock
  | .dead => .dead
  | .live v _ t => .live v t.toL
  | .loop st pe => .loop st pe
  | .mp es c => .mp es c
def FB.wf : FB → Prop
  | .live _ n t => t.wf ∧ t.toL.length = n
  | _ => True

structure FH where
  n : Nat
  t : Tr FB

structure HRel (H : FH) (S : St) : Prop where
  len : S.length = H.n
  at' : ∀ r : Nat, S[r]? = (H.t.get r).map FB.abs
  wf : ∀ r b, H.t.get r = some b → b.wf

noncomputable def pushB (H : FH) (b : FB) (k : FH → Bool) : Bool := setK (nat_lit 18) H.t H.n b (fun t => forceN (Nat.succ H.n) (fun n => k ⟨n, t⟩))
theorem pushB_ok {H : FH} {S : St} {b : FB} {k : FH → Bool} (hr : HRel H S) (hb : b.wf) (h : pushB H b k = true) : ∃ H', HRel H' (S ++ [b.abs]) ∧ H'.n = H.n + 1 ∧ k H' = true := by
  obtain ⟨t, h1, h2⟩ := setK_ok _ _ _ _ _ h
  rw [forceN_eq] at h1
  refine ⟨⟨H.n + 1, t⟩, ⟨by simp [hr.len], fun r => ?_, fun r b' hb' => ?_⟩, rfl, h1⟩
  · show _ = (t.get r).map FB.abs
    rw [h2]
    by_cases hrn : r = H.n
    · subst hrn; rw [if_pos rfl, List.getElem?_append_right (by rw [hr.len]; exact Nat.le_refl _), hr.len]; simp
    · rw [if_neg hrn, ← hr.at' r]
      by_cases hlt : r < S.length
      · rw [List.getElem?_append_left hlt]
      · rw [List.getElem?_append_right (by omega), List.getElem?_eq_none (l := S) (by omega), List.getElem?_eq_none]; simp; have := hr.len; omega
  · simp only [h2] at hb'
    split at hb'
    · cases hb'; exact hb
    · exact hr.wf r b' hb'

noncomputable def setB (H : FH) (r : Nat) (b : FB) (k : FH → Bool) : Bool := setK (nat_lit 18) H.t r b (fun t => k ⟨H.n, t⟩)
theorem setB_ok {H : FH} {S : St} {r : Nat} {b0 b : FB} {k : FH → Bool} (hr : HRel H S) (h0 : H.t.get r = some b0) (hb : b.wf) (h : setB H r b k = true) : ∃ H', HRel H' (S.set r b.abs) ∧ H'.n = H.n ∧ k H' = true := by
  obtain ⟨t, h1, h2⟩ := setK_ok _ _ _ _ _ h
  refine ⟨⟨H.n, t⟩, ⟨by simp [hr.len], fun j => ?_, fun j b' hb' => ?_⟩, rfl, h1⟩
  · show _ = (t.get j).map FB.abs
    have hlt : r < S.length := by have := hr.at' r; rw [h0] at this; exact (List.getElem?_eq_some_iff.1 this).1
    rw [h2, List.getElem?_set]
    by_cases hj : j = r
    · subst hj; rw [if_pos rfl, if_pos rfl, if_pos hlt]; rfl
    · rw [if_neg hj, if_neg (Ne.symm hj)]; exact hr.at' j
  · simp only [h2] at hb'
    split at hb'
    · cases hb'; exact hb
    · exact hr.wf j b' hb'

/-- The block at a number. -/
noncomputable def blkK (H : FH) (r : Nat) (k : FB → Bool) : Bool := getK H.t r false k
theorem blkK_ok {H : FH} {S : St} {r : Nat} {k : FB → Bool} (hr : HRel H S) (h : blkK H r k = true) : ∃ b, H.t.get r = some b ∧ S[r]? = some b.abs ∧ b.wf ∧ k b = true := by
  rw [blkK, getK_eq] at h
  cases hg : H.t.get r with
  | none => rw [hg] at h; exact Bool.noConfusion h
  | some b => rw [hg] at h; exact ⟨b, rfl, by rw [hr.at', hg]; rfl, hr.wf r b hg, h⟩

noncomputable def liveK (b : FB) (k : Nat → Nat → CT → Bool) : Bool := @FB.rec (fun _ => Bool) false k (fun _ _ => false) (fun _ _ => false) b
theorem liveK_ok {b : FB} {k : Nat → Nat → CT → Bool} (h : liveK b k = true) : ∃ v n t, b = .live v n t ∧ k v n t = true := by
  cases b <;> first | exact Bool.noConfusion h | exact ⟨_, _, _, rfl, h⟩

/-- The cells of an owned block at a version. -/
noncomputable def cellsK (H : FH) (r ver : Nat) (k : Nat → CT → Bool) : Bool := blkK H r (fun b => liveK b (fun v n t => @Bool.rec (fun _ => Bool) false (k n t) (Nat.beq v ver)))
theorem cellsK_ok {H : FH} {S : St} {r ver : Nat} {k : Nat → CT → Bool} (hr : HRel H S) (h : cellsK H r ver k = true) :
    ∃ t, H.t.get r = some (.live ver t.toL.length t) ∧ S[r]? = some (.live ver t.toL) ∧ t.wf ∧ k t.toL.length t = true := by
  obtain ⟨b, h0, h1, h2, h⟩ := blkK_ok hr h
  obtain ⟨v, n, t, e, h9⟩ := liveK_ok h
  subst e
  rcases bif_eq h9 with ⟨hc, h⟩ | ⟨_, h⟩
  · obtain rfl := Nat.eq_of_beq_eq_true hc
    obtain ⟨h2, e⟩ := h2
    subst e
    exact ⟨t, h0, h1, h2, by assumption⟩
  · exact Bool.noConfusion h

/-- A frame: its slots, and the loops over functions that it has run. -/
structure FF where
  t : Tr AVal
  m : List Nat

structure FRel (f : FF) (fr : Fr) : Prop where
  get : ∀ n, fr.get n = (f.t.get n).getD .junk
  high : ∀ n, markBase ≤ n → f.t.get n = none
  marks : marks fr = f.m

noncomputable def getV (f : FF) (n : Nat) (k : AVal → Bool) : Bool := getK f.t n (k .junk) k
theorem getV_eq {f : FF} {fr : Fr} (hr : FRel f fr) (n : Nat) (k : AVal → Bool) : getV f n k = k (fr.get n) := by
  rw [getV, getK_eq, hr.get]; cases f.t.get n <;> rfl

noncomputable def setV (f : FF) (d : Nat) (v : AVal) (k : FF → Bool) : Bool :=
  @Bool.rec (fun _ => Bool) false (setK (nat_lit 12) f.t d v (fun t => k ⟨t, f.m⟩)) (Nat.ble d (nat_lit 5000))

theorem marks_set {fr : Fr} {d : Nat} {v : AVal} (hd : d < markBase) : Am.marks (fr.set d v) = Am.marks fr := by
  induction fr with
  | nil => simp [Fr.set, Am.marks, Nat.not_le.2 hd]
  | cons p r ih =>
    obtain ⟨e, u⟩ := p
    simp only [Fr.set]
    split
    · rename_i he; subst he; simp [Am.marks, Nat.not_le.2 hd]
    · simp only [Am.marks, List.filterMap_cons] at ih ⊢; rw [ih]

theorem setV_ok {f : FF} {fr : Fr} {d : Nat} {v : AVal} {k : FF → Bool} (hr : FRel f fr) (h : setV f d v k = true) : ∃ f', FRel f' (fr.set d v) ∧ k f' = true := by
  rcases bif_eq h with ⟨hc, h⟩ | ⟨_, h⟩
  · have hd : d < markBase := Nat.lt_of_le_of_lt (Nat.le_of_ble_eq_true hc) (by decide)
    obtain ⟨t, h1, h2⟩ := setK_ok _ _ _ _ _ h
    refine ⟨⟨t, f.m⟩, ⟨fun n => ?_, fun n hn => ?_, ?_⟩, h1⟩
    · show _ = (t.get n).getD .junk
      rw [Fr.get_set, h2]; split
      · rfl
      · exact hr.get n
    · show t.get n = none
      rw [h2, if_neg (by omega)]; exact hr.high n hn
    · rw [marks_set hd]; exact hr.marks
  · exact Bool.noConfusion h

end Am.Fz
end

/- A quick machine for the kernel: values, numbers. -/
section
set_option linter.all false
namespace Am.Fz
open Go

noncomputable def optK {α : Type} (o : Option α) (k : α → Bool) : Bool := @Option.rec α (fun _ => Bool) false k o
theorem optK_ok {α : Type} {o : Option α} {k : α → Bool} (h : optK o k = true) : ∃ a, o = some a ∧ k a = true := by
  cases o
  · exact Bool.noConfusion h
  · exact ⟨_, rfl, h⟩

noncomputable def ifK (c : Bool) (k : Bool) : Bool := @Bool.rec (fun _ => Bool) false k c
theorem ifK_ok {c k : Bool} (h : ifK c k = true) : c = true ∧ k = true := by
  cases c
  · exact Bool.noConfusion h
  · exact ⟨rfl, h⟩

noncomputable def asBool (v : AVal) (k : Bool → Bool) : Bool :=
  @AVal.casesOn (fun _ => Bool) v false k (fun _ _ => false) (fun _ => false) (fun _ _ _ => false) false (fun _ _ _ _ _ => false) false (fun _ _ _ => false) (fun _ => false) (fun _ _ _ => false) false (fun _ _ => false) false (fun _ => false) (fun _ => false) false (fun _ => false) (fun _ => false) (fun _ _ _ _ _ _ => false)
theorem asBool_ok {v : AVal} {k : Bool → Bool} (h : asBool v k = true) : ∃ b, v = .bool b ∧ k b = true := by
  cases v <;> first | exact Bool.noConfusion h | exact ⟨_, rfl, h⟩

noncomputable def asInt (v : AVal) (k : IntKind → Int → Bool) : Bool :=
  @AVal.casesOn (fun _ => Bool) v false (fun _ => false) k (fun _ => false) (fun _ _ _ => false) false (fun _ _ _ _ _ => false) false (fun _ _ _ => false) (fun _ => false) (fun _ _ _ => false) false (fun _ _ => false) false (fun _ => false) (fun _ => false) false (fun _ => false) (fun _ => false) (fun _ _ _ _ _ _ => false)
theorem asInt_ok {v : AVal} {k : IntKind → Int → Bool} (h : asInt v k = true) : ∃ kd n, v = .int kd n ∧ k kd n = true := by
  cases v <;> first | exact Bool.noConfusion h | exact ⟨_, _, rfl, h⟩

noncomputable def asStr (v : AVal) (k : List UInt8 → Bool) : Bool :=
  @AVal.casesOn (fun _ => Bool) v false (fun _ => false) (fun _ _ => false) k (fun _ _ _ => false) false (fun _ _ _ _ _ => false) false (fun _ _ _ => false) (fun _ => false) (fun _ _ _ => false) false (fun _ _ => false) false (fun _ => false) (fun _ => false) false (fun _ => false) (fun _ => false) (fun _ _ _ _ _ _ => false)
theorem asStr_ok {v : AVal} {k : List UInt8 → Bool} (h : asStr v k = true) : ∃ s, v = .str s ∧ k s = true := by
  cases v <;> first | exact Bool.noConfusion h | exact ⟨_, rfl, h⟩

/-- A pointer: into an owned block, or told in place. -/
noncomputable def asPtr (v : AVal) (k : Nat → Nat → Nat → Bool) (q : List AVal → Bool) : Bool :=
  @AVal.casesOn (fun _ => Bool) v false (fun _ => false) (fun _ _ => false) (fun _ => false) k false (fun _ _ _ _ _ => false) false (fun _ _ _ => false) q (fun _ _ _ => false) false (fun _ _ => false) false (fun _ => false) (fun _ => false) false (fun _ => false) (fun _ => false) (fun _ _ _ _ _ _ => false)
theorem asPtr_ok {v : AVal} {k : Nat → Nat → Nat → Bool} {q : List AVal → Bool} (h : asPtr v k q = true) : (∃ r ver off, v = .ptr r ver off ∧ k r ver off = true) ∨ (∃ c, v = .fq c ∧ q c = true) := by
  cases v <;> first | exact Bool.noConfusion h | exact .inl ⟨_, _, _, rfl, h⟩ | exact .inr ⟨_, rfl, h⟩

/-- A slice: of an owned block, nil, told in place. -/
noncomputable def asSl (v : AVal) (k : Nat → Nat → Nat → Nat → Nat → Bool) (n : Bool) (q : Bool → Nat → List AVal → Bool) : Bool :=
  @AVal.casesOn (fun _ => Bool) v false (fun _ => false) (fun _ _ => false) (fun _ => false) (fun _ _ _ => false) false k n q (fun _ => false) (fun _ _ _ => false) false (fun _ _ => false) false (fun _ => false) (fun _ => false) false (fun _ => false) (fun _ => false) (fun _ _ _ _ _ _ => false)
theorem asSl_ok {v : AVal} {k : Nat → Nat → Nat → Nat → Nat → Bool} {n : Bool} {q : Bool → Nat → List AVal → Bool} (h : asSl v k n q = true) :
    (∃ r ver off len sz, v = .sl r ver off len sz ∧ k r ver off len sz = true) ∨ (v = .nils ∧ n = true) ∨ (∃ f l c, v = .fz f l c ∧ q f l c = true) := by
  cases v <;> first | exact Bool.noConfusion h | exact .inl ⟨_, _, _, _, _, rfl, h⟩ | exact .inr (.inl ⟨rfl, h⟩) | exact .inr (.inr ⟨_, _, _, rfl, h⟩)

noncomputable def asAgg (v : AVal) (k : List AVal → Bool) : Bool :=
  @AVal.casesOn (fun _ => Bool) v false (fun _ => false) (fun _ _ => false) (fun _ => false) (fun _ _ _ => false) false (fun _ _ _ _ _ => false) false (fun _ _ _ => false) (fun _ => false) (fun _ _ _ => false) false (fun _ _ => false) false k (fun _ => false) false (fun _ => false) (fun _ => false) (fun _ _ _ _ _ _ => false)
theorem asAgg_ok {v : AVal} {k : List AVal → Bool} (h : asAgg v k = true) : ∃ s, v = .agg s ∧ k s = true := by
  cases v <;> first | exact Bool.noConfusion h | exact ⟨_, rfl, h⟩

noncomputable def asTup (v : AVal) (k : List AVal → Bool) : Bool :=
  @AVal.casesOn (fun _ => Bool) v false (fun _ => false) (fun _ _ => false) (fun _ => false) (fun _ _ _ => false) false (fun _ _ _ _ _ => false) false (fun _ _ _ => false) (fun _ => false) (fun _ _ _ => false) false (fun _ _ => false) false (fun _ => false) k false (fun _ => false) (fun _ => false) (fun _ _ _ _ _ _ => false)
theorem asTup_ok {v : AVal} {k : List AVal → Bool} (h : asTup v k = true) : ∃ s, v = .tup s ∧ k s = true := by
  cases v <;> first | exact Bool.noConfusion h | exact ⟨_, rfl, h⟩

/-- The cells of a value. -/
noncomputable def celK (v : AVal) (k : List AVal → Bool) : Bool :=
  @AVal.casesOn (fun _ => Bool) v false (fun _ => k [v]) (fun _ _ => k [v]) (fun _ => k [v]) (fun _ _ _ => k [v]) (k [v]) (fun _ _ _ _ _ => k [v]) (k [v]) (fun _ _ _ => k [v]) (fun _ => k [v]) (fun _ _ _ => k [v]) (k [v]) (fun _ _ => k [v]) (k [v]) k (fun _ => false) (k [v]) (fun _ => k [v]) (fun _ => k [v]) (fun _ _ _ _ _ _ => k [v])
theorem celK_ok {v : AVal} {k : List AVal → Bool} (h : celK v k = true) : ∃ s, cells? v = some s ∧ k s = true := by
  cases v <;> first | exact Bool.noConfusion h | exact ⟨_, rfl, h⟩

noncomputable def argK (f : FF) (x : Arg) (k : AVal → Bool) : Bool := @Arg.rec (fun _ => Bool) (fun n => getV f n k) (fun v => k v) x
theorem argK_eq {f : FF} {fr : Fr} (hr : FRel f fr) (x : Arg) (k : AVal → Bool) : argK f x k = k (fr.ev x) := by
  cases x
  · exact getV_eq hr _ _
  · rfl

noncomputable def argsK (f : FF) : List Arg → (List AVal → Bool) → Bool :=
  @List.rec Arg (fun _ => (List AVal → Bool) → Bool) (fun k => k []) (fun x _ ih k => argK f x (fun v => ih (fun l => k (v :: l))))
theorem argsK_eq {f : FF} {fr : Fr} (hr : FRel f fr) : ∀ (l : List Arg) (k : List AVal → Bool), argsK f l k = k (l.map fr.ev)
  | [], _ => rfl
  | x :: l, k => by
    show argK f x (fun v => argsK f l (fun l => k (v :: l))) = _
    rw [argK_eq hr, argsK_eq hr l]; rfl

/-- The greatest number of a kind. -/
noncomputable def maxN (kd : IntKind) : Nat := @IntKind.rec (fun _ => Nat) (nat_lit 127) (nat_lit 32767) (nat_lit 2147483647) (nat_lit 9223372036854775807) (nat_lit 255) (nat_lit 65535) (nat_lit 4294967295) (nat_lit 18446744073709551615) kd

theorem wrap_small {kd : IntKind} {n : Nat} (h : n ≤ maxN kd) : kd.wrap (.ofNat n) = .ofNat n := by
  cases kd <;> simp only [maxN] at h <;> simp [IntKind.wrap, IntKind.bits, IntKind.signed] <;> omega

noncomputable def wrapK (kd : IntKind) (i : Int) (k : Int → Bool) : Bool :=
  @Int.rec (fun _ => Bool) (fun n => @Bool.rec (fun _ => Bool) (forceI (kd.wrap (.ofNat n)) k) (forceN n (fun n => k (.ofNat n))) (Nat.ble n (maxN kd))) (fun n => forceI (kd.wrap (.negSucc n)) k) i
theorem wrapK_eq (kd : IntKind) (i : Int) (k : Int → Bool) : wrapK kd i k = k (kd.wrap i) := by
  cases i with
  | ofNat n =>
    show @Bool.rec (fun _ => Bool) (forceI (kd.wrap (.ofNat n)) k) (forceN n (fun n => k (.ofNat n))) (Nat.ble n (maxN kd)) = _
    cases hb : Nat.ble n (maxN kd) with
    | true => show forceN n (fun n => k (.ofNat n)) = _; rw [forceN_eq, wrap_small (Nat.le_of_ble_eq_true hb)]
    | false => show forceI (kd.wrap (.ofNat n)) k = _; rw [forceI_eq]
  | negSucc n => exact forceI_eq _ _

noncomputable def nnK (a b : Int) (k : Nat → Nat → Bool) (s : Bool) : Bool := @Int.rec (fun _ => Bool) (fun m => @Int.rec (fun _ => Bool) (fun n => k m n) (fun _ => s) b) (fun _ => s) a
theorem nnK_ok {a b : Int} {k : Nat → Nat → Bool} {s : Bool} (h : nnK a b k s = true) : (∃ m n, a = .ofNat m ∧ b = .ofNat n ∧ k m n = true) ∨ s = true := by
  cases a <;> cases b <;> first | exact .inl ⟨_, _, rfl, rfl, h⟩ | exact .inr h

abbrev IK := IntKind → Int → Int → (AVal → Bool) → Bool
noncomputable def slowI (op : BinOp) : IK := fun kd a b k => optK (intBin op kd a b) (fun v => forceV v k)
def IKOk (op : BinOp) (g : IK) : Prop := ∀ kd a b k, g kd a b k = true → ∃ v, intBin op kd a b = some v ∧ k v = true
theorem slowI_ok (op : BinOp) : IKOk op (slowI op) := fun kd a b k h => by
  obtain ⟨v, h1, h2⟩ := optK_ok h
  rw [forceV_eq] at h2
  exact ⟨v, h1, h2⟩

noncomputable def iAdd : IK := fun kd a b k => nnK a b (fun m n => wrapK kd (.ofNat (Nat.add m n)) (fun r => k (.int kd r))) (slowI .add kd a b k)
theorem iAdd_ok : IKOk .add iAdd := fun kd a b k h => by
  replace h := nnK_ok h
  rcases h with ⟨m, n, rfl, rfl, h⟩ | h
  · rw [wrapK_eq] at h; exact ⟨_, rfl, h⟩
  · exact slowI_ok _ kd a b k h

noncomputable def iSub : IK := fun kd a b k => nnK a b (fun m n => @Bool.rec (fun _ => Bool) (slowI .sub kd a b k) (wrapK kd (.ofNat (Nat.sub m n)) (fun r => k (.int kd r))) (Nat.ble n m)) (slowI .sub kd a b k)
theorem iSub_ok : IKOk .sub iSub := fun kd a b k h => by
  replace h := nnK_ok h
  rcases h with ⟨m, n, rfl, rfl, h⟩ | h
  · rcases bif_eq h with ⟨hc, h⟩ | ⟨_, h⟩
    · rw [wrapK_eq] at h
      refine ⟨_, rfl, ?_⟩
      have hle := Nat.le_of_ble_eq_true hc
      have : (Int.ofNat m - Int.ofNat n) = Int.ofNat (m - n) := by simp; omega
      rw [this]; exact h
    · exact slowI_ok _ _ _ _ _ h
  · exact slowI_ok _ kd a b k h

noncomputable def iMul : IK := fun kd a b k => nnK a b (fun m n => wrapK kd (.ofNat (Nat.mul m n)) (fun r => k (.int kd r))) (slowI .mul kd a b k)
theorem iMul_ok : IKOk .mul iMul := fun kd a b k h => by
  replace h := nnK_ok h
  rcases h with ⟨m, n, rfl, rfl, h⟩ | h
  · rw [wrapK_eq] at h; exact ⟨_, rfl, h⟩
  · exact slowI_ok _ kd a b k h

noncomputable def iQuo : IK := fun kd a b k => nnK a b (fun m n => @Nat.rec (fun _ => Bool) false (fun _ _ => wrapK kd (.ofNat (Nat.div m n)) (fun r => k (.int kd r))) n) (slowI .quo kd a b k)
theorem iQuo_ok : IKOk .quo iQuo := fun kd a b k h => by
  replace h := nnK_ok h
  rcases h with ⟨m, n, rfl, rfl, h⟩ | h
  · cases n with
    | zero => exact Bool.noConfusion h
    | succ n =>
      have h : wrapK kd (.ofNat (m / (n + 1))) (fun r => k (.int kd r)) = true := h
      rw [wrapK_eq] at h
      refine ⟨_, ?_, h⟩
      have : ¬ (Int.ofNat (n + 1) = 0) := by simp; omega
      simp only [intBin, if_neg this]; rfl
  · exact slowI_ok _ kd a b k h

noncomputable def iRem : IK := fun kd a b k => nnK a b (fun m n => @Nat.rec (fun _ => Bool) false (fun _ _ => forceN (Nat.mod m n) (fun r => k (.int kd (.ofNat r)))) n) (slowI .rem kd a b k)
theorem iRem_ok : IKOk .rem iRem := fun kd a b k h => by
  replace h := nnK_ok h
  rcases h with ⟨m, n, rfl, rfl, h⟩ | h
  · cases n with
    | zero => exact Bool.noConfusion h
    | succ n =>
      have h : forceN (m % (n + 1)) (fun r => k (.int kd (.ofNat r))) = true := h
      rw [forceN_eq] at h
      refine ⟨_, ?_, h⟩
      have : ¬ (Int.ofNat (n + 1) = 0) := by simp; omega
      simp only [intBin, if_neg this]; rfl
  · exact slowI_ok _ kd a b k h

noncomputable def ble2 (m n M : Nat) : Bool := @Bool.rec (fun _ => Bool) false (Nat.ble n M) (Nat.ble m M)
theorem ble2_ok {m n M : Nat} (h : ble2 m n M = true) : m ≤ M ∧ n ≤ M := by
  rcases bif_eq h with ⟨h1, h2⟩ | ⟨_, h2⟩
  · exact ⟨Nat.le_of_ble_eq_true h1, Nat.le_of_ble_eq_true h2⟩
  · exact Bool.noConfusion h2

theorem maxN_lt (kd : IntKind) : maxN kd < 2 ^ kd.bits := by cases kd <;> simp [maxN, IntKind.bits]
theorem ofInt_small {kd : IntKind} {m : Nat} (h : m ≤ maxN kd) : (BitVec.ofInt kd.bits (.ofNat m)).toNat = m := by
  have := maxN_lt kd
  rw [BitVec.toNat_ofInt]
  have e : (Int.ofNat m) % ((2 ^ kd.bits : Nat) : Int) = (m : Int) := by
    have : (m : Int) < ((2 ^ kd.bits : Nat) : Int) := by exact_mod_cast (by omega)
    exact Int.emod_eq_of_lt (by simp) this
  rw [e]; simp
theorem pow_maxN (kd : IntKind) : ∃ j, maxN kd + 1 = 2 ^ j := by
  cases kd
  · exact ⟨7, rfl⟩
  · exact ⟨15, rfl⟩
  · exact ⟨31, rfl⟩
  · exact ⟨63, rfl⟩
  · exact ⟨8, rfl⟩
  · exact ⟨16, rfl⟩
  · exact ⟨32, rfl⟩
  · exact ⟨64, rfl⟩

noncomputable def iAnd : IK := fun kd a b k => nnK a b (fun m n => @Bool.rec (fun _ => Bool) (slowI .and kd a b k) (forceN (Nat.land m n) (fun r => k (.int kd (.ofNat r)))) (ble2 m n (maxN kd))) (slowI .and kd a b k)
theorem iAnd_ok : IKOk .and iAnd := fun kd a b k h => by
  replace h := nnK_ok h
  rcases h with ⟨m, n, rfl, rfl, h⟩ | h
  · rcases bif_eq h with ⟨hc, h⟩ | ⟨_, h⟩
    · rw [forceN_eq] at h
      obtain ⟨h1, h2⟩ := ble2_ok hc
      refine ⟨_, ?_, h⟩
      simp only [intBin]
      rw [BitVec.toNat_and, ofInt_small h1, ofInt_small h2]
      have : m &&& n ≤ maxN kd := Nat.le_trans Nat.and_le_left h1
      exact congrArg (fun x => some (AVal.int kd x)) (wrap_small this)
    · exact slowI_ok _ _ _ _ _ h
  · exact slowI_ok _ kd a b k h

noncomputable def iOr : IK := fun kd a b k => nnK a b (fun m n => @Bool.rec (fun _ => Bool) (slowI .or kd a b k) (forceN (Nat.lor m n) (fun r => k (.int kd (.ofNat r)))) (ble2 m n (maxN kd))) (slowI .or kd a b k)
theorem iOr_ok : IKOk .or iOr := fun kd a b k h => by
  replace h := nnK_ok h
  rcases h with ⟨m, n, rfl, rfl, h⟩ | h
  · rcases bif_eq h with ⟨hc, h⟩ | ⟨_, h⟩
    · rw [forceN_eq] at h
      obtain ⟨h1, h2⟩ := ble2_ok hc
      obtain ⟨j, hj⟩ := pow_maxN kd
      refine ⟨_, ?_, h⟩
      simp only [intBin]
      rw [BitVec.toNat_or, ofInt_small h1, ofInt_small h2]
      have : m ||| n < 2 ^ j := Nat.or_lt_two_pow (by omega) (by omega)
      exact congrArg (fun x => some (AVal.int kd x)) (wrap_small (n := m ||| n) (by omega))
    · exact slowI_ok _ _ _ _ _ h
  · exact slowI_ok _ kd a b k h

noncomputable def iXor : IK := fun kd a b k => nnK a b (fun m n => @Bool.rec (fun _ => Bool) (slowI .xor kd a b k) (forceN (Nat.xor m n) (fun r => k (.int kd (.ofNat r)))) (ble2 m n (maxN kd))) (slowI .xor kd a b k)
theorem iXor_ok : IKOk .xor iXor := fun kd a b k h => by
  replace h := nnK_ok h
  rcases h with ⟨m, n, rfl, rfl, h⟩ | h
  · rcases bif_eq h with ⟨hc, h⟩ | ⟨_, h⟩
    · rw [forceN_eq] at h
      obtain ⟨h1, h2⟩ := ble2_ok hc
      obtain ⟨j, hj⟩ := pow_maxN kd
      refine ⟨_, ?_, h⟩
      simp only [intBin]
      rw [BitVec.toNat_xor, ofInt_small h1, ofInt_small h2]
      have : m ^^^ n < 2 ^ j := Nat.xor_lt_two_pow (by omega) (by omega)
      exact congrArg (fun x => some (AVal.int kd x)) (wrap_small (n := m ^^^ n) (by omega))
    · exact slowI_ok _ _ _ _ _ h
  · exact slowI_ok _ kd a b k h

noncomputable def iCmp (op : BinOp) (g : Nat → Nat → Bool) : IK := fun kd a b k => nnK a b (fun m n => forceB (g m n) (fun r => k (.bool r))) (slowI op kd a b k)
theorem iCmp_ok (op : BinOp) (g : Nat → Nat → Bool) (hg : ∀ kd m n, intBin op kd (.ofNat m) (.ofNat n) = some (.bool (g m n))) : IKOk op (iCmp op g) := fun kd a b k h => by
  replace h := nnK_ok h
  rcases h with ⟨m, n, rfl, rfl, h⟩ | h
  · rw [forceB_eq] at h; exact ⟨_, hg kd m n, h⟩
  · exact slowI_ok _ kd a b k h

theorem ble_dec (m n : Nat) : Nat.ble m n = decide (m ≤ n) := by
  by_cases h : m ≤ n
  · rw [Nat.ble_eq_true_of_le h, decide_eq_true h]
  · rw [decide_eq_false h]; cases hb : Nat.ble m n with
    | false => rfl
    | true => exact absurd (Nat.le_of_ble_eq_true hb) h
theorem beq_dec (m n : Nat) : Nat.beq m n = decide (m = n) := by
  by_cases h : m = n
  · subst h; simp
  · rw [beq_false h, decide_eq_false h]

theorem iEql_ok : IKOk .eql (iCmp .eql Nat.beq) := iCmp_ok _ _ fun kd m n => by
  simp only [intBin, beq_dec]; congr 2; by_cases h : m = n
  · subst h; simp
  · have : ¬ (Int.ofNat m = Int.ofNat n) := fun e => h (Int.ofNat.inj e)
    rw [decide_eq_false h]; exact beq_false_of_ne this
noncomputable def neN (m n : Nat) : Bool := @Bool.rec (fun _ => Bool) true false (Nat.beq m n)
theorem iNeq_ok : IKOk .neq (iCmp .neq neN) := iCmp_ok _ _ fun kd m n => by
  simp only [intBin, neN, beq_dec]; congr 2; by_cases h : m = n
  · subst h; simp [bne]
  · have : ¬ (Int.ofNat m = Int.ofNat n) := fun e => h (Int.ofNat.inj e)
    rw [decide_eq_false h, bne, beq_false_of_ne this]; rfl
noncomputable def ltN (m n : Nat) : Bool := Nat.ble (Nat.succ m) n
theorem iLss_ok : IKOk .lss (iCmp .lss ltN) := iCmp_ok _ _ fun kd m n => by
  simp only [intBin, ltN, ble_dec]; congr 2; simp; omega
theorem iLeq_ok : IKOk .leq (iCmp .leq Nat.ble) := iCmp_ok _ _ fun kd m n => by
  simp only [intBin, ble_dec]; congr 2; simp
noncomputable def gtN (m n : Nat) : Bool := Nat.ble (Nat.succ n) m
theorem iGtr_ok : IKOk .gtr (iCmp .gtr gtN) := iCmp_ok _ _ fun kd m n => by
  simp only [intBin, gtN, ble_dec]; congr 2; simp; omega
noncomputable def geN (m n : Nat) : Bool := Nat.ble n m
theorem iGeq_ok : IKOk .geq (iCmp .geq geN) := iCmp_ok _ _ fun kd m n => by
  simp only [intBin, geN, ble_dec]; congr 2; simp

/-- Shifts. -/
noncomputable def slowS (op : BinOp) : IK := fun kd a b k => optK (shiftA op kd a b) (fun v => forceV v k)
def SKOk (op : BinOp) (g : IK) : Prop := ∀ kd a b k, g kd a b k = true → ∃ v, shiftA op kd a b = some v ∧ k v = true
theorem slowS_ok (op : BinOp) : SKOk op (slowS op) := fun kd a b k h => by
  obtain ⟨v, h1, h2⟩ := optK_ok h
  rw [forceV_eq] at h2
  exact ⟨v, h1, h2⟩

noncomputable def bitsN (kd : IntKind) : Nat := @IntKind.rec (fun _ => Nat) (nat_lit 8) (nat_lit 16) (nat_lit 32) (nat_lit 64) (nat_lit 8) (nat_lit 16) (nat_lit 32) (nat_lit 64) kd
theorem bitsN_eq (kd : IntKind) : bitsN kd = kd.bits := by cases kd <;> rfl

noncomputable def iShl : IK := fun kd a b k => nnK a b (fun m n => @Bool.rec (fun _ => Bool) (slowS .shl kd a b k) (wrapK kd (.ofNat (Nat.mul m (Nat.pow (nat_lit 2) n))) (fun r => k (.int kd r))) (Nat.ble n (bitsN kd))) (slowS .shl kd a b k)
theorem iShl_ok : SKOk .shl iShl := fun kd a b k h => by
  replace h := nnK_ok h
  rcases h with ⟨m, n, rfl, rfl, h⟩ | h
  · rcases bif_eq h with ⟨hc, h⟩ | ⟨_, h⟩
    · rw [wrapK_eq] at h
      have hc := Nat.le_of_ble_eq_true hc
      rw [bitsN_eq] at hc
      refine ⟨_, ?_, h⟩
      have h0 : ¬ (Int.ofNat n < 0) := by simp
      simp only [shiftA, if_neg h0]
      have e : (Int.ofNat n).toNat = n := rfl
      rw [e, Nat.min_eq_left hc]
      congr 3
    · exact slowS_ok _ _ _ _ _ h
  · exact slowS_ok _ kd a b k h

noncomputable def iShr : IK := fun kd a b k => nnK a b (fun m n => @Bool.rec (fun _ => Bool) (slowS .shr kd a b k) (forceN (Nat.div m (Nat.pow (nat_lit 2) n)) (fun r => k (.int kd (.ofNat r)))) (Nat.ble n (bitsN kd))) (slowS .shr kd a b k)
theorem iShr_ok : SKOk .shr iShr := fun kd a b k h => by
  replace h := nnK_ok h
  rcases h with ⟨m, n, rfl, rfl, h⟩ | h
  · rcases bif_eq h with ⟨hc, h⟩ | ⟨_, h⟩
    · rw [forceN_eq] at h
      have hc := Nat.le_of_ble_eq_true hc
      rw [bitsN_eq] at hc
      refine ⟨_, ?_, h⟩
      have h0 : ¬ (Int.ofNat n < 0) := by simp
      simp only [shiftA, if_neg h0]
      have e : (Int.ofNat n).toNat = n := rfl
      rw [e, Nat.min_eq_left hc]
      congr 2
      have e2 : (2 : Int) ^ n = ((2 ^ n : Nat) : Int) := by simp
      rw [e2]
      exact Int.ofNat_fdiv _ _ |>.symm
    · exact slowS_ok _ _ _ _ _ h
  · exact slowS_ok _ kd a b k h

noncomputable def kdN (kd : IntKind) : Nat := @IntKind.rec (fun _ => Nat) (nat_lit 0) (nat_lit 1) (nat_lit 2) (nat_lit 3) (nat_lit 4) (nat_lit 5) (nat_lit 6) (nat_lit 7) kd
theorem kdN_inj {a b : IntKind} (h : Nat.beq (kdN a) (kdN b) = true) : a = b := by
  have := Nat.eq_of_beq_eq_true h
  cases a <;> cases b <;> first | rfl | (simp [kdN] at this)

abbrev BK := IntKind → Int → IntKind → Int → (AVal → Bool) → Bool
noncomputable def sameKd (g : IK) : BK := fun kd a kd' b k => @Bool.rec (fun _ => Bool) false (g kd a b k) (Nat.beq (kdN kd) (kdN kd'))
noncomputable def shKd (g : IK) : BK := fun kd a _ b k => g kd a b k

noncomputable def binIK : BinOp → BK :=
  @BinOp.rec (fun _ => BK) (sameKd iAdd) (sameKd iSub) (sameKd iMul) (sameKd iQuo) (sameKd iRem) (sameKd iAnd) (sameKd iOr) (sameKd iXor) (shKd iShl) (shKd iShr) (sameKd (slowI .andNot))
    (sameKd (iCmp .eql Nat.beq)) (sameKd (iCmp .neq neN)) (sameKd (iCmp .lss ltN)) (sameKd (iCmp .leq Nat.ble)) (sameKd (iCmp .gtr gtN)) (sameKd (iCmp .geq geN))

theorem sameKd_ok {op : BinOp} {g : IK} (hg : IKOk op g) (hs : ¬ (op = .shl ∨ op = .shr)) (kd : IntKind) (a : Int) (kd' : IntKind) (b : Int) (k : AVal → Bool) (h : sameKd g kd a kd' b k = true) :
    ∃ v, binA op (.int kd a) (.int kd' b) = some v ∧ k v = true := by
  replace h := bif_eq h
  rcases h with ⟨hc, h⟩ | ⟨_, h⟩
  · obtain rfl := kdN_inj hc
    obtain ⟨v, h1, h2⟩ := hg kd a b k h
    exact ⟨v, by simp only [binA, if_neg hs, if_true]; exact h1, h2⟩
  · exact Bool.noConfusion h
theorem shKd_ok {op : BinOp} {g : IK} (hg : SKOk op g) (hs : op = .shl ∨ op = .shr) (kd : IntKind) (a : Int) (kd' : IntKind) (b : Int) (k : AVal → Bool) (h : shKd g kd a kd' b k = true) :
    ∃ v, binA op (.int kd a) (.int kd' b) = some v ∧ k v = true := by
  obtain ⟨v, h1, h2⟩ := hg kd a b k h
  exact ⟨v, by simp only [binA, if_pos hs]; exact h1, h2⟩

theorem binIK_ok (op : BinOp) (kd : IntKind) (a : Int) (kd' : IntKind) (b : Int) (k : AVal → Bool) (h : binIK op kd a kd' b k = true) : ∃ v, binA op (.int kd a) (.int kd' b) = some v ∧ k v = true := by
  cases op
  · exact sameKd_ok iAdd_ok (by simp) _ _ _ _ _ h
  · exact sameKd_ok iSub_ok (by simp) _ _ _ _ _ h
  · exact sameKd_ok iMul_ok (by simp) _ _ _ _ _ h
  · exact sameKd_ok iQuo_ok (by simp) _ _ _ _ _ h
  · exact sameKd_ok iRem_ok (by simp) _ _ _ _ _ h
  · exact sameKd_ok iAnd_ok (by simp) _ _ _ _ _ h
  · exact sameKd_ok iOr_ok (by simp) _ _ _ _ _ h
  · exact sameKd_ok iXor_ok (by simp) _ _ _ _ _ h
  · exact shKd_ok iShl_ok (by simp) _ _ _ _ _ h
  · exact shKd_ok iShr_ok (by simp) _ _ _ _ _ h
  · exact sameKd_ok (slowI_ok .andNot) (by simp) _ _ _ _ _ h
  · exact sameKd_ok iEql_ok (by simp) _ _ _ _ _ h
  · exact sameKd_ok iNeq_ok (by simp) _ _ _ _ _ h
  · exact sameKd_ok iLss_ok (by simp) _ _ _ _ _ h
  · exact sameKd_ok iLeq_ok (by simp) _ _ _ _ _ h
  · exact sameKd_ok iGtr_ok (by simp) _ _ _ _ _ h
  · exact sameKd_ok iGeq_ok (by simp) _ _ _ _ _ h

/-- A binary operation. -/
noncomputable def binK (op : BinOp) (x y : AVal) (k : AVal → Bool) : Bool :=
  @AVal.casesOn (fun _ => Bool) x false (fun _ => false) (fun kd a => asInt y (fun kd' b => binIK op kd a kd' b k)) (fun s => asStr y (fun t => optK (strBin op s t) (fun v => forceV v k)))
    (fun _ _ _ => false) false (fun _ _ _ _ _ => false) false (fun _ _ _ => false) (fun _ => false) (fun _ _ _ => false) false (fun _ _ => false) false (fun _ => false) (fun _ => false) false (fun _ => false) (fun _ => false) (fun _ _ _ _ _ _ => false)
theorem binK_ok {op : BinOp} {x y : AVal} {k : AVal → Bool} (h : binK op x y k = true) : ∃ v, binA op x y = some v ∧ k v = true := by
  cases x <;> try (exact Bool.noConfusion h)
  · replace h := asInt_ok h
    obtain ⟨kd', b, rfl, h⟩ := h
    exact binIK_ok _ _ _ _ _ _ h
  · replace h := asStr_ok h
    obtain ⟨t, rfl, h⟩ := h
    obtain ⟨v, h1, h2⟩ := optK_ok h
    rw [forceV_eq] at h2
    exact ⟨v, h1, h2⟩

end Am.Fz
end

/- A quick machine for the kernel: the operations. -/
section
set_option linter.all false
namespace Am.Fz
open Go

abbrev KO := FF → FH → (AVal → FH → Bool) → Bool
def OpOk (op : AOp) (g : KO) : Prop :=
  ∀ f fr H S k, FRel f fr → HRel H S → g f H k = true → ∃ v S' H', evOp fr.ev S op = some (v, S') ∧ HRel H' S' ∧ k v H' = true

noncomputable def valK (o : Option AVal) (H : FH) (k : AVal → FH → Bool) : Bool := optK o (fun v => forceV v (fun v => k v H))
theorem valK_ok {o : Option AVal} {H : FH} {k : AVal → FH → Bool} (h : valK o H k = true) : ∃ v, o = some v ∧ k v H = true := by
  obtain ⟨v, h1, h2⟩ := optK_ok h
  rw [forceV_eq] at h2
  exact ⟨v, h1, h2⟩

noncomputable def newLive (H : FH) (l : List AVal) (k : FH → Bool) : Bool := newT l (fun n t => pushB H (.live (nat_lit 0) n t) k)
theorem newLive_ok {H : FH} {S : St} {l : List AVal} {k : FH → Bool} (hr : HRel H S) (h : newLive H l k = true) : ∃ H', HRel H' (S ++ [.live 0 l]) ∧ k H' = true := by
  replace h := newT_ok h
  obtain ⟨t, h1, rfl, h⟩ := h
  obtain ⟨H', h2, _, h3⟩ := pushB_ok hr (b := .live 0 t.toL.length t) ⟨h1, rfl⟩ h
  exact ⟨H', h2, h3⟩

noncomputable def oMv (x : Arg) : KO := fun f H k => argK f x (fun v => k v H)
theorem oMv_ok (x : Arg) : OpOk (.mv x) (oMv x) := fun f fr H S k hf hr h => by
  rw [oMv, argK_eq hf] at h; exact ⟨_, _, H, rfl, hr, h⟩

noncomputable def oPick (c a b : Arg) : KO := fun f H k => argK f c (fun v => asBool v (fun t => @Bool.rec (fun _ => Bool) (argK f b (fun v => k v H)) (argK f a (fun v => k v H)) t))
theorem oPick_ok (c a b : Arg) : OpOk (.pick c a b) (oPick c a b) := fun f fr H S k hf hr h => by
  rw [oPick, argK_eq hf] at h
  obtain ⟨t, h1, h⟩ := asBool_ok h
  rw [argK_eq hf, argK_eq hf] at h
  refine ⟨if t = true then fr.ev a else fr.ev b, _, H, by simp only [evOp, h1], hr, ?_⟩
  cases t
  · exact h
  · exact h

noncomputable def oAlloc (zero : List AVal) : KO := fun f H k => newLive H zero (fun H' => k (.ptr H.n (nat_lit 0) (nat_lit 0)) H')
theorem oAlloc_ok (zero : List AVal) : OpOk (.alloc zero) (oAlloc zero) := fun f fr H S k hf hr h => by
  obtain ⟨H', h1, h2⟩ := newLive_ok hr h
  exact ⟨_, _, H', by simp only [evOp]; rw [hr.len], h1, h2⟩

noncomputable def oBox (x : Arg) : KO := fun f H k => argK f x (fun v => celK v (fun cs => newLive H cs (fun H' => k (.ptr H.n (nat_lit 0) (nat_lit 0)) H')))
theorem oBox_ok (x : Arg) : OpOk (.box x) (oBox x) := fun f fr H S k hf hr h => by
  rw [oBox, argK_eq hf] at h
  obtain ⟨cs, h0, h⟩ := celK_ok h
  obtain ⟨H', h1, h2⟩ := newLive_ok hr h
  exact ⟨_, _, H', by simp only [evOp, h0]; rw [hr.len], h1, h2⟩

noncomputable def fillK (f : FF) : List (Nat × Nat × Arg) → List AVal → (List AVal → Bool) → Bool :=
  @List.rec (Nat × Nat × Arg) (fun _ => List AVal → (List AVal → Bool) → Bool) (fun c k => k c)
    (fun p _ ih c k => argK f p.2.2 (fun v => celK v (fun cs => ifK (Nat.beq (lenL cs) p.2.1) (lsplK c p.1 cs (fun c' => ih c' k)))))
theorem fillK_ok {f : FF} {fr : Fr} (hf : FRel f fr) : ∀ (ps : List (Nat × Nat × Arg)) (c : List AVal) (k : List AVal → Bool), fillK f ps c k = true →
    ∃ c', fillA c (ps.map fun (o, z, a) => (o, z, fr.ev a)) = some c' ∧ k c' = true
  | [], c, k, h => ⟨c, rfl, h⟩
  | p :: ps, c, k, h => by
    have h : argK f p.2.2 (fun v => celK v (fun cs => ifK (Nat.beq (lenL cs) p.2.1) (lsplK c p.1 cs (fun c' => fillK f ps c' k)))) = true := h
    rw [argK_eq hf] at h
    obtain ⟨cs, h0, h⟩ := celK_ok h
    obtain ⟨h1, h⟩ := ifK_ok h
    obtain ⟨h2, h⟩ := lsplK_ok _ _ _ _ h
    obtain ⟨c', h3, h4⟩ := fillK_ok hf ps _ k h
    have h1 := Nat.eq_of_beq_eq_true h1
    rw [lenL_eq] at h1
    refine ⟨c', ?_, h4⟩
    simp only [List.map_cons, fillA, h0]
    rw [if_pos ⟨h1, by rw [← h1]; exact h2⟩]
    exact h3

noncomputable def oBuild (zero : List AVal) (parts : List (Nat × Nat × Arg)) : KO := fun f H k => fillK f parts zero (fun c => k (.agg c) H)
theorem oBuild_ok (zero : List AVal) (parts : List (Nat × Nat × Arg)) : OpOk (.build zero parts) (oBuild zero parts) := fun f fr H S k hf hr h => by
  obtain ⟨c, h1, h2⟩ := fillK_ok hf _ _ _ h
  exact ⟨_, _, H, by simp only [evOp, same, h1]; rfl, hr, h2⟩

noncomputable def oBslice (frozen : Bool) (sz len : Nat) (zero : List AVal) (parts : List (Nat × Nat × Arg)) : KO := fun f H k =>
  fillK f parts (List.replicate len zero).flatten (fun c => @Bool.rec (fun _ => Bool) (newLive H c (fun H' => k (.sl H.n (nat_lit 0) (nat_lit 0) len sz) H')) (k (.fz true len c) H) frozen)
theorem oBslice_ok (frozen : Bool) (sz len : Nat) (zero : List AVal) (parts : List (Nat × Nat × Arg)) : OpOk (.bslice frozen sz len zero parts) (oBslice frozen sz len zero parts) := fun f fr H S k hf hr h => by
  obtain ⟨c, h1, h⟩ := fillK_ok hf _ _ _ h
  cases frozen
  · obtain ⟨H', h2, h3⟩ := newLive_ok hr h
    exact ⟨_, _, H', by simp only [evOp, h1]; rw [hr.len]; rfl, h2, h3⟩
  · exact ⟨_, _, H, by simp only [evOp, h1]; rfl, hr, h⟩

noncomputable def partTK (n : Option Nat) (off : Nat) (t : CT) (k : AVal → Bool) : Bool := @Option.rec Nat (fun _ => Bool) (nthK t off k) (fun n => rngK t off n (fun l => k (.agg l))) n
theorem partTK_ok {n : Option Nat} {off : Nat} {t : CT} {k : AVal → Bool} (hw : t.wf) (h : partTK n off t k = true) : ∃ u, partA n off t.toL = some u ∧ k u = true := by
  cases n with
  | none => exact nthK_ok t off k hw h
  | some n =>
    obtain ⟨h1, h2⟩ := rngK_ok t off n _ hw h
    exact ⟨_, by simp only [partA]; rw [if_pos h1], h2⟩

noncomputable def partLK (n : Option Nat) (off : Nat) (l : List AVal) (k : AVal → Bool) : Bool := @Option.rec Nat (fun _ => Bool) (lnthK l off k) (fun n => ldropK l off (fun r => ltakeK r n (fun l => k (.agg l)))) n
theorem partLK_ok {n : Option Nat} {off : Nat} {l : List AVal} {k : AVal → Bool} (h : partLK n off l k = true) : ∃ u, partA n off l = some u ∧ k u = true := by
  cases n with
  | none => exact lnthK_ok l off k h
  | some n =>
    obtain ⟨h1, h⟩ := ldropK_ok _ _ _ h
    obtain ⟨h2, h⟩ := ltakeK_ok _ _ _ h
    rw [List.length_drop] at h2
    exact ⟨_, by simp only [partA]; rw [if_pos (by omega)], h⟩

noncomputable def oLoad (n : Option Nat) (x : Arg) : KO := fun f H k =>
  argK f x (fun v => asPtr v (fun r ver off => cellsK H r ver (fun _ t => partTK n off t (fun u => k u H))) (fun c => partLK n (nat_lit 0) c (fun u => k u H)))
theorem oLoad_ok (n : Option Nat) (x : Arg) : OpOk (.load n x) (oLoad n x) := fun f fr H S k hf hr h => by
  rw [oLoad, argK_eq hf] at h
  rcases asPtr_ok h with ⟨r, ver, off, e, h⟩ | ⟨c, e, h⟩
  · obtain ⟨t, _, h1, h2, h⟩ := cellsK_ok hr h
    obtain ⟨u, h3, h⟩ := partTK_ok h2 h
    exact ⟨u, S, H, by simp only [evOp, e, loadA, h1, if_true, h3]; rfl, hr, h⟩
  · obtain ⟨u, h3, h⟩ := partLK_ok h
    exact ⟨u, S, H, by simp only [evOp, e, loadA, h3]; rfl, hr, h⟩

noncomputable def oStore (sz : Nat) (x y : Arg) : KO := fun f H k =>
  argK f x (fun v => asPtr v (fun r ver off => argK f y (fun w => celK w (fun cs => ifK (Nat.beq (lenL cs) sz) (cellsK H r ver (fun m t => splK t off sz cs (fun t' => setB H r (.live ver m t') (fun H' => k .junk H'))))))) (fun _ => false))
theorem oStore_ok (sz : Nat) (x y : Arg) : OpOk (.store sz x y) (oStore sz x y) := fun f fr H S k hf hr h => by
  rw [oStore, argK_eq hf] at h
  rcases asPtr_ok h with ⟨r, ver, off, e, h⟩ | ⟨c, e, h⟩
  · rw [argK_eq hf] at h
    obtain ⟨cs, h1, h⟩ := celK_ok h
    obtain ⟨h2, h⟩ := ifK_ok h
    have h2 := Nat.eq_of_beq_eq_true h2
    rw [lenL_eq] at h2
    obtain ⟨t, hg, hs, hw, h⟩ := cellsK_ok hr h
    obtain ⟨t', hw', hl, ht, h⟩ := splK_ok t off sz cs _ hw h2.symm h
    obtain ⟨H', hr', _, h⟩ := setB_ok hr hg (b := .live ver t.toL.length t') ⟨hw', by rw [ht, spl_len (by rw [h2]; exact hl)]⟩ h
    refine ⟨_, _, H', ?_, hr', h⟩
    simp only [evOp, e, storeA, h1, hs]
    rw [if_pos ⟨by trivial, h2, hl⟩]
    simp only [FB.abs, ht]; rfl
  · exact Bool.noConfusion h

noncomputable def oNilchk (x : Arg) : KO := fun f H k => argK f x (fun v => asPtr v (fun r ver off => k (.ptr r ver off) H) (fun c => k (.fq c) H))
theorem oNilchk_ok (x : Arg) : OpOk (.nilchk x) (oNilchk x) := fun f fr H S k hf hr h => by
  rw [oNilchk, argK_eq hf] at h
  rcases asPtr_ok h with ⟨r, ver, off, e, h⟩ | ⟨c, e, h⟩
  · exact ⟨_, S, H, by simp only [evOp, e], hr, h⟩
  · exact ⟨_, S, H, by simp only [evOp, e], hr, h⟩

noncomputable def oBin (op : BinOp) (x y : Arg) : KO := fun f H k => argK f x (fun v => argK f y (fun w => binK op v w (fun u => k u H)))
theorem oBin_ok (op : BinOp) (x y : Arg) : OpOk (.bin op x y) (oBin op x y) := fun f fr H S k hf hr h => by
  rw [oBin, argK_eq hf, argK_eq hf] at h
  obtain ⟨u, h1, h⟩ := binK_ok h
  exact ⟨u, S, H, by simp only [evOp, h1]; rfl, hr, h⟩

noncomputable def xb (neg b : Bool) : Bool := @Bool.rec (fun _ => Bool) b (@Bool.rec (fun _ => Bool) true false b) neg
theorem xb_eq (neg b : Bool) : xb neg b = (neg ^^ b) := by cases neg <;> cases b <;> rfl
noncomputable def boolK (neg : Bool) (o : Option Bool) (H : FH) (k : AVal → FH → Bool) : Bool := optK o (fun b => forceB (xb neg b) (fun b => k (.bool b) H))
theorem boolK_ok {neg : Bool} {o : Option Bool} {H : FH} {k : AVal → FH → Bool} (h : boolK neg o H k = true) : ∃ b, o = some b ∧ k (.bool (neg ^^ b)) H = true := by
  obtain ⟨b, h1, h2⟩ := optK_ok h
  rw [forceB_eq, xb_eq] at h2
  exact ⟨b, h1, h2⟩

noncomputable def oEq (neg : Bool) (t : EqT) (x y : Arg) : KO := fun f H k => argK f x (fun v => argK f y (fun w => boolK neg (eq2 t v w) H k))
theorem oEq_ok (neg : Bool) (t : EqT) (x y : Arg) : OpOk (.eq neg t x y) (oEq neg t x y) := fun f fr H S k hf hr h => by
  rw [oEq, argK_eq hf, argK_eq hf] at h
  obtain ⟨b, h1, h⟩ := boolK_ok h
  exact ⟨_, S, H, by simp only [evOp, h1]; rfl, hr, h⟩

noncomputable def oEqA (neg : Bool) (ks : List CK) (x y : Arg) : KO := fun f H k => argK f x (fun v => asAgg v (fun a => argK f y (fun w => asAgg w (fun b => boolK neg (eqFlats ks a b) H k))))
theorem oEqA_ok (neg : Bool) (ks : List CK) (x y : Arg) : OpOk (.eqA neg ks x y) (oEqA neg ks x y) := fun f fr H S k hf hr h => by
  rw [oEqA, argK_eq hf] at h
  obtain ⟨a, e, h⟩ := asAgg_ok h
  rw [argK_eq hf] at h
  obtain ⟨b, e', h⟩ := asAgg_ok h
  obtain ⟨c, h1, h⟩ := boolK_ok h
  exact ⟨_, S, H, by simp only [evOp, e, e', h1]; rfl, hr, h⟩

noncomputable def oUn (op : UnOp) (x : Arg) : KO := fun f H k => argK f x (fun v => valK (unA op v) H k)
theorem oUn_ok (op : UnOp) (x : Arg) : OpOk (.un op x) (oUn op x) := fun f fr H S k hf hr h => by
  rw [oUn, argK_eq hf] at h
  obtain ⟨v, h1, h⟩ := valK_ok h
  exact ⟨_, S, H, by simp only [evOp, h1]; rfl, hr, h⟩

noncomputable def oConvI (kd : IntKind) (x : Arg) : KO := fun f H k => argK f x (fun v => asInt v (fun _ n => wrapK kd n (fun m => k (.int kd m) H)))
theorem oConvI_ok (kd : IntKind) (x : Arg) : OpOk (.convI kd x) (oConvI kd x) := fun f fr H S k hf hr h => by
  rw [oConvI, argK_eq hf] at h
  obtain ⟨kd', n, e, h⟩ := asInt_ok h
  rw [wrapK_eq] at h
  exact ⟨_, S, H, by simp only [evOp, e], hr, h⟩

/-- The cells of a slice, or of a text. -/
noncomputable def cofK (sz : Nat) (v : AVal) (H : FH) (k : Nat → List AVal → Bool) : Bool :=
  @AVal.casesOn (fun _ => Bool) v false (fun _ => false) (fun _ _ => false) (fun s => ifK (Nat.beq sz (nat_lit 1)) (k s.length (s.map fun b => .int .u8 b.toNat))) (fun _ _ _ => false) false
    (fun r ver off len sz' => ifK (Nat.beq sz' sz) (cellsK H r ver (fun _ t => rngK t off (Nat.mul len sz) (fun l => k len l)))) (k (nat_lit 0) [])
    (fun _ len cells => ifK (Nat.beq (lenL cells) (Nat.mul len sz)) (k len cells)) (fun _ => false) (fun _ _ _ => false) false (fun _ _ => false) false (fun _ => false) (fun _ => false) false (fun _ => false) (fun _ => false) (fun _ _ _ _ _ _ => false)
theorem cofK_ok {sz : Nat} {v : AVal} {H : FH} {S : St} {k : Nat → List AVal → Bool} (hr : HRel H S) (h : cofK sz v H k = true) : ∃ n l, cellsOf sz v S = some (n, l) ∧ k n l = true := by
  cases v <;> try (exact Bool.noConfusion h)
  · obtain ⟨h1, h⟩ := ifK_ok h
    have h1 := Nat.eq_of_beq_eq_true h1
    exact ⟨_, _, by simp only [cellsOf]; rw [if_pos h1], h⟩
  · obtain ⟨h1, h⟩ := ifK_ok h
    have h1 := Nat.eq_of_beq_eq_true h1
    obtain ⟨t, _, h2, h3, h⟩ := cellsK_ok hr h
    obtain ⟨h4, h⟩ := rngK_ok _ _ _ _ h3 h
    exact ⟨_, _, by simp only [cellsOf, h2]; rw [if_pos ⟨by trivial, h1, h4⟩]; rfl, h⟩
  · exact ⟨_, _, rfl, h⟩
  · obtain ⟨h1, h⟩ := ifK_ok h
    have h1 := Nat.eq_of_beq_eq_true h1
    rw [lenL_eq, Nat.mul_eq] at h1
    exact ⟨_, _, by simp only [cellsOf]; rw [if_pos h1], h⟩

noncomputable def byteK (v : AVal) (k : UInt8 → Bool) : Bool := asInt v (fun kd n => @IntKind.rec (fun _ => Bool) false false false false (k (UInt8.ofNat n.toNat)) false false false kd)
theorem byteK_ok {v : AVal} {k : UInt8 → Bool} (h : byteK v k = true) : ∃ b, asByte v = some b ∧ k b = true := by
  replace h := asInt_ok h
  obtain ⟨kd, n, rfl, h⟩ := h
  cases kd <;> first | exact Bool.noConfusion h | exact ⟨_, rfl, h⟩
noncomputable def bytesLK : List AVal → (List UInt8 → Bool) → Bool :=
  @List.rec AVal (fun _ => (List UInt8 → Bool) → Bool) (fun k => k []) (fun x _ ih k => byteK x (fun b => ih (fun l => k (b :: l))))
theorem bytesLK_ok : ∀ (l : List AVal) (k : List UInt8 → Bool), bytesLK l k = true → ∃ s, asBytes l = some s ∧ k s = true
  | [], k, h => ⟨[], rfl, h⟩
  | x :: l, k, h => by
    obtain ⟨b, h1, h⟩ := byteK_ok (show byteK x (fun b => bytesLK l (fun l => k (b :: l))) = true from h)
    obtain ⟨s, h2, h⟩ := bytesLK_ok l _ h
    exact ⟨b :: s, by simp only [asBytes, h1, h2], h⟩

noncomputable def noStr (v : AVal) (k : Bool) : Bool :=
  @AVal.casesOn (fun _ => Bool) v k (fun _ => k) (fun _ _ => k) (fun _ => false) (fun _ _ _ => k) k (fun _ _ _ _ _ => k) k (fun _ _ _ => k) (fun _ => k) (fun _ _ _ => k) k (fun _ _ => k) k (fun _ => k) (fun _ => k) k (fun _ => k) (fun _ => k) (fun _ _ _ _ _ _ => k)
noncomputable def bytesK (v : AVal) (H : FH) (k : List UInt8 → Bool) : Bool := noStr v (cofK (nat_lit 1) v H (fun _ l => bytesLK l k))
theorem bytesK_ok {v : AVal} {H : FH} {S : St} {k : List UInt8 → Bool} (hr : HRel H S) (h : bytesK v H k = true) : ∃ s, bytesA v S = some s ∧ k s = true := by
  have h0 : (∀ s, v ≠ .str s) ∧ cofK 1 v H (fun _ l => bytesLK l k) = true := by
    cases v <;> first | exact Bool.noConfusion h | exact ⟨fun s e => AVal.noConfusion e, h⟩
  obtain ⟨n, l, h1, h2⟩ := cofK_ok hr h0.2
  obtain ⟨s, h3, h4⟩ := bytesLK_ok _ _ h2
  refine ⟨s, ?_, h4⟩
  unfold bytesA
  split
  · exact absurd rfl (h0.1 _)
  · rw [h1]; exact h3

noncomputable def oConvBS (x : Arg) : KO := fun f H k => argK f x (fun v => bytesK v H (fun s => k (.str s) H))
theorem oConvBS_ok (x : Arg) : OpOk (.convBS x) (oConvBS x) := fun f fr H S k hf hr h => by
  rw [oConvBS, argK_eq hf] at h
  obtain ⟨s, h1, h⟩ := bytesK_ok hr h
  exact ⟨_, S, H, by simp only [evOp, h1], hr, h⟩

noncomputable def oConvSS (x : Arg) : KO := fun f H k => argK f x (fun v => asStr v (fun s => k (.str s) H))
theorem oConvSS_ok (x : Arg) : OpOk (.convSS x) (oConvSS x) := fun f fr H S k hf hr h => by
  rw [oConvSS, argK_eq hf] at h
  obtain ⟨s, e, h⟩ := asStr_ok h
  exact ⟨_, S, H, by simp only [evOp, e], hr, h⟩

noncomputable def oConvSB (x : Arg) : KO := fun f H k => argK f x (fun v => asStr v (fun s => newLive H (s.map fun b => .int .u8 b.toNat) (fun H' => forceN (lenL s) (fun n => k (.sl H.n (nat_lit 0) (nat_lit 0) n (nat_lit 1)) H'))))
theorem oConvSB_ok (x : Arg) : OpOk (.convSB x) (oConvSB x) := fun f fr H S k hf hr h => by
  rw [oConvSB, argK_eq hf] at h
  obtain ⟨s, e, h⟩ := asStr_ok h
  obtain ⟨H', h1, h⟩ := newLive_ok hr h
  rw [forceN_eq, lenL_eq] at h
  exact ⟨_, _, H', by simp only [evOp, e]; rw [hr.len], h1, h⟩

noncomputable def oConvSL (x : Arg) : KO := fun f H k => argK f x (fun v => asSl v (fun r ver off len sz => cellsK H r ver (fun _ _ => ifK (Nat.ble (nat_lit 1) len) (k (.sl r ver off len sz) H))) false (fun _ _ _ => false))
theorem oConvSL_ok (x : Arg) : OpOk (.convSL x) (oConvSL x) := fun f fr H S k hf hr h => by
  rw [oConvSL, argK_eq hf] at h
  rcases asSl_ok h with ⟨r, ver, off, len, sz, e, h⟩ | ⟨_, h⟩ | ⟨_, _, _, _, h⟩
  · obtain ⟨t, _, h2, _, h⟩ := cellsK_ok hr h
    obtain ⟨h3, h⟩ := ifK_ok h
    exact ⟨_, S, H, by simp only [evOp, e, h2]; rw [if_pos ⟨by trivial, Nat.le_of_ble_eq_true h3⟩], hr, h⟩
  · exact Bool.noConfusion h
  · exact Bool.noConfusion h

noncomputable def oFaddr (off : Nat) (x : Arg) : KO := fun f H k => argK f x (fun v => asPtr v (fun r ver o => forceN (Nat.add o off) (fun o => k (.ptr r ver o) H)) (fun c => k (.fq (c.drop off)) H))
theorem oFaddr_ok (off : Nat) (x : Arg) : OpOk (.faddr off x) (oFaddr off x) := fun f fr H S k hf hr h => by
  rw [oFaddr, argK_eq hf] at h
  rcases asPtr_ok h with ⟨r, ver, o, e, h⟩ | ⟨c, e, h⟩
  · rw [forceN_eq] at h; exact ⟨_, S, H, by simp only [evOp, e, faddrA, same]; rfl, hr, h⟩
  · exact ⟨_, S, H, by simp only [evOp, e, faddrA, same]; rfl, hr, h⟩

noncomputable def oFld (n : Option Nat) (off : Nat) (x : Arg) : KO := fun f H k => argK f x (fun v => asAgg v (fun cs => partLK n off cs (fun u => k u H)))
theorem oFld_ok (n : Option Nat) (off : Nat) (x : Arg) : OpOk (.fld n off x) (oFld n off x) := fun f fr H S k hf hr h => by
  rw [oFld, argK_eq hf] at h
  obtain ⟨cs, e, h⟩ := asAgg_ok h
  obtain ⟨u, h1, h⟩ := partLK_ok h
  exact ⟨_, S, H, by simp only [evOp, e, same, h1]; rfl, hr, h⟩

/-- A number that is not below nought. -/
noncomputable def asNat (v : AVal) (k : Nat → Bool) : Bool := asInt v (fun _ i => @Int.rec (fun _ => Bool) k (fun _ => false) i)
theorem asNat_ok {v : AVal} {k : Nat → Bool} (h : asNat v k = true) : ∃ kd n, v = .int kd (.ofNat n) ∧ k n = true := by
  replace h := asInt_ok h
  obtain ⟨kd, i, rfl, h⟩ := h
  cases i
  · exact ⟨kd, _, rfl, h⟩
  · exact Bool.noConfusion h

noncomputable def oIaddrS (sz : Nat) (x i : Arg) : KO := fun f H k => argK f x (fun v => asSl v
  (fun r ver off len sz' => ifK (Nat.beq sz' sz) (argK f i (fun w => asNat w (fun i => ifK (Nat.ble (Nat.succ i) len) (forceN (Nat.add off (Nat.mul i sz)) (fun o => k (.ptr r ver o) H))))))
  false
  (fun _ len cells => ifK (Nat.beq (lenL cells) (Nat.mul len sz)) (argK f i (fun w => asNat w (fun i => ifK (Nat.ble (Nat.succ i) len) (ldropK cells (Nat.mul i sz) (fun r => ltakeK r sz (fun c => k (.fq c) H))))))))
theorem oIaddrS_ok (sz : Nat) (x i : Arg) : OpOk (.iaddrS sz x i) (oIaddrS sz x i) := fun f fr H S k hf hr h => by
  rw [oIaddrS, argK_eq hf] at h
  rcases asSl_ok h with ⟨r, ver, off, len, sz', e, h⟩ | ⟨_, h⟩ | ⟨b, len, cells, e, h⟩
  · obtain ⟨h1, h⟩ := ifK_ok h
    rw [argK_eq hf] at h
    obtain ⟨kd, n, e', h⟩ := asNat_ok h
    obtain ⟨h2, h⟩ := ifK_ok h
    rw [forceN_eq] at h
    have h2 := Nat.le_of_ble_eq_true h2
    refine ⟨_, S, H, ?_, hr, h⟩
    simp only [evOp, e, e', iaddrSA]
    rw [if_pos ⟨Nat.eq_of_beq_eq_true h1, by simp, by simp; omega⟩]; rfl
  · exact Bool.noConfusion h
  · obtain ⟨h1, h⟩ := ifK_ok h
    rw [argK_eq hf] at h
    obtain ⟨kd, n, e', h⟩ := asNat_ok h
    obtain ⟨h2, h⟩ := ifK_ok h
    obtain ⟨_, h⟩ := ldropK_ok _ _ _ h
    obtain ⟨_, h⟩ := ltakeK_ok _ _ _ h
    have h2 := Nat.le_of_ble_eq_true h2
    have h1 := Nat.eq_of_beq_eq_true h1
    rw [lenL_eq] at h1
    refine ⟨_, S, H, ?_, hr, h⟩
    simp only [evOp, e, e', iaddrSA]
    rw [if_pos ⟨h1, by simp, by simp; omega⟩]; rfl

noncomputable def oIaddrA (sz len : Nat) (x i : Arg) : KO := fun f H k => argK f x (fun v => asPtr v
  (fun r ver off => argK f i (fun w => asNat w (fun i => ifK (Nat.ble (Nat.succ i) len) (forceN (Nat.add off (Nat.mul i sz)) (fun o => k (.ptr r ver o) H)))))
  (fun cells => argK f i (fun w => asNat w (fun i => ifK (Nat.ble (Nat.succ i) len) (ldropK cells (Nat.mul i sz) (fun r => ltakeK r sz (fun c => k (.fq c) H)))))))
theorem oIaddrA_ok (sz len : Nat) (x i : Arg) : OpOk (.iaddrA sz len x i) (oIaddrA sz len x i) := fun f fr H S k hf hr h => by
  rw [oIaddrA, argK_eq hf] at h
  rcases asPtr_ok h with ⟨r, ver, off, e, h⟩ | ⟨cells, e, h⟩
  · rw [argK_eq hf] at h
    obtain ⟨kd, n, e', h⟩ := asNat_ok h
    obtain ⟨h2, h⟩ := ifK_ok h
    rw [forceN_eq] at h
    have h2 := Nat.le_of_ble_eq_true h2
    refine ⟨_, S, H, ?_, hr, h⟩
    simp only [evOp, e, e', iaddrAA]
    rw [if_pos ⟨by simp, by simp; omega⟩]; rfl
  · rw [argK_eq hf] at h
    obtain ⟨kd, n, e', h⟩ := asNat_ok h
    obtain ⟨h2, h⟩ := ifK_ok h
    obtain ⟨_, h⟩ := ldropK_ok _ _ _ h
    obtain ⟨_, h⟩ := ltakeK_ok _ _ _ h
    have h2 := Nat.le_of_ble_eq_true h2
    refine ⟨_, S, H, ?_, hr, h⟩
    simp only [evOp, e, e', iaddrAA]
    rw [if_pos ⟨by simp, by simp; omega⟩]; rfl

noncomputable def oIdxA (n : Option Nat) (sz len : Nat) (x i : Arg) : KO := fun f H k => argK f x (fun v => asAgg v (fun cs => argK f i (fun w => asNat w (fun i => ifK (Nat.ble (Nat.succ i) len) (partLK n (Nat.mul i sz) cs (fun u => k u H))))))
theorem oIdxA_ok (n : Option Nat) (sz len : Nat) (x i : Arg) : OpOk (.idxA n sz len x i) (oIdxA n sz len x i) := fun f fr H S k hf hr h => by
  rw [oIdxA, argK_eq hf] at h
  obtain ⟨cs, e, h⟩ := asAgg_ok h
  rw [argK_eq hf] at h
  obtain ⟨kd, m, e', h⟩ := asNat_ok h
  obtain ⟨h2, h⟩ := ifK_ok h
  obtain ⟨u, h1, h⟩ := partLK_ok h
  have h2 := Nat.le_of_ble_eq_true h2
  refine ⟨u, S, H, ?_, hr, h⟩
  simp only [evOp, e, e']
  rw [if_pos ⟨by simp, by simp; omega⟩]
  have e2 : (Int.ofNat m).toNat = m := rfl
  rw [e2]
  have h1 : partA n (m * sz) cs = some u := h1
  rw [h1]; rfl

noncomputable def oIdxStr (x i : Arg) : KO := fun f H k => argK f x (fun v => asStr v (fun s => argK f i (fun w => asNat w (fun i => lnthK s i (fun b => forceN b.toNat (fun n => k (.int .u8 (.ofNat n)) H))))))
theorem oIdxStr_ok (x i : Arg) : OpOk (.idxStr x i) (oIdxStr x i) := fun f fr H S k hf hr h => by
  rw [oIdxStr, argK_eq hf] at h
  obtain ⟨s, e, h⟩ := asStr_ok h
  rw [argK_eq hf] at h
  obtain ⟨kd, m, e', h⟩ := asNat_ok h
  obtain ⟨b, h1, h⟩ := lnthK_ok _ _ _ h
  rw [forceN_eq] at h
  refine ⟨_, S, H, ?_, hr, h⟩
  simp only [evOp, e, e']
  rw [if_pos (by simp)]
  have e2 : (Int.ofNat m).toNat = m := rfl
  rw [e2, h1]; rfl

noncomputable def oargK (f : FF) (x : Option Arg) (k : Option AVal → Bool) : Bool := @Option.rec Arg (fun _ => Bool) (k none) (fun a => argK f a (fun v => k (some v))) x
theorem oargK_eq {f : FF} {fr : Fr} (hf : FRel f fr) (x : Option Arg) (k : Option AVal → Bool) : oargK f x k = k (x.map fr.ev) := by
  cases x
  · rfl
  · exact argK_eq hf _ _

noncomputable def oSlcStr (x : Arg) (lo hi : Option Arg) : KO := fun f H k => argK f x (fun v => oargK f lo (fun l => oargK f hi (fun h => valK (slcStrA v l h) H k)))
theorem oSlcStr_ok (x : Arg) (lo hi : Option Arg) : OpOk (.slcStr x lo hi) (oSlcStr x lo hi) := fun f fr H S k hf hr h => by
  rw [oSlcStr, argK_eq hf, oargK_eq hf, oargK_eq hf] at h
  obtain ⟨v, h1, h⟩ := valK_ok h
  exact ⟨_, S, H, by simp only [evOp, h1]; rfl, hr, h⟩

noncomputable def oSlcS (sz : Nat) (x : Arg) (lo hi : Option Arg) : KO := fun f H k => argK f x (fun v => oargK f lo (fun l => oargK f hi (fun h => valK (slcSA sz v l h) H k)))
theorem oSlcS_ok (sz : Nat) (x : Arg) (lo hi : Option Arg) : OpOk (.slcS sz x lo hi) (oSlcS sz x lo hi) := fun f fr H S k hf hr h => by
  rw [oSlcS, argK_eq hf, oargK_eq hf, oargK_eq hf] at h
  obtain ⟨v, h1, h⟩ := valK_ok h
  exact ⟨_, S, H, by simp only [evOp, h1]; rfl, hr, h⟩

noncomputable def oSlcM (sz : Nat) (x : Arg) (lo hi : Option Arg) : KO := fun f H k => argK f x (fun v => oargK f lo (fun l => oargK f hi (fun h => valK (slcMA sz v l h) H k)))
theorem oSlcM_ok (sz : Nat) (x : Arg) (lo hi : Option Arg) : OpOk (.slcM sz x lo hi) (oSlcM sz x lo hi) := fun f fr H S k hf hr h => by
  rw [oSlcM, argK_eq hf, oargK_eq hf, oargK_eq hf] at h
  obtain ⟨v, h1, h⟩ := valK_ok h
  exact ⟨_, S, H, by simp only [evOp, h1]; rfl, hr, h⟩

noncomputable def oSlcA (sz len : Nat) (x : Arg) (lo hi : Option Arg) : KO := fun f H k => argK f x (fun v => oargK f lo (fun l => oargK f hi (fun h => optK (bounds len l h) (fun p => asPtr v
  (fun r ver off => cellsK H r ver (fun m _ => ifK (Nat.ble (Nat.add off (Nat.mul len sz)) m) (forceV (.sl r ver (off + p.1 * sz) (p.2 - p.1) sz) (fun u => k u H))))
  (fun cells => ifK (Nat.ble (Nat.mul len sz) (lenL cells)) (k (.fz (decide (p.2 = len)) (p.2 - p.1) ((cells.drop (p.1 * sz)).take ((p.2 - p.1) * sz))) H))))))
theorem oSlcA_ok (sz len : Nat) (x : Arg) (lo hi : Option Arg) : OpOk (.slcA sz len x lo hi) (oSlcA sz len x lo hi) := fun f fr H S k hf hr h => by
  rw [oSlcA, argK_eq hf, oargK_eq hf, oargK_eq hf] at h
  obtain ⟨p, h1, h⟩ := optK_ok h
  rcases asPtr_ok h with ⟨r, ver, off, e, h⟩ | ⟨cells, e, h⟩
  · obtain ⟨t, _, h2, _, h⟩ := cellsK_ok hr h
    obtain ⟨h3, h⟩ := ifK_ok h
    rw [forceV_eq] at h
    refine ⟨_, S, H, ?_, hr, h⟩
    simp only [evOp, e, slcAA, h1, h2]
    rw [if_pos ⟨by trivial, Nat.le_of_ble_eq_true h3⟩]; rfl
  · obtain ⟨h3, h⟩ := ifK_ok h
    have h3 := Nat.le_of_ble_eq_true h3
    rw [lenL_eq, Nat.mul_eq] at h3
    refine ⟨_, S, H, ?_, hr, h⟩
    simp only [evOp, e, slcAA, h1]
    rw [if_pos h3]; rfl

noncomputable def oMkslice (sz bytes : Nat) (zero : List AVal) (l c : Arg) : KO := fun f H k => argK f l (fun v => asNat v (fun m => argK f c (fun w => asNat w (fun n =>
  ifK (Nat.ble m n) (ifK (Nat.ble (Nat.mul n bytes) (nat_lit 281474976710656)) (ifK (Nat.ble n (nat_lit 9223372036854775807)) (ifK (Nat.beq (lenL zero) sz) (newLive H (List.replicate m zero).flatten (fun H' => k (.sl H.n (nat_lit 0) (nat_lit 0) m sz) H')))))))))
theorem ofN_mul {n b C : Nat} (h : n * b ≤ C) : Int.ofNat n * (b : Int) ≤ (C : Int) := by
  show ((n : Nat) : Int) * (b : Int) ≤ _
  rw [← Int.natCast_mul]; omega
theorem ofN_le {n C : Nat} (h : n ≤ C) : Int.ofNat n ≤ (C : Int) := by
  show ((n : Nat) : Int) ≤ _
  omega
theorem oMkslice_ok (sz bytes : Nat) (zero : List AVal) (l c : Arg) : OpOk (.mkslice sz bytes zero l c) (oMkslice sz bytes zero l c) := fun f fr H S k hf hr h => by
  rw [oMkslice, argK_eq hf] at h
  obtain ⟨kd, m, e, h⟩ := asNat_ok h
  rw [argK_eq hf] at h
  obtain ⟨kd', n, e', h⟩ := asNat_ok h
  obtain ⟨h1, h⟩ := ifK_ok h
  obtain ⟨h2, h⟩ := ifK_ok h
  obtain ⟨h3, h⟩ := ifK_ok h
  obtain ⟨h4, h⟩ := ifK_ok h
  obtain ⟨H', hr', h⟩ := newLive_ok hr h
  have h1 := Nat.le_of_ble_eq_true h1
  have h2 : n * bytes ≤ 281474976710656 := Nat.le_of_ble_eq_true h2
  have h3 : n ≤ 9223372036854775807 := Nat.le_of_ble_eq_true h3
  have h4 := Nat.eq_of_beq_eq_true h4
  rw [lenL_eq] at h4
  refine ⟨_, _, H', ?_, hr', h⟩
  simp only [evOp, e, e', mkA]
  rw [if_pos ⟨by simp, ofN_le h1, ofN_mul h2, ofN_le h3, h4⟩, hr.len]; rfl

noncomputable def oMkfn (g : Fn) (a b : List Arg) : KO := fun f H k => argsK f a (fun a => argsK f b (fun b => k (.fn g a b) H))
theorem oMkfn_ok (g : Fn) (a b : List Arg) : OpOk (.mkfn g a b) (oMkfn g a b) := fun f fr H S k hf hr h => by
  rw [oMkfn, argsK_eq hf, argsK_eq hf] at h
  exact ⟨_, S, H, rfl, hr, h⟩

noncomputable def oMkif (t : TypeId) (x : Arg) : KO := fun f H k => argK f x (fun v => k (.iface t v) H)
theorem oMkif_ok (t : TypeId) (x : Arg) : OpOk (.mkif t x) (oMkif t x) := fun f fr H S k hf hr h => by
  rw [oMkif, argK_eq hf] at h
  exact ⟨_, S, H, rfl, hr, h⟩

noncomputable def oExt (i : Nat) (x : Arg) : KO := fun f H k => argK f x (fun v => asTup v (fun vs => lnthK vs i (fun u => k u H)))
theorem oExt_ok (i : Nat) (x : Arg) : OpOk (.ext i x) (oExt i x) := fun f fr H S k hf hr h => by
  rw [oExt, argK_eq hf] at h
  obtain ⟨vs, e, h⟩ := asTup_ok h
  obtain ⟨u, h1, h⟩ := lnthK_ok _ _ _ h
  exact ⟨u, S, H, by simp only [evOp, e, same, h1]; rfl, hr, h⟩

noncomputable def oLen (t : LenT) (x : Arg) : KO := fun f H k => argK f x (fun v => valK (lenA t v) H k)
theorem oLen_ok (t : LenT) (x : Arg) : OpOk (.len t x) (oLen t x) := fun f fr H S k hf hr h => by
  rw [oLen, argK_eq hf] at h
  obtain ⟨v, h1, h⟩ := valK_ok h
  exact ⟨_, S, H, by simp only [evOp, h1]; rfl, hr, h⟩

/-- Cells are added. -/
noncomputable def appK (sz bytes : Nat) (x : AVal) (n : Nat) (new : List AVal) (H : FH) (k : AVal → FH → Bool) : Bool :=
  asSl x
    (fun r ver off len sz' => ifK (Nat.beq sz' sz) (ifK (Nat.ble (Nat.mul (Nat.add len n) bytes) (nat_lit 140737488355328)) (cellsK H r ver (fun m t =>
      @Bool.rec (fun _ => Bool)
        (rngK t off (Nat.mul len sz) (fun l => newT (l ++ new) (fun m' t' => setB H r (.live (Nat.succ ver) m' t') (fun H' => forceN (Nat.add len n) (fun l => k (.sl r (Nat.succ ver) (nat_lit 0) l sz) H')))))
        (addK t m new (fun t' => forceN (Nat.add m (lenL new)) (fun m' => setB H r (.live (Nat.succ ver) m' t') (fun H' => forceN (Nat.add len n) (fun l => k (.sl r (Nat.succ ver) (nat_lit 0) l sz) H')))))
        (@Bool.rec (fun _ => Bool) false (Nat.beq m (Nat.mul len sz)) (Nat.beq off (nat_lit 0)))))))
    (@Bool.rec (fun _ => Bool) (ifK (Nat.ble (Nat.mul n bytes) (nat_lit 140737488355328)) (newLive H new (fun H' => k (.sl H.n (nat_lit 0) (nat_lit 0) n sz) H'))) (k .nils H) (Nat.beq n (nat_lit 0)))
    (fun full len cells => @Bool.rec (fun _ => Bool)
      (ifK full (ifK (Nat.beq (lenL cells) (Nat.mul len sz)) (ifK (Nat.ble (Nat.mul (Nat.add len n) bytes) (nat_lit 140737488355328)) (newLive H (cells ++ new) (fun H' => forceN (Nat.add len n) (fun l => k (.sl H.n (nat_lit 0) (nat_lit 0) l sz) H'))))))
      (k (.fz full len cells) H) (Nat.beq n (nat_lit 0)))
theorem appK_ok {sz bytes : Nat} {x : AVal} {n : Nat} {new : List AVal} {H : FH} {S : St} {k : AVal → FH → Bool} (hr : HRel H S) (h : appK sz bytes x n new H k = true) :
    ∃ v S' H', appendC sz bytes x n new S = some (v, S') ∧ HRel H' S' ∧ k v H' = true := by
  replace h := asSl_ok h
  rcases h with ⟨r, ver, off, len, sz', rfl, h⟩ | ⟨rfl, h⟩ | ⟨full, len, cells, rfl, h⟩
  · obtain ⟨h1, h⟩ := ifK_ok h
    have h1 := Nat.eq_of_beq_eq_true h1
    obtain ⟨h2, h⟩ := ifK_ok h
    have h2 : (len + n) * bytes ≤ 140737488355328 := Nat.le_of_ble_eq_true h2
    obtain ⟨t, hg, hs, hw, h⟩ := cellsK_ok hr h
    rcases bif_eq h with ⟨hc, h⟩ | ⟨_, h⟩
    · rcases bif_eq hc with ⟨ho, hm⟩ | ⟨_, hc⟩
      · have ho := Nat.eq_of_beq_eq_true ho
        have hm : t.toL.length = len * sz := Nat.eq_of_beq_eq_true hm
        replace h := addK_ok t _ new _ hw rfl h
        obtain ⟨t', hw', ht, h⟩ := h
        rw [forceN_eq] at h
        obtain ⟨H', hr', _, h⟩ := setB_ok hr hg (b := .live (ver + 1) (t.toL.length + lenL new) t') ⟨hw', by rw [ht, List.length_append, lenL_eq]⟩ h
        rw [forceN_eq] at h
        refine ⟨_, _, H', ?_, hr', h⟩
        simp only [appendC, hs]
        subst ho
        rw [if_pos ⟨by trivial, h1, by rw [hm]; exact Nat.le_of_eq (Nat.zero_add _), h2⟩]
        simp only [FB.abs, ht, List.drop_zero]
        rw [List.take_of_length_le (by omega)]; rfl
      · exact Bool.noConfusion hc
    · obtain ⟨h3, h⟩ := rngK_ok _ _ _ _ hw h
      obtain ⟨t', hw', ht, h⟩ := newT_ok h
      obtain ⟨H', hr', _, h⟩ := setB_ok hr hg (b := .live (ver + 1) _ t') ⟨hw', by rw [ht]⟩ h
      rw [forceN_eq] at h
      refine ⟨_, _, H', ?_, hr', h⟩
      simp only [appendC, hs]
      rw [if_pos ⟨by trivial, h1, h3, h2⟩]
      simp only [FB.abs, ht]; rfl
  · rcases bif_eq h with ⟨hc, h⟩ | ⟨hc, h⟩
    · have hc := Nat.eq_of_beq_eq_true hc
      exact ⟨_, S, H, by simp only [appendC, if_pos hc], hr, h⟩
    · have hc : ¬ n = 0 := fun e => by subst e; exact Bool.noConfusion hc
      obtain ⟨h1, h⟩ := ifK_ok h
      obtain ⟨H', hr', h⟩ := newLive_ok hr h
      refine ⟨_, _, H', ?_, hr', h⟩
      simp only [appendC, if_neg hc]
      have h1 : n * bytes ≤ 140737488355328 := Nat.le_of_ble_eq_true h1
      rw [if_pos h1, hr.len]
  · rcases bif_eq h with ⟨hc, h⟩ | ⟨hc, h⟩
    · have hc := Nat.eq_of_beq_eq_true hc
      exact ⟨_, S, H, by simp only [appendC, if_pos hc], hr, h⟩
    · have hc : ¬ n = 0 := fun e => by subst e; exact Bool.noConfusion hc
      obtain ⟨h1, h⟩ := ifK_ok h
      obtain ⟨h2, h⟩ := ifK_ok h
      obtain ⟨h3, h⟩ := ifK_ok h
      have h2 := Nat.eq_of_beq_eq_true h2
      rw [lenL_eq] at h2
      obtain ⟨H', hr', h⟩ := newLive_ok hr h
      rw [forceN_eq] at h
      refine ⟨_, _, H', ?_, hr', h⟩
      simp only [appendC, if_neg hc]
      have h3 : (len + n) * bytes ≤ 140737488355328 := Nat.le_of_ble_eq_true h3
      rw [Nat.mul_eq] at h2
      rw [if_pos ⟨h1, h2, h3⟩, hr.len]; rfl

noncomputable def oAppend (sz bytes : Nat) (x y : Arg) : KO := fun f H k => argK f y (fun w => cofK sz w H (fun n new => argK f x (fun v => appK sz bytes v n new H k)))
theorem oAppend_ok (sz bytes : Nat) (x y : Arg) : OpOk (.append sz bytes x y) (oAppend sz bytes x y) := fun f fr H S k hf hr h => by
  rw [oAppend, argK_eq hf] at h
  obtain ⟨n, new, h1, h⟩ := cofK_ok hr h
  rw [argK_eq hf] at h
  obtain ⟨v, S', H', h2, h3, h4⟩ := appK_ok hr h
  refine ⟨v, S', H', ?_, h3, h4⟩
  simp only [evOp]
  rw [appendA_eq, h1]; exact h2

noncomputable def minN (a b : Nat) : Nat := @Bool.rec (fun _ => Nat) b a (Nat.ble a b)
theorem minN_eq (a b : Nat) : minN a b = min a b := by
  unfold minN
  rw [ble_dec]
  by_cases h : a ≤ b
  · rw [decide_eq_true h, Nat.min_eq_left h]
  · rw [decide_eq_false h, Nat.min_eq_right (by omega)]

noncomputable def oCopy (sz : Nat) (x y : Arg) : KO := fun f H k => argK f y (fun w => cofK sz w H (fun n new => argK f x (fun v => asSl v
  (fun r ver off len sz' => ifK (Nat.beq sz' sz) (cellsK H r ver (fun m t => ifK (Nat.ble (Nat.add off (Nat.mul len sz)) m) (forceN (minN n len) (fun d => ltakeK new (Nat.mul d sz) (fun new' => splK t off (lenL new') new' (fun t' => setB H r (.live ver m t') (fun H' => k (.int .i64 (.ofNat d)) H'))))))))
  (k (.int .i64 (.ofNat (nat_lit 0))) H) (fun _ _ _ => false))))
theorem oCopy_ok (sz : Nat) (x y : Arg) : OpOk (.copy sz x y) (oCopy sz x y) := fun f fr H S k hf hr h => by
  rw [oCopy, argK_eq hf] at h
  obtain ⟨n, new, h1, h⟩ := cofK_ok hr h
  rw [argK_eq hf] at h
  rcases asSl_ok h with ⟨r, ver, off, len, sz', e, h⟩ | ⟨e, h⟩ | ⟨_, _, _, _, h⟩
  · obtain ⟨h2, h⟩ := ifK_ok h
    have h2 := Nat.eq_of_beq_eq_true h2
    obtain ⟨t, hg, hs, hw, h⟩ := cellsK_ok hr h
    obtain ⟨h3, h⟩ := ifK_ok h
    have h3 : off + len * sz ≤ t.toL.length := Nat.le_of_ble_eq_true h3
    rw [forceN_eq, minN_eq] at h
    obtain ⟨h4, h⟩ := ltakeK_ok _ _ _ h
    obtain ⟨t', hw', hl, ht, h⟩ := splK_ok t off _ _ _ hw (lenL_eq _) h
    obtain ⟨H', hr', _, h⟩ := setB_ok hr hg (b := .live ver t.toL.length t') ⟨hw', by rw [ht, spl_len (by rw [lenL_eq] at hl; exact hl)]⟩ h
    refine ⟨_, _, H', ?_, hr', h⟩
    simp only [evOp, copyA, h1, e, hs]
    rw [if_pos ⟨by trivial, h2, h3⟩]
    simp only [FB.abs, ht]; rfl
  · exact ⟨_, S, H, by simp only [evOp, copyA, h1, e]; rfl, hr, h⟩
  · exact Bool.noConfusion h

/-- What needs no heap. -/
def asrtV (ifc : Bool) (yes no : List TypeId) (t : TypeId) (zero : AVal) (x : AVal) : Option AVal := match x with
    | .nili => some (.tup [zero, .bool false])
    | .iface d v =>
      if ifc = true then (if yes.contains d = true then some (.tup [.iface d v, .bool true]) else if no.contains d = true then some (.tup [zero, .bool false]) else none)
      else if d = t then some (.tup [v, .bool true]) else some (.tup [zero, .bool false])
    | _ => none
noncomputable def oAsrt (ifc : Bool) (yes no : List TypeId) (t : TypeId) (zero : AVal) (x : Arg) : KO := fun f H k => argK f x (fun v => valK (asrtV ifc yes no t zero v) H k)
theorem oAsrt_ok (ifc : Bool) (yes no : List TypeId) (t : TypeId) (zero : AVal) (x : Arg) : OpOk (.asrt ifc yes no t zero x) (oAsrt ifc yes no t zero x) := fun f fr H S k hf hr h => by
  rw [oAsrt, argK_eq hf] at h
  obtain ⟨v, h1, h⟩ := valK_ok h
  refine ⟨v, S, H, ?_, hr, h⟩
  simp only [evOp]
  generalize fr.ev x = w at h1 ⊢
  unfold asrtV at h1
  split at h1
  · cases h1; rfl
  · split at h1
    · rename_i hi
      simp only [hi, if_true]
      split at h1
      · rename_i hy; simp only [hy, if_true]; cases h1; rfl
      · rename_i hy; rw [if_neg hy]
        split at h1
        · rename_i hn; simp only [hn, if_true]; cases h1; rfl
        · cases h1
    · rename_i hi
      simp only [if_neg hi]
      split at h1
      · rename_i hy; simp only [if_pos hy]; cases h1; rfl
      · rename_i hy; simp only [if_neg hy]; cases h1; rfl
  · cases h1

def eqIV (neg : Bool) (x y : AVal) : Option AVal := match x, y with
    | .iface t _, .iface u _ => if t = u then none else some (.bool neg)
    | .nili, .iface .. => some (.bool neg)
    | .iface .., .nili => some (.bool neg)
    | _, _ => none
noncomputable def oEqI (neg : Bool) (x y : Arg) : KO := fun f H k => argK f x (fun v => argK f y (fun w => valK (eqIV neg v w) H k))
theorem oEqI_ok (neg : Bool) (x y : Arg) : OpOk (.eqI neg x y) (oEqI neg x y) := fun f fr H S k hf hr h => by
  rw [oEqI, argK_eq hf, argK_eq hf] at h
  obtain ⟨v, h1, h⟩ := valK_ok h
  refine ⟨v, S, H, ?_, hr, h⟩
  simp only [evOp]
  generalize fr.ev x = w at h1 ⊢
  generalize fr.ev y = u at h1 ⊢
  unfold eqIV at h1
  split at h1
  · split at h1
    · cases h1
    · rename_i hne; simp only [if_neg hne]; cases h1; rfl
  · cases h1; rfl
  · cases h1; rfl
  · cases h1

def slc0V (x : AVal) : Option AVal := match x with
    | .nils => some .nils
    | .sl .. => some (.fz true 0 [])
    | .fz .. => some (.fz true 0 [])
    | _ => none
noncomputable def oSlc0 (x : Arg) : KO := fun f H k => argK f x (fun v => valK (slc0V v) H k)
theorem oSlc0_ok (x : Arg) : OpOk (.slc0 x) (oSlc0 x) := fun f fr H S k hf hr h => by
  rw [oSlc0, argK_eq hf] at h
  obtain ⟨v, h1, h⟩ := valK_ok h
  refine ⟨v, S, H, ?_, hr, h⟩
  simp only [evOp]
  generalize fr.ev x = w at h1 ⊢
  unfold slc0V at h1
  split at h1 <;> first | (cases h1; done) | (cases h1; rfl)

def arrPV (n sz : Nat) (x : AVal) : Option AVal := match x with
    | .sl r v off len sz' => if sz' = sz ∧ 1 ≤ n ∧ n ≤ len then some (.ptr r v off) else none
    | .fz _ len cells => if 1 ≤ n ∧ n ≤ len then some (.fq cells) else none
    | _ => none
noncomputable def oArrP (n sz : Nat) (x : Arg) : KO := fun f H k => argK f x (fun v => valK (arrPV n sz v) H k)
theorem oArrP_ok (n sz : Nat) (x : Arg) : OpOk (.arrP n sz x) (oArrP n sz x) := fun f fr H S k hf hr h => by
  rw [oArrP, argK_eq hf] at h
  obtain ⟨v, h1, h⟩ := valK_ok h
  refine ⟨v, S, H, ?_, hr, h⟩
  simp only [evOp]
  cases hx : fr.ev x <;> simp only [hx, arrPV] at h1 ⊢ <;> try (cases h1)
  all_goals
    split at h1
    · rename_i hc; rw [if_pos hc]; cases h1; rfl
    · cases h1

def fgtV (x : AVal) : Option AVal := match x with
    | .slm r v off len _ sz => some (.sl r v off len sz)
    | _ => none
noncomputable def oFgt (x : Arg) : KO := fun f H k => argK f x (fun v => valK (fgtV v) H k)
theorem oFgt_ok (x : Arg) : OpOk (.fgt x) (oFgt x) := fun f fr H S k hf hr h => by
  rw [oFgt, argK_eq hf] at h
  obtain ⟨v, h1, h⟩ := valK_ok h
  refine ⟨v, S, H, ?_, hr, h⟩
  simp only [evOp]
  generalize fr.ev x = w at h1 ⊢
  unfold fgtV at h1
  split at h1 <;> first | (cases h1; done) | (cases h1; rfl)

def mnmxV (mx : Bool) (x y : AVal) : Option AVal := match x, y with
    | .int k a, .int j b => if k = j then some (.int k (if mx = true then max a b else min a b)) else none
    | _, _ => none
noncomputable def oMnmx (mx : Bool) (x y : Arg) : KO := fun f H k => argK f x (fun v => argK f y (fun w => valK (mnmxV mx v w) H k))
theorem oMnmx_ok (mx : Bool) (x y : Arg) : OpOk (.mnmx mx x y) (oMnmx mx x y) := fun f fr H S k hf hr h => by
  rw [oMnmx, argK_eq hf, argK_eq hf] at h
  obtain ⟨v, h1, h⟩ := valK_ok h
  refine ⟨v, S, H, ?_, hr, h⟩
  simp only [evOp]
  generalize fr.ev x = w at h1 ⊢
  generalize fr.ev y = u at h1 ⊢
  unfold mnmxV at h1
  split at h1
  · split at h1
    · rename_i he; simp only [if_pos he]; cases h1; rfl
    · cases h1
  · cases h1

def slc3V (x lo hi mx : AVal) : Option AVal := match x, lo, hi, mx with
    | .sl _ _ _ len _, .int _ l, .int _ h, .int _ m => if 0 ≤ l ∧ l ≤ h ∧ h ≤ m ∧ m ≤ (len : Int) then some .junk else none
    | _, _, _, _ => none
noncomputable def oSlc3 (x lo hi mx : Arg) : KO := fun f H k => argK f x (fun v => argK f lo (fun l => argK f hi (fun h => argK f mx (fun m => valK (slc3V v l h m) H k))))
theorem oSlc3_ok (x lo hi mx : Arg) : OpOk (.slc3 x lo hi mx) (oSlc3 x lo hi mx) := fun f fr H S k hf hr h => by
  rw [oSlc3, argK_eq hf, argK_eq hf, argK_eq hf, argK_eq hf] at h
  obtain ⟨v, h1, h⟩ := valK_ok h
  refine ⟨v, S, H, ?_, hr, h⟩
  simp only [evOp]
  generalize fr.ev x = w at h1 ⊢
  generalize fr.ev lo = u at h1 ⊢
  generalize fr.ev hi = u2 at h1 ⊢
  generalize fr.ev mx = u3 at h1 ⊢
  unfold slc3V at h1
  split at h1
  · split at h1
    · rename_i hc; simp only [if_pos hc]; cases h1; rfl
    · cases h1
  · cases h1

noncomputable def oAppn (sz bytes : Nat) (zero : List AVal) (x n : Arg) : KO := fun f H k => argK f n (fun w => asInt w (fun kd i => @IntKind.rec (fun _ => Bool) false false false
  (@Int.rec (fun _ => Bool) (fun l => ifK (Nat.ble (Nat.mul l bytes) (nat_lit 140737488355328)) (ifK (Nat.ble l (nat_lit 9223372036854775807)) (argK f x (fun v => appK sz bytes v l (List.replicate l zero).flatten H k)))) (fun _ => false) i) false false false false kd))
theorem oAppn_ok (sz bytes : Nat) (zero : List AVal) (x n : Arg) : OpOk (.appn sz bytes zero x n) (oAppn sz bytes zero x n) := fun f fr H S k hf hr h => by
  rw [oAppn, argK_eq hf] at h
  obtain ⟨kd, i, e, h⟩ := asInt_ok h
  cases kd <;> try (exact Bool.noConfusion h)
  cases i with
  | negSucc i => exact Bool.noConfusion h
  | ofNat l =>
    obtain ⟨h1, h⟩ := ifK_ok h
    obtain ⟨h2, h⟩ := ifK_ok h
    rw [argK_eq hf] at h
    obtain ⟨v, S', H', h3, h4, h5⟩ := appK_ok hr h
    have h1 : l * bytes ≤ 140737488355328 := Nat.le_of_ble_eq_true h1
    have h2 : l ≤ 9223372036854775807 := Nat.le_of_ble_eq_true h2
    refine ⟨v, S', H', ?_, h4, h5⟩
    simp only [evOp, e]
    rw [if_pos ⟨by simp, h1, ofN_le h2⟩]; exact h3

/-- A slice whose room is known. -/
noncomputable def asSlm (v : AVal) (k : Nat → Nat → Nat → Nat → Nat → Nat → Bool) : Bool :=
  @AVal.casesOn (fun _ => Bool) v false (fun _ => false) (fun _ _ => false) (fun _ => false) (fun _ _ _ => false) false (fun _ _ _ _ _ => false) false (fun _ _ _ => false) (fun _ => false) (fun _ _ _ => false) false (fun _ _ => false) false (fun _ => false) (fun _ => false) false (fun _ => false) (fun _ => false) k
theorem asSlm_ok {v : AVal} {k : Nat → Nat → Nat → Nat → Nat → Nat → Bool} (h : asSlm v k = true) : ∃ r ver off len mc sz, v = .slm r ver off len mc sz ∧ k r ver off len mc sz = true := by
  cases v <;> first | exact Bool.noConfusion h | exact ⟨_, _, _, _, _, _, rfl, h⟩

noncomputable def oAppR (sz : Nat) (x y : Arg) : KO := fun f H k => argK f y (fun w => cofK sz w H (fun n new => argK f x (fun v => asSlm v
  (fun r ver off len mc sz' => ifK (Nat.beq sz' sz) (ifK (Nat.ble (Nat.add len n) mc) (cellsK H r ver (fun m t => ifK (Nat.ble (Nat.add off (Nat.mul (Nat.add len n) sz)) m) (splK t (Nat.add off (Nat.mul len sz)) (lenL new) new (fun t' => setB H r (.live ver m t') (fun H' => forceN (Nat.add len n) (fun l => k (.slm r ver off l mc sz) H')))))))))))
theorem oAppR_ok (sz : Nat) (x y : Arg) : OpOk (.appR sz x y) (oAppR sz x y) := fun f fr H S k hf hr h => by
  rw [oAppR, argK_eq hf] at h
  obtain ⟨n, new, h1, h⟩ := cofK_ok hr h
  rw [argK_eq hf] at h
  obtain ⟨r, ver, off, len, mc, sz', e, h⟩ := asSlm_ok h
  obtain ⟨h2, h⟩ := ifK_ok h
  obtain ⟨h3, h⟩ := ifK_ok h
  obtain ⟨t, hg, hs, hw, h⟩ := cellsK_ok hr h
  obtain ⟨h4, h⟩ := ifK_ok h
  obtain ⟨t', hw', hl, ht, h⟩ := splK_ok t _ _ _ _ hw (lenL_eq _) h
  obtain ⟨H', hr', _, h⟩ := setB_ok hr hg (b := .live ver t.toL.length t') ⟨hw', by rw [ht, spl_len (by rw [lenL_eq] at hl; exact hl)]⟩ h
  rw [forceN_eq] at h
  refine ⟨_, _, H', ?_, hr', h⟩
  simp only [evOp, h1, e, appendR, hs]
  rw [if_pos ⟨by trivial, Nat.eq_of_beq_eq_true h2, Nat.le_of_ble_eq_true h3, Nat.le_of_ble_eq_true h4⟩]
  simp only [FB.abs, ht]; rfl

noncomputable def oMkmslice (sz bytes : Nat) (zero : List AVal) (l c : Arg) : KO := fun f H k => argK f l (fun v => asNat v (fun m => argK f c (fun w => asNat w (fun n =>
  ifK (Nat.ble m n) (ifK (Nat.ble (Nat.mul n bytes) (nat_lit 281474976710656)) (ifK (Nat.ble n (nat_lit 9223372036854775807)) (ifK (Nat.beq (lenL zero) sz) (newLive H (List.replicate n zero).flatten (fun H' => k (.slm H.n (nat_lit 0) (nat_lit 0) m n sz) H')))))))))
theorem oMkmslice_ok (sz bytes : Nat) (zero : List AVal) (l c : Arg) : OpOk (.mkmslice sz bytes zero l c) (oMkmslice sz bytes zero l c) := fun f fr H S k hf hr h => by
  rw [oMkmslice, argK_eq hf] at h
  obtain ⟨kd, m, e, h⟩ := asNat_ok h
  rw [argK_eq hf] at h
  obtain ⟨kd', n, e', h⟩ := asNat_ok h
  obtain ⟨h1, h⟩ := ifK_ok h
  obtain ⟨h2, h⟩ := ifK_ok h
  obtain ⟨h3, h⟩ := ifK_ok h
  obtain ⟨h4, h⟩ := ifK_ok h
  obtain ⟨H', hr', h⟩ := newLive_ok hr h
  have h1 := Nat.le_of_ble_eq_true h1
  have h2 : n * bytes ≤ 281474976710656 := Nat.le_of_ble_eq_true h2
  have h3 : n ≤ 9223372036854775807 := Nat.le_of_ble_eq_true h3
  have h4 := Nat.eq_of_beq_eq_true h4
  rw [lenL_eq] at h4
  refine ⟨_, _, H', ?_, hr', h⟩
  simp only [evOp, e, e', mkM]
  rw [if_pos ⟨by simp, ofN_le h1, ofN_mul h2, ofN_le h3, h4⟩, hr.len]; rfl

noncomputable def oClr (sz : Nat) (zero : List AVal) (x : Arg) : KO := fun f H k => argK f x (fun v => asSl v
  (fun r ver off len sz' => ifK (Nat.beq sz' sz) (ifK (Nat.beq (lenL zero) sz) (cellsK H r ver (fun m t => ifK (Nat.ble (Nat.add off (Nat.mul len sz)) m) (splK t off (lenL (List.replicate len zero).flatten) (List.replicate len zero).flatten (fun t' => setB H r (.live ver m t') (fun H' => k (.tup []) H')))))))
  (k (.tup []) H) (fun _ _ _ => false))
theorem oClr_ok (sz : Nat) (zero : List AVal) (x : Arg) : OpOk (.clr sz zero x) (oClr sz zero x) := fun f fr H S k hf hr h => by
  rw [oClr, argK_eq hf] at h
  rcases asSl_ok h with ⟨r, ver, off, len, sz', e, h⟩ | ⟨e, h⟩ | ⟨_, _, _, _, h⟩
  · obtain ⟨h1, h⟩ := ifK_ok h
    obtain ⟨h2, h⟩ := ifK_ok h
    obtain ⟨t, hg, hs, hw, h⟩ := cellsK_ok hr h
    obtain ⟨h4, h⟩ := ifK_ok h
    obtain ⟨t', hw', hl, ht, h⟩ := splK_ok t _ _ _ _ hw (lenL_eq _) h
    obtain ⟨H', hr', _, h⟩ := setB_ok hr hg (b := .live ver t.toL.length t') ⟨hw', by rw [ht, spl_len (by rw [lenL_eq] at hl; exact hl)]⟩ h
    have h2 := Nat.eq_of_beq_eq_true h2
    rw [lenL_eq] at h2
    refine ⟨_, _, H', ?_, hr', h⟩
    simp only [evOp, e, clearA, hs]
    rw [if_pos ⟨by trivial, Nat.eq_of_beq_eq_true h1, h2, Nat.le_of_ble_eq_true h4⟩]
    simp only [FB.abs, ht]; rfl
  · exact ⟨_, S, H, by simp only [evOp, e, clearA]; rfl, hr, h⟩
  · exact Bool.noConfusion h

/-- Maps. -/
noncomputable def asMap (v : AVal) (n : Bool) (k : Nat → Bool) : Bool :=
  @AVal.casesOn (fun _ => Bool) v false (fun _ => false) (fun _ _ => false) (fun _ => false) (fun _ _ _ => false) false (fun _ _ _ _ _ => false) false (fun _ _ _ => false) (fun _ => false) (fun _ _ _ => false) false (fun _ _ => false) false (fun _ => false) (fun _ => false) n (fun _ => false) k (fun _ _ _ _ _ _ => false)
theorem asMap_ok {v : AVal} {n : Bool} {k : Nat → Bool} (h : asMap v n k = true) : (v = .mapn ∧ n = true) ∨ (∃ j, v = .mpv j ∧ k j = true) := by
  cases v <;> first | exact Bool.noConfusion h | exact .inl ⟨rfl, h⟩ | exact .inr ⟨_, rfl, h⟩

noncomputable def mpK (H : FH) (j : Nat) (k : List (AVal × AVal) → Nat → Bool) : Bool := blkK H j (fun b => @FB.rec (fun _ => Bool) false (fun _ _ _ => false) (fun _ _ => false) k b)
theorem mpK_ok {H : FH} {S : St} {j : Nat} {k : List (AVal × AVal) → Nat → Bool} (hr : HRel H S) (h : mpK H j k = true) : ∃ es c, H.t.get j = some (.mp es c) ∧ S[j]? = some (.mp es c) ∧ k es c = true := by
  obtain ⟨b, h0, h1, h2, h⟩ := blkK_ok hr h
  cases b <;> first | exact Bool.noConfusion h | exact ⟨_, _, h0, h1, h⟩

noncomputable def oMkmap : KO := fun f H k => pushB H (.mp [] (nat_lit 0)) (fun H' => k (.mpv H.n) H')
theorem oMkmap_ok : OpOk .mkmap oMkmap := fun f fr H S k hf hr h => by
  obtain ⟨H', h1, _, h2⟩ := pushB_ok hr (b := .mp [] 0) trivial h
  exact ⟨_, _, H', by simp only [evOp]; rw [hr.len]; rfl, h1, h2⟩

noncomputable def oMget (s : Bool) (zero : AVal) (x y : Arg) : KO := fun f H k => argK f x (fun v => argK f y (fun w => ifK (keyA s w) (asMap v (k zero H) (fun j => mpK H j (fun es _ => optK (mfind w es 0) (fun r => @Option.rec (Nat × AVal) (fun _ => Bool) (k zero H) (fun p => forceV p.2 (fun u => k u H)) r))))))
theorem oMget_ok (s : Bool) (zero : AVal) (x y : Arg) : OpOk (.mget s zero x y) (oMget s zero x y) := fun f fr H S k hf hr h => by
  rw [oMget, argK_eq hf, argK_eq hf] at h
  obtain ⟨h1, h⟩ := ifK_ok h
  rcases asMap_ok h with ⟨e, h⟩ | ⟨j, e, h⟩
  · exact ⟨_, S, H, by simp only [evOp, e, h1, if_true], hr, h⟩
  · obtain ⟨es, c, _, h2, h⟩ := mpK_ok hr h
    obtain ⟨r, h3, h⟩ := optK_ok h
    cases r with
    | none => exact ⟨_, S, H, by simp only [evOp, e, h1, h2, h3, if_true], hr, h⟩
    | some p =>
      have h : forceV p.2 (fun u => k u H) = true := h
      rw [forceV_eq] at h
      exact ⟨_, S, H, by simp only [evOp, e, h1, h2, h3, if_true], hr, h⟩

noncomputable def oMset (s : Bool) (x y z : Arg) : KO := fun f H k => argK f x (fun v => argK f y (fun w => ifK (keyA s w) (argK f z (fun u => ifK (flatA u) (asMap v false (fun j => mpK H j (fun es c => optK (mfind w es 0) (fun r => @Option.rec (Nat × AVal) (fun _ => Bool)
  (lappK es [(w, u)] (fun es' => setB H j (.mp es' (Nat.succ c)) (fun H' => k .junk H'))) (fun p => setB H j (.mp (es.set p.1 (w, u)) c) (fun H' => k .junk H')) r))))))))
theorem oMset_ok (s : Bool) (x y z : Arg) : OpOk (.mset s x y z) (oMset s x y z) := fun f fr H S k hf hr h => by
  rw [oMset, argK_eq hf, argK_eq hf] at h
  obtain ⟨h1, h⟩ := ifK_ok h
  rw [argK_eq hf] at h
  obtain ⟨h1', h⟩ := ifK_ok h
  rcases asMap_ok h with ⟨e, h⟩ | ⟨j, e, h⟩
  · exact Bool.noConfusion h
  · obtain ⟨es, c, hg, h2, h⟩ := mpK_ok hr h
    obtain ⟨r, h3, h⟩ := optK_ok h
    cases r with
    | none =>
      have h : lappK es [(fr.ev y, fr.ev z)] (fun es' => setB H j (.mp es' (c + 1)) (fun H' => k .junk H')) = true := h
      rw [lappK_eq] at h
      obtain ⟨H', hr', _, h⟩ := setB_ok hr hg (b := .mp _ (c + 1)) trivial h
      refine ⟨_, _, H', ?_, hr', h⟩
      simp only [evOp, e, h2, h3]
      rw [if_pos ⟨h1, h1'⟩]; rfl
    | some p =>
      obtain ⟨H', hr', _, h⟩ := setB_ok hr hg (b := .mp (es.set p.1 (fr.ev y, fr.ev z)) c) trivial h
      refine ⟨_, _, H', ?_, hr', h⟩
      simp only [evOp, e, h2, h3]
      rw [if_pos ⟨h1, h1'⟩]; rfl

noncomputable def oMdel (s : Bool) (x y : Arg) : KO := fun f H k => argK f x (fun v => argK f y (fun w => ifK (keyA s w) (asMap v false (fun j => mpK H j (fun es c => optK (mfind w es 0) (fun r => @Option.rec (Nat × AVal) (fun _ => Bool)
  (setB H j (.mp es c) (fun H' => k (.tup []) H')) (fun p => setB H j (.mp (es.eraseIdx p.1) c) (fun H' => k (.tup []) H')) r))))))
theorem oMdel_ok (s : Bool) (x y : Arg) : OpOk (.mdel s x y) (oMdel s x y) := fun f fr H S k hf hr h => by
  rw [oMdel, argK_eq hf, argK_eq hf] at h
  obtain ⟨h1, h⟩ := ifK_ok h
  rcases asMap_ok h with ⟨e, h⟩ | ⟨j, e, h⟩
  · exact Bool.noConfusion h
  · obtain ⟨es, c, hg, h2, h⟩ := mpK_ok hr h
    obtain ⟨r, h3, h⟩ := optK_ok h
    cases r with
    | none =>
      obtain ⟨H', hr', _, h⟩ := setB_ok hr hg (b := .mp es c) trivial h
      refine ⟨_, _, H', ?_, hr', h⟩
      simp only [evOp, e, h2, h3]
      rw [if_pos h1]; rfl
    | some p =>
      obtain ⟨H', hr', _, h⟩ := setB_ok hr hg (b := .mp (es.eraseIdx p.1) c) trivial h
      refine ⟨_, _, H', ?_, hr', h⟩
      simp only [evOp, e, h2, h3]
      rw [if_pos h1]; rfl

noncomputable def oMlen (x : Arg) : KO := fun f H k => argK f x (fun v => asMap v (k (.int .i64 (.ofNat (nat_lit 0))) H) (fun j => mpK H j (fun es _ => forceN (lenL es) (fun n => k (.int .i64 (.ofNat n)) H))))
theorem oMlen_ok (x : Arg) : OpOk (.mlen x) (oMlen x) := fun f fr H S k hf hr h => by
  rw [oMlen, argK_eq hf] at h
  rcases asMap_ok h with ⟨e, h⟩ | ⟨j, e, h⟩
  · exact ⟨_, S, H, by simp only [evOp, e]; rfl, hr, h⟩
  · obtain ⟨es, c, hg, h2, h⟩ := mpK_ok hr h
    rw [forceN_eq, lenL_eq] at h
    exact ⟨_, S, H, by simp only [evOp, e, h2]; rfl, hr, h⟩

noncomputable def oNo : KO := fun _ _ _ => false
theorem oNo_ok (op : AOp) : OpOk op oNo := fun f fr H S k hf hr h => Bool.noConfusion h

noncomputable def opK : AOp → KO :=
  @AOp.rec (fun _ => KO) oMv oPick oAlloc oBox oBuild oBslice oLoad oStore oNilchk oBin oEq oEqA oUn oConvI oConvBS oConvSS oConvSB oConvSL oFaddr oFld oIaddrS oIaddrA oIdxA oIdxStr oSlcStr oSlcS oSlcA oMkslice oMkfn oMkif oExt oLen oAppend oCopy oMnmx
    oNo oAsrt oEqI oSlc0 oArrP oMkmap oMget oMset oMdel oMlen oAppn oSlcM oAppR oMkmslice oFgt oClr oSlc3
theorem opK_ok (op : AOp) : OpOk op (opK op) := by
  cases op
  · exact oMv_ok _
  · exact oPick_ok _ _ _
  · exact oAlloc_ok _
  · exact oBox_ok _
  · exact oBuild_ok _ _
  · exact oBslice_ok _ _ _ _ _
  · exact oLoad_ok _ _
  · exact oStore_ok _ _ _
  · exact oNilchk_ok _
  · exact oBin_ok _ _ _
  · exact oEq_ok _ _ _ _
  · exact oEqA_ok _ _ _ _
  · exact oUn_ok _ _
  · exact oConvI_ok _ _
  · exact oConvBS_ok _
  · exact oConvSS_ok _
  · exact oConvSB_ok _
  · exact oConvSL_ok _
  · exact oFaddr_ok _ _
  · exact oFld_ok _ _ _
  · exact oIaddrS_ok _ _ _
  · exact oIaddrA_ok _ _ _ _
  · exact oIdxA_ok _ _ _ _ _
  · exact oIdxStr_ok _ _
  · exact oSlcStr_ok _ _ _
  · exact oSlcS_ok _ _ _ _
  · exact oSlcA_ok _ _ _ _ _
  · exact oMkslice_ok _ _ _ _ _
  · exact oMkfn_ok _ _ _
  · exact oMkif_ok _ _
  · exact oExt_ok _ _
  · exact oLen_ok _ _
  · exact oAppend_ok _ _ _ _
  · exact oCopy_ok _ _ _
  · exact oMnmx_ok _ _ _
  · exact oNo_ok _
  · exact oAsrt_ok _ _ _ _ _ _
  · exact oEqI_ok _ _ _
  · exact oSlc0_ok _
  · exact oArrP_ok _ _ _
  · exact oMkmap_ok
  · exact oMget_ok _ _ _ _
  · exact oMset_ok _ _ _ _
  · exact oMdel_ok _ _ _
  · exact oMlen_ok _
  · exact oAppn_ok _ _ _ _ _
  · exact oSlcM_ok _ _ _ _
  · exact oAppR_ok _ _ _
  · exact oMkmslice_ok _ _ _ _ _
  · exact oFgt_ok _
  · exact oClr_ok _ _ _
  · exact oSlc3_ok _ _ _ _

end Am.Fz
end

/- A quick machine for the kernel: code, functions, a whole program. -/
section
set_option linter.all false
namespace Am.Fz
open Go

abbrev FM := List AVal → FH → (AVal → FH → Bool) → Bool
def FOk (g : FM) (m : Model) : Prop := ∀ args H S k, HRel H S → g args H k = true → ∃ v S' H', m args S = some (v, S') ∧ HRel H' S' ∧ k v H' = true

structure FO where
  loc : Nat → (FM → Bool) → Bool
  dyn : FuncId → FM
  itr : FuncId → (Nat → FM) → FM
  yld : Nat → FM

structure OOk (G : FO) (O : Orc) : Prop where
  loc : ∀ i k, G.loc i k = true → ∃ g m, O.loc[i]? = some m ∧ FOk g m ∧ k g = true
  dyn : ∀ i, FOk (G.dyn i) (O.dyn i)
  itr : ∀ i Y Y', (∀ j, FOk (Y j) (Y' j)) → FOk (G.itr i Y) (O.itr i Y')
  yld : ∀ j, FOk (G.yld j) (O.yld j)

noncomputable def fnK (f : Fn) (k : FuncId → Bool) : Bool := match f with
  | .func g => k g
  | _ => false
theorem fnK_ok {f : Fn} {k : FuncId → Bool} (h : fnK f k = true) : ∃ g, f = .func g ∧ k g = true := by
  unfold fnK at h
  split at h
  · exact ⟨_, rfl, h⟩
  · exact Bool.noConfusion h
noncomputable def asFn (v : AVal) (k : FuncId → List AVal → List AVal → Bool) (y : Nat → Bool) : Bool :=
  @AVal.casesOn (fun _ => Bool) v false (fun _ => false) (fun _ _ => false) (fun _ => false) (fun _ _ _ => false) false (fun _ _ _ _ _ => false) false (fun _ _ _ => false) (fun _ => false)
    (fun f a b => fnK f (fun g => k g a b)) false (fun _ _ => false) false (fun _ => false) (fun _ => false) false y (fun _ => false) (fun _ _ _ _ _ _ => false)
theorem asFn_ok {v : AVal} {k : FuncId → List AVal → List AVal → Bool} {y : Nat → Bool} (h : asFn v k y = true) : (∃ g a b, v = .fn (.func g) a b ∧ k g a b = true) ∨ (∃ j, v = .yld j ∧ y j = true) := by
  cases v <;> try (exact Bool.noConfusion h)
  · replace h := fnK_ok h
    obtain ⟨g, rfl, h⟩ := h
    exact .inl ⟨_, _, _, rfl, h⟩
  · exact .inr ⟨_, rfl, h⟩

noncomputable def asIfc (v : AVal) (k : TypeId → AVal → Bool) : Bool :=
  @AVal.casesOn (fun _ => Bool) v false (fun _ => false) (fun _ _ => false) (fun _ => false) (fun _ _ _ => false) false (fun _ _ _ _ _ => false) false (fun _ _ _ => false) (fun _ => false) (fun _ _ _ => false) false k false (fun _ => false) (fun _ => false) false (fun _ => false) (fun _ => false) (fun _ _ _ _ _ _ => false)
theorem asIfc_ok {v : AVal} {k : TypeId → AVal → Bool} (h : asIfc v k = true) : ∃ t u, v = .iface t u ∧ k t u = true := by
  cases v <;> first | exact Bool.noConfusion h | exact ⟨_, _, rfl, h⟩

noncomputable def callK (G : FO) (c : ACallee) : KO := fun f H k =>
  @ACallee.casesOn (fun _ => Bool) c (fun i args => argsK f args (fun l => G.loc i (fun g => g l H k)))
    (fun fv args => argK f fv (fun v => argsK f args (fun l => asFn v (fun g a b => lappK l b (fun l => lappK a l (fun l => G.dyn g l H k))) (fun j => G.yld j l H k))))
    (fun tbl r args => argK f r (fun v => asIfc v (fun t u => argsK f args (fun l => optK (tbl.lookup t) (fun i => G.loc i (fun g => g (u :: l) H k))))))
theorem callK_ok {G : FO} {O : Orc} (hO : OOk G O) (c : ACallee) {f : FF} {fr : Fr} {H : FH} {S : St} {k : AVal → FH → Bool} (hf : FRel f fr) (hr : HRel H S) (h : callK G c f H k = true) :
    ∃ v S' H', evCall O fr.ev S c = some (v, S') ∧ HRel H' S' ∧ k v H' = true := by
  cases c with
  | k i args =>
    have h : argsK f args (fun l => G.loc i (fun g => g l H k)) = true := h
    rw [argsK_eq hf] at h
    obtain ⟨g, m, h2, h3, h⟩ := hO.loc i _ h
    obtain ⟨v, S', H', h4, h5⟩ := h3 _ _ _ _ hr h
    exact ⟨v, S', H', by simp only [evCall, h2]; exact h4, h5⟩
  | v fv args =>
    have h : argK f fv (fun v => argsK f args (fun l => asFn v (fun g a b => lappK l b (fun l => lappK a l (fun l => G.dyn g l H k))) (fun j => G.yld j l H k))) = true := h
    rw [argK_eq hf, argsK_eq hf] at h
    rcases asFn_ok h with ⟨g, a, b, e, h⟩ | ⟨j, e, h⟩
    · rw [lappK_eq, lappK_eq] at h
      obtain ⟨v, S', H', h4, h5⟩ := hO.dyn g _ _ _ _ hr h
      exact ⟨v, S', H', by simp only [evCall, e, List.append_assoc]; exact h4, h5⟩
    · obtain ⟨v, S', H', h4, h5⟩ := hO.yld j _ _ _ _ hr h
      exact ⟨v, S', H', by simp only [evCall, e]; exact h4, h5⟩
  | inv tbl r args =>
    have h : argK f r (fun v => asIfc v (fun t u => argsK f args (fun l => optK (tbl.lookup t) (fun i => G.loc i (fun g => g (u :: l) H k))))) = true := h
    rw [argK_eq hf] at h
    obtain ⟨t, u, e, h⟩ := asIfc_ok h
    rw [argsK_eq hf] at h
    obtain ⟨i, h0, h⟩ := optK_ok h
    obtain ⟨g, m, h2, h3, h⟩ := hO.loc i _ h
    obtain ⟨v, S', H', h4, h5⟩ := h3 _ _ _ _ hr h
    exact ⟨v, S', H', by simp only [evCall, e, h0, h2]; exact h4, h5⟩

noncomputable def anyK (G : FO) (o : AOp ⊕ ACallee) : KO := @Sum.rec AOp ACallee (fun _ => KO) opK (callK G) o
theorem anyK_ok {G : FO} {O : Orc} (hO : OOk G O) (o : AOp ⊕ ACallee) {f : FF} {fr : Fr} {H : FH} {S : St} {k : AVal → FH → Bool} (hf : FRel f fr) (hr : HRel H S) (h : anyK G o f H k = true) :
    ∃ v S' H', evAny O fr.ev S o = some (v, S') ∧ HRel H' S' ∧ k v H' = true := by
  cases o with
  | inl op => exact opK_ok op f fr H S k hf hr h
  | inr c => exact callK_ok hO c hf hr h

noncomputable def putK (f : FF) (dst : Option Nat) (v : AVal) (k : FF → Bool) : Bool := @Option.rec Nat (fun _ => Bool) (k f) (fun d => setV f d v k) dst
theorem putK_ok {f : FF} {fr : Fr} {dst : Option Nat} {v : AVal} {k : FF → Bool} (hf : FRel f fr) (h : putK f dst v k = true) : ∃ f', FRel f' (putA fr dst v) ∧ k f' = true := by
  cases dst with
  | none => exact ⟨f, hf, h⟩
  | some d => exact setV_ok hf h

/-- What a guard says: true: go; false: leave it. -/
noncomputable def guardK (f : FF) (g : Option (Nat × Bool)) (go stay : Bool) : Bool :=
  @Option.rec (Nat × Bool) (fun _ => Bool) go (fun p => getV f p.1 (fun v =>
    @AVal.casesOn (fun _ => Bool) v false (fun b => @Bool.rec (fun _ => Bool) go stay (xb b p.2)) (fun _ _ => false) (fun _ => false) (fun _ _ _ => false) false (fun _ _ _ _ _ => false) false (fun _ _ _ => false) (fun _ => false) (fun _ _ _ => false) false (fun _ _ => false) false (fun _ => false)
      (fun l => @List.rec AVal (fun _ => Bool) stay (fun _ _ _ => false) l) false (fun _ => false) (fun _ => false) (fun _ _ _ _ _ _ => false))) g

noncomputable def operK (G : FO) (o : AOper) (f : FF) (H : FH) (k : FF → FH → Bool) : Bool :=
  guardK f o.guard (anyK G o.op f H (fun v H' => putK f o.dst v (fun f' => k f' H'))) (putK f o.dst (.tup []) (fun f' => k f' H))

/-- What is done, behind a guard. -/
inductive GCase (fr : Fr) (g : Option (Nat × Bool)) : Bool → Prop where
  | go (h : g = none ∨ ∃ t w, g = some (t, w) ∧ fr.get t = .bool w) : GCase fr g true
  | stay (h : ∃ t w, g = some (t, w) ∧ (fr.get t = .bool (!w) ∨ fr.get t = .tup [])) : GCase fr g false

theorem guardK_ok {f : FF} {fr : Fr} {g : Option (Nat × Bool)} {go stay : Bool} (hf : FRel f fr) (h : guardK f g go stay = true) : (GCase fr g true ∧ go = true) ∨ (GCase fr g false ∧ stay = true) := by
  cases g with
  | none => exact .inl ⟨.go (.inl rfl), h⟩
  | some p =>
    obtain ⟨t, w⟩ := p
    have h := (getV_eq hf t _).symm.trans (show getV f t _ = true from h)
    cases hv : fr.get t <;> rw [hv] at h <;> try (exact Bool.noConfusion h)
    · rename_i b
      cases b <;> cases w <;> first
        | exact .inl ⟨.go (.inr ⟨_, _, rfl, hv⟩), h⟩
        | exact .inr ⟨.stay ⟨_, _, rfl, .inl hv⟩, h⟩
    · rename_i l
      cases l with
      | nil => exact .inr ⟨.stay ⟨_, _, rfl, .inr hv⟩, h⟩
      | cons a l => exact Bool.noConfusion h

theorem evOper_go {O : Orc} {o : AOper} {fr : Fr} {S : St} (h : GCase fr o.guard true) : evOper O o fr S = putR fr o.dst (evAny O fr.ev S o.op) := by
  cases h with
  | go h =>
    rcases h with h | ⟨t, w, h, hv⟩
    · simp only [evOper, h]
    · simp only [evOper, h, hv, if_true]
theorem evOper_stay {O : Orc} {o : AOper} {fr : Fr} {S : St} (h : GCase fr o.guard false) : evOper O o fr S = some (putA fr o.dst (.tup []), S) := by
  cases h with
  | stay h =>
    obtain ⟨t, w, h, hv⟩ := h
    rcases hv with hv | hv
    · simp only [evOper, h, hv]; cases w <;> simp
    · simp only [evOper, h, hv]; simp

theorem operK_ok {G : FO} {O : Orc} (hO : OOk G O) {o : AOper} {f : FF} {fr : Fr} {H : FH} {S : St} {k : FF → FH → Bool} (hf : FRel f fr) (hr : HRel H S) (h : operK G o f H k = true) :
    ∃ f' fr' H' S', evOper O o fr S = some (fr', S') ∧ FRel f' fr' ∧ HRel H' S' ∧ k f' H' = true := by
  rcases guardK_ok hf h with ⟨hg, h⟩ | ⟨hg, h⟩
  · obtain ⟨v, S', H', h1, h2, h⟩ := anyK_ok hO _ hf hr h
    obtain ⟨f', h3, h⟩ := putK_ok hf h
    exact ⟨f', _, H', S', by rw [evOper_go hg, h1]; rfl, h3, h2, h⟩
  · obtain ⟨f', h3, h⟩ := putK_ok hf h
    exact ⟨f', _, H, S, evOper_stay hg, h3, hr, h⟩

noncomputable def opsK (G : FO) : List AOper → FF → FH → (FF → FH → Bool) → Bool :=
  @List.rec AOper (fun _ => FF → FH → (FF → FH → Bool) → Bool) (fun f H k => k f H) (fun o _ ih f H k => operK G o f H (fun f' H' => ih f' H' k))
theorem opsK_ok {G : FO} {O : Orc} (hO : OOk G O) : ∀ (l : List AOper) {f : FF} {fr : Fr} {H : FH} {S : St} {k : FF → FH → Bool}, FRel f fr → HRel H S → opsK G l f H k = true →
    ∃ f' fr' H' S', evOps O l fr S = some (fr', S') ∧ FRel f' fr' ∧ HRel H' S' ∧ k f' H' = true
  | [], f, fr, H, S, k, hf, hr, h => ⟨f, fr, H, S, rfl, hf, hr, h⟩
  | o :: l, f, fr, H, S, k, hf, hr, h => by
    obtain ⟨f1, fr1, H1, S1, h1, h2, h3, h⟩ := operK_ok hO hf hr (show operK G o f H (fun f' H' => opsK G l f' H' k) = true from h)
    obtain ⟨f2, fr2, H2, S2, h4, h5, h6, h⟩ := opsK_ok hO l h2 h3 h
    exact ⟨f2, fr2, H2, S2, by simp only [evOps, h1]; exact h4, h5, h6, h⟩

/-- With what lies ahead of each. -/
noncomputable def trK (G : FO) : List AOper → FF → FH → (List (FF × FH) → FF → FH → Bool) → Bool :=
  @List.rec AOper (fun _ => FF → FH → (List (FF × FH) → FF → FH → Bool) → Bool) (fun f H k => k [(f, H)] f H) (fun o _ ih f H k => operK G o f H (fun f' H' => ih f' H' (fun tr f2 H2 => k ((f, H) :: tr) f2 H2)))

def TRel (tr : List (FF × FH)) (tl : List (Fr × St)) : Prop := ∀ (i : Nat) (p : FF × FH), tr[i]? = some p → ∃ q : Fr × St, tl[i]? = some q ∧ FRel p.1 q.1 ∧ HRel p.2 q.2
theorem TRel.cons {f : FF} {fr : Fr} {H : FH} {S : St} {tr : List (FF × FH)} {tl : List (Fr × St)} (hf : FRel f fr) (hr : HRel H S) (h : TRel tr tl) : TRel ((f, H) :: tr) ((fr, S) :: tl) := by
  intro i p hp
  cases i with
  | zero => cases hp; exact ⟨_, rfl, hf, hr⟩
  | succ i => exact h i p (by simpa using hp)

theorem trK_ok {G : FO} {O : Orc} (hO : OOk G O) : ∀ (l : List AOper) {f : FF} {fr : Fr} {H : FH} {S : St} {k : List (FF × FH) → FF → FH → Bool}, FRel f fr → HRel H S → trK G l f H k = true →
    ∃ tr f' fr' H' S', evOps O l fr S = some (fr', S') ∧ TRel tr (trL O l fr S) ∧ FRel f' fr' ∧ HRel H' S' ∧ k tr f' H' = true
  | [], f, fr, H, S, k, hf, hr, h => ⟨_, f, fr, H, S, rfl, TRel.cons hf hr (fun i p hp => by simp at hp), hf, hr, h⟩
  | o :: l, f, fr, H, S, k, hf, hr, h => by
    obtain ⟨f1, fr1, H1, S1, h1, h2, h3, h⟩ := operK_ok hO hf hr (show operK G o f H (fun f' H' => trK G l f' H' (fun tr f2 H2 => k ((f, H) :: tr) f2 H2)) = true from h)
    obtain ⟨tr, f2, fr2, H2, S2, h4, ht, h5, h6, h⟩ := trK_ok hO l h2 h3 h
    refine ⟨_, f2, fr2, H2, S2, by simp only [evOps, h1]; exact h4, ?_, h5, h6, h⟩
    simp only [trL, h1]
    exact TRel.cons hf hr ht

/-- Do two values agree? -/
noncomputable def eqK (x y : AVal) : Bool :=
  @AVal.casesOn (fun _ => Bool) x (beqV x y) (fun _ => beqV x y) (fun kd a => @AVal.casesOn (fun _ => Bool) y (beqV x y) (fun _ => beqV x y) (fun kd' b => ifK (Nat.beq (kdN kd) (kdN kd')) (nnK a b (fun m n => Nat.beq m n) (beqV x y))) (fun _ => beqV x y)
    (fun _ _ _ => beqV x y) (beqV x y) (fun _ _ _ _ _ => beqV x y) (beqV x y) (fun _ _ _ => beqV x y) (fun _ => beqV x y) (fun _ _ _ => beqV x y) (beqV x y) (fun _ _ => beqV x y) (beqV x y) (fun _ => beqV x y) (fun _ => beqV x y) (beqV x y) (fun _ => beqV x y) (fun _ => beqV x y) (fun _ _ _ _ _ _ => beqV x y)) (fun _ => beqV x y)
    (fun _ _ _ => beqV x y) (beqV x y) (fun _ _ _ _ _ => beqV x y) (beqV x y) (fun _ _ _ => beqV x y) (fun _ => beqV x y) (fun _ _ _ => beqV x y) (beqV x y) (fun _ _ => beqV x y) (beqV x y) (fun _ => beqV x y) (fun _ => beqV x y) (beqV x y) (fun _ => beqV x y) (fun _ => beqV x y) (fun _ _ _ _ _ _ => beqV x y)
theorem eqK_ok {x y : AVal} (h : eqK x y = true) : beqV x y = true := by
  cases x <;> try exact h
  rename_i kd a
  cases y <;> try exact h
  rename_i kd' b
  obtain ⟨h1, h⟩ := ifK_ok (show ifK (Nat.beq (kdN kd) (kdN kd')) (nnK a b (fun m n => Nat.beq m n) (beqV (.int kd a) (.int kd' b))) = true from h)
  obtain rfl := kdN_inj h1
  rcases nnK_ok h with ⟨m, n, e1, e2, h⟩ | h
  · have := Nat.eq_of_beq_eq_true h
    rw [e1, e2, this]; exact beqV_refl _
  · exact h

noncomputable def sameK2 (G : FO) (o : AOper) (p : FF × FH) (T : FH) : Bool :=
  guardK p.1 o.guard (anyK G o.op p.1 p.2 (fun v _ => anyK G o.op p.1 T (fun u _ => eqK v u))) true
theorem sameK2_ok {G : FO} {O : Orc} (hO : OOk G O) {o : AOper} {p : FF × FH} {T : FH} {fr : Fr} {S U : St} (hf : FRel p.1 fr) (hr : HRel p.2 S) (hr' : HRel T U) (h : sameK2 G o p T = true) : sameRead O o fr S U = true := by
  rcases guardK_ok hf h with ⟨hg, h⟩ | ⟨hg, h⟩
  · obtain ⟨v, S', H', h1, _, h⟩ := anyK_ok hO _ hf hr h
    obtain ⟨u, U', T', h2, _, h⟩ := anyK_ok hO _ hf hr' h
    cases hg with
    | go hg =>
      rcases hg with hg | ⟨t, w, hg, hv⟩
      · simp only [sameRead, hg, h1, h2, sameVal]; exact eqK_ok h
      · simp only [sameRead, hg, hv, h1, h2, sameVal, if_true]; exact eqK_ok h
  · cases hg with
    | stay hg =>
      obtain ⟨t, w, hg, hv⟩ := hg
      rcases hv with hv | hv
      · simp only [sameRead, hg, hv]; cases w <;> simp
      · simp only [sameRead, hg, hv]

noncomputable def allK {α : Type} (g : α → Bool) : List α → Bool := @List.rec α (fun _ => Bool) true (fun a _ ih => @Bool.rec (fun _ => Bool) false ih (g a))
theorem allK_ok {α : Type} {g : α → Bool} : ∀ {l : List α}, allK g l = true → ∀ a ∈ l, g a = true
  | [], _, a, ha => by simp at ha
  | b :: l, h, a, ha => by
    rcases bif_eq (show @Bool.rec (fun _ => Bool) false (allK g l) (g b) = true from h) with ⟨h1, h2⟩ | ⟨_, h2⟩
    · rcases List.mem_cons.1 ha with rfl | ha
      · exact h1
      · exact allK_ok h2 a ha
    · exact Bool.noConfusion h2

noncomputable def chkK (G : FO) (ops : List AOper) (tr : List (FF × FH)) (l : List (Nat × List Nat)) : Bool :=
  allK (fun p => allK (fun e => lnthK ops p.1 (fun o => lnthK tr p.1 (fun a => lnthK tr (@Bool.rec (fun _ => Nat) e (Nat.succ e) (Nat.ble (Nat.succ p.1) e)) (fun b => sameK2 G o a b.2)))) p.2) l

theorem chkK_ok {G : FO} {O : Orc} (hO : OOk G O) {ops : List AOper} {tr : List (FF × FH)} {l : List (Nat × List Nat)} {fr : Fr} {S : St} (ht : TRel tr (trL O ops fr S)) (h : chkK G ops tr l = true) :
    stable O (some l) ops fr S = true := by
  cases l with
  | nil => rfl
  | cons q l =>
    simp only [stable]
    rw [List.all_eq_true]
    rintro ⟨i, es⟩ hp
    rw [List.all_eq_true]
    intro e he
    have h1 := allK_ok (allK_ok h (i, es) hp) e he
    obtain ⟨o, h2, h1⟩ := lnthK_ok _ _ _ h1
    obtain ⟨a, h3, h1⟩ := lnthK_ok _ _ _ h1
    obtain ⟨b, h4, h1⟩ := lnthK_ok _ _ _ h1
    have he' : (@Bool.rec (fun _ => Nat) e (Nat.succ e) (Nat.ble (Nat.succ i) e)) = (if i < e then e + 1 else e) := by
      rw [ble_dec]
      by_cases hlt : i < e
      · rw [if_pos hlt, decide_eq_true (show i + 1 ≤ e from hlt)]
      · rw [if_neg hlt, decide_eq_false (show ¬ i + 1 ≤ e from hlt)]
    replace h4 := (congrArg (fun x => tr[x]?) he').symm.trans h4
    obtain ⟨qa, h5, h6, h7⟩ := ht _ _ h3
    obtain ⟨qb, h8, _, h9⟩ := ht _ _ h4
    simp only [h2, h5, h8]
    exact sameK2_ok hO h6 h7 h9 h1

noncomputable def junkK : List (Nat × List Nat) → List AOper → FF → (FF → Bool) → Bool :=
  @List.rec (Nat × List Nat) (fun _ => List AOper → FF → (FF → Bool) → Bool) (fun _ f k => k f)
    (fun p _ ih ops f k => @List.rec Nat (fun _ => Bool) (@Option.rec Nat (fun _ => Bool) (ih ops f k) (fun t => setV f t .junk (fun f' => ih ops f' k)) ((ops[p.1]?).bind (·.dst))) (fun _ _ _ => ih ops f k) p.2)
theorem junkK_ok : ∀ (l : List (Nat × List Nat)) (ops : List AOper) {f : FF} {fr : Fr} {k : FF → Bool}, FRel f fr → junkK l ops f k = true → ∃ f', FRel f' (junkL l ops fr) ∧ k f' = true
  | [], ops, f, fr, k, hf, h => ⟨f, hf, h⟩
  | (j, []) :: l, ops, f, fr, k, hf, h => by
    have h : @Option.rec Nat (fun _ => Bool) (junkK l ops f k) (fun t => setV f t .junk (fun f' => junkK l ops f' k)) ((ops[j]?).bind (·.dst)) = true := h
    simp only [junkL]
    cases ho : (ops[j]?).bind (·.dst) with
    | none => rw [ho] at h; exact junkK_ok l ops hf h
    | some t =>
      rw [ho] at h
      obtain ⟨f1, h1, h⟩ := setV_ok hf (show setV f t .junk (fun f' => junkK l ops f' k) = true from h)
      exact junkK_ok l ops h1 h
  | (j, a :: es) :: l, ops, f, fr, k, hf, h => junkK_ok l ops hf (show junkK l ops f k = true from h)

abbrev CK2 := FF → FH → (Ex → FF → FH → Bool) → Bool
def COk (g : CK2) (m : Fr → St → Option Out) : Prop := ∀ f fr H S k, FRel f fr → HRel H S → g f H k = true → ∃ e f' fr' H' S', m fr S = some (e, fr', S') ∧ FRel f' fr' ∧ HRel H' S' ∧ k e f' H' = true

noncomputable def exK (e : Ex) (n : Bool) (x : Nat → Bool) (r : Bool) : Bool := @Ex.rec (fun _ => Bool) n x r e

noncomputable def cRegion (G : FO) (d : Option (List (Nat × List Nat))) (ops : List AOper) : CK2 := fun f H k =>
  @Option.rec (List (Nat × List Nat)) (fun _ => Bool) (opsK G ops f H (k .normal)) (fun l => @List.rec (Nat × List Nat) (fun _ => Bool) (opsK G ops f H (k .normal))
    (fun _ _ _ => junkK l ops f (fun f1 => trK G ops f1 H (fun tr f2 H2 => ifK (chkK G ops tr l) (k .normal f2 H2)))) l) d
theorem cRegion_ok {G : FO} {O : Orc} (hO : OOk G O) (n : Nat) (d : Option (List (Nat × List Nat))) (ops : List AOper) : COk (cRegion G d ops) (evC O n (.region d ops)) := fun f fr H S k hf hr h => by
  have plain : ∀ d, (stable O d ops fr S = true) → junkA d ops fr = fr → opsK G ops f H (k .normal) = true → ∃ e f' fr' H' S', evC O n (.region d ops) fr S = some (e, fr', S') ∧ FRel f' fr' ∧ HRel H' S' ∧ k e f' H' = true := by
    intro d hs hj h
    obtain ⟨f', fr', H', S', h1, h2, h3, h⟩ := opsK_ok hO ops hf hr h
    exact ⟨.normal, f', fr', H', S', by simp only [evC, hj, h1]; rw [if_pos hs], h2, h3, h⟩
  cases d with
  | none => exact plain none rfl rfl h
  | some l =>
    cases l with
    | nil => exact plain (some []) rfl rfl h
    | cons q l =>
      obtain ⟨f1, h1, h⟩ := junkK_ok (q :: l) ops hf (show junkK (q :: l) ops f (fun f1 => trK G ops f1 H (fun tr f2 H2 => ifK (chkK G ops tr (q :: l)) (k .normal f2 H2))) = true from h)
      obtain ⟨tr, f2, fr2, H2, S2, h2, ht, h3, h4, h⟩ := trK_ok hO ops h1 hr h
      obtain ⟨hc, h⟩ := ifK_ok h
      have hs := chkK_ok hO ht hc
      exact ⟨.normal, f2, fr2, H2, S2, by simp only [evC, show junkA (some (q :: l)) ops fr = junkL (q :: l) ops fr from rfl, h2]; rw [if_pos hs], h3, h4, h⟩

noncomputable def cSeq (a b : CK2) : CK2 := fun f H k => a f H (fun e f1 H1 => @Ex.rec (fun _ => Bool) (b f1 H1 k) (fun id => k (.exit id) f1 H1) (k .ret f1 H1) e)
theorem cSeq_ok {O : Orc} {n : Nat} {a b : ACode} {x y : CK2} (hx : COk x (evC O n a)) (hy : COk y (evC O n b)) : COk (cSeq x y) (evC O n (.seq a b)) := fun f fr H S k hf hr h => by
  obtain ⟨e, f1, fr1, H1, S1, h1, h2, h3, h⟩ := hx _ _ _ _ _ hf hr h
  cases e with
  | normal =>
    obtain ⟨e, f2, fr2, H2, S2, h4, h5, h6, h⟩ := hy _ _ _ _ _ h2 h3 h
    exact ⟨e, f2, fr2, H2, S2, by simp only [evC, h1]; exact h4, h5, h6, h⟩
  | exit id => exact ⟨_, f1, fr1, H1, S1, by simp only [evC, h1], h2, h3, h⟩
  | ret => exact ⟨_, f1, fr1, H1, S1, by simp only [evC, h1], h2, h3, h⟩

noncomputable def cCond (c : Arg) (a b : CK2) : CK2 := fun f H k => argK f c (fun v => asBool v (fun t => @Bool.rec (fun _ => Bool) (b f H k) (a f H k) t))
theorem cCond_ok {O : Orc} {n : Nat} {c : Arg} {a b : ACode} {x y : CK2} (hx : COk x (evC O n a)) (hy : COk y (evC O n b)) : COk (cCond c x y) (evC O n (.cond c a b)) := fun f fr H S k hf hr h => by
  rw [cCond, argK_eq hf] at h
  obtain ⟨t, e0, h⟩ := asBool_ok h
  cases t with
  | true =>
    obtain ⟨e, f1, fr1, H1, S1, h1, h2⟩ := hx _ _ _ _ _ hf hr h
    exact ⟨e, f1, fr1, H1, S1, by simp only [evC, e0, if_true]; exact h1, h2⟩
  | false =>
    obtain ⟨e, f1, fr1, H1, S1, h1, h2⟩ := hy _ _ _ _ _ hf hr h
    exact ⟨e, f1, fr1, H1, S1, by simp only [evC, e0]; exact h1, h2⟩

noncomputable def cBlock (id : Nat) (a : CK2) : CK2 := fun f H k => a f H (fun e f1 H1 => @Ex.rec (fun _ => Bool) (k .normal f1 H1) (fun id' => @Bool.rec (fun _ => Bool) (k (.exit id') f1 H1) (k .normal f1 H1) (Nat.beq id' id)) (k .ret f1 H1) e)
theorem cBlock_ok {O : Orc} {n : Nat} {id : Nat} {a : ACode} {x : CK2} (hx : COk x (evC O n a)) : COk (cBlock id x) (evC O n (.block id a)) := fun f fr H S k hf hr h => by
  obtain ⟨e, f1, fr1, H1, S1, h1, h2, h3, h⟩ := hx _ _ _ _ _ hf hr h
  cases e with
  | normal => exact ⟨_, f1, fr1, H1, S1, by simp only [evC, h1], h2, h3, h⟩
  | ret => exact ⟨_, f1, fr1, H1, S1, by simp only [evC, h1], h2, h3, h⟩
  | exit id' =>
    rcases bif_eq (show @Bool.rec (fun _ => Bool) (k (.exit id') f1 H1) (k .normal f1 H1) (Nat.beq id' id) = true from h) with ⟨hc, h⟩ | ⟨hc, h⟩
    · have hc := Nat.eq_of_beq_eq_true hc
      exact ⟨_, f1, fr1, H1, S1, by simp only [evC, h1, if_pos hc], h2, h3, h⟩
    · have hc : ¬ id' = id := fun e => by rw [e, Nat.beq_refl] at hc; exact Bool.noConfusion hc
      exact ⟨_, f1, fr1, H1, S1, by simp only [evC, h1, if_neg hc], h2, h3, h⟩

noncomputable def iterK (a : CK2) : Nat → CK2 :=
  @Nat.rec (fun _ => CK2) (fun _ _ _ => false) (fun _ ih f H k => a f H (fun e f1 H1 => @Ex.rec (fun _ => Bool) (ih f1 H1 k) (fun id => k (.exit id) f1 H1) (k .ret f1 H1) e))
theorem iterK_ok {x : CK2} {m : Fr → St → Option Out} (hx : COk x m) : ∀ n, COk (iterK x n) (iter m n)
  | 0, _, _, _, _, _, _, _, h => Bool.noConfusion h
  | n + 1, f, fr, H, S, k, hf, hr, h => by
    obtain ⟨e, f1, fr1, H1, S1, h1, h2, h3, h⟩ := hx _ _ _ _ _ hf hr (show x f H (fun e f1 H1 => @Ex.rec (fun _ => Bool) (iterK x n f1 H1 k) (fun id => k (.exit id) f1 H1) (k .ret f1 H1) e) = true from h)
    cases e with
    | normal =>
      obtain ⟨e, f2, fr2, H2, S2, h4, h5⟩ := iterK_ok hx n _ _ _ _ _ h2 h3 h
      exact ⟨e, f2, fr2, H2, S2, by simp only [iter, h1]; exact h4, h5⟩
    | exit id => exact ⟨_, f1, fr1, H1, S1, by simp only [iter, h1], h2, h3, h⟩
    | ret => exact ⟨_, f1, fr1, H1, S1, by simp only [iter, h1], h2, h3, h⟩

/-- Loops over functions. -/
noncomputable def lpK (H : FH) (j : Nat) (k : LoopState → Option Ex → Bool) : Bool := blkK H j (fun b => @FB.rec (fun _ => Bool) false (fun _ _ _ => false) k (fun _ _ => false) b)
theorem lpK_ok {H : FH} {S : St} {j : Nat} {k : LoopState → Option Ex → Bool} (hr : HRel H S) (h : lpK H j k = true) : ∃ st pe, H.t.get j = some (.loop st pe) ∧ S[j]? = some (.loop st pe) ∧ k st pe = true := by
  obtain ⟨b, h0, h1, h2, h⟩ := blkK_ok hr h
  cases b <;> first | exact Bool.noConfusion h | exact ⟨_, _, h0, h1, h⟩

/-- Is it ready, and nothing is left to do? -/
noncomputable def rdyK (H : FH) (j : Nat) (k : Bool) : Bool := lpK H j (fun st pe => @LoopState.rec (fun _ => Bool) (@Option.rec Ex (fun _ => Bool) k (fun _ => false) pe) false false false st)
theorem rdyK_ok {H : FH} {S : St} {j : Nat} {k : Bool} (hr : HRel H S) (h : rdyK H j k = true) : H.t.get j = some (.loop .ready none) ∧ S[j]? = some (.loop .ready none) ∧ k = true := by
  obtain ⟨st, pe, h0, h1, h⟩ := lpK_ok hr h
  cases st <;> try (exact Bool.noConfusion h)
  cases pe
  · exact ⟨h0, h1, h⟩
  · exact Bool.noConfusion h
noncomputable def bsyK (H : FH) (j : Nat) (k : Bool) : Bool := lpK H j (fun st pe => @LoopState.rec (fun _ => Bool) false (@Option.rec Ex (fun _ => Bool) k (fun _ => false) pe) false false st)
theorem bsyK_ok {H : FH} {S : St} {j : Nat} {k : Bool} (hr : HRel H S) (h : bsyK H j k = true) : H.t.get j = some (.loop .busy none) ∧ S[j]? = some (.loop .busy none) ∧ k = true := by
  obtain ⟨st, pe, h0, h1, h⟩ := lpK_ok hr h
  cases st <;> try (exact Bool.noConfusion h)
  cases pe
  · exact ⟨h0, h1, h⟩
  · exact Bool.noConfusion h

noncomputable def bindK : List Nat → List AVal → FF → (FF → Bool) → Bool :=
  @List.rec Nat (fun _ => List AVal → FF → (FF → Bool) → Bool) (fun l f k => @List.rec AVal (fun _ => Bool) (k f) (fun _ _ _ => false) l)
    (fun t _ ih l f k => @List.rec AVal (fun _ => Bool) false (fun v r _ => setV f t v (fun f' => ih r f' k)) l)
theorem bindK_ok : ∀ (ps : List Nat) (args : List AVal) {f : FF} {fr : Fr} {k : FF → Bool}, FRel f fr → bindK ps args f k = true → args.length = ps.length ∧ ∃ f', FRel f' ((ps.zip args).foldl (fun f (t, v) => f.set t v) fr) ∧ k f' = true
  | [], [], f, fr, k, hf, h => ⟨rfl, f, hf, h⟩
  | [], a :: l, f, fr, k, hf, h => Bool.noConfusion h
  | t :: ps, [], f, fr, k, hf, h => Bool.noConfusion h
  | t :: ps, v :: l, f, fr, k, hf, h => by
    obtain ⟨f1, h1, h⟩ := setV_ok hf (show setV f t v (fun f' => bindK ps l f' k) = true from h)
    obtain ⟨h2, f2, h3, h⟩ := bindK_ok ps l h1 h
    exact ⟨by simp [h2], f2, h3, h⟩

noncomputable def rndK (asn body : CK2) (ps : List Nat) (f : FF) (j : Nat) : FM := fun args H k =>
  rdyK H j (bindK ps args f (fun f0 => asn f0 H (fun e f1 H1 => exK e
    (rdyK H1 j (setB H1 j (.loop .busy none) (fun H1 => body f1 H1 (fun e _ H2 => bsyK H2 j (@Ex.rec (fun _ => Bool)
      (setB H2 j (.loop .ready none) (fun H3 => k (.bool true) H3)) (fun id => setB H2 j (.loop .done (some (.exit id))) (fun H3 => k (.bool false) H3)) (setB H2 j (.loop .done (some .ret)) (fun H3 => k (.bool false) H3)) e)))))
    (fun _ => false) false)))
theorem rndK_ok {asn body : CK2} {ma mb : Fr → St → Option Out} (ha : COk asn ma) (hb : COk body mb) (ps : List Nat) {f : FF} {fr : Fr} (hf : FRel f fr) (j : Nat) : FOk (rndK asn body ps f j) (rnd ma mb ps fr j) := fun args H S k hr h => by
  obtain ⟨h0, h1, h⟩ := rdyK_ok hr h
  obtain ⟨hl, f0, hf0, h⟩ := bindK_ok ps args hf h
  obtain ⟨e, f1, fr1, H1, S1, h2, h3, h4, h⟩ := ha _ _ _ _ _ hf0 hr h
  cases e <;> try (exact Bool.noConfusion h)
  obtain ⟨h5, h6, h⟩ := rdyK_ok h4 h
  obtain ⟨H1', h7, _, h⟩ := setB_ok h4 h5 (b := .loop .busy none) trivial h
  obtain ⟨e, f2, fr2, H2, S2, h8, h9, h10, h⟩ := hb _ _ _ _ _ h3 h7 h
  obtain ⟨h11, h12, h⟩ := bsyK_ok h10 h
  have h8 : mb fr1 (S1.set j (.loop .busy none)) = some (e, fr2, S2) := h8
  cases e with
  | normal =>
    obtain ⟨H3, h13, _, h⟩ := setB_ok h10 h11 (b := .loop .ready none) trivial h
    exact ⟨_, _, H3, by simp only [rnd, if_pos hl, h1, h2, h6, h8, h12]; rfl, h13, h⟩
  | exit id =>
    obtain ⟨H3, h13, _, h⟩ := setB_ok h10 h11 (b := .loop .done (some (.exit id))) trivial h
    exact ⟨_, _, H3, by simp only [rnd, if_pos hl, h1, h2, h6, h8, h12]; rfl, h13, h⟩
  | ret =>
    obtain ⟨H3, h13, _, h⟩ := setB_ok h10 h11 (b := .loop .done (some .ret)) trivial h
    exact ⟨_, _, H3, by simp only [rnd, if_pos hl, h1, h2, h6, h8, h12]; rfl, h13, h⟩

noncomputable def endK (f : FF) (j : Nat) (k : Ex → FF → FH → Bool) (H : FH) : Bool := lpK H j (fun st pe => @LoopState.rec (fun _ => Bool)
  (@Option.rec Ex (fun _ => Bool) (setB H j (.loop .exhausted none) (fun H' => k .normal ⟨f.t, j :: f.m⟩ H')) (fun _ => false) pe) false
  (@Option.rec Ex (fun _ => Bool) false (fun e => @Ex.rec (fun _ => Bool) false (fun id => setB H j (.loop .exhausted (some (.exit id))) (fun H' => k (.exit id) ⟨f.t, j :: f.m⟩ H')) (setB H j (.loop .exhausted (some .ret)) (fun H' => k .ret ⟨f.t, j :: f.m⟩ H')) e) pe) false st)
theorem FRel.mark {f : FF} {fr : Fr} (hf : FRel f fr) (j : Nat) : FRel ⟨f.t, j :: f.m⟩ ((markBase + j, .junk) :: fr) := by
  refine ⟨fun n => ?_, hf.high, ?_⟩
  · simp only [Fr.get]
    split
    · rename_i he; rw [he, hf.high _ (Nat.le_add_right _ _)]; rfl
    · exact hf.get n
  · have := hf.marks
    simp only [Am.marks, List.filterMap_cons] at this ⊢
    rw [if_pos (Nat.le_add_right _ _), this]; simp
theorem endK_ok {f : FF} {fr : Fr} {j : Nat} {k : Ex → FF → FH → Bool} {H : FH} {S : St} {v : AVal} (hf : FRel f fr) (hr : HRel H S) (h : endK f j k H = true) :
    ∃ e f' fr' H' S', rngEnd fr j (some (v, S)) = some (e, fr', S') ∧ FRel f' fr' ∧ HRel H' S' ∧ k e f' H' = true := by
  obtain ⟨st, pe, h0, h1, h⟩ := lpK_ok hr h
  cases st <;> try (exact Bool.noConfusion h)
  · cases pe with
    | some e => exact Bool.noConfusion h
    | none =>
      obtain ⟨H', h2, _, h⟩ := setB_ok hr h0 (b := .loop .exhausted none) trivial h
      exact ⟨_, _, _, H', _, by simp only [rngEnd, h1]; rfl, hf.mark j, h2, h⟩
  · cases pe with
    | none => exact Bool.noConfusion h
    | some e =>
      cases e with
      | normal => exact Bool.noConfusion h
      | exit id =>
        obtain ⟨H', h2, _, h⟩ := setB_ok hr h0 (b := .loop .exhausted (some (.exit id))) trivial h
        exact ⟨_, _, _, H', _, by simp only [rngEnd, h1]; rfl, hf.mark j, h2, h⟩
      | ret =>
        obtain ⟨H', h2, _, h⟩ := setB_ok hr h0 (b := .loop .exhausted (some .ret)) trivial h
        exact ⟨_, _, _, H', _, by simp only [rngEnd, h1]; rfl, hf.mark j, h2, h⟩

noncomputable def cRange (G : FO) (g : Arg) (ps : List Nat) (asn body : CK2) : CK2 := fun f H k => argK f g (fun v => asFn v (fun i a b => @List.rec Nat (fun _ => Bool)
  (pushB H (.loop .ready none) (fun H1 => G.itr i (fun j args H' k' => @Bool.rec (fun _ => Bool) false (rndK asn body ps f j args H' k') (Nat.beq j H.n)) (a ++ [.yld H.n] ++ b) H1 (fun _ H2 => endK f H.n k H2)))
  (fun _ _ _ => false) f.m) (fun _ => false))
theorem cRange_ok {G : FO} {O : Orc} (hO : OOk G O) {n : Nat} {g : Arg} {ps : List Nat} {a b : ACode} {x y : CK2} (hx : COk x (evC O n a)) (hy : COk y (evC O n b)) : COk (cRange G g ps x y) (evC O n (.range g ps a b)) := fun f fr H S k hf hr h => by
  rw [cRange, argK_eq hf] at h
  rcases asFn_ok h with ⟨i, c, d, e, h⟩ | ⟨_, _, h⟩
  · cases hm : f.m with
    | cons q l => rw [hm] at h; exact Bool.noConfusion h
    | nil =>
      rw [hm] at h
      obtain ⟨H1, h1, _, h⟩ := pushB_ok hr (b := .loop .ready none) trivial h
      have hY : ∀ j, FOk (fun args H' k' => @Bool.rec (fun _ => Bool) false (rndK x y ps f j args H' k') (Nat.beq j H.n)) (fun args S' => if j = S.length then rnd (evC O n a) (evC O n b) ps fr j args S' else none) := by
        intro j args H' S' k' hr' h'
        rcases bif_eq h' with ⟨hc, h'⟩ | ⟨_, h'⟩
        · have hc := Nat.eq_of_beq_eq_true hc
          obtain ⟨v, S2, H2, g1, g2⟩ := rndK_ok hx hy ps hf j args H' S' k' hr' h'
          exact ⟨v, S2, H2, by show (if j = S.length then _ else none) = _; rw [if_pos (by rw [hc, hr.len])]; exact g1, g2⟩
        · exact Bool.noConfusion h'
      obtain ⟨v, S2, H2, h2, h3, h⟩ := hO.itr i _ _ hY _ _ _ _ h1 h
      obtain ⟨e', f3, fr3, H3, S3, h4, h5⟩ := endK_ok (v := v) hf h3 h
      refine ⟨e', f3, fr3, H3, S3, ?_, h5⟩
      have hmk : Am.marks fr = [] := by rw [hf.marks, hm]
      simp only [evC, e, hmk]
      rw [hr.len]
      rw [hr.len] at h2
      have h2 : O.itr i (fun j args S' => if j = H.n then rnd (evC O n a) (evC O n b) ps fr j args S' else none) (c ++ [.yld H.n] ++ d) (S ++ [.loop .ready none]) = some (v, S2) := h2
      rw [h2]; exact h4
  · exact Bool.noConfusion h

noncomputable def codeK (G : FO) (n : Nat) : ACode → CK2 :=
  @ACode.rec (fun _ => CK2) (fun f H k => k .normal f H) (cRegion G) (fun _ _ x y => cSeq x y) (fun c _ _ x y => cCond c x y) (fun id _ x => cBlock id x) (fun _ x => iterK x n) (fun g ps _ _ x y => cRange G g ps x y)
    (fun id f H k => k (.exit id) f H) (fun f H k => k .ret f H)
theorem codeK_ok {G : FO} {O : Orc} (hO : OOk G O) (n : Nat) : ∀ c, COk (codeK G n c) (evC O n c)
  | .skip, f, fr, H, S, k, hf, hr, h => ⟨_, f, fr, H, S, rfl, hf, hr, h⟩
  | .region d ops, f, fr, H, S, k, hf, hr, h => cRegion_ok hO n d ops f fr H S k hf hr h
  | .seq a b, f, fr, H, S, k, hf, hr, h => cSeq_ok (codeK_ok hO n a) (codeK_ok hO n b) f fr H S k hf hr h
  | .cond c a b, f, fr, H, S, k, hf, hr, h => cCond_ok (codeK_ok hO n a) (codeK_ok hO n b) f fr H S k hf hr h
  | .block id a, f, fr, H, S, k, hf, hr, h => cBlock_ok (codeK_ok hO n a) f fr H S k hf hr h
  | .loop a, f, fr, H, S, k, hf, hr, h => by
    obtain ⟨e, f1, fr1, H1, S1, h1, h2⟩ := iterK_ok (codeK_ok hO n a) n f fr H S k hf hr h
    exact ⟨e, f1, fr1, H1, S1, by simp only [evC]; exact h1, h2⟩
  | .range g ps a b, f, fr, H, S, k, hf, hr, h => cRange_ok hO (codeK_ok hO n a) (codeK_ok hO n b) f fr H S k hf hr h
  | .exit id, f, fr, H, S, k, hf, hr, h => ⟨_, f, fr, H, S, rfl, hf, hr, h⟩
  | .ret, f, fr, H, S, k, hf, hr, h => ⟨_, f, fr, H, S, rfl, hf, hr, h⟩

/-- Results. -/
noncomputable def resK (f : FF) (H : FH) (r : Nat ⊕ (Nat × Option Nat)) (k : AVal → Bool) : Bool :=
  @Sum.rec Nat (Nat × Option Nat) (fun _ => Bool) (fun t => getV f t k)
    (fun p => getV f p.1 (fun v => asPtr v (fun r ver off => cellsK H r ver (fun _ t => partTK p.2 off t k)) (fun c => partLK p.2 (nat_lit 0) c k))) r
theorem resK_ok {f : FF} {fr : Fr} {H : FH} {S : St} {r : Nat ⊕ (Nat × Option Nat)} {k : AVal → Bool} (hf : FRel f fr) (hr : HRel H S) (h : resK f H r k = true) : ∃ v, resA fr S r = some v ∧ k v = true := by
  cases r with
  | inl t => exact ⟨_, rfl, by rw [← getV_eq hf t k]; exact h⟩
  | inr p =>
    obtain ⟨t, n⟩ := p
    have h : getV f t (fun v => asPtr v (fun r ver off => cellsK H r ver (fun _ t => partTK n off t k)) (fun c => partLK n 0 c k)) = true := h
    rw [getV_eq hf] at h
    rcases asPtr_ok h with ⟨r, ver, off, e, h⟩ | ⟨c, e, h⟩
    · obtain ⟨t', _, h1, h2, h⟩ := cellsK_ok hr h
      obtain ⟨u, h3, h⟩ := partTK_ok h2 h
      exact ⟨u, by simp only [resA, e, loadA, h1, if_true, h3], h⟩
    · obtain ⟨u, h3, h⟩ := partLK_ok h
      exact ⟨u, by simp only [resA, e, loadA, h3], h⟩

noncomputable def ressK (f : FF) (H : FH) : List (Nat ⊕ (Nat × Option Nat)) → (List AVal → Bool) → Bool :=
  @List.rec _ (fun _ => (List AVal → Bool) → Bool) (fun k => k []) (fun r _ ih k => resK f H r (fun v => ih (fun l => k (v :: l))))
theorem ressK_ok {f : FF} {fr : Fr} {H : FH} {S : St} (hf : FRel f fr) (hr : HRel H S) : ∀ (l : List (Nat ⊕ (Nat × Option Nat))) {k : List AVal → Bool}, ressK f H l k = true → ∃ vs, l.mapM (resA fr S) = some vs ∧ k vs = true
  | [], k, h => ⟨[], rfl, h⟩
  | r :: l, k, h => by
    obtain ⟨v, h1, h⟩ := resK_ok hf hr (show resK f H r (fun v => ressK f H l (fun l => k (v :: l))) = true from h)
    obtain ⟨vs, h2, h⟩ := ressK_ok hf hr l h
    exact ⟨v :: vs, by rw [List.mapM_cons, h1, h2]; rfl, h⟩

noncomputable def resultsK (f : FF) (H : FH) (l : List (Nat ⊕ (Nat × Option Nat))) (k : AVal → Bool) : Bool :=
  @List.rec _ (fun _ => Bool) (k (.tup [])) (fun r l' _ => @List.rec _ (fun _ => Bool) (resK f H r k) (fun _ _ _ => ressK f H l (fun vs => k (.tup vs))) l') l
theorem resultsK_ok {f : FF} {fr : Fr} {H : FH} {S : St} {l : List (Nat ⊕ (Nat × Option Nat))} {k : AVal → Bool} (hf : FRel f fr) (hr : HRel H S) (h : resultsK f H l k = true) : ∃ v, resultsA fr S l = some v ∧ k v = true := by
  match l, h with
  | [], h => exact ⟨.tup [], rfl, h⟩
  | [r], h => exact resK_ok hf hr h
  | r :: r' :: l, h =>
    obtain ⟨vs, h1, h⟩ := ressK_ok hf hr (r :: r' :: l) (show ressK f H (r :: r' :: l) (fun vs => k (.tup vs)) = true from h)
    exact ⟨.tup vs, by simp only [resultsA, h1]; rfl, h⟩

noncomputable def shutK : List Nat → FH → (FH → Bool) → Bool :=
  @List.rec Nat (fun _ => FH → (FH → Bool) → Bool) (fun H k => k H) (fun j _ ih H k => lpK H j (fun _ _ => setB H j .dead (fun H' => ih H' k)))
theorem shutK_ok : ∀ (l : List Nat) {H : FH} {S : St} {k : FH → Bool}, HRel H S → shutK l H k = true → ∃ H' S', shut l S = some S' ∧ HRel H' S' ∧ k H' = true
  | [], H, S, k, hr, h => ⟨H, S, rfl, hr, h⟩
  | j :: l, H, S, k, hr, h => by
    obtain ⟨st, pe, h0, h1, h⟩ := lpK_ok hr (show lpK H j (fun _ _ => setB H j .dead (fun H' => shutK l H' k)) = true from h)
    obtain ⟨H1, h2, _, h⟩ := setB_ok hr h0 (b := .dead) trivial h
    obtain ⟨H2, S2, h3, h4⟩ := shutK_ok l h2 h
    exact ⟨H2, S2, by simp only [shut, h1]; exact h3, h4⟩

/-- A frame of arguments. -/
noncomputable def framK : List AVal → Nat → FF → (FF → Bool) → Bool :=
  @List.rec AVal (fun _ => Nat → FF → (FF → Bool) → Bool) (fun _ f k => k f) (fun v _ ih i f k => setV f i v (fun f' => ih (Nat.succ i) f' k))

theorem framK_ok : ∀ (l : List AVal) (i : Nat) {f : FF} {k : FF → Bool}, (∀ n, markBase ≤ n → f.t.get n = none) → f.m = [] → framK l i f k = true →
    ∃ f', (∀ n, f'.t.get n = if i ≤ n ∧ n < i + l.length then l[n - i]? else f.t.get n) ∧ (∀ n, markBase ≤ n → f'.t.get n = none) ∧ f'.m = [] ∧ i + l.length ≤ max i markBase ∧ k f' = true
  | [], i, f, k, hh, hm, h => ⟨f, fun n => by simp; omega, hh, hm, by simp; omega, h⟩
  | v :: l, i, f, k, hh, hm, h => by
    have h : setV f i v (fun f' => framK l (i + 1) f' k) = true := h
    rcases bif_eq h with ⟨hc, h⟩ | ⟨_, h⟩
    · have hd : i < markBase := Nat.lt_of_le_of_lt (Nat.le_of_ble_eq_true hc) (by decide)
      obtain ⟨t, h1, h2⟩ := setK_ok _ _ _ _ _ h
      obtain ⟨f', h3, h4, h5, h6, h7⟩ := framK_ok l (i + 1) (f := ⟨t, f.m⟩) (fun n hn => by show t.get n = none; rw [h2, if_neg (by omega)]; exact hh n hn) hm h1
      refine ⟨f', fun n => ?_, h4, h5, by simp only [List.length_cons]; omega, h7⟩
      rw [h3]
      show (if _ then _ else t.get n) = _
      rw [h2]
      by_cases hn : n = i
      · subst hn
        rw [if_neg (by omega), if_pos rfl, if_pos (by simp only [List.length_cons]; omega)]; simp
      · by_cases hn2 : i + 1 ≤ n ∧ n < i + 1 + l.length
        · rw [if_pos hn2, if_pos (by simp only [List.length_cons]; omega)]
          obtain ⟨j, hj⟩ : ∃ j, n - i = j + 1 := ⟨n - i - 1, by omega⟩
          rw [hj, List.getElem?_cons_succ, show n - (i + 1) = j by omega]
        · rw [if_neg hn2, if_neg hn, if_neg (by simp only [List.length_cons]; omega)]
    · exact Bool.noConfusion h

theorem get_zip (l : List AVal) : ∀ (i n : Nat), Fr.get ((l.zipIdx i).map fun (v, i) => (i, v)) n = if i ≤ n then (l[n - i]?).getD .junk else .junk := by
  induction l with
  | nil => intro i n; simp [Fr.get]
  | cons v l ih =>
    intro i n
    simp only [List.zipIdx_cons, List.map_cons, Fr.get, ih]
    by_cases h : n = i
    · subst h; simp
    · rw [if_neg h]
      by_cases h2 : i + 1 ≤ n
      · rw [if_pos h2, if_pos (by omega)]
        obtain ⟨j, hj⟩ : ∃ j, n - i = j + 1 := ⟨n - i - 1, by omega⟩
        rw [hj, List.getElem?_cons_succ, show n - (i + 1) = j by omega]
      · rw [if_neg h2, if_neg (by omega)]
theorem marks_zip (l : List AVal) : ∀ (i : Nat), i + l.length ≤ markBase → Am.marks ((l.zipIdx i).map fun (v, i) => (i, v)) = [] := by
  induction l with
  | nil => intro i _; rfl
  | cons v l ih =>
    intro i h
    simp only [List.length_cons] at h
    have := ih (i + 1) (by omega)
    simp only [Am.marks] at this
    simp only [List.zipIdx_cons, List.map_cons, Am.marks, List.filterMap_cons, if_neg (show ¬ markBase ≤ i by omega)]
    exact this

noncomputable def funK (G : FO) (n : Nat) (F : AFun) : FM := fun args H k =>
  ifK (Nat.beq (lenL args) F.params) (framK args (nat_lit 0) ⟨.nil, []⟩ (fun f => codeK G n F.body f H (fun e f H => exK e
    (@Bool.rec (fun _ => Bool) (resultsK f H F.results (fun v => k v H)) (shutK f.m H (fun H => resultsK f H F.results (fun v => k v H))) F.rng) (fun _ => false)
    (@Bool.rec (fun _ => Bool) (resultsK f H F.results (fun v => k v H)) (shutK f.m H (fun H => resultsK f H F.results (fun v => k v H))) F.rng))))
theorem funK_ok {G : FO} {O : Orc} (hO : OOk G O) (n : Nat) (F : AFun) : FOk (funK G n F) (evF O n F) := fun args H S k hr h => by
  obtain ⟨h0, h⟩ := ifK_ok h
  have h0 := Nat.eq_of_beq_eq_true h0
  rw [lenL_eq] at h0
  obtain ⟨f, h1, h2, h3, h4, h⟩ := framK_ok args 0 (f := ⟨.nil, []⟩) (fun _ _ => rfl) rfl h
  have hf : FRel f (Fr.of args) := by
    refine ⟨fun m => ?_, h2, ?_⟩
    · show Fr.get ((args.zipIdx 0).map fun (v, i) => (i, v)) m = _
      rw [get_zip, h1, if_pos (Nat.zero_le _)]
      by_cases hm : m < args.length
      · rw [if_pos ⟨Nat.zero_le _, by omega⟩]
      · rw [if_neg (by omega), List.getElem?_eq_none (by omega)]; rfl
    · rw [h3]
      exact marks_zip args 0 (by simp only [markBase] at h4 ⊢; omega)
  obtain ⟨e, f', fr', H', S', h5, h6, h7, h⟩ := codeK_ok hO n F.body f _ H S _ hf hr h
  have fin : (@Bool.rec (fun _ => Bool) (resultsK f' H' F.results (fun v => k v H')) (shutK f'.m H' (fun H => resultsK f' H F.results (fun v => k v H))) F.rng) = true →
      ∃ v S2 H2, (if F.rng = true then (match shut (Am.marks fr') S' with
        | some S'' => (resultsA fr' S'' F.results).map fun v => (v, S'')
        | none => none) else (resultsA fr' S' F.results).map fun v => (v, S')) = some (v, S2) ∧ HRel H2 S2 ∧ k v H2 = true := by
    intro h
    rcases bif_eq h with ⟨hc, h⟩ | ⟨hc, h⟩
    · obtain ⟨H2, S2, h8, h9, h⟩ := shutK_ok _ h7 h
      obtain ⟨v, h10, h⟩ := resultsK_ok h6 h9 h
      exact ⟨v, S2, H2, by rw [if_pos hc, h6.marks, h8]; simp only [h10]; rfl, h9, h⟩
    · obtain ⟨v, h10, h⟩ := resultsK_ok h6 h7 h
      exact ⟨v, S', H', by rw [if_neg (by rw [hc]; exact Bool.noConfusion), h10]; rfl, h7, h⟩
  cases e with
  | exit id => exact Bool.noConfusion h
  | normal =>
    obtain ⟨v, S2, H2, h8, h9⟩ := fin h
    exact ⟨v, S2, H2, by simp only [evF]; rw [if_pos h0, h5]; exact h8, h9⟩
  | ret =>
    obtain ⟨v, S2, H2, h8, h9⟩ := fin h
    exact ⟨v, S2, H2, by simp only [evF]; rw [if_pos h0, h5]; exact h8, h9⟩

end Am.Fz
end

/- A quick machine for the kernel: a whole program's run. -/
section
set_option linter.all false
namespace Am.Fz
open Go

/-- A table's row: code, with its callees; or a model of one's own. -/
abbrev En := (List FuncId × AFun) ⊕ FM

noncomputable def dynOf (T : Tr En) (kf : Nat) (G : List FuncId → FO) : FuncId → FM := fun g args H k =>
  getK T g false (fun e => @Sum.rec (List FuncId × AFun) FM (fun _ => Bool) (fun p => funK (G p.1) kf p.2 args H k) (fun m => m args H k) e)
noncomputable def itrOf (T : Tr En) (kf : Nat) (R : FuncId → FM) : FuncId → (Nat → FM) → FM := fun g Y args H k =>
  getK T g false (fun e => @Sum.rec (List FuncId × AFun) FM (fun _ => Bool) (fun p => funK ⟨fun i k => lnthK p.1 i (fun g => k (R g)), fun _ _ _ _ => false, fun _ _ _ _ _ => false, Y⟩ kf p.2 args H k) (fun _ => false) e)

noncomputable def runX (T : Tr En) (kf : Nat) : Nat → (FuncId → FM) × (FuncId → (Nat → FM) → FM) :=
  @Nat.rec (fun _ => (FuncId → FM) × (FuncId → (Nat → FM) → FM)) (fun _ _ _ _ => false, fun _ _ _ _ _ => false)
    (fun _ ih => (dynOf T kf (fun fs => ⟨fun i k => lnthK fs i (fun g => k (ih.1 g)), ih.1, ih.2, fun _ _ _ _ => false⟩), itrOf T kf ih.1))

structure TblRel (T : Tr En) (tbl : FuncId → Option Ent) (ovr : FuncId → Option Model) : Prop where
  code : ∀ g fs F, T.get g = some (.inl (fs, F)) → ovr g = none ∧ tbl g = some ⟨fs, F⟩
  mdl : ∀ g fm, T.get g = some (.inr fm) → ∃ m, ovr g = some m ∧ FOk fm m

theorem locOk {R : FuncId → FM} {M : FuncId → Model} (h : ∀ g, FOk (R g) (M g)) (fs : List FuncId) (i : Nat) (k : FM → Bool) (hk : lnthK fs i (fun g => k (R g)) = true) :
    ∃ g m, (fs.map M)[i]? = some m ∧ FOk g m ∧ k g = true := by
  obtain ⟨g, h1, h2⟩ := lnthK_ok _ _ _ hk
  exact ⟨R g, M g, by rw [List.getElem?_map, h1]; rfl, h g, h2⟩

theorem noneOk (m : Model) : FOk (fun _ _ _ => false) m := fun _ _ _ _ _ h => Bool.noConfusion h

theorem runX_ok {T : Tr En} {tbl : FuncId → Option Ent} {ovr : FuncId → Option Model} {kf : Nat} (hT : TblRel T tbl ovr) :
    ∀ n, (∀ g, FOk ((runX T kf n).1 g) (runM tbl ovr kf n g)) ∧ (∀ g Y Y', (∀ j, FOk (Y j) (Y' j)) → FOk ((runX T kf n).2 g Y) (runI tbl ovr kf n g Y'))
  | 0 => ⟨fun g => noneOk _, fun g Y Y' _ => noneOk _⟩
  | n + 1 => by
    obtain ⟨ih, ihI⟩ := runX_ok hT n
    refine ⟨fun g args H S k hr h => ?_, fun g Y Y' hY args H S k hr h => ?_⟩
    · have h : dynOf T kf (fun fs => ⟨fun i k => lnthK fs i (fun g => k ((runX T kf n).1 g)), (runX T kf n).1, (runX T kf n).2, fun _ _ _ _ => false⟩) g args H k = true := h
      rw [dynOf, getK_eq] at h
      cases hg : T.get g with
      | none => rw [hg] at h; exact Bool.noConfusion h
      | some e =>
        rw [hg] at h
        cases e with
        | inl p =>
          obtain ⟨fs, F⟩ := p
          obtain ⟨ho, ht⟩ := hT.code g fs F hg
          rw [runM]
          simp only [ho, ht]
          exact funK_ok (O := { loc := fs.map (runM tbl ovr kf n), dyn := runM tbl ovr kf n, itr := runI tbl ovr kf n })
            ⟨locOk ih fs, ih, ihI, fun j => noneOk _⟩ kf F args H S k hr h
        | inr fm =>
          obtain ⟨m, ho, hm⟩ := hT.mdl g fm hg
          rw [runM]
          simp only [ho]
          exact hm args H S k hr h
    · have h : itrOf T kf (runX T kf n).1 g Y args H k = true := h
      rw [itrOf, getK_eq] at h
      cases hg : T.get g with
      | none => rw [hg] at h; exact Bool.noConfusion h
      | some e =>
        rw [hg] at h
        cases e with
        | inl p =>
          obtain ⟨fs, F⟩ := p
          obtain ⟨ho, ht⟩ := hT.code g fs F hg
          rw [runI]
          simp only [ht]
          exact funK_ok (O := { loc := fs.map (runM tbl ovr kf n), dyn := fun _ _ _ => none, yld := Y' })
            ⟨locOk ih fs, fun i => noneOk _, fun i Y Y' _ => noneOk _, hY⟩ kf F args H S k hr h
        | inr fm => exact Bool.noConfusion h

/-- A run that ends in true, from nothing. -/
noncomputable def runT (T : Tr En) (kf n : Nat) (g : FuncId) : Bool := (runX T kf n).1 g [] ⟨nat_lit 0, .nil⟩ (fun v _ => asBool v (fun b => b))
theorem hrel0 : HRel ⟨0, .nil⟩ [] := ⟨rfl, fun r => by simp [Tr.get], fun r b h => by simp [Tr.get] at h⟩
theorem runT_ok {T : Tr En} {tbl : FuncId → Option Ent} {ovr : FuncId → Option Model} {kf n : Nat} {g : FuncId} (hT : TblRel T tbl ovr) (h : runT T kf n g = true) :
    ∃ S, runM tbl ovr kf n g [] [] = some (.bool true, S) := by
  obtain ⟨v, S, H, h1, _, h⟩ := (runX_ok hT n).1 g [] _ _ _ hrel0 h
  obtain ⟨b, rfl, h⟩ := asBool_ok h
  have h : b = true := h
  subst h
  exact ⟨S, h1⟩

/-- A table from a list. -/
noncomputable def tabK : List (Nat × En) → Tr En → (Tr En → Bool) → Bool :=
  @List.rec (Nat × En) (fun _ => Tr En → (Tr En → Bool) → Bool) (fun t k => k t) (fun p _ ih t k => setK (nat_lit 14) t p.1 p.2 (fun t' => ih t' k))
theorem tabK_ok : ∀ (l : List (Nat × En)) (t : Tr En) (k : Tr En → Bool), tabK l t k = true → ∃ t', k t' = true ∧ ∀ g e, t'.get g = some e → (g, e) ∈ l ∨ t.get g = some e
  | [], t, k, h => ⟨t, h, fun _ _ h => .inr h⟩
  | p :: l, t, k, h => by
    obtain ⟨t1, h1, h2⟩ := setK_ok _ _ _ _ _ (show setK 14 t p.1 p.2 (fun t' => tabK l t' k) = true from h)
    obtain ⟨t2, h3, h4⟩ := tabK_ok l t1 k h1
    refine ⟨t2, h3, fun g e hg => ?_⟩
    rcases h4 g e hg with h5 | h5
    · exact .inl (List.mem_cons_of_mem _ h5)
    · rw [h2] at h5
      split at h5
      · rename_i he; cases h5; subst he; exact .inl List.mem_cons_self
      · exact .inr h5

end Am.Fz
end

