import Derived.Test.YtffhiphcmohjdaaGreatDoorAmRun
set_option linter.all false
/- A region that draws its order. -/
section
namespace Am
open Go Go.RowKit

def AOp.args : AOp → List Arg
  | .mv x | .box x | .load _ x | .nilchk x | .un _ x | .convI _ x | .convBS x | .convSS x | .convSB x | .convSL x | .faddr _ x | .fld _ _ x | .mkif _ x | .ext _ x | .len _ x => [x]
  | .pick c a b => [c, a, b]
  | .alloc _ => []
  | .build _ ps => ps.map (·.2.2)
  | .bslice _ _ _ _ ps => ps.map (·.2.2)
  | .store _ x y | .bin _ x y | .eq _ _ x y | .eqA _ _ x y | .iaddrS _ x y | .iaddrA _ _ x y | .idxA _ _ _ x y | .idxStr x y | .append _ _ x y | .copy _ x y | .mnmx _ x y => [x, y]
  | .slcStr x lo hi => x :: (lo.toList ++ hi.toList)
  | .slcS _ x lo hi => x :: (lo.toList ++ hi.toList)
  | .slcA _ _ x lo hi => x :: (lo.toList ++ hi.toList)
  | .mkslice _ _ _ l c => [l, c]
  | .mkfn _ x y => x ++ y
  | .stop => []
  | .asrt _ _ _ _ _ x | .slc0 x | .arrP _ _ x => [x]
  | .eqI _ x y => [x, y]
  | .mkmap => []
  | .appn _ _ _ x n => [x, n]
  | .slcM _ x lo hi => x :: (lo.toList ++ hi.toList)
  | .appR _ x y => [x, y]
  | .mkmslice _ _ _ l c => [l, c]
  | .fgt x | .clr _ _ x => [x]
  | .slc3 x lo hi mx => [x, lo, hi, mx]
  | .mlen x => [x]
  | .mget _ _ x k | .mdel _ x k => [x, k]
  | .mset _ x k y => [x, k, y]

def ACallee.args : ACallee → List Arg
  | .k _ l => l
  | .v f l => f :: l
  | .inv _ r l => r :: l

def tmpsOf (l : List Arg) : List Nat := l.filterMap fun | .t n => some n | .c _ => none

/-- The slots that an operation reads. -/
def AOper.reads (o : AOper) : List Nat :=
  tmpsOf (match o.op with | .inl op => op.args | .inr c => c.args) ++ (match o.guard with | some (t, _) => [t] | none => [])

inductive OpKind where
  | pure | read | eff
  deriving DecidableEq

def AOp.kind : AOp → OpKind
  | .load .. | .convBS _ | .slcA .. | .mget .. | .mlen _ => .read
  | .stop | .store .. | .alloc _ | .box _ | .convSB _ | .convSL _ | .mkslice .. | .append .. | .copy .. | .mkmap | .mset .. | .mdel .. | .appn .. | .appR .. | .mkmslice .. | .clr .. => .eff
  | .bslice fz .. => if fz = true then .pure else .eff
  | _ => .pure

def AOper.kind (o : AOper) : OpKind := match o.op with | .inl op => op.kind | .inr _ => .eff

theorem ev_congr {f g : Fr} {l : List Arg} (h : ∀ t ∈ tmpsOf l, f.get t = g.get t) : ∀ x ∈ l, f.ev x = g.ev x := by
  intro x hx
  cases x with
  | c v => rfl
  | t n => exact h n (List.mem_filterMap.2 ⟨.t n, hx, rfl⟩)

theorem map_congr_parts {ρ σ : Arg → AVal} (ps : List (Nat × Nat × Arg)) (h : ∀ x ∈ ps.map (·.2.2), ρ x = σ x) : (ps.map fun (o, z, a) => (o, z, ρ a)) = ps.map fun (o, z, a) => (o, z, σ a) := by
  apply List.map_congr_left
  rintro ⟨o, z, a⟩ hp
  have := h a (List.mem_map.2 ⟨_, hp, rfl⟩)
  simp [this]

theorem evOp_congr {ρ σ : Arg → AVal} {S : St} {op : AOp} (h : ∀ x ∈ op.args, ρ x = σ x) : evOp ρ S op = evOp σ S op := by
  cases op with
  | build z ps => simp only [evOp]; rw [map_congr_parts ps h]
  | bslice fz sz len z ps => simp only [evOp]; rw [map_congr_parts ps h]
  | mkfn f x y =>
    simp only [AOp.args] at h
    simp only [evOp]
    rw [List.map_congr_left (fun a ha => h a (List.mem_append.2 (.inl ha))), List.map_congr_left (fun a ha => h a (List.mem_append.2 (.inr ha)))]
  | slcStr x lo hi =>
    simp only [AOp.args, List.mem_cons, List.mem_append, Option.mem_toList] at h
    have h1 := h x (.inl rfl)
    have h2 : lo.map ρ = lo.map σ := by cases lo <;> simp; exact h _ (.inr (.inl rfl))
    have h3 : hi.map ρ = hi.map σ := by cases hi <;> simp; exact h _ (.inr (.inr rfl))
    simp only [evOp, h1, h2, h3]
  | slcS sz x lo hi =>
    simp only [AOp.args, List.mem_cons, List.mem_append, Option.mem_toList] at h
    have h1 := h x (.inl rfl)
    have h2 : lo.map ρ = lo.map σ := by cases lo <;> simp; exact h _ (.inr (.inl rfl))
    have h3 : hi.map ρ = hi.map σ := by cases hi <;> simp; exact h _ (.inr (.inr rfl))
    simp only [evOp, h1, h2, h3]
  | slcM sz x lo hi =>
    simp only [AOp.args, List.mem_cons, List.mem_append, Option.mem_toList] at h
    have h1 := h x (.inl rfl)
    have h2 : lo.map ρ = lo.map σ := by cases lo <;> simp; exact h _ (.inr (.inl rfl))
    have h3 : hi.map ρ = hi.map σ := by cases hi <;> simp; exact h _ (.inr (.inr rfl))
    simp only [evOp, h1, h2, h3]
  | slcA sz n x lo hi =>
    simp only [AOp.args, List.mem_cons, List.mem_append, Option.mem_toList] at h
    have h1 := h x (.inl rfl)
    have h2 : lo.map ρ = lo.map σ := by cases lo <;> simp; exact h _ (.inr (.inl rfl))
    have h3 : hi.map ρ = hi.map σ := by cases hi <;> simp; exact h _ (.inr (.inr rfl))
    simp only [evOp, h1, h2, h3]
  | alloc z => rfl
  | _ => simp only [AOp.args, List.mem_cons, List.not_mem_nil, or_false, forall_eq_or_imp, forall_eq] at h; simp only [evOp, h]

theorem evCall_congr {O : Orc} {ρ σ : Arg → AVal} {S : St} {c : ACallee} (h : ∀ x ∈ c.args, ρ x = σ x) : evCall O ρ S c = evCall O σ S c := by
  cases c with
  | k i l => simp only [ACallee.args] at h; simp only [evCall]; rw [List.map_congr_left h]
  | v f l =>
    simp only [ACallee.args, List.mem_cons, forall_eq_or_imp] at h
    simp only [evCall]; rw [h.1, List.map_congr_left h.2]
  | inv t r l =>
    simp only [ACallee.args, List.mem_cons, forall_eq_or_imp] at h
    simp only [evCall]; rw [h.1, List.map_congr_left h.2]

theorem same_iff {S S' : St} {x : Option AVal} {v : AVal} : same S x = some (v, S') ↔ x = some v ∧ S' = S := by
  constructor
  · exact same_some
  · rintro ⟨rfl, rfl⟩; rfl

theorem map_same (S T : St) (x : Option AVal) : (same S x).map (fun p => (p.1, T)) = same T x := by cases x <;> rfl

theorem evOp_pure_eq {ρ : Arg → AVal} {op : AOp} (hk : op.kind = .pure) (S T : St) : evOp ρ T op = (evOp ρ S op).map fun p => (p.1, T) := by
  cases op with
  | bslice fz sz len z ps =>
    simp only [AOp.kind] at hk
    have hfz : fz = true := by cases fz <;> simp at hk ⊢
    subst hfz
    simp only [evOp, if_true]
    split <;> rfl
  | mv x => rfl
  | mkif t x => rfl
  | mkfn f x y => rfl
  | pick c a b => simp only [evOp]; split <;> rfl
  | nilchk x => simp only [evOp]; split <;> rfl
  | convI k x => simp only [evOp]; split <;> rfl
  | convSS x => simp only [evOp]; split <;> rfl
  | eqA neg ks x y => simp only [evOp]; split <;> first | rfl | exact (map_same S T _).symm
  | fld n off x => simp only [evOp]; split <;> first | rfl | exact (map_same S T _).symm
  | ext i x => simp only [evOp]; split <;> first | rfl | exact (map_same S T _).symm
  | idxA n sz len x i => simp only [evOp]; (repeat' split) <;> first | rfl | exact (map_same S T _).symm
  | idxStr x i => simp only [evOp]; (repeat' split) <;> rfl
  | mnmx m x y => simp only [evOp]; (repeat' split) <;> rfl
  | asrt i y n t z x => simp only [evOp]; (repeat' split) <;> rfl
  | eqI n x y => simp only [evOp]; (repeat' split) <;> rfl
  | slc0 x => simp only [evOp]; (repeat' split) <;> rfl
  | arrP n sz x => simp only [evOp]; (repeat' split) <;> rfl
  | build z ps => simp only [evOp]; exact (map_same S T _).symm
  | bin op x y => simp only [evOp]; exact (map_same S T _).symm
  | eq n t x y => simp only [evOp]; exact (map_same S T _).symm
  | un op x => simp only [evOp]; exact (map_same S T _).symm
  | faddr o x => simp only [evOp]; exact (map_same S T _).symm
  | iaddrS sz x i => simp only [evOp]; exact (map_same S T _).symm
  | iaddrA sz l x i => simp only [evOp]; exact (map_same S T _).symm
  | slcStr x lo hi => simp only [evOp]; exact (map_same S T _).symm
  | slcS sz x lo hi => simp only [evOp]; exact (map_same S T _).symm
  | slcM sz x lo hi => simp only [evOp]; exact (map_same S T _).symm
  | fgt x => simp only [evOp]; (repeat' split) <;> rfl
  | slc3 x lo hi mx => simp only [evOp]; (repeat' split) <;> rfl
  | len t x => simp only [evOp]; exact (map_same S T _).symm
  | _ => simp [AOp.kind] at hk

theorem evOp_pure {ρ : Arg → AVal} {S S' : St} {v : AVal} {op : AOp} (hk : op.kind = .pure) (h : evOp ρ S op = some (v, S')) : S' = S ∧ ∀ T, evOp ρ T op = some (v, T) := by
  refine ⟨?_, fun T => by rw [evOp_pure_eq hk S T, h]; rfl⟩
  have := evOp_pure_eq hk S S (ρ := ρ)
  rw [h] at this
  simp at this
  exact this

theorem evOp_read {ρ : Arg → AVal} {S S' : St} {v : AVal} {op : AOp} (hk : op.kind = .read) (h : evOp ρ S op = some (v, S')) : S' = S := by
  cases op with
  | load n x => simp only [evOp, same_iff] at h; exact h.2
  | slcA sz l x lo hi => simp only [evOp, same_iff] at h; exact h.2
  | convBS x =>
    simp only [evOp] at h
    split at h
    · simp only [Option.some.injEq, Prod.mk.injEq] at h; exact h.2.symm
    · simp at h
  | bslice fz _ _ _ _ => simp only [AOp.kind] at hk; split at hk <;> simp at hk
  | mget s z x k =>
    simp only [evOp] at h
    repeat' split at h
    all_goals first | (simp only [Option.some.injEq, Prod.mk.injEq] at h; exact h.2.symm) | simp at h
  | mlen x =>
    simp only [evOp] at h
    repeat' split at h
    all_goals first | (simp only [Option.some.injEq, Prod.mk.injEq] at h; exact h.2.symm) | simp at h
  | _ => simp [AOp.kind] at hk

end Am
end

/- A region that draws its order comes to what its text's order comes to. -/
section
namespace Am
open Go Go.RowKit

def argsOf : AOp ⊕ ACallee → List Arg
  | .inl op => op.args
  | .inr c => c.args
def kindOf : AOp ⊕ ACallee → OpKind
  | .inl op => op.kind
  | .inr _ => .eff

theorem evAny_float {O : Orc} {op : AOp ⊕ ACallee} {f g : Fr} {S T S' : St} {v : AVal} (h : evAny O f.ev S op = some (v, S')) (hg : ∀ t ∈ tmpsOf (argsOf op), g.get t = f.get t)
    (heff : kindOf op = .eff → T = S) (hread : kindOf op = .read → T = S ∨ sameVal (evAny O f.ev S op) (evAny O f.ev T op) = true) :
    evAny O g.ev T op = some (v, if kindOf op = .eff then S' else T) ∧ (kindOf op ≠ .eff → S' = S) := by
  cases op with
  | inr c =>
    have := heff rfl; subst this
    simp only [evAny] at h ⊢
    rw [evCall_congr (ev_congr hg), h]
    simp [kindOf]
  | inl p =>
    simp only [evAny] at h hread ⊢
    rw [evOp_congr (ev_congr hg)]
    by_cases hk : kindOf (.inl p : AOp ⊕ ACallee) = .eff
    · have := heff hk; subst this; rw [h, if_pos hk]; exact ⟨rfl, fun h => absurd hk h⟩
    · rw [if_neg hk]
      by_cases hp : p.kind = .pure
      · obtain ⟨h1, h2⟩ := evOp_pure hp h
        exact ⟨h2 T, fun _ => h1⟩
      · have hk' : p.kind ≠ .eff := hk
        have hr : p.kind = .read := by cases hx : p.kind <;> simp_all
        have h1 := evOp_read hr h
        refine ⟨?_, fun _ => h1⟩
        rcases hread hr with rfl | hs
        · rw [h, h1]
        · rw [h] at hs
          cases hy : evOp f.ev T p with
          | none => rw [hy] at hs; simp [sameVal] at hs
          | some u =>
            obtain ⟨u1, u2⟩ := u
            rw [hy] at hs
            simp only [sameVal] at hs
            rw [eq_of_beqV _ _ hs, evOp_read hr hy]

theorem evOper_float {O : Orc} {o : AOper} {f g f' : Fr} {S T S' : St} (h : evOper O o f S = some (f', S')) (hg : ∀ t ∈ o.reads, g.get t = f.get t)
    (heff : kindOf o.op = .eff → T = S) (hread : kindOf o.op = .read → T = S ∨ sameRead O o f S T = true) :
    ∃ v, f' = putA f o.dst v ∧ evOper O o g T = some (putA g o.dst v, if kindOf o.op = .eff then S' else T) ∧ (kindOf o.op ≠ .eff → S' = S) := by
  have hargs : ∀ t ∈ tmpsOf (argsOf o.op), g.get t = f.get t := by
    intro t ht
    apply hg
    simp only [AOper.reads, List.mem_append]
    left
    cases hx : o.op <;> rw [hx] at ht <;> simpa [argsOf] using ht
  have body : putR f o.dst (evAny O f.ev S o.op) = some (f', S') → (kindOf o.op = .read → T = S ∨ sameVal (evAny O f.ev S o.op) (evAny O f.ev T o.op) = true) →
      ∃ v, f' = putA f o.dst v ∧ putR g o.dst (evAny O g.ev T o.op) = some (putA g o.dst v, if kindOf o.op = .eff then S' else T) ∧ (kindOf o.op ≠ .eff → S' = S) := by
    intro hp hr
    cases hx : evAny O f.ev S o.op with
    | none => rw [hx] at hp; simp [putR] at hp
    | some p =>
      obtain ⟨v, S1⟩ := p
      rw [hx] at hp
      simp only [putR, Option.some.injEq, Prod.mk.injEq] at hp
      obtain ⟨rfl, rfl⟩ := hp
      obtain ⟨r1, r2⟩ := evAny_float hx hargs heff hr
      exact ⟨v, rfl, by rw [r1]; rfl, r2⟩
  unfold evOper at h ⊢
  unfold sameRead at hread
  cases hgd : o.guard with
  | none =>
    rw [hgd] at h hread
    exact body h hread
  | some gw =>
    obtain ⟨t, want⟩ := gw
    rw [hgd] at h hread
    simp only at h hread ⊢
    rw [hg t (by simp [AOper.reads, hgd])]
    cases hb : f.get t with
    | bool b =>
      rw [hb] at h hread
      simp only at h hread ⊢
      by_cases hbw : b = want
      · rw [if_pos hbw] at h hread ⊢
        exact body h hread
      · rw [if_neg hbw] at h ⊢
        simp only [Option.some.injEq, Prod.mk.injEq] at h
        obtain ⟨rfl, rfl⟩ := h
        refine ⟨.tup [], rfl, ?_, fun _ => rfl⟩
        by_cases hk : kindOf o.op = .eff
        · rw [if_pos hk, heff hk]
        · rw [if_neg hk]
    | tup vs =>
      rw [hb] at h
      simp only at h ⊢
      split at h
      · simp only [Option.some.injEq, Prod.mk.injEq] at h
        obtain ⟨rfl, rfl⟩ := h
        refine ⟨.tup [], rfl, ?_, fun _ => rfl⟩
        rename_i hv
        rw [if_pos hv]
        by_cases hk : kindOf o.op = .eff
        · rw [if_pos hk, heff hk]
        · rw [if_neg hk]
      · simp at h
    | _ => rw [hb] at h; simp at h

/-- The operations that an operation waits for, straight. -/
def ons (o : Oper) : List Nat := (o.after.toList.filter fun e => Region.binds .any e).map (·.on)

def dirM (o : Oper) (acc : List Nat) : Nat := (ons o).foldl (fun s i => s ||| 2 ^ i ||| acc.getD i 0) 0

def masksGo : List Oper → List Nat → List Nat
  | [], acc => acc
  | o :: r, acc => masksGo r (acc ++ [dirM o acc])

def masks (ops : Array Oper) : List Nat := masksGo ops.toList []

theorem foldl_bits (l : List Nat) (acc : List Nat) (i : Nat) : ∀ s : Nat, (l.foldl (fun s i => s ||| 2 ^ i ||| acc.getD i 0) s).testBit i = true → s.testBit i = true ∨ ∃ on ∈ l, i = on ∨ (acc.getD on 0).testBit i = true := by
  induction l with
  | nil => intro s h; exact .inl h
  | cons x l ih =>
    intro s h
    simp only [List.foldl_cons] at h
    rcases ih _ h with h1 | ⟨on, ho, h1⟩
    · rw [Nat.testBit_or, Nat.testBit_or, Bool.or_eq_true, Bool.or_eq_true] at h1
      rcases h1 with (h1 | h1) | h1
      · exact .inl h1
      · right; refine ⟨x, by simp, .inl ?_⟩
        rw [Nat.testBit_two_pow] at h1; simpa using (of_decide_eq_true h1).symm
      · right; exact ⟨x, by simp, .inr h1⟩
    · right; exact ⟨on, by simp [ho], h1⟩

theorem masksGo_prefix : ∀ (l : List Oper) (acc : List Nat), ∃ r, masksGo l acc = acc ++ r := by
  intro l
  induction l with
  | nil => intro acc; exact ⟨[], by simp [masksGo]⟩
  | cons o l ih =>
    intro acc
    obtain ⟨r, hr⟩ := ih (acc ++ [dirM o acc])
    exact ⟨[dirM o acc] ++ r, by simp [masksGo, hr]⟩

theorem masksGo_get : ∀ (l : List Oper) (acc : List Nat) (j : Nat) (o : Oper), l[j]? = some o → ∃ pre, (masksGo l acc)[acc.length + j]? = some (dirM o pre) ∧ ∃ r, masksGo l acc = pre ++ r ∧ pre.length = acc.length + j := by
  intro l
  induction l with
  | nil => intro acc j o h; simp at h
  | cons x l ih =>
    intro acc j o h
    cases j with
    | zero =>
      simp at h; subst h
      obtain ⟨r, hr⟩ := masksGo_prefix l (acc ++ [dirM x acc])
      refine ⟨acc, ?_, [dirM x acc] ++ r, by simp [masksGo, hr], rfl⟩
      simp [masksGo, hr]
    | succ j =>
      obtain ⟨pre, h1, r, h2, h3⟩ := ih (acc ++ [dirM x acc]) j o (by simpa using h)
      refine ⟨pre, ?_, r, by simp [masksGo, h2], by simp at h3; omega⟩
      simp only [masksGo]
      rw [← h1]; congr 1; simp; omega

theorem masks_bit {ops : Array Oper} {j : Nat} {o : Oper} (ho : ops[j]? = some o) (hon : ∀ i ∈ ons o, i < j) {i : Nat} (h : ((masks ops).getD j 0).testBit i = true) :
    ∃ on ∈ ons o, i = on ∨ ((masks ops).getD on 0).testBit i = true := by
  obtain ⟨pre, h1, r, h2, h3⟩ := masksGo_get ops.toList [] j o (by simpa using ho)
  simp only [List.length_nil, Nat.zero_add] at h1 h3
  have hm : (masks ops).getD j 0 = dirM o pre := by simp only [masks, List.getD_eq_getElem?_getD, h1, Option.getD_some]
  rw [hm] at h
  rcases foldl_bits (ons o) pre i 0 h with h0 | ⟨on, hm1, hm2⟩
  · simp at h0
  · refine ⟨on, hm1, ?_⟩
    rcases hm2 with h4 | h4
    · exact .inl h4
    · right
      have hlt := hon on hm1
      have : (masks ops).getD on 0 = pre.getD on 0 := by
        simp only [masks, List.getD_eq_getElem?_getD, h2]
        rw [List.getElem?_append_left (by omega)]
      rw [this]; exact h4

/-- Two operations that may not change places over a slot. -/
def slotConf (a b : AOper) : Bool :=
  (match b.dst with | some d => a.reads.contains d || a.dst == some d | none => false) ||
  (match a.dst with | some d => b.reads.contains d | none => false)

/-- Two operations that may not change places: over a slot, or both act. -/
def conflict (a b : AOper) : Bool := slotConf a b || (decide (kindOf a.op = .eff) && decide (kindOf b.op = .eff))

/-- A new variable, without a guard. -/
def isAlloc (o : Oper) : Bool := match o.op with
  | .alloc _ => o.guard.isNone && o.dst.isSome
  | _ => false

/-- A new variable that may come up ahead of something that acts and stands before it. -/
def flB (ops : Array Oper) (aos : List AOper) (m : List Nat) (j : Nat) : Bool :=
  (match ops[j]? with | some o => isAlloc o | none => false) && aos.zipIdx.any fun (a, i) => decide (i < j) && decide (kindOf a.op = .eff) && !(m.getD j 0).testBit i

def drawOk (ops : Array Oper) (aos : List AOper) : Bool :=
  let m := masks ops
  (ops.toList.zipIdx.all fun (o, j) => (ons o).all (· < j)) &&
  (aos.zipIdx.all fun (b, j) => aos.zipIdx.all fun (a, i) => !decide (i < j) || !conflict a b || (m.getD j 0).testBit i || (flB ops aos m j && !slotConf a b)) &&
  (aos.zipIdx.all fun (b, j) => !flB ops aos m j || aos.zipIdx.all fun (c, k) => (k == j || c.dst != b.dst) &&
    (!(m.getD k 0).testBit j || aos.zipIdx.all fun (a, i) => !decide (i < j) || !decide (kindOf a.op = .eff) || (m.getD k 0).testBit i))

def floats (ops : Array Oper) (aos : List AOper) : List (Nat × List Nat) :=
  let m := masks ops
  (aos.zipIdx.filterMap fun (a, i) => if kindOf a.op = .read then
      match aos.zipIdx.filterMap fun (b, j) => if kindOf b.op = .eff ∧ !(if i < j then (m.getD j 0).testBit i else (m.getD i 0).testBit j) then some j else none with
      | [] => none
      | l => some (i, l)
    else none) ++ aos.zipIdx.filterMap fun (_, j) => if flB ops aos m j = true then some (j, []) else none

theorem zipIdx_mem {α : Type} {l : List α} {i : Nat} {a : α} (h : l[i]? = some a) : (a, i) ∈ l.zipIdx := by
  rw [List.mem_zipIdx_iff_getElem?]; exact h

end Am
end

/- A region that draws its order comes to what its text's order comes to: the induction. -/
section
namespace Am
open Go Go.RowKit

/-- All that is known of a region whose text's order was run. -/
structure Ran (P : Program) (fs : List FuncId) (O : Orc) (n : Nat) (ops : Array Oper) (aos : List AOper) (F : Nat → Fr) (T : Nat → St) : Prop where
  len : aos.length = ops.size
  comp : ∀ (i : Nat) ao, aos[i]? = some ao → ∃ o fz, ops[i]? = some o ∧ compOper P fs n ops fz o = some ao
  step : ∀ (i : Nat) ao, aos[i]? = some ao → evOper O ao (F i) (T i) = some (F (i + 1), T (i + 1))
  ons : ∀ (j : Nat) o, ops[j]? = some o → ∀ i ∈ ons o, i < j
  conf : ∀ (i j : Nat) a b, i < j → aos[i]? = some a → aos[j]? = some b → conflict a b = true → ((masks ops).getD j 0).testBit i = true ∨ (flB ops aos (masks ops) j = true ∧ slotConf a b = false)
  one : ∀ (j k : Nat) b c, flB ops aos (masks ops) j = true → aos[j]? = some b → aos[k]? = some c → k ≠ j → c.dst ≠ b.dst
  up : ∀ (j k i : Nat) a, flB ops aos (masks ops) j = true → k < ops.size → ((masks ops).getD k 0).testBit j = true → i < j → aos[i]? = some a → kindOf a.op = .eff → ((masks ops).getD k 0).testBit i = true
  junk : ∀ (j : Nat) b t, flB ops aos (masks ops) j = true → aos[j]? = some b → b.dst = some t → (F 0).get t = .junk
  flt : ∀ (i j : Nat) a b, aos[i]? = some a → aos[j]? = some b → kindOf a.op = .read → kindOf b.op = .eff →
    (if i < j then ((masks ops).getD j 0).testBit i else ((masks ops).getD i 0).testBit j) = false → sameRead O a (F i) (T i) (if i < j then T (j + 1) else T j) = true

variable {P : Program} {W : World} {fs : List FuncId} {O : Orc} {n : Nat} {ops : Array Oper} {aos : List AOper} {F : Nat → Fr} {T : Nat → St}

def Lst (L : Array Bool) (i : Nat) : Prop := L.getD i false = true

theorem Ran.op (h : Ran P fs O n ops aos F T) {i : Nat} (hi : i < ops.size) : ∃ ao, aos[i]? = some ao :=
  ⟨_, List.getElem?_eq_getElem (by rw [h.len]; exact hi)⟩

/-- What is listed draws in all that must come ahead of it. -/
theorem closed_masks (h : Ran P fs O n ops aos F T) {L : Array Bool} (hL : ∀ (j : Nat) o, ops[j]? = some o → Lst L j → ∀ i ∈ ons o, Lst L i) :
    ∀ (j : Nat) o, ops[j]? = some o → Lst L j → ∀ i, ((masks ops).getD j 0).testBit i = true → Lst L i := by
  intro j
  induction j using Nat.strongRecOn with
  | _ j ih =>
    intro o ho hj i hi
    obtain ⟨on, h1, h2⟩ := masks_bit ho (h.ons j o ho) hi
    have hon := hL j o ho hj on h1
    have hlt := h.ons j o ho on h1
    rcases h2 with rfl | h2
    · exact hon
    · have hlt' : on < ops.size := by have := (Array.getElem?_eq_some_iff.1 ho).1; omega
      exact ih on hlt ops[on] (by simp [hlt']) hon i h2

theorem mask_lt (h : Ran P fs O n ops aos F T) : ∀ (j : Nat) o, ops[j]? = some o → ∀ i, ((masks ops).getD j 0).testBit i = true → i < j := by
  intro j
  induction j using Nat.strongRecOn with
  | _ j ih =>
    intro o ho i hi
    obtain ⟨on, h1, h2⟩ := masks_bit ho (h.ons j o ho) hi
    have hlt := h.ons j o ho on h1
    rcases h2 with rfl | h2
    · exact hlt
    · have hlt' : on < ops.size := by have := (Array.getElem?_eq_some_iff.1 ho).1; omega
      have := ih on hlt ops[on] (by simp [hlt']) i h2
      omega

/-- A slot that nobody writes between two places of the text holds the same at both. -/
theorem frame_const (h : Ran P fs O n ops aos F T) (t : Nat) : ∀ (d q : Nat), q + d ≤ ops.size → (∀ (j : Nat) ao, q ≤ j → j < q + d → aos[j]? = some ao → ao.dst ≠ some t) → (F (q + d)).get t = (F q).get t := by
  intro d
  induction d with
  | zero => intro q _ _; rfl
  | succ d ih =>
    intro q hq hw
    have h1 := ih q (by omega) (fun j ao h1 h2 h3 => hw j ao h1 (by omega) h3)
    obtain ⟨ao, hao⟩ := h.op (show q + d < ops.size from by omega)
    obtain ⟨v, h2, _, _⟩ := evOper_float (h.step _ _ hao) (g := F (q + d)) (T := T (q + d)) (fun _ _ => rfl) (fun _ => rfl) (fun _ => .inl rfl)
    have hd := hw (q + d) ao (by omega) (by omega) hao
    rw [← Nat.add_assoc, h2, ← h1]
    cases hdst : ao.dst with
    | none => rfl
    | some d' =>
      simp only [putA, Fr.get_set]
      rw [if_neg]
      intro e; subst e; exact hd hdst

theorem frame_between (h : Ran P fs O n ops aos F T) (t p q : Nat) (hp : p ≤ ops.size) (hq : q ≤ ops.size)
    (hw : ∀ (j : Nat) ao, aos[j]? = some ao → ao.dst = some t → (j < p ↔ j < q)) : (F p).get t = (F q).get t := by
  rcases Nat.le_total p q with hpq | hpq
  · obtain ⟨d, rfl⟩ : ∃ d, q = p + d := ⟨q - p, by omega⟩
    exact (frame_const h t d p hq (fun j ao h1 h2 h3 h4 => by have := (hw j ao h3 h4).2 h2; omega)).symm
  · obtain ⟨d, rfl⟩ : ∃ d, p = q + d := ⟨p - q, by omega⟩
    exact frame_const h t d q hp (fun j ao h1 h2 h3 h4 => by have := (hw j ao h3 h4).1 h2; omega)

theorem state_const (h : Ran P fs O n ops aos F T) : ∀ (d q : Nat), q + d ≤ ops.size → (∀ (j : Nat) ao, q ≤ j → j < q + d → aos[j]? = some ao → kindOf ao.op ≠ .eff) → T (q + d) = T q := by
  intro d
  induction d with
  | zero => intro q _ _; rfl
  | succ d ih =>
    intro q hq hw
    have h1 := ih q (by omega) (fun j ao h1 h2 h3 => hw j ao h1 (by omega) h3)
    obtain ⟨ao, hao⟩ := h.op (show q + d < ops.size from by omega)
    obtain ⟨v, _, _, h2⟩ := evOper_float (h.step _ _ hao) (g := F (q + d)) (T := T (q + d)) (fun _ _ => rfl) (fun _ => rfl) (fun _ => .inl rfl)
    have hd := hw (q + d) ao (by omega) (by omega) hao
    rw [← Nat.add_assoc, h2 hd, h1]

theorem state_between (h : Ran P fs O n ops aos F T) (p q : Nat) (hp : p ≤ ops.size) (hq : q ≤ ops.size)
    (hw : ∀ (j : Nat) ao, aos[j]? = some ao → kindOf ao.op = .eff → (j < p ↔ j < q)) : T p = T q := by
  rcases Nat.le_total p q with hpq | hpq
  · obtain ⟨d, rfl⟩ : ∃ d, q = p + d := ⟨q - p, by omega⟩
    exact (state_const h d p hq (fun j ao h1 h2 h3 h4 => by have := (hw j ao h3 h4).2 h2; omega)).symm
  · obtain ⟨d, rfl⟩ : ∃ d, p = q + d := ⟨p - q, by omega⟩
    exact state_const h d q hp (fun j ao h1 h2 h3 h4 => by have := (hw j ao h3 h4).1 h2; omega)

/-- Where a region stands that has run what is listed. -/
structure Mid (ops : Array Oper) (aos : List AOper) (F : Nat → Fr) (T : Nat → St) (L : Array Bool) (g : Fr) (S : St) : Prop where
  size : L.size = ops.size
  closed : ∀ (j : Nat) o, ops[j]? = some o → Lst L j → ∀ i ∈ ons o, Lst L i
  slots : ∀ t, ∃ q, q ≤ ops.size ∧ g.get t = (F q).get t ∧ ∀ (j : Nat) ao, aos[j]? = some ao → ao.dst = some t → (Lst L j ↔ j < q)
  heap : ∃ k, k ≤ ops.size ∧ S = T k ∧ ∀ (j : Nat) ao, aos[j]? = some ao → kindOf ao.op = .eff → (Lst L j ↔ j < k)
  late : ∀ (j : Nat), flB ops aos (masks ops) j = true → Lst L j → ∀ (i : Nat) a, i < j → aos[i]? = some a → kindOf a.op = .eff → Lst L i

theorem mem_ready {L : Array Bool} {i : Nat} : i ∈ Region.ready .any ops L ↔ i < ops.size ∧ L.getD i true = false ∧ ∃ o, ops[i]? = some o ∧ ∀ j ∈ ons o, Lst L j := by
  unfold Region.ready
  simp only [List.mem_filter, List.mem_range, Bool.and_eq_true, Bool.not_eq_true']
  constructor
  · rintro ⟨h1, h2, h3⟩
    refine ⟨h1, h2, ?_⟩
    cases ho : ops[i]? with
    | none => rw [ho] at h3; simp at h3
    | some o =>
      rw [ho] at h3
      refine ⟨o, rfl, fun j hj => ?_⟩
      simp only [Option.map_some, Option.getD_some, Array.all_eq_true_iff_forall_mem] at h3
      simp only [ons, List.mem_map, List.mem_filter] at hj
      obtain ⟨e, ⟨he1, he2⟩, rfl⟩ := hj
      have := h3 e (by simpa using he1)
      rw [he2] at this
      simpa [Lst] using this
  · rintro ⟨h1, h2, o, ho, h3⟩
    refine ⟨h1, h2, ?_⟩
    rw [ho]
    simp only [Option.map_some, Option.getD_some, Array.all_eq_true_iff_forall_mem]
    intro e he
    by_cases hb : Region.binds .any e = true
    · have := h3 e.on (List.mem_map.2 ⟨e, List.mem_filter.2 ⟨by simpa using he, hb⟩, rfl⟩)
      simp [hb]; simpa [Lst] using this
    · simp [Bool.not_eq_true] at hb
      simp [hb]

theorem lst_set {L : Array Bool} {i : Nat} (hi : i < L.size) (j : Nat) : Lst (L.setIfInBounds i true) j ↔ j = i ∨ Lst L j := by
  unfold Lst
  simp only [Array.getD_eq_getD_getElem?]
  by_cases h : j = i
  · subst h; simp [hi]
  · rw [Array.getElem?_setIfInBounds_ne (fun e => h e.symm)]; simp [h]

theorem not_lst {L : Array Bool} {i : Nat} (h : L.getD i true = false) : ¬ Lst L i ∧ i < L.size := by
  unfold Lst
  simp only [Array.getD_eq_getD_getElem?] at h ⊢
  cases hx : L[i]? with
  | none => rw [hx] at h; simp at h
  | some b => rw [hx] at h; simp at h; subst h; exact ⟨by simp, (Array.getElem?_eq_some_iff.1 hx).1⟩

/-- One step of a region in any order. -/
theorem mid_step (h : Ran P fs O n ops aos F T) {L : Array Bool} {g : Fr} {S : St} (hm : Mid ops aos F T L g S) {i : Nat} (hi : i ∈ Region.ready .any ops L)
    (hfl : flB ops aos (masks ops) i = true → ∀ (j : Nat) a, j < i → aos[j]? = some a → kindOf a.op = .eff → Lst L j) :
    ∃ ao v S', aos[i]? = some ao ∧ evOper O ao g S = some (putA g ao.dst v, S') ∧ Mid ops aos F T (L.setIfInBounds i true) (putA g ao.dst v) S' := by
  obtain ⟨hlt, hL, o, ho, hon⟩ := mem_ready.1 hi
  obtain ⟨hnl, hsz⟩ := not_lst hL
  obtain ⟨ao, hao⟩ := h.op hlt
  -- what comes ahead of i is listed, what waits for i isn't
  have ahead : ∀ j, ((masks ops).getD i 0).testBit j = true → Lst L j := by
    intro j hj
    obtain ⟨on, h1, h2⟩ := masks_bit ho (h.ons i o ho) hj
    rcases h2 with rfl | h2
    · exact hon _ h1
    · have hlt' : on < ops.size := by have := h.ons i o ho on h1; omega
      exact closed_masks h hm.closed on ops[on] (by simp [hlt']) (hon on h1) j h2
  have behind : ∀ j, j < ops.size → ((masks ops).getD j 0).testBit i = true → ¬ Lst L j := by
    intro j hj hb hl
    exact hnl (closed_masks h hm.closed j ops[j] (by simp [hj]) hl i hb)
  have order : ∀ (j : Nat) b, aos[j]? = some b → j ≠ i → (slotConf b ao = true ∨ slotConf ao b = true) → (j < i → slotConf b ao = true) → (i < j → slotConf ao b = true) → (Lst L j ↔ j < i) := by
    intro j b hb hji _ h1 h2
    have hjs : j < ops.size := by rw [← h.len]; exact (List.getElem?_eq_some_iff.1 hb).1
    rcases Nat.lt_or_gt_of_ne hji with hlt | hgt
    · refine ⟨fun _ => hlt, fun _ => ahead j ?_⟩
      rcases h.conf j i b ao hlt hb hao (by simp [conflict, h1 hlt]) with hc | ⟨_, hc⟩
      · exact hc
      · rw [h1 hlt] at hc; simp at hc
    · refine ⟨fun hl => absurd hl (behind j hjs ?_), fun hx => by omega⟩
      rcases h.conf i j ao b hgt hao hb (by simp [conflict, h2 hgt]) with hc | ⟨_, hc⟩
      · exact hc
      · rw [h2 hgt] at hc; simp at hc
  have orderE : ∀ (j : Nat) b, aos[j]? = some b → j ≠ i → kindOf ao.op = .eff → kindOf b.op = .eff → (Lst L j ↔ j < i) := by
    intro j b hb hji hke hbe
    have hjs : j < ops.size := by rw [← h.len]; exact (List.getElem?_eq_some_iff.1 hb).1
    rcases Nat.lt_or_gt_of_ne hji with hlt | hgt
    · refine ⟨fun _ => hlt, fun _ => ?_⟩
      rcases h.conf j i b ao hlt hb hao (by simp [conflict, hke, hbe]) with hc | ⟨hc, _⟩
      · exact ahead j hc
      · exact hfl hc j b hlt hb hbe
    · refine ⟨fun hl => ?_, fun hx => by omega⟩
      rcases h.conf i j ao b hgt hao hb (by simp [conflict, hke, hbe]) with hc | ⟨hc, _⟩
      · exact absurd hl (behind j hjs hc)
      · exact absurd (hm.late j hc hl i ao hgt hao hke) hnl
  -- slots that i reads
  have reads : ∀ t ∈ ao.reads, g.get t = (F i).get t := by
    intro t ht
    obtain ⟨q, hq, hg, hw⟩ := hm.slots t
    rw [hg]
    refine frame_between h t q i hq (by omega) (fun j b hb hd => ?_)
    rw [← hw j b hb hd]
    by_cases hji : j = i
    · subst hji; exact ⟨fun hl => absurd hl hnl, fun hx => by omega⟩
    · refine order j b hb hji ?_ ?_ ?_
      · left; simp only [slotConf, hd]; simp [ht]
      · intro _; simp only [slotConf, hd]; simp [ht]
      · intro _; simp only [slotConf, hd]; simp [ht]
  obtain ⟨k, hk, hS, hkw⟩ := hm.heap
  subst hS
  have heff : kindOf ao.op = .eff → T k = T i := by
    intro hke
    refine state_between h k i hk (by omega) (fun j b hb hbe => ?_)
    rw [← hkw j b hb hbe]
    by_cases hji : j = i
    · subst hji; exact ⟨fun hl => absurd hl hnl, fun hx => by omega⟩
    · exact orderE j b hb hji hke hbe
  have hread : kindOf ao.op = .read → T k = T i ∨ sameRead O ao (F i) (T i) (T k) = true := by
    intro hkr
    by_cases hsome : ∃ j b, aos[j]? = some b ∧ kindOf b.op = .eff ∧ j < k ∧ i < j
    · -- the last effect that ran stands behind i in the text
      right
      obtain ⟨j, b, hb, hbe, hjk, hij⟩ : ∃ j b, aos[j]? = some b ∧ kindOf b.op = .eff ∧ j < k ∧ i < j := hsome
      obtain ⟨m, hmx⟩ : ∃ m, (∃ b, aos[m]? = some b ∧ kindOf b.op = .eff ∧ m < k ∧ i < m) ∧ ∀ j b, aos[j]? = some b → kindOf b.op = .eff → j < k → i < j → j ≤ m := by
        have : ∀ d m, (∃ b, aos[m]? = some b ∧ kindOf b.op = .eff ∧ m < k ∧ i < m) → k - m = d → ∃ m, (∃ b, aos[m]? = some b ∧ kindOf b.op = .eff ∧ m < k ∧ i < m) ∧ ∀ j b, aos[j]? = some b → kindOf b.op = .eff → j < k → i < j → j ≤ m := by
          intro d
          induction d using Nat.strongRecOn with
          | _ d ih =>
            intro m hm hd
            by_cases hx : ∃ j b, aos[j]? = some b ∧ kindOf b.op = .eff ∧ j < k ∧ i < j ∧ m < j
            · obtain ⟨j, b, h1, h2, h3, h4, h5⟩ := hx
              exact ih (k - j) (by omega) j ⟨b, h1, h2, h3, h4⟩ rfl
            · refine ⟨m, hm, fun j b h1 h2 h3 h4 => ?_⟩
              rcases Nat.lt_or_ge m j with h5 | h5
              · exact absurd ⟨j, b, h1, h2, h3, h4, h5⟩ hx
              · exact h5
        exact this _ j ⟨b, hb, hbe, hjk, hij⟩ rfl
      obtain ⟨⟨b, hb, hbe, hmk, him⟩, hmax⟩ := hmx
      have hms : m < ops.size := by rw [← h.len]; exact (List.getElem?_eq_some_iff.1 hb).1
      have hTk : T k = T (m + 1) := by
        refine state_between h k (m + 1) hk (by omega) (fun j b' hb' hbe' => ⟨fun hj => ?_, fun hj => by omega⟩)
        by_cases hij' : i < j
        · have := hmax j b' hb' hbe' hj hij'; omega
        · omega
      have hml : Lst L m := (hkw m b hb hbe).2 hmk
      have hnb : ((masks ops).getD m 0).testBit i = false := by
        cases hx : ((masks ops).getD m 0).testBit i with
        | false => rfl
        | true => exact absurd hml (behind m hms hx)
      have := h.flt i m ao b hao hb hkr hbe (by rw [if_pos him]; exact hnb)
      rw [if_pos him] at this
      rw [hTk]; exact this
    · by_cases hmiss : ∃ j b, aos[j]? = some b ∧ kindOf b.op = .eff ∧ j < i ∧ k ≤ j
      · -- an effect ahead of i in the text has not run: the first such
        right
        obtain ⟨m, hmn⟩ : ∃ m, (∃ b, aos[m]? = some b ∧ kindOf b.op = .eff ∧ m < i ∧ k ≤ m) ∧ ∀ j b, aos[j]? = some b → kindOf b.op = .eff → j < i → k ≤ j → m ≤ j := by
          have : ∀ m, (∃ b, aos[m]? = some b ∧ kindOf b.op = .eff ∧ m < i ∧ k ≤ m) → ∃ m, (∃ b, aos[m]? = some b ∧ kindOf b.op = .eff ∧ m < i ∧ k ≤ m) ∧ ∀ j b, aos[j]? = some b → kindOf b.op = .eff → j < i → k ≤ j → m ≤ j := by
            intro m
            induction m using Nat.strongRecOn with
            | _ m ih =>
              intro hm
              by_cases hx : ∃ j b, aos[j]? = some b ∧ kindOf b.op = .eff ∧ j < i ∧ k ≤ j ∧ j < m
              · obtain ⟨j, b, h1, h2, h3, h4, h5⟩ := hx
                exact ih j h5 ⟨b, h1, h2, h3, h4⟩
              · refine ⟨m, hm, fun j b h1 h2 h3 h4 => ?_⟩
                rcases Nat.lt_or_ge j m with h5 | h5
                · exact absurd ⟨j, b, h1, h2, h3, h4, h5⟩ hx
                · exact h5
          obtain ⟨j, b, h1, h2, h3, h4⟩ := hmiss
          exact this j ⟨b, h1, h2, h3, h4⟩
        obtain ⟨⟨b, hb, hbe, hmi, hkm⟩, hmin⟩ := hmn
        have hTk : T k = T m := by
          refine state_between h k m hk (by omega) (fun j b' hb' hbe' => ⟨fun hj => by omega, fun hj => ?_⟩)
          rcases Nat.lt_or_ge j k with h5 | h5
          · exact h5
          · have := hmin j b' hb' hbe' (by omega) h5; omega
        have hml : ¬ Lst L m := fun hl => by have := (hkw m b hb hbe).1 hl; omega
        have hnb : ((masks ops).getD i 0).testBit m = false := by
          cases hx : ((masks ops).getD i 0).testBit m with
          | false => rfl
          | true => exact absurd (ahead m hx) hml
        have := h.flt i m ao b hao hb hkr hbe (by rw [if_neg (by omega)]; exact hnb)
        rw [if_neg (by omega)] at this
        rw [hTk]; exact this
      · left
        refine state_between h k i hk (by omega) (fun j b hb hbe => ⟨fun hj => ?_, fun hj => ?_⟩)
        · rcases Nat.lt_trichotomy j i with h5 | h5 | h5
          · exact h5
          · subst h5; rw [hao] at hb; cases hb; rw [hkr] at hbe; simp at hbe
          · exact absurd ⟨j, b, hb, hbe, hj, h5⟩ hsome
        · rcases Nat.lt_or_ge j k with h5 | h5
          · exact h5
          · exact absurd ⟨j, b, hb, hbe, hj, h5⟩ hmiss
  obtain ⟨v, hF, hev, hst⟩ := evOper_float (h.step i ao hao) reads heff hread
  refine ⟨ao, v, _, hao, hev, ?_, ?_, ?_, ?_, fun j hj hl k a hk ha hae => ?_⟩
  rotate_right
  · rw [lst_set hsz] at hl ⊢
    rcases hl with rfl | hl
    · exact .inr (hfl hj k a hk ha hae)
    · exact .inr (hm.late j hj hl k a hk ha hae)
  · simp [hm.size]
  · intro j oj hoj hl i' hi'
    rw [lst_set hsz] at hl ⊢
    rcases hl with rfl | hl
    · rw [ho] at hoj; cases hoj; exact .inr (hon i' hi')
    · exact .inr (hm.closed j oj hoj hl i' hi')
  · intro t
    by_cases hd : ao.dst = some t
    · refine ⟨i + 1, by omega, ?_, fun j b hb hbd => ?_⟩
      · rw [hF, hd]; simp [putA, Fr.get_set]
      · rw [lst_set hsz]
        by_cases hji : j = i
        · subst hji; exact ⟨fun _ => by omega, fun _ => .inl rfl⟩
        · have : (Lst L j ↔ j < i) := by
            refine order j b hb hji ?_ ?_ ?_
            · left; simp only [slotConf, hd, hbd]; simp
            · intro _; simp only [slotConf, hd, hbd]; simp
            · intro _; simp only [slotConf, hd, hbd]; simp
          constructor
          · rintro (e | hl)
            · exact absurd e hji
            · have := this.1 hl; omega
          · intro hlt'; right; exact this.2 (by omega)
    · obtain ⟨q, hq, hg, hw⟩ := hm.slots t
      refine ⟨q, hq, ?_, fun j b hb hbd => ?_⟩
      · rw [← hg]
        cases hdst : ao.dst with
        | none => rfl
        | some d => simp only [putA, Fr.get_set]; rw [if_neg]; intro e; subst e; exact hd hdst
      · rw [lst_set hsz, ← hw j b hb hbd]
        constructor
        · rintro (e | hl)
          · subst e; rw [hao] at hb; cases hb; exact absurd hbd hd
          · exact hl
        · exact .inr
  · by_cases hke : kindOf ao.op = .eff
    · rw [if_pos hke]
      refine ⟨i + 1, by omega, rfl, fun j b hb hbe => ?_⟩
      rw [lst_set hsz]
      by_cases hji : j = i
      · subst hji; exact ⟨fun _ => by omega, fun _ => .inl rfl⟩
      · have : (Lst L j ↔ j < i) := orderE j b hb hji hke hbe
        constructor
        · rintro (e | hl)
          · exact absurd e hji
          · have := this.1 hl; omega
        · intro hlt'; right; exact this.2 (by omega)
    · rw [if_neg hke]
      refine ⟨k, hk, rfl, fun j b hb hbe => ?_⟩
      rw [lst_set hsz, ← hkw j b hb hbe]
      constructor
      · rintro (e | hl)
        · subst e; rw [hao] at hb; cases hb; exact absurd hbe hke
        · exact hl
      · exact .inr

end Am
end

