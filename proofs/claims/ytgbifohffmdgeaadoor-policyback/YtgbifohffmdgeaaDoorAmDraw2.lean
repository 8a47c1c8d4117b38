/- A region that draws its order comes to what its text's order comes to. -/
import Derived.Test.YtgbifohffmdgeaaDoorAmDraw
set_option linter.all false
namespace Am
open Go Go.RowKit

def argsOf : AOp ⊕ ACallee → List Arg
  | .inl op => op.args
  | .inr c => c.args
def kindOf : AOp ⊕ ACallee → OpKind
  | .inl op => op.kind
  | .inr _ => .eff

theorem evAny_float {O : Orc} {op : AOp ⊕ ACallee} {f g : Fr} {S T S' : St} {v : AVal} (h : evAny O f.ev S op = some (v, S')) (hg : ∀ t ∈ tmpsOf (argsOf op), g.get t = f.get t)
    (heff : kindOf op = .eff → T = S) (hread : kindOf op = .read → T = S ∨ sameVal (evAny O f.ev S op) (evAny O f.ev T op) = true) :
    evAny O g.ev T op = some (v, if kindOf op = .eff then S' else T) ∧ (kindOf op ≠ .eff → S' = S) := by
  cases op with
  | inr c =>
    have := heff rfl; subst this
    simp only [evAny] at h ⊢
    rw [evCall_congr (ev_congr hg), h]
    simp [kindOf]
  | inl p =>
    simp only [evAny] at h hread ⊢
    rw [evOp_congr (ev_congr hg)]
    by_cases hk : kindOf (.inl p : AOp ⊕ ACallee) = .eff
    · have := heff hk; subst this; rw [h, if_pos hk]; exact ⟨rfl, fun h => absurd hk h⟩
    · rw [if_neg hk]
      by_cases hp : p.kind = .pure
      · obtain ⟨h1, h2⟩ := evOp_pure hp h
        exact ⟨h2 T, fun _ => h1⟩
      · have hk' : p.kind ≠ .eff := hk
        have hr : p.kind = .read := by cases hx : p.kind <;> simp_all
        have h1 := evOp_read hr h
        refine ⟨?_, fun _ => h1⟩
        rcases hread hr with rfl | hs
        · rw [h, h1]
        · rw [h] at hs
          cases hy : evOp f.ev T p with
          | none => rw [hy] at hs; simp [sameVal] at hs
          | some u =>
            obtain ⟨u1, u2⟩ := u
            rw [hy] at hs
            simp only [sameVal] at hs
            rw [eq_of_beqV _ _ hs, evOp_read hr hy]

theorem evOper_float {O : Orc} {o : AOper} {f g f' : Fr} {S T S' : St} (h : evOper O o f S = some (f', S')) (hg : ∀ t ∈ o.reads, g.get t = f.get t)
    (heff : kindOf o.op = .eff → T = S) (hread : kindOf o.op = .read → T = S ∨ sameRead O o f S T = true) :
    ∃ v, f' = putA f o.dst v ∧ evOper O o g T = some (putA g o.dst v, if kindOf o.op = .eff then S' else T) ∧ (kindOf o.op ≠ .eff → S' = S) := by
  have hargs : ∀ t ∈ tmpsOf (argsOf o.op), g.get t = f.get t := by
    intro t ht
    apply hg
    simp only [AOper.reads, List.mem_append]
    left
    cases hx : o.op <;> rw [hx] at ht <;> simpa [argsOf] using ht
  have body : putR f o.dst (evAny O f.ev S o.op) = some (f', S') → (kindOf o.op = .read → T = S ∨ sameVal (evAny O f.ev S o.op) (evAny O f.ev T o.op) = true) →
      ∃ v, f' = putA f o.dst v ∧ putR g o.dst (evAny O g.ev T o.op) = some (putA g o.dst v, if kindOf o.op = .eff then S' else T) ∧ (kindOf o.op ≠ .eff → S' = S) := by
    intro hp hr
    cases hx : evAny O f.ev S o.op with
    | none => rw [hx] at hp; simp [putR] at hp
    | some p =>
      obtain ⟨v, S1⟩ := p
      rw [hx] at hp
      simp only [putR, Option.some.injEq, Prod.mk.injEq] at hp
      obtain ⟨rfl, rfl⟩ := hp
      obtain ⟨r1, r2⟩ := evAny_float hx hargs heff hr
      exact ⟨v, rfl, by rw [r1]; rfl, r2⟩
  unfold evOper at h ⊢
  unfold sameRead at hread
  cases hgd : o.guard with
  | none =>
    rw [hgd] at h hread
    exact body h hread
  | some gw =>
    obtain ⟨t, want⟩ := gw
    rw [hgd] at h hread
    simp only at h hread ⊢
    rw [hg t (by simp [AOper.reads, hgd])]
    cases hb : f.get t with
    | bool b =>
      rw [hb] at h hread
      simp only at h hread ⊢
      by_cases hbw : b = want
      · rw [if_pos hbw] at h hread ⊢
        exact body h hread
      · rw [if_neg hbw] at h ⊢
        simp only [Option.some.injEq, Prod.mk.injEq] at h
        obtain ⟨rfl, rfl⟩ := h
        refine ⟨.tup [], rfl, ?_, fun _ => rfl⟩
        by_cases hk : kindOf o.op = .eff
        · rw [if_pos hk, heff hk]
        · rw [if_neg hk]
    | tup vs =>
      rw [hb] at h
      simp only at h ⊢
      split at h
      · simp only [Option.some.injEq, Prod.mk.injEq] at h
        obtain ⟨rfl, rfl⟩ := h
        refine ⟨.tup [], rfl, ?_, fun _ => rfl⟩
        rename_i hv
        rw [if_pos hv]
        by_cases hk : kindOf o.op = .eff
        · rw [if_pos hk, heff hk]
        · rw [if_neg hk]
      · simp at h
    | _ => rw [hb] at h; simp at h

/-- The operations that an operation waits for, straight. -/
def ons (o : Oper) : List Nat := (o.after.toList.filter fun e => Region.binds .any e).map (·.on)

def dirM (o : Oper) (acc : List Nat) : Nat := (ons o).foldl (fun s i => s ||| 2 ^ i ||| acc.getD i 0) 0

def masksGo : List Oper → List Nat → List Nat
  | [], acc => acc
  | o :: r, acc => masksGo r (acc ++ [dirM o acc])

def masks (ops : Array Oper) : List Nat := masksGo ops.toList []

theorem foldl_bits (l : List Nat) (acc : List Nat) (i : Nat) : ∀ s : Nat, (l.foldl (fun s i => s ||| 2 ^ i ||| acc.getD i 0) s).testBit i = true → s.testBit i = true ∨ ∃ on ∈ l, i = on ∨ (acc.getD on 0).testBit i = true := by
  induction l with
  | nil => intro s h; exact .inl h
  | cons x l ih =>
    intro s h
    simp only [List.foldl_cons] at h
    rcases ih _ h with h1 | ⟨on, ho, h1⟩
    · rw [Nat.testBit_or, Nat.testBit_or, Bool.or_eq_true, Bool.or_eq_true] at h1
      rcases h1 with (h1 | h1) | h1
      · exact .inl h1
      · right; refine ⟨x, by simp, .inl ?_⟩
        rw [Nat.testBit_two_pow] at h1; simpa using (of_decide_eq_true h1).symm
      · right; exact ⟨x, by simp, .inr h1⟩
    · right; exact ⟨on, by simp [ho], h1⟩

theorem masksGo_prefix : ∀ (l : List Oper) (acc : List Nat), ∃ r, masksGo l acc = acc ++ r := by
  intro l
  induction l with
  | nil => intro acc; exact ⟨[], by simp [masksGo]⟩
  | cons o l ih =>
    intro acc
    obtain ⟨r, hr⟩ := ih (acc ++ [dirM o acc])
    exact ⟨[dirM o acc] ++ r, by simp [masksGo, hr]⟩

theorem masksGo_get : ∀ (l : List Oper) (acc : List Nat) (j : Nat) (o : Oper), l[j]? = some o → ∃ pre, (masksGo l acc)[acc.length + j]? = some (dirM o pre) ∧ ∃ r, masksGo l acc = pre ++ r ∧ pre.length = acc.length + j := by
  intro l
  induction l with
  | nil => intro acc j o h; simp at h
  | cons x l ih =>
    intro acc j o h
    cases j with
    | zero =>
      simp at h; subst h
      obtain ⟨r, hr⟩ := masksGo_prefix l (acc ++ [dirM x acc])
      refine ⟨acc, ?_, [dirM x acc] ++ r, by simp [masksGo, hr], rfl⟩
      simp [masksGo, hr]
    | succ j =>
      obtain ⟨pre, h1, r, h2, h3⟩ := ih (acc ++ [dirM x acc]) j o (by simpa using h)
      refine ⟨pre, ?_, r, by simp [masksGo, h2], by simp at h3; omega⟩
      simp only [masksGo]
      rw [← h1]; congr 1; simp; omega

theorem masks_bit {ops : Array Oper} {j : Nat} {o : Oper} (ho : ops[j]? = some o) (hon : ∀ i ∈ ons o, i < j) {i : Nat} (h : ((masks ops).getD j 0).testBit i = true) :
    ∃ on ∈ ons o, i = on ∨ ((masks ops).getD on 0).testBit i = true := by
  obtain ⟨pre, h1, r, h2, h3⟩ := masksGo_get ops.toList [] j o (by simpa using ho)
  simp only [List.length_nil, Nat.zero_add] at h1 h3
  have hm : (masks ops).getD j 0 = dirM o pre := by simp only [masks, List.getD_eq_getElem?_getD, h1, Option.getD_some]
  rw [hm] at h
  rcases foldl_bits (ons o) pre i 0 h with h0 | ⟨on, hm1, hm2⟩
  · simp at h0
  · refine ⟨on, hm1, ?_⟩
    rcases hm2 with h4 | h4
    · exact .inl h4
    · right
      have hlt := hon on hm1
      have : (masks ops).getD on 0 = pre.getD on 0 := by
        simp only [masks, List.getD_eq_getElem?_getD, h2]
        rw [List.getElem?_append_left (by omega)]
      rw [this]; exact h4

/-- Two operations that may not change places over a slot. -/
def slotConf (a b : AOper) : Bool :=
  (match b.dst with | some d => a.reads.contains d || a.dst == some d | none => false) ||
  (match a.dst with | some d => b.reads.contains d | none => false)

/-- Two operations that may not change places: over a slot, or both act. -/
def conflict (a b : AOper) : Bool := slotConf a b || (decide (kindOf a.op = .eff) && decide (kindOf b.op = .eff))

/-- A new variable, without a guard. -/
def isAlloc (o : Oper) : Bool := match o.op with
  | .alloc _ => o.guard.isNone && o.dst.isSome
  | _ => false

/-- A new variable that may come up ahead of something that acts and stands before it. -/
def flB (ops : Array Oper) (aos : List AOper) (m : List Nat) (j : Nat) : Bool :=
  (match ops[j]? with | some o => isAlloc o | none => false) && aos.zipIdx.any fun (a, i) => decide (i < j) && decide (kindOf a.op = .eff) && !(m.getD j 0).testBit i

def drawOk (ops : Array Oper) (aos : List AOper) : Bool :=
  let m := masks ops
  (ops.toList.zipIdx.all fun (o, j) => (ons o).all (· < j)) &&
  (aos.zipIdx.all fun (b, j) => aos.zipIdx.all fun (a, i) => !decide (i < j) || !conflict a b || (m.getD j 0).testBit i || (flB ops aos m j && !slotConf a b)) &&
  (aos.zipIdx.all fun (b, j) => !flB ops aos m j || aos.zipIdx.all fun (c, k) => (k == j || c.dst != b.dst) &&
    (!(m.getD k 0).testBit j || aos.zipIdx.all fun (a, i) => !decide (i < j) || !decide (kindOf a.op = .eff) || (m.getD k 0).testBit i))

def floats (ops : Array Oper) (aos : List AOper) : List (Nat × List Nat) :=
  let m := masks ops
  (aos.zipIdx.filterMap fun (a, i) => if kindOf a.op = .read then
      match aos.zipIdx.filterMap fun (b, j) => if kindOf b.op = .eff ∧ !(if i < j then (m.getD j 0).testBit i else (m.getD i 0).testBit j) then some j else none with
      | [] => none
      | l => some (i, l)
    else none) ++ aos.zipIdx.filterMap fun (_, j) => if flB ops aos m j = true then some (j, []) else none

theorem zipIdx_mem {α : Type} {l : List α} {i : Nat} {a : α} (h : l[i]? = some a) : (a, i) ∈ l.zipIdx := by
  rw [List.mem_zipIdx_iff_getElem?]; exact h

end Am
