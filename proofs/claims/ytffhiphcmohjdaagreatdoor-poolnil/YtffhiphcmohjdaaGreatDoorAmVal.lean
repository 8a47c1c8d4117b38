/- The abstract values of this session's own machine, and how they stand for the model's values. -/
import Derived.Calls
import Derived.Orders
import Derived.LoopN
import Derived.Below
import Derived.RangeFuncRecord
set_option linter.all false
namespace Am
open Go Go.RowKit

/-- A value of the abstract machine. 'junk' stands for any value. 'ptr', 'sl': into an owned block of the abstract heap, at a version of it.
'fz', 'fq': a slice, a pointer, whose cells never change: they are told in place. -/
inductive AVal where
  | junk
  | bool (b : Bool)
  | int (k : IntKind) (n : Int)
  | str (s : List UInt8)
  | ptr (r v off : Nat)
  | nilp
  | sl (r v off len sz : Nat)
  | nils
  | fz (full : Bool) (len : Nat) (cells : List AVal)
  | fq (cells : List AVal)
  | fn (f : Fn) (first captured : List AVal)
  | nilf
  | iface (t : TypeId) (v : AVal)
  | nili
  | agg (cells : List AVal)
  | tup (vs : List AVal)
  | mapn
  | yld (j : Nat)
  | mpv (j : Nat)
  | slm (r v off len mc sz : Nat)
  deriving Inhabited

/-- How code is left. -/
inductive Ex where
  | normal | exit (id : Nat) | ret
  deriving DecidableEq

def Ex.code : Ex → Code
  | .normal => .skip
  | .exit id => .exit id
  | .ret => .ret

/-- Where an owned block lies: block, first cell, cells that are its own, version. -/
structure BInfo where
  blk : Nat
  base : Nat
  ext : Nat
  ver : Nat

structure Kap where
  blocks : List BInfo
  fz : Nat → Nat → Option Value
  lo : Nat := 0
  recs : Nat → Option (Nat × Loop) := fun _ => none
  res : Nat → Option Obj := fun _ => none

/-- What is known already stays; what is held back (res) apart. -/
def Kap.le0 (κ κ' : Kap) : Prop :=
  (∀ (r : Nat) i, κ.blocks[r]? = some i → ∃ i', κ'.blocks[r]? = some i' ∧ (i' = i ∨ i.ver < i'.ver)) ∧
  (∀ b o y, κ.fz b o = some y → κ'.fz b o = some y) ∧
  κ'.lo = κ.lo ∧ (∀ b o y, κ'.fz b o = some y → κ.fz b o = some y ∨ κ.lo ≤ b) ∧
  ∀ j p, κ.recs j = some p → κ'.recs j = some p

def Kap.le (κ κ' : Kap) : Prop :=
  (∀ (r : Nat) i, κ.blocks[r]? = some i → ∃ i', κ'.blocks[r]? = some i' ∧ (i' = i ∨ i.ver < i'.ver)) ∧
  (∀ b o y, κ.fz b o = some y → κ'.fz b o = some y) ∧
  κ'.lo = κ.lo ∧ (∀ b o y, κ'.fz b o = some y → κ.fz b o = some y ∨ κ.lo ≤ b) ∧
  (∀ j p, κ.recs j = some p → κ'.recs j = some p) ∧ κ'.res = κ.res

theorem Kap.le.le0 {κ κ' : Kap} (h : κ.le κ') : κ.le0 κ' := ⟨h.1, h.2.1, h.2.2.1, h.2.2.2.1, h.2.2.2.2.1⟩
theorem Kap.le0.le {κ κ' : Kap} (h : κ.le0 κ') (hr : κ'.res = κ.res) : κ.le κ' := ⟨h.1, h.2.1, h.2.2.1, h.2.2.2.1, h.2.2.2.2, hr⟩
theorem Kap.le0_refl (κ : Kap) : κ.le0 κ := ⟨fun _ i h => ⟨i, h, .inl rfl⟩, fun _ _ _ h => h, rfl, fun _ _ _ h => .inl h, fun _ _ h => h⟩
theorem Kap.le0_trans {a b c : Kap} (h : a.le0 b) (h' : b.le0 c) : a.le0 c := by
  refine ⟨fun r i hi => ?_, fun x o y hy => h'.2.1 _ _ _ (h.2.1 _ _ _ hy), h'.2.2.1.trans h.2.2.1, fun b o y hy => ?_, fun j p hp => h'.2.2.2.2 j p (h.2.2.2.2 j p hp)⟩
  rotate_left
  · rcases h'.2.2.2.1 b o y hy with h1 | h1
    · exact h.2.2.2.1 b o y h1
    · rw [h.2.2.1] at h1; exact .inr h1
  obtain ⟨i', hi', e⟩ := h.1 r i hi
  obtain ⟨i'', hi'', e'⟩ := h'.1 r i' hi'
  refine ⟨i'', hi'', ?_⟩
  rcases e with rfl | e <;> rcases e' with rfl | e'
  · exact .inl rfl
  · exact .inr e'
  · exact .inr e
  · exact .inr (Nat.lt_trans e e')

theorem Kap.le_refl (κ : Kap) : κ.le κ := (Kap.le0_refl κ).le rfl
theorem Kap.le_trans {a b c : Kap} (h : a.le b) (h' : b.le c) : a.le c := (Kap.le0_trans h.le0 h'.le0).le (h'.2.2.2.2.2.trans h.2.2.2.2.2)

/-- No aggregate, no tuple: what one cell may hold. -/
def scalar : Value → Prop
  | .agg _ | .tuple _ => False
  | _ => True

inductive VRel (κ : Kap) : AVal → Value → Prop where
  | junk (x : Value) : VRel κ .junk x
  | bool (b : Bool) : VRel κ (.bool b) (.bool b)
  | int (k : IntKind) (n : Int) : VRel κ (.int k n) (.int k n)
  | str (s : List UInt8) (b : ByteArray) (h : b.data.toList = s) : VRel κ (.str s) (.string b)
  | ptr (r v off : Nat) (i : BInfo) (a : Addr) (hr : κ.blocks[r]? = some i) (hv : v ≤ i.ver)
      (h : v = i.ver → a = ⟨i.blk, i.base + off, none⟩) : VRel κ (.ptr r v off) (.pointer (some a))
  | nilp : VRel κ .nilp (.pointer none)
  | sl (r v off len sz : Nat) (i : BInfo) (a : Addr) (c : Nat) (hr : κ.blocks[r]? = some i) (hv : v ≤ i.ver) (hc : len ≤ c)
      (h : v = i.ver → off + c * sz ≤ i.ext ∧ (c = 0 ∨ a = ⟨i.blk, i.base + off, none⟩)) : VRel κ (.sl r v off len sz) (.slice (some a) len c)
  | nils : VRel κ .nils (.slice none 0 0)
  | fz (full : Bool) (len : Nat) (cells : List AVal) (a : Addr) (c : Nat) (ys : List Value) (hc : len ≤ c) (hfull : full = true → c = len)
      (hs : ys ≠ [] → a.spot = none) (hl : cells.length = ys.length) (hsc : ∀ y ∈ ys, scalar y)
      (hk : ∀ (j : Nat) y, ys[j]? = some y → κ.fz a.block (a.off + j) = some y)
      (hr : ∀ (j : Nat) x y, cells[j]? = some x → ys[j]? = some y → VRel κ x y) : VRel κ (.fz full len cells) (.slice (some a) len c)
  | fq (cells : List AVal) (a : Addr) (ys : List Value)
      (hs : ys ≠ [] → a.spot = none) (hl : cells.length = ys.length) (hsc : ∀ y ∈ ys, scalar y)
      (hk : ∀ (j : Nat) y, ys[j]? = some y → κ.fz a.block (a.off + j) = some y)
      (hr : ∀ (j : Nat) x y, cells[j]? = some x → ys[j]? = some y → VRel κ x y) : VRel κ (.fq cells) (.pointer (some a))
  | fn (f : Fn) (first captured : List AVal) (first' captured' : List Value) (hl : first.length = first'.length) (hl' : captured.length = captured'.length)
      (hr : ∀ (j : Nat) x y, first[j]? = some x → first'[j]? = some y → VRel κ x y)
      (hr' : ∀ (j : Nat) x y, captured[j]? = some x → captured'[j]? = some y → VRel κ x y) : VRel κ (.fn f first captured) (.func f first'.toArray captured'.toArray)
  | nilf : VRel κ .nilf .nilFunc
  | iface (t : TypeId) (v : AVal) (x : Value) (h : VRel κ v x) : VRel κ (.iface t v) (.iface t x)
  | nili : VRel κ .nili .nilIface
  | agg (cells : List AVal) (ys : List Value) (hl : cells.length = ys.length) (hsc : ∀ y ∈ ys, scalar y)
      (hr : ∀ (j : Nat) x y, cells[j]? = some x → ys[j]? = some y → VRel κ x y) : VRel κ (.agg cells) (.agg ys.toArray)
  | tup (cells : List AVal) (ys : List Value) (hl : cells.length = ys.length)
      (hr : ∀ (j : Nat) x y, cells[j]? = some x → ys[j]? = some y → VRel κ x y) : VRel κ (.tup cells) (.tuple ys.toArray)
  | mapn : VRel κ .mapn (.map none)
  | yld (j l : Nat) (t : Loop) (i : BInfo) (h : κ.recs j = some (l, t)) (hi : κ.blocks[j]? = some i) : VRel κ (.yld j) (.func (.yield l) #[] #[])
  | mpv (j l : Nat) (t : Loop) (i : BInfo) (h : κ.recs j = some (l, t)) (hi : κ.blocks[j]? = some i) : VRel κ (.mpv j) (.map (some l))
  | slm (r v off len mc sz : Nat) (i : BInfo) (a : Addr) (c : Nat) (hr : κ.blocks[r]? = some i) (hv : v ≤ i.ver) (hm : len ≤ mc) (hc : mc ≤ c)
      (h : v = i.ver → off + c * sz ≤ i.ext ∧ (c = 0 ∨ a = ⟨i.blk, i.base + off, none⟩)) : VRel κ (.slm r v off len mc sz) (.slice (some a) len c)

def VRelL (κ : Kap) (xs : List AVal) (ys : List Value) : Prop :=
  xs.length = ys.length ∧ ∀ (j : Nat) x y, xs[j]? = some x → ys[j]? = some y → VRel κ x y

theorem VRelL.nil (κ : Kap) : VRelL κ [] [] := ⟨rfl, by simp⟩
theorem VRelL.cons {κ : Kap} {x : AVal} {y : Value} {xs : List AVal} {ys : List Value} (h : VRel κ x y) (t : VRelL κ xs ys) : VRelL κ (x :: xs) (y :: ys) := by
  refine ⟨by simp [t.1], fun j a b ha hb => ?_⟩
  cases j with
  | zero => simp at ha hb; subst ha; subst hb; exact h
  | succ j => simp at ha hb; exact t.2 j a b ha hb
theorem VRelL.cons_inv {κ : Kap} {x : AVal} {y : Value} {xs : List AVal} {ys : List Value} (h : VRelL κ (x :: xs) (y :: ys)) : VRel κ x y ∧ VRelL κ xs ys :=
  ⟨h.2 0 x y rfl rfl, by have := h.1; simpa using this, fun j a b ha hb => h.2 (j + 1) a b (by simpa using ha) (by simpa using hb)⟩
theorem VRelL.uncons {κ : Kap} {x : AVal} {xs : List AVal} {l : List Value} (h : VRelL κ (x :: xs) l) : ∃ y ys, l = y :: ys ∧ VRel κ x y ∧ VRelL κ xs ys := by
  cases l with
  | nil => have := h.1; simp at this
  | cons y ys => exact ⟨y, ys, rfl, h.cons_inv⟩
theorem VRelL.unnil {κ : Kap} {l : List Value} (h : VRelL κ [] l) : l = [] := by
  have := h.1; cases l with
  | nil => rfl
  | cons => simp at this
theorem VRelL.append {κ : Kap} {a b : List AVal} {x y : List Value} (h : VRelL κ a x) (h' : VRelL κ b y) : VRelL κ (a ++ b) (x ++ y) := by
  refine ⟨by simp [h.1, h'.1], fun j u v hu hv => ?_⟩
  rw [List.getElem?_append] at hu hv
  rw [h.1] at hu
  split at hu
  · rename_i hj; rw [if_pos hj] at hv; exact h.2 j u v hu hv
  · rename_i hj; rw [if_neg hj] at hv; exact h'.2 _ u v hu hv
theorem VRelL.take {κ : Kap} {a : List AVal} {x : List Value} (n : Nat) (h : VRelL κ a x) : VRelL κ (a.take n) (x.take n) := by
  refine ⟨by simp [h.1], fun j u v hu hv => ?_⟩
  rw [List.getElem?_take] at hu hv
  split at hu
  · rename_i hj; rw [if_pos hj] at hv; exact h.2 j u v hu hv
  · simp at hu
theorem VRelL.drop {κ : Kap} {a : List AVal} {x : List Value} (n : Nat) (h : VRelL κ a x) : VRelL κ (a.drop n) (x.drop n) := by
  refine ⟨by simp [h.1], fun j u v hu hv => ?_⟩
  rw [List.getElem?_drop] at hu hv
  exact h.2 _ u v hu hv
theorem VRelL.get {κ : Kap} {a : List AVal} {x : List Value} (h : VRelL κ a x) {j : Nat} {u : AVal} (hu : a[j]? = some u) : ∃ v, x[j]? = some v ∧ VRel κ u v := by
  have hj : j < x.length := by rw [← h.1]; exact (List.getElem?_eq_some_iff.1 hu).1
  exact ⟨x[j], List.getElem?_eq_getElem hj, h.2 j u _ hu (List.getElem?_eq_getElem hj)⟩
theorem VRelL.reverse {κ : Kap} {a : List AVal} {x : List Value} (h : VRelL κ a x) : VRelL κ a.reverse x.reverse := by
  induction a generalizing x with
  | nil => rw [h.unnil]; exact .nil κ
  | cons u a ih =>
    obtain ⟨y, ys, rfl, hy, hys⟩ := h.uncons
    simp only [List.reverse_cons]
    exact (ih hys).append (.cons hy (.nil κ))

theorem VRel.mono0 {κ κ' : Kap} (hle : κ.le0 κ') {x : AVal} {y : Value} (h : VRel κ x y) : VRel κ' x y := by
  induction h with
  | junk x => exact .junk x
  | bool b => exact .bool b
  | int k n => exact .int k n
  | str s b h => exact .str s b h
  | ptr r v off i a hr hv h =>
    obtain ⟨i', hi', e⟩ := hle.1 r i hr
    rcases e with rfl | e
    · exact .ptr r v off i' a hi' hv h
    · exact .ptr r v off i' a hi' (by omega) (by omega)
  | nilp => exact .nilp
  | sl r v off len sz i a c hr hv hc h =>
    obtain ⟨i', hi', e⟩ := hle.1 r i hr
    rcases e with rfl | e
    · exact .sl r v off len sz i' a c hi' hv hc h
    · exact .sl r v off len sz i' a c hi' (by omega) hc (by omega)
  | nils => exact .nils
  | fz full len cells a c ys hc hfull hs hl hsc hk _ ih => exact .fz full len cells a c ys hc hfull hs hl hsc (fun j y hy => hle.2.1 _ _ _ (hk j y hy)) ih
  | fq cells a ys hs hl hsc hk _ ih => exact .fq cells a ys hs hl hsc (fun j y hy => hle.2.1 _ _ _ (hk j y hy)) ih
  | fn f first captured first' captured' hl hl' _ _ ih ih' => exact .fn f first captured first' captured' hl hl' ih ih'
  | nilf => exact .nilf
  | iface t v x _ ih => exact .iface t v x ih
  | nili => exact .nili
  | agg cells ys hl hsc _ ih => exact .agg cells ys hl hsc ih
  | tup cells ys hl _ ih => exact .tup cells ys hl ih
  | mapn => exact .mapn
  | yld j l t i h hi =>
    obtain ⟨i', hi', _⟩ := hle.1 j i hi
    exact .yld j l t i' (hle.2.2.2.2 j _ h) hi'
  | mpv j l t i h hi =>
    obtain ⟨i', hi', _⟩ := hle.1 j i hi
    exact .mpv j l t i' (hle.2.2.2.2 j _ h) hi'
  | slm r v off len mc sz i a c hr hv hm hc h =>
    obtain ⟨i', hi', e⟩ := hle.1 r i hr
    rcases e with rfl | e
    · exact .slm r v off len mc sz i' a c hi' hv hm hc h
    · exact .slm r v off len mc sz i' a c hi' (by omega) hm hc (by omega)

theorem VRel.mono {κ κ' : Kap} (hle : κ.le κ') {x : AVal} {y : Value} (h : VRel κ x y) : VRel κ' x y := h.mono0 hle.le0

theorem VRelL.mono0 {κ κ' : Kap} (hle : κ.le0 κ') {x : List AVal} {y : List Value} (h : VRelL κ x y) : VRelL κ' x y :=
  ⟨h.1, fun j a b ha hb => (h.2 j a b ha hb).mono0 hle⟩

theorem VRelL.mono {κ κ' : Kap} (hle : κ.le κ') {x : List AVal} {y : List Value} (h : VRelL κ x y) : VRelL κ' x y :=
  ⟨h.1, fun j a b ha hb => (h.2 j a b ha hb).mono hle⟩

/-- The cells that a value takes in memory. -/
def cells? : AVal → Option (List AVal)
  | .junk => none
  | .tup _ => none
  | .agg cs => some cs
  | v => some [v]

theorem VRel.cells {κ : Kap} {x : AVal} {y : Value} (h : VRel κ x y) {cs : List AVal} (hc : cells? x = some cs) :
    VRelL κ cs y.cells.toList ∧ ∀ z ∈ y.cells.toList, scalar z := by
  cases h with
  | junk => simp [cells?] at hc
  | tup => simp [cells?] at hc
  | agg cells ys hl hsc hr => simp [cells?] at hc; subst hc; exact ⟨⟨by simpa [Value.cells] using hl, by simpa [Value.cells] using hr⟩, by simpa [Value.cells] using hsc⟩
  | _ =>
    simp only [cells?, Option.some.injEq] at hc; subst hc
    refine ⟨.cons ?_ (.nil κ), by simp [Value.cells, scalar]⟩
    constructor <;> assumption

/-- A block of the abstract heap. -/
inductive ABlock where
  | dead
  | live (v : Nat) (cells : List AVal)
  | loop (st : LoopState) (pe : Option Ex)
  | mp (es : List (AVal × AVal)) (clock : Nat)
  deriving Inhabited

abbrev St := List ABlock

/-- What holds cells. -/
def isCel : Obj → Bool
  | .cells .. => true
  | _ => false

/-- No cells: a record of a loop over a function, a map. -/
def other : ABlock → Bool
  | .loop .. | .mp .. => true
  | _ => false

/-- A key, or what stands at one: a number or a text. -/
def flatV : AVal → Value → Prop
  | .int k n, .int j m => k = j ∧ n = m
  | .str s, .string b => b.data.toList = s
  | _, _ => False

/-- A map's entries. -/
def EntsOk (es : List (AVal × AVal)) (xs : Array MapEntry) : Prop :=
  es.length = xs.size ∧ ∀ (i : Nat) e x, es[i]? = some e → xs[i]? = some x → flatV e.1 x.key ∧ flatV e.2 x.val

/-- Entries bear unlike numbers of birth, all below the clock. -/
def Born (clk : Nat) (xs : Array MapEntry) : Prop := (xs.toList.map (·.born)).Nodup ∧ ∀ x ∈ xs.toList, x.born < clk

def OthOk (W w : World) (l : Nat) (t : Loop) : ABlock → Prop
  | .loop st pe => w.heap[l]? = some (.loop { t with state := st, pending := pe.map Ex.code }) ∧ W.heap.size ≤ l ∧ w.heap[t.defers]? = some (.deferred (some [])) ∧ W.heap.size ≤ t.defers
  | .mp es clk => W.heap.size ≤ l ∧ t.defers = l ∧ ∃ xs, w.heap[l]? = some (.map xs clk) ∧ EntsOk es xs ∧ Born clk xs
  | _ => True

/-- The records of the loops over functions that run, and the maps. -/
structure LoopsOk (W : World) (κ : Kap) (S : St) (w : World) : Prop where
  atO : ∀ (j : Nat) b, other b = true → S[j]? = some b → ∃ l t, κ.recs j = some (l, t) ∧ OthOk W w l t b
  disjO : ∀ (j j' : Nat) b b' l t l' t', other b = true → other b' = true → S[j]? = some b → S[j']? = some b' → κ.recs j = some (l, t) → κ.recs j' = some (l', t') →
    l = l' ∨ t.defers = t'.defers ∨ l = t'.defers ∨ t.defers = l' → j = j'

theorem LoopsOk.at' {W : World} {κ : Kap} {S : St} {w : World} (h : LoopsOk W κ S w) (j : Nat) (st : LoopState) (pe : Option Ex) (hj : S[j]? = some (.loop st pe)) :
    ∃ l t, κ.recs j = some (l, t) ∧ w.heap[l]? = some (.loop { t with state := st, pending := pe.map Ex.code }) ∧
    W.heap.size ≤ l ∧ w.heap[t.defers]? = some (.deferred (some [])) ∧ W.heap.size ≤ t.defers := h.atO j _ rfl hj
theorem LoopsOk.disj {W : World} {κ : Kap} {S : St} {w : World} (h : LoopsOk W κ S w) (j j' : Nat) (st : LoopState) (pe : Option Ex) (st' : LoopState) (pe' : Option Ex) (l : Nat) (t : Loop) (l' : Nat) (t' : Loop)
    (hj : S[j]? = some (.loop st pe)) (hj' : S[j']? = some (.loop st' pe')) (hl : κ.recs j = some (l, t)) (hl' : κ.recs j' = some (l', t')) (hh : l = l' ∨ t.defers = t'.defers) : j = j' :=
  h.disjO j j' _ _ l t l' t' rfl rfl hj hj' hl hl' (hh.elim .inl fun h => .inr (.inl h))

/-- What is held back: blocks that nobody sees. -/
structure ResOk (W : World) (κ : Kap) (S : St) (w : World) : Prop where
  at' : ∀ (b : Nat) o, κ.res b = some o → w.heap[b]? = some o ∧ W.heap.size ≤ b
  live : ∀ (b : Nat) o (r v : Nat) cs i, κ.res b = some o → S[r]? = some (.live v cs) → κ.blocks[r]? = some i → i.blk ≠ b
  fz : ∀ (b : Nat) o x y, κ.res b = some o → κ.fz b x = some y → False
  loopO : ∀ (b : Nat) o (j : Nat) q l t, κ.res b = some o → other q = true → S[j]? = some q → κ.recs j = some (l, t) → l ≠ b ∧ t.defers ≠ b

theorem ResOk.loop {W : World} {κ : Kap} {S : St} {w : World} (h : ResOk W κ S w) (b : Nat) (o : Obj) (j : Nat) (st : LoopState) (pe : Option Ex) (l : Nat) (t : Loop) (hb : κ.res b = some o) (hj : S[j]? = some (.loop st pe)) (hr : κ.recs j = some (l, t)) :
    l ≠ b ∧ t.defers ≠ b := h.loopO b o j _ l t hb rfl hj hr

structure Rel (W : World) (κ : Kap) (S : St) (w : World) : Prop where
  below : Below W.heap.size W w
  len : κ.blocks.length = S.length
  own : ∀ (r v : Nat) cells i, S[r]? = some (.live v cells) → κ.blocks[r]? = some i →
    i.ver = v ∧ W.heap.size ≤ i.blk ∧ cells.length ≤ i.ext ∧
    ∃ arr e fr, w.heap[i.blk]? = some (.cells arr e fr) ∧ i.base + i.ext ≤ arr.size ∧
      (fr.1 = fr.2 ∨ arr.size ≤ fr.1) ∧
      (∀ (j : Nat) x y, cells[j]? = some x → arr[i.base + j]? = some y → VRel κ x y) ∧
      (∀ j y, j < cells.length → arr[i.base + j]? = some y → scalar y)
  disj : ∀ (r r' v v' : Nat) cs cs' i i', S[r]? = some (.live v cs) → S[r']? = some (.live v' cs') → κ.blocks[r]? = some i → κ.blocks[r']? = some i' →
    i.blk = i'.blk → r = r'
  fz : ∀ b o y, κ.fz b o = some y → w.cell? ⟨b, o, none⟩ = some y
  fzd : ∀ b o y (r v : Nat) cs i, κ.fz b o = some y → S[r]? = some (.live v cs) → κ.blocks[r]? = some i → i.blk ≠ b
  lo : κ.lo ≤ W.heap.size
  loops : LoopsOk W κ S w
  dom : ∀ j p, κ.recs j = some p → j < κ.blocks.length
  held : ResOk W κ S w

theorem OthOk.keep {W w w' : World} {l : Nat} {t : Loop} {b : ABlock} (h : OthOk W w l t b) (hw : ∀ (b : Nat) o, w.heap[b]? = some o → isCel o = false → w'.heap[b]? = some o) : OthOk W w' l t b := by
  cases b with
  | loop st pe => exact ⟨hw _ _ h.1 rfl, h.2.1, hw _ _ h.2.2.1 rfl, h.2.2.2⟩
  | mp es clk => obtain ⟨h1, h2, xs, h3, h4⟩ := h; exact ⟨h1, h2, xs, hw _ _ h3 rfl, h4⟩
  | _ => trivial

/-- What is no cells stays: so do the records. -/
theorem LoopsOk.step {W : World} {κ κ' : Kap} {S S' : St} {w w' : World} (h : LoopsOk W κ S w) (hle : ∀ j p, κ.recs j = some p → κ'.recs j = some p)
    (hS : ∀ (j : Nat) b, other b = true → S'[j]? = some b → S[j]? = some b)
    (hw : ∀ (b : Nat) o, w.heap[b]? = some o → isCel o = false → w'.heap[b]? = some o) : LoopsOk W κ' S' w' where
  atO j b hb hj := by
    obtain ⟨l, t, h1, h2⟩ := h.atO j b hb (hS j b hb hj)
    exact ⟨l, t, hle _ _ h1, h2.keep hw⟩
  disjO j j' b b' l t l' t' hb hb' hj hj' hl hl' hh := by
    obtain ⟨a, c, h1, _⟩ := h.atO j b hb (hS j b hb hj)
    obtain ⟨a', c', h1', _⟩ := h.atO j' b' hb' (hS j' b' hb' hj')
    have e1 := hle _ _ h1; rw [hl] at e1; cases e1
    have e2 := hle _ _ h1'; rw [hl'] at e2; cases e2
    exact h.disjO j j' b b' _ _ _ _ hb hb' (hS j b hb hj) (hS j' b' hb' hj') h1 h1' hh

theorem ResOk.step {W : World} {κ κ' : Kap} {S S' : St} {w w' : World} (h : ResOk W κ S w) (hloops : LoopsOk W κ S w) (hres : κ'.res = κ.res)
    (hkeep : ∀ (b : Nat) o, κ.res b = some o → w.heap[b]? = some o → w'.heap[b]? = some o)
    (hlive : ∀ (r v : Nat) cs i, S'[r]? = some (.live v cs) → κ'.blocks[r]? = some i → (∃ (r0 v0 : Nat) (cs0 : List AVal) (i0 : BInfo), S[r0]? = some (.live v0 cs0) ∧ κ.blocks[r0]? = some i0 ∧ i0.blk = i.blk) ∨ w.heap.size ≤ i.blk)
    (hfz : ∀ (b : Nat) x y, κ'.fz b x = some y → κ.fz b x = some y ∨ w.heap.size ≤ b)
    (hS : ∀ (j : Nat) b, other b = true → S'[j]? = some b → S[j]? = some b) (hrec : ∀ j p, κ.recs j = some p → κ'.recs j = some p) : ResOk W κ' S' w' where
  at' b o hb := by
    rw [hres] at hb
    exact ⟨hkeep b o hb (h.at' b o hb).1, (h.at' b o hb).2⟩
  live b o r v cs i hb hr hi := by
    rw [hres] at hb
    have hlt := (Array.getElem?_eq_some_iff.1 (h.at' b o hb).1).1
    rcases hlive r v cs i hr hi with ⟨r0, v0, cs0, i0, h1, h2, h3⟩ | h1
    · rw [← h3]; exact h.live b o r0 v0 cs0 i0 hb h1 h2
    · omega
  fz b o x y hb hy := by
    rw [hres] at hb
    have hlt := (Array.getElem?_eq_some_iff.1 (h.at' b o hb).1).1
    rcases hfz b x y hy with h1 | h1
    · exact h.fz b o x y hb h1
    · omega
  loopO b o j q l t hb hq hj hr := by
    rw [hres] at hb
    obtain ⟨l', t', h1, _⟩ := hloops.atO j q hq (hS j q hq hj)
    have := hrec _ _ h1; rw [hr] at this; cases this
    exact h.loopO b o j q l t hb hq (hS j q hq hj) h1

theorem ResOk.none (W : World) (κ : Kap) (S : St) (w : World) (h : κ.res = fun _ => Option.none) : ResOk W κ S w :=
  ⟨fun b o hb => by rw [h] at hb; simp at hb, fun b o _ _ _ _ hb => by rw [h] at hb; simp at hb, fun b o _ _ hb => by rw [h] at hb; simp at hb, fun b o _ _ _ _ hb => by rw [h] at hb; simp at hb⟩

theorem LoopsOk.nil (W : World) (κ : Kap) (w : World) : LoopsOk W κ [] w := ⟨fun _ _ _ h => by simp at h, fun _ _ _ _ _ _ _ _ _ _ h => by simp at h⟩

end Am
