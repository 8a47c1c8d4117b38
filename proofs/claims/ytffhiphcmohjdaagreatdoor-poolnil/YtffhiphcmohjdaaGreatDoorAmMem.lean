/- Reading and writing cells: the model's runs, over related memories. -/
import Derived.Test.YtffhiphcmohjdaaGreatDoorAmRel
import Derived.Laws.Sem
set_option linter.all false
namespace Am
open Go Go.RowKit

def Runs (P : Program) (W : World) (κ : Kap) (w : World) (m : Sem Value) (v : AVal) (S' : St) : Prop :=
  ∃ v' w' κ', m.run P w = .ok v' w' ∧ VRel κ' v v' ∧ Rel W κ' S' w' ∧ κ.le κ'

theorem Runs.pure {P : Program} {W : World} {κ : Kap} {S : St} {w : World} {m : Sem Value} {v : AVal} {v' : Value} (h : Rel W κ S w)
    (hm : m.run P w = .ok v' w) (hv : VRel κ v v') : Runs P W κ w m v S := ⟨v', w, κ, hm, hv, h, Kap.le_refl κ⟩

theorem add_add (a : Addr) (i j : Nat) : (a.add i).add j = a.add (i + j) := by
  unfold Addr.add
  by_cases hi : i = 0
  · subst hi; simp
  · by_cases hj : j = 0
    · subst hj; simp
    · simp [hi, hj]; omega

theorem add_plain (b o j : Nat) : (⟨b, o, none⟩ : Addr).add j = ⟨b, o + j, none⟩ := by
  unfold Addr.add
  by_cases hj : j = 0
  · subst hj; simp
  · simp [hj]

theorem add_block (a : Addr) (j : Nat) : (a.add j).block = a.block := by
  unfold Addr.add; split <;> rfl

/-- The cells from an address on hold these values. -/
def At (w : World) (a : Addr) (ys : List Value) : Prop := ∀ (j : Nat) y, ys[j]? = some y → w.cell? (a.add j) = some y

theorem At.tail {w : World} {a : Addr} {y : Value} {ys : List Value} (h : At w a (y :: ys)) : At w (a.add 1) ys := by
  intro j z hz
  rw [add_add, Nat.add_comm]
  exact h (j + 1) z (by simpa using hz)
theorem At.drop {w : World} {a : Addr} {ys : List Value} (h : At w a ys) (n : Nat) : At w (a.add n) (ys.drop n) := by
  intro j z hz
  rw [add_add]
  exact h (n + j) z (by simpa [List.getElem?_drop] using hz)
theorem At.take {w : World} {a : Addr} {ys : List Value} (h : At w a ys) (n : Nat) : At w a (ys.take n) := by
  intro j z hz
  rw [List.getElem?_take] at hz
  split at hz
  · exact h j z hz
  · simp at hz

theorem run_loadCellsFrom (P : Program) (w : World) (a : Addr) : ∀ (ys : List Value) (i : Nat) (acc : Array Value), At w (a.add i) ys →
    (loadCellsFrom a i ys.length acc).run P w = .ok (acc ++ ys.toArray) w := by
  intro ys
  induction ys with
  | nil => intro i acc _; simp [loadCellsFrom]
  | cons y ys ih =>
    intro i acc h
    have h0 := h 0 y rfl
    rw [add_add] at h0
    simp only [List.length_cons, loadCellsFrom, Sem.run_bind, run_load]
    simp only [Nat.add_zero] at h0
    rw [h0]
    simp only [Result.andThen_ok]
    rw [ih (i + 1) (acc.push y) (by have := h.tail; rwa [add_add] at this)]
    simp

theorem run_loadCells (P : Program) (w : World) (a : Addr) (ys : List Value) (n : Nat) (hn : ys.length = n) (h : At w a ys) :
    (loadCells a n).run P w = .ok ys.toArray w := by
  subst hn
  unfold loadCells
  rw [run_loadCellsFrom P w a ys 0 #[] (by simpa [Addr.add] using h)]
  simp

theorem Rel.cells {W : World} {κ : Kap} {S : St} {w : World} (h : Rel W κ S w) {r v : Nat} {cells : List AVal} {i : BInfo}
    (hS : S[r]? = some (.live v cells)) (hi : κ.blocks[r]? = some i) :
    ∃ ys, VRelL κ cells ys ∧ (∀ y ∈ ys, scalar y) ∧ At w ⟨i.blk, i.base, none⟩ ys := by
  obtain ⟨a1, a2, a3, arr, e, fr, a4, a5, a6, a7, a8⟩ := h.own r v cells i hS hi
  have key : ∀ (j : Nat) y, ((arr.toList.drop i.base).take cells.length)[j]? = some y → j < cells.length ∧ arr[i.base + j]? = some y := by
    intro j y hy
    rw [List.getElem?_take] at hy
    split at hy
    · rename_i hj; rw [List.getElem?_drop] at hy; exact ⟨hj, by simpa using hy⟩
    · simp at hy
  refine ⟨(arr.toList.drop i.base).take cells.length, ⟨?_, ?_⟩, ?_, ?_⟩
  · simp; omega
  · intro j x y hx hy
    exact a7 j x y hx (key j y hy).2
  · intro y hy
    obtain ⟨j, hj⟩ := List.getElem?_of_mem hy
    exact a8 j y (key j y hj).1 (key j y hj).2
  · intro j y hy
    rw [add_plain]
    simp [World.cell?, a4, (key j y hy).2]

/-- What a pointer leads to. -/
def availA (x : AVal) (S : St) : Option (List AVal) :=
  match x with
  | .ptr r v off => match S[r]? with
    | some (.live v' cells) => if v' = v then some (cells.drop off) else none
    | _ => none
  | .fq cells => some cells
  | _ => none

theorem avail_of {W : World} {κ : Kap} {S : St} {w : World} (h : Rel W κ S w) {x : AVal} {x' : Value} (hx : VRel κ x x') {cs : List AVal}
    (ha : availA x S = some cs) : ∃ a ys, x' = .pointer (some a) ∧ VRelL κ cs ys ∧ (∀ y ∈ ys, scalar y) ∧ At w a ys := by
  unfold availA at ha
  split at ha
  · rename_i r v off
    split at ha
    · rename_i v' cells hS
      split at ha
      · rename_i hv; subst hv; cases ha
        cases hx with
        | ptr _ _ _ i a hr hv hh =>
          obtain ⟨ys, h1, h2, h3⟩ := h.cells hS hr
          have hver : v' = i.ver := ((h.own r v' cells i hS hr).1).symm
          refine ⟨a, ys.drop off, rfl, h1.drop off, fun y hy => h2 y (List.mem_of_mem_drop hy), ?_⟩
          rw [hh hver, ← add_plain]
          exact h3.drop off
      · simp at ha
    · simp at ha
  · cases ha
    cases hx with
    | fq _ a ys hs hl hsc hk hr =>
      refine ⟨a, ys, rfl, ⟨hl, hr⟩, hsc, fun j y hy => ?_⟩
      have hne : ys ≠ [] := by rintro rfl; simp at hy
      have := h.fz _ _ _ (hk j y hy)
      rw [← this]
      congr 1
      unfold Addr.add
      have hsp := hs hne
      obtain ⟨b, o, sp⟩ := a
      simp at hsp; subst hsp
      by_cases hj : j = 0
      · subst hj; simp
      · simp [hj]
  · simp at ha

theorem partA_drop (n : Option Nat) (off : Nat) (cs : List AVal) (v : AVal) (h : partA n off cs = some v) : partA n 0 (cs.drop off) = some v ∨ (n = some 0) := by
  cases n with
  | none => simp only [partA] at h ⊢; left; simpa using h
  | some n =>
    by_cases hn : n = 0
    · right; rw [hn]
    · left
      simp only [partA] at h ⊢
      split at h
      · rename_i hle; rw [if_pos (by simp; omega)]; simpa using h
      · simp at h

theorem loadA_avail {n : Option Nat} {x : AVal} {S : St} {v : AVal} (h : loadA n x S = some v) : ∃ cs, availA x S = some cs ∧ (partA n 0 cs = some v ∨ (n = some 0 ∧ v = .agg [])) := by
  unfold loadA at h
  split at h
  · rename_i r u off
    split at h
    · rename_i v' cells hS
      split at h
      · rename_i hv
        refine ⟨cells.drop off, by simp [availA, hS, hv], ?_⟩
        rcases partA_drop _ _ _ _ h with h' | h'
        · exact .inl h'
        · right; subst h'; simp only [partA] at h; split at h
          · simp at h; exact ⟨rfl, h.symm⟩
          · simp at h
      · simp at h
    · simp at h
  · rename_i cells
    exact ⟨cells, rfl, .inl h⟩
  · simp at h

/-- How a type's value is held: as an aggregate of so many cells, or as one. -/
def nOf (P : Program) (t : TypeId) : Option (Option Nat) :=
  match P.underlying t, P.info? t with
  | some (.struct _), some i => some (some i.size)
  | some (.array ..), some i => some (some i.size)
  | some _, some _ => some none
  | _, _ => none

theorem run_isAgg {P : Program} {t : TypeId} {n : Option Nat} (h : nOf P t = some n) (w : World) : (isAgg t).run P w = .ok n.isSome w := by
  unfold nOf at h
  split at h
  · rename_i hu hi; cases h; simp [isAgg, underlying, hu]
  · rename_i hu hi; cases h; simp [isAgg, underlying, hu]
  · rename_i hne hne' hu hi
    cases h
    simp only [isAgg, underlying, Sem.run_bind, run_program, Result.andThen_ok, hu, Sem.run_pure]
    rename_i d j
    cases d <;> simp_all
  · simp at h

theorem run_sizeOf {P : Program} {t : TypeId} {i : TypeInfo} (h : P.info? t = some i) (w : World) : (Go.sizeOf t).run P w = .ok i.size w := by
  simp [Go.sizeOf, typeInfo, h]

theorem nOf_info {P : Program} {t : TypeId} {n : Option Nat} (h : nOf P t = some n) : ∃ i, P.info? t = some i ∧ (∀ k, n = some k → i.size = k) := by
  unfold nOf at h
  split at h
  · rename_i hu hi; cases h; exact ⟨_, hi, fun k hk => by cases hk; rfl⟩
  · rename_i hu hi; cases h; exact ⟨_, hi, fun k hk => by cases hk; rfl⟩
  · rename_i hu hi; cases h; exact ⟨_, hi, fun k hk => by cases hk⟩
  · simp at h

theorem run_loadVar_cells {P : Program} {κ : Kap} {w : World} {t : TypeId} {n : Option Nat} (hn : nOf P t = some n) {a : Addr} {cs : List AVal} {ys : List Value} {v : AVal}
    (hl : VRelL κ cs ys) (hsc : ∀ y ∈ ys, scalar y) (hat : At w a ys) (hv : partA n 0 cs = some v ∨ (n = some 0 ∧ v = .agg [])) :
    ∃ v', (loadVar t a).run P w = .ok v' w ∧ VRel κ v v' := by
  obtain ⟨i, hi, hsz⟩ := nOf_info hn
  cases n with
  | none =>
    rcases hv with hv | ⟨hv, _⟩
    · simp only [partA] at hv
      obtain ⟨y, hy, hr⟩ := hl.get hv
      have := hat 0 y hy
      refine ⟨y, ?_, hr⟩
      simp only [loadVar, Sem.run_bind, run_isAgg hn, Result.andThen_ok, Option.isSome_none, Bool.false_eq_true, if_false, run_load]
      simp only [Addr.add, if_true] at this
      rw [this]
    · simp at hv
  | some n =>
    have hlen : n ≤ cs.length ∧ v = .agg (cs.take n) := by
      rcases hv with hv | ⟨hv, hv'⟩
      · simp only [partA] at hv
        split at hv
        · rename_i hle; simp at hv; exact ⟨by omega, hv.symm⟩
        · simp at hv
      · cases hv; exact ⟨Nat.zero_le _, by simpa using hv'⟩
    obtain ⟨hle, rfl⟩ := hlen
    have hlt := hl.take n
    refine ⟨.agg (ys.take n).toArray, ?_, .agg _ _ hlt.1 (fun y hy => hsc y (List.mem_of_mem_take hy)) hlt.2⟩
    simp only [loadVar, Sem.run_bind, run_isAgg hn, Result.andThen_ok, Option.isSome_some, if_true, run_sizeOf hi]
    rw [run_loadCells P w a (ys.take n) _ (by rw [hsz n rfl]; simp; have := hl.1; omega) (hat.take n)]
    simp

/-- Stores, one cell after the other. -/
theorem run_storeCells (P : Program) {blk : Nat} {e : TypeId} {fr : Nat × Nat} : ∀ (ys : List Value) (a : Addr) (i : Nat) (w : World) (arr : Array Value),
    a.block = blk → (ys ≠ [] → a.spot = none ∨ i ≠ 0) → w.heap[blk]? = some (.cells arr e fr) → a.off + i + ys.length ≤ arr.size →
    (∀ k, k < ys.length → ¬ (fr.1 ≤ a.off + i + k ∧ a.off + i + k < fr.2)) → (∀ y ∈ ys, scalar y) →
    ∃ w' arr', (storeCells a ys i).run P w = .ok () w' ∧ w'.heap[blk]? = some (.cells arr' e fr) ∧ arr'.size = arr.size ∧
      (∀ k, arr'[k]? = if a.off + i ≤ k ∧ k < a.off + i + ys.length then ys[k - (a.off + i)]? else arr[k]?) ∧
      (∀ b, b ≠ blk → w'.heap[b]? = w.heap[b]?) ∧ w'.heap.size = w.heap.size ∧ w'.os = w.os ∧ w'.tape = w.tape ∧ w'.output = w.output ∧ w'.drawn = w.drawn := by
  intro ys
  induction ys with
  | nil =>
    intro a i w arr hb _ hw _ _ _
    refine ⟨w, arr, by simp [storeCells], hw, rfl, fun k => ?_, fun _ _ => rfl, rfl, rfl, rfl, rfl, rfl⟩
    rw [if_neg (by simp)]
  | cons y ys ih =>
    intro a i w arr hb hsp hw hsz hfr hsc
    have hadd : a.add i = ⟨blk, a.off + i, none⟩ := by
      unfold Addr.add
      rcases hsp (by simp) with h | h
      · by_cases hi : i = 0
        · subst hi; obtain ⟨b, o, s⟩ := a; simp at h hb; subst h; subst hb; simp
        · obtain ⟨b, o, s⟩ := a; simp at hb; subst hb; simp [hi]
      · obtain ⟨b, o, s⟩ := a; simp at hb; subst hb; simp [h]
    have hlen : a.off + i < arr.size := by simp at hsz; omega
    have hcell : w.cell? (a.add i) = some arr[a.off + i] := by
      rw [hadd]; simp [World.cell?, hw, hlen]
    have hfz : w.frozen? (a.add i) = false := by
      rw [hadd]
      have := hfr 0 (by simp)
      simp only [World.frozen?, hw]
      simp only [Nat.add_zero] at this
      rw [Bool.and_eq_false_iff]
      by_cases h1 : fr.1 ≤ a.off + i
      · right; simp; omega
      · left; simp; omega
    have hone : y.oneCell' = true := by
      have := hsc y (by simp)
      cases y <;> simp_all [scalar, Value.oneCell']
    have hw1 : (w.setCell (a.add i) y).heap[blk]? = some (.cells (arr.setIfInBounds (a.off + i) y) e fr) := by
      rw [hadd]
      simp [World.setCell, Array.getElem?_modify, hw]
    obtain ⟨w', arr', h1, h2, h3, h4, h5, h6, h7, h8, h9, h10⟩ := ih a (i + 1) (w.setCell (a.add i) y) (arr.setIfInBounds (a.off + i) y) hb (fun _ => .inr (by omega)) hw1
      (by simp at hsz ⊢; omega) (fun k hk => by have := hfr (k + 1) (by simp; omega); rw [show a.off + (i + 1) + k = a.off + i + (k + 1) from by omega]; exact this)
      (fun z hz => hsc z (by simp [hz]))
    refine ⟨w', arr', ?_, h2, by simpa using h3, ?_, ?_, ?_, ?_, ?_, ?_, ?_⟩
    · simp only [storeCells, Sem.run_bind]
      rw [run_store P w (a.add i) y .plain hone, hcell]
      simp only [hfz, Bool.false_eq_true, if_false, Result.andThen_ok]
      exact h1
    · intro k
      rw [h4 k]
      by_cases hk : a.off + i ≤ k ∧ k < a.off + i + (y :: ys).length
      · rw [if_pos hk]
        by_cases hk0 : k = a.off + i
        · subst hk0
          rw [if_neg (by omega)]
          simp [hlen]
        · rw [if_pos (by simp at hk; omega)]
          rw [show k - (a.off + i) = (k - (a.off + (i + 1))) + 1 from by omega]
          simp
      · rw [if_neg hk, if_neg (by simp at hk; omega)]
        rw [Array.getElem?_setIfInBounds_ne (by simp at hk; omega)]
    · intro b hbne
      rw [h5 b hbne]
      simp [World.setCell, Array.getElem?_modify, add_block, hb, Ne.symm hbne]
    · rw [h6]; simp
    · rw [h7]; rfl
    · rw [h8]; rfl
    · rw [h9]; rfl
    · rw [h10]; rfl
end Am
