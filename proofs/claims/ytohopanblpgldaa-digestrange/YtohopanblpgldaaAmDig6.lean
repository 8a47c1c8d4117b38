/- Views: what a search finds; the live question. -/
import Derived.Test.YtohopanblpgldaaAmDig5
import Derived.Test.YtohopanblpgldaaAmShaF
set_option linter.all false
namespace Am.Dig
open Am Go Am.Ir Am.Sha
set_option maxRecDepth 100000

/-- How many places of a range are unlike. -/
def unl (vs ws : List (List UInt8)) (lo w : Nat) : Nat := ((List.range w).filter fun i => !(vs.getD (lo + i) [] == ws.getD (lo + i) [])).length

theorem unl_add (vs ws : List (List UInt8)) (lo a b : Nat) : unl vs ws lo (a + b) = unl vs ws lo a + unl vs ws (lo + a) b := by
  simp only [unl, List.range_add, List.filter_append, List.length_append]
  congr 1
  rw [List.filter_map, List.length_map]
  congr 1
  apply List.filter_congr
  intro i _
  simp only [Function.comp, Nat.add_assoc]

theorem unl_all (vs ws : List (List UInt8)) : unl vs ws 0 16 = (unlikeS vs ws).length := by
  simp only [unl, unlikeS, unlikeN, List.length_map, Nat.zero_add]

theorem rng_get {vs : List (List UInt8)} (h : View vs) {lo w i : Nat} (hi : i < w) (hl : lo + w ≤ 16) : (rng vs lo w)[i]? = some (vs.getD (lo + i) []) := by
  have := h.n
  simp only [rng, List.getD]
  rw [List.getElem?_take, if_pos hi, List.getElem?_drop, List.getElem?_eq_getElem (by omega)]; rfl

theorem unlike_exists {vs ws : List (List UInt8)} (hv : View vs) (hw : View ws) {lo w : Nat} (hl : lo + w ≤ 16) (h : (rangeH vs lo w == rangeH ws lo w) = false) : 0 < unl vs ws lo w := by
  apply Nat.pos_of_ne_zero
  intro h0
  have hall : ∀ i, i < w → vs.getD (lo + i) [] = ws.getD (lo + i) [] := fun i hi => by
    have hf := List.length_eq_zero_iff.1 h0
    have := List.filter_eq_nil_iff.1 hf i (List.mem_range.2 hi)
    simpa using this
  have e : rng vs lo w = rng ws lo w := by
    apply List.ext_getElem?
    intro i
    by_cases hi : i < w
    · rw [rng_get hv hi hl, rng_get hw hi hl, hall i hi]
    · rw [List.getElem?_eq_none (by rw [hv.rng_len hl]; omega), List.getElem?_eq_none (by rw [hw.rng_len hl]; omega)]
  rw [rangeH, rangeH, e] at h
  simp at h

theorem leaf_eq {vs : List (List UInt8)} (hv : View vs) {lo : Nat} (hl : lo + 1 ≤ 16) : rangeH vs lo 1 = vs.getD lo [] := by
  have h1 := rng_get hv (i := 0) (show 0 < 1 by omega) hl
  have hn := hv.rng_len hl
  rw [rangeH, treeD, if_neg (by omega), if_pos hn, List.getD, h1]; rfl

structure Found (vs ws : List (List UInt8)) (lo w : Nat) (l : List Int) : Prop where
  each : ∀ x ∈ l, (lo : Int) ≤ x ∧ x < ((lo + w : Nat) : Int) ∧ (vs.getD x.toNat [] == ws.getD x.toNat []) = false
  sorted : l.Pairwise (· < ·)

theorem search_law {vs ws : List (List UInt8)} (hv : View vs) (hw : View ws) : ∀ d lo, lo + 2 ^ d ≤ 16 → Found vs ws lo (2 ^ d) (searchW vs ws d lo).1 ∧ (searchW vs ws d lo).2 ≤ 1 + 2 * d * unl vs ws lo (2 ^ d) ∧ 1 ≤ (searchW vs ws d lo).2
  | 0, lo, hl => by
    have hl' : lo + 1 ≤ 16 := hl
    simp only [searchW]
    cases hq : rangeH vs lo 1 == rangeH ws lo 1 with
    | true => exact ⟨⟨by simp, by simp⟩, by simp, by simp⟩
    | false =>
      rw [leaf_eq hv hl', leaf_eq hw hl'] at hq
      simp only [Bool.false_eq_true, if_false]
      refine ⟨⟨fun x hx => ?_, by simp⟩, by simp, by simp⟩
      simp only [List.mem_singleton] at hx
      subst hx
      exact ⟨by omega, by simp; omega, by rw [Int.toNat_natCast]; exact hq⟩
  | d + 1, lo, hl => by
    have e1 : 2 ^ (d + 1) = 2 ^ d + 2 ^ d := by rw [Nat.pow_succ]; omega
    have hpos := Nat.pow_pos (n := d) (show 0 < 2 by omega)
    simp only [searchW]
    cases hq : rangeH vs lo (2 ^ (d + 1)) == rangeH ws lo (2 ^ (d + 1)) with
    | true => exact ⟨⟨by simp, by simp⟩, by simp, by simp⟩
    | false =>
      have hu := unlike_exists hv hw hl hq
      simp only [Bool.false_eq_true, if_false]
      obtain ⟨f1, c1, p1⟩ := search_law hv hw d lo (by omega)
      obtain ⟨f2, c2, p2⟩ := search_law hv hw d (lo + 2 ^ d) (by omega)
      rw [e1] at hu ⊢
      rw [unl_add] at hu ⊢
      obtain ⟨u1, hu1⟩ : ∃ u, unl vs ws lo (2 ^ d) = u := ⟨_, rfl⟩
      obtain ⟨u2, hu2⟩ : ∃ u, unl vs ws (lo + 2 ^ d) (2 ^ d) = u := ⟨_, rfl⟩
      rw [hu1] at c1 hu ⊢; rw [hu2] at c2 hu ⊢
      refine ⟨⟨fun x hx => ?_, ?_⟩, ?_, by omega⟩
      · rcases List.mem_append.1 hx with h | h
        · obtain ⟨a, b, c⟩ := f1.each x h
          exact ⟨a, by omega, c⟩
        · obtain ⟨a, b, c⟩ := f2.each x h
          exact ⟨by omega, by omega, c⟩
      · rw [List.pairwise_append]
        refine ⟨f1.sorted, f2.sorted, fun x hx y hy => ?_⟩
        have h1 := f1.each x hx
        have h2 := f2.each y hy
        omega
      · have e3 : 2 * (d + 1) * (u1 + u2) = 2 * d * u1 + 2 * d * u2 + 2 * (u1 + u2) := by
          rw [Nat.mul_add 2 d 1, Nat.add_mul, Nat.mul_add (2 * d)]
        omega

theorem search_same {vs : List (List UInt8)} : searchW vs vs 4 0 = ([], 1) := by
  simp [searchW]

/-- The tree, as the kernel reckons fast. -/
noncomputable def treeF : Nat → List (List UInt8) → List UInt8
  | 0, _ => []
  | d + 1, l => if l.length = 0 then List.replicate 32 0 else if l.length = 1 then l.getD 0 [] else fsha (treeF d (l.take (top l.length)) ++ treeF d (l.drop (top l.length)))

theorem treeF_eq : ∀ d l, treeF d l = treeD d l
  | 0, _ => rfl
  | d + 1, l => by rw [treeF, treeD, fsha_eq, treeF_eq d, treeF_eq d]

noncomputable def rangeF (vs : List (List UInt8)) (lo n : Nat) : List UInt8 := treeF 5 (rng vs lo n)
noncomputable def searchF (vs ws : List (List UInt8)) : Nat → Nat → List Int × Nat
  | 0, lo => if rangeF vs lo 1 == rangeF ws lo 1 then ([], 1) else ([(lo : Int)], 1)
  | d + 1, lo => if rangeF vs lo (2 ^ (d + 1)) == rangeF ws lo (2 ^ (d + 1)) then ([], 1) else ((searchF vs ws d lo).1 ++ (searchF vs ws d (lo + 2 ^ d)).1, (searchF vs ws d lo).2 + (searchF vs ws d (lo + 2 ^ d)).2 + 1)
theorem searchF_eq (vs ws : List (List UInt8)) : ∀ d lo, searchF vs ws d lo = searchW vs ws d lo
  | 0, lo => by simp only [searchF, searchW, rangeF, rangeH, treeF_eq]; rfl
  | d + 1, lo => by simp only [searchF, searchW, rangeF, rangeH, treeF_eq, searchF_eq vs ws d]; rfl

def vA : List (List UInt8) := (List.replicate 16 zeros32).set 3 (1 :: List.replicate 31 0)
def vZ : List (List UInt8) := List.replicate 16 zeros32

theorem view_vZ : View vZ := ⟨by simp [vZ], fun u hu => by rw [List.eq_of_mem_replicate hu]; exact zeros32_len⟩
theorem view_vA : View vA := view_vZ.set (by simp) 3

theorem alive_search : searchF vA vZ 4 0 = ([3], 9) := by kernel_rfl
end Am.Dig
