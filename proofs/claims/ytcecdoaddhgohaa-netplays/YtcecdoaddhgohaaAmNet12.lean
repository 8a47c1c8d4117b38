/- NetPlays: the loops. -/
import Derived.Test.YtcecdoaddhgohaaAmNet11
set_option linter.all false
namespace Am.Net
open Am Go Am.Ir
set_option maxRecDepth 100000

abbrev pO : Orc := orc [xNew, mAlive, xSend, mRefSend, xTake, mRefTake, xClear, xWaits, mRefWaits]

theorem store_at {S : St} {r v n j : Nat} {cells : List AVal} (hS : S[r]? = some (.live v cells)) (hn : cells.length = n) (hj : j < n) (m : Int) :
    iaddrSA 1 (.sl r v 0 n 1) (.int .i64 (j : Int)) = some (.ptr r v j) ∧ storeA 1 (.ptr r v j) (.int .u8 m) S = some (S.set r (.live v (cells.set j (.int .u8 m)))) := by
  have h2 : (j : Int) < n := by omega
  refine ⟨by simp [iaddrSA, h2], ?_⟩
  simp [storeA, cells?, hS]
  rw [splice_set _ _ _ (by omega)]
  simp; omega

/-- A loop that writes over all of a slice. -/
theorem fill0 {k : Nat} {S : St} {r v n : Nat} {cells : List AVal} (hk : n < k) (hn : cells.length = n) (hn6 : n ≤ 1000000) (hS : S[r]? = some (.live v cells)) {f : Fr} (h13 : f.get 13 = .sl r v 0 n 1) (h14 : f.get 14 = .int .i64 0) :
    ∃ f' S', evC pO k NetPlays_s1 f S = some (.normal, f', S') ∧ ((∀ t, t < 14 → f'.get t = f.get t) ∧ Keeps S S' [r]) := by
  refine loop_post (I := fun j f1 S1 => (∀ t, t < 14 → f1.get t = f.get t) ∧ f1.get 14 = .int .i64 (j : Int) ∧ Keeps S S1 [r] ∧ ∃ cs, cs.length = n ∧ S1[r]? = some (.live v cs)) n hk ?_ ?_ ⟨fun _ _ => rfl, by simpa using h14, Keeps.refl _ _, cells, hn, hS⟩
  · rintro j hj f1 S1 ⟨a1, a2, a3, cs, c1, c2⟩
    have g13 : f1.get 13 = .sl r v 0 n 1 := (a1 13 (by omega)).trans h13
    obtain ⟨e1, e2⟩ := store_at c2 c1 hj 5
    have hj' : (j : Int) < n := by omega
    have hw : IntKind.i64.wrap ((j : Int) + 1) = (j : Int) + 1 := by have := wrap_nat (n := j + 1) (by omega); simpa using this
    simp [Post, NetPlays_l0, pO, orc, evC, evOps, evOper, evAny, evOp, putR, putA, Fr.ev, Fr.get_set, stable, same, g13, a2, lenA, binA, intBin, hj', e1, e2, hw]
    refine ⟨fun t ht => ?_, ?_, cs.set j (.int .u8 5), by simp [c1], by simp [List.getElem?_set, live_lt c2]⟩
    · simp [Fr.get_set, a1 t ht, show t ≠ 62 by omega, show t ≠ 63 by omega, show t ≠ 64 by omega, show t ≠ 65 by omega, show t ≠ 66 by omega, show t ≠ 67 by omega, show t ≠ 68 by omega, show t ≠ 69 by omega, show t ≠ 70 by omega, show t ≠ 14 by omega]
    · exact a3.trans (Keeps.set S1 r _) (by simp)
  · rintro f1 S1 ⟨a1, a2, a3, cs, c1, c2⟩
    have g13 : f1.get 13 = .sl r v 0 n 1 := (a1 13 (by omega)).trans h13
    simp [Post, NetPlays_l0, pO, orc, evC, evOps, evOper, evAny, evOp, putR, putA, Fr.ev, Fr.get_set, stable, same, g13, a2, lenA, binA, intBin]
    refine ⟨fun t ht => ?_, a3⟩
    simp [Fr.get_set, a1 t ht, show t ≠ 62 by omega, show t ≠ 63 by omega, show t ≠ 64 by omega, show t ≠ 65 by omega]

theorem fill4 {k : Nat} {S : St} {r v n : Nat} {cells : List AVal} (hk : n < k) (hn : cells.length = n) (hn6 : n ≤ 1000000) (hS : S[r]? = some (.live v cells)) {f : Fr} (h13 : f.get 9 = .sl r v 0 n 1) (h14 : f.get 15 = .int .i64 0) :
    ∃ f' S', evC pO k NetPlays_s5 f S = some (.normal, f', S') ∧ ((∀ t, t < 14 → f'.get t = f.get t) ∧ Keeps S S' [r]) := by
  refine loop_post (I := fun j f1 S1 => (∀ t, t < 14 → f1.get t = f.get t) ∧ f1.get 15 = .int .i64 (j : Int) ∧ Keeps S S1 [r] ∧ ∃ cs, cs.length = n ∧ S1[r]? = some (.live v cs)) n hk ?_ ?_ ⟨fun _ _ => rfl, by simpa using h14, Keeps.refl _ _, cells, hn, hS⟩
  · rintro j hj f1 S1 ⟨a1, a2, a3, cs, c1, c2⟩
    have g13 : f1.get 9 = .sl r v 0 n 1 := (a1 9 (by omega)).trans h13
    obtain ⟨e1, e2⟩ := store_at c2 c1 hj 9
    have hj' : (j : Int) < n := by omega
    have hw : IntKind.i64.wrap ((j : Int) + 1) = (j : Int) + 1 := by have := wrap_nat (n := j + 1) (by omega); simpa using this
    simp [Post, NetPlays_l4, pO, orc, evC, evOps, evOper, evAny, evOp, putR, putA, Fr.ev, Fr.get_set, stable, same, g13, a2, lenA, binA, intBin, hj', e1, e2, hw]
    refine ⟨fun t ht => ?_, ?_, cs.set j (.int .u8 9), by simp [c1], by simp [List.getElem?_set, live_lt c2]⟩
    · simp [Fr.get_set, a1 t ht, show t ≠ 126 by omega, show t ≠ 127 by omega, show t ≠ 128 by omega, show t ≠ 129 by omega, show t ≠ 130 by omega, show t ≠ 131 by omega, show t ≠ 132 by omega, show t ≠ 133 by omega, show t ≠ 134 by omega, show t ≠ 15 by omega]
    · exact a3.trans (Keeps.set S1 r _) (by simp)
  · rintro f1 S1 ⟨a1, a2, a3, cs, c1, c2⟩
    have g13 : f1.get 9 = .sl r v 0 n 1 := (a1 9 (by omega)).trans h13
    simp [Post, NetPlays_l4, pO, orc, evC, evOps, evOper, evAny, evOp, putR, putA, Fr.ev, Fr.get_set, stable, same, g13, a2, lenA, binA, intBin]
    refine ⟨fun t ht => ?_, a3⟩
    simp [Fr.get_set, a1 t ht, show t ≠ 126 by omega, show t ≠ 127 by omega, show t ≠ 128 by omega, show t ≠ 129 by omega]

theorem fill4_nil {k : Nat} (hk : 0 < k) {S : St} {f : Fr} (h13 : f.get 9 = .nils) (h14 : f.get 15 = .int .i64 0) :
    ∃ f' S', evC pO k NetPlays_s5 f S = some (.normal, f', S') ∧ ((∀ t, t < 14 → f'.get t = f.get t) ∧ S' = S) := by
  refine loop_post (I := fun j f1 S1 => f1 = f ∧ S1 = S) 0 hk (fun j hj => by omega) ?_ ⟨rfl, rfl⟩
  rintro f1 S1 ⟨rfl, rfl⟩
  simp [Post, NetPlays_l4, pO, orc, evC, evOps, evOper, evAny, evOp, putR, putA, Fr.ev, Fr.get_set, stable, same, h13, h14, lenA, binA, intBin]
  intro t ht
  simp [Fr.get_set, show t ≠ 126 by omega, show t ≠ 127 by omega, show t ≠ 128 by omega, show t ≠ 129 by omega]
end Am.Net
