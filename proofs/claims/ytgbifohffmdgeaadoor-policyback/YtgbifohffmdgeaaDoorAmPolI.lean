import Derived.Test.YtgbifohffmdgeaaDoorAmPolE
import Derived.Test.YtgbifohffmdgeaaDoorAmLoopM
set_option linter.all false
/- The stable sort: rotate. -/
section
namespace Am.Pol
open Am Go Am.Ir
set_option maxRecDepth 100000
attribute [local simp] ox oz kx kz og ogz kg kgz mo ai

/-- What is to be turned yet: G is the end. -/
def RotI (G e : List Nat) (m i j : Nat) : Prop := ∃ p X Y q, e = p ++ (X ++ (Y ++ q)) ∧ G = p ++ (Y ++ (X ++ q)) ∧ X.length = i ∧ Y.length = j ∧ p.length + i = m

theorem RotI.gt {G e : List Nat} {m i j : Nat} (h : RotI G e m i j) (hij : j < i) : RotI G (swN e (m - i) m j) m (i - j) j := by
  obtain ⟨p, X, Y, q, rfl, rfl, hX, hY, hp⟩ := h
  refine ⟨p ++ Y, X.drop j, X.take j, q, ?_, ?_, by simp [hX], by simp [hX]; omega, by simp; omega⟩
  · have h1 : (X.take j).length = Y.length := by simp [hX, hY]; omega
    have h2 := swN_parts (p := p) (x := X.take j) (z := X.drop j) (y := Y) (q := q) h1
    have e1 : p.length = m - i := by omega
    have e2 : p.length + (X.take j).length + (X.drop j).length = m := by simp [hX]; omega
    have e3 : (X.take j).length = j := by omega
    rw [e2, e3, e1] at h2
    have e4 : X.take j ++ (X.drop j ++ (Y ++ q)) = X ++ (Y ++ q) := by rw [← List.append_assoc, List.take_append_drop]
    rw [e4] at h2
    rw [h2]; simp
  · have e4 : X.take j ++ (X.drop j ++ q) = X ++ q := by rw [← List.append_assoc, List.take_append_drop]
    simp [e4]

theorem RotI.lt {G e : List Nat} {m i j : Nat} (h : RotI G e m i j) (hij : i < j) : RotI G (swN e (m - i) (m + j - i) i) m i (j - i) := by
  obtain ⟨p, X, Y, q, rfl, rfl, hX, hY, hp⟩ := h
  refine ⟨p, Y.drop (j - i), Y.take (j - i), X ++ q, ?_, ?_, by simp [hY]; omega, by simp [hY], hp⟩
  · have h1 : X.length = (Y.drop (j - i)).length := by simp [hX, hY]; omega
    have h2 := swN_parts (p := p) (x := X) (z := Y.take (j - i)) (y := Y.drop (j - i)) (q := q) h1
    have e1 : p.length = m - i := by omega
    have e2 : p.length + X.length + (Y.take (j - i)).length = m + j - i := by simp [hX, hY]; omega
    rw [e2, hX, e1] at h2
    have e4 : Y.take (j - i) ++ (Y.drop (j - i) ++ q) = Y ++ q := by rw [← List.append_assoc, List.take_append_drop]
    rw [e4] at h2
    rw [h2]
  · have e4 : Y.take (j - i) ++ (Y.drop (j - i) ++ (X ++ q)) = Y ++ (X ++ q) := by rw [← List.append_assoc, List.take_append_drop]
    rw [e4]

theorem RotI.eq {G e : List Nat} {m i : Nat} (h : RotI G e m i i) : swN e (m - i) m i = G := by
  obtain ⟨p, X, Y, q, rfl, rfl, hX, hY, hp⟩ := h
  have h2 := swN_parts (p := p) (x := X) (z := []) (y := Y) (q := q) (by omega)
  simp only [List.nil_append, List.length_nil, Nat.add_zero] at h2
  rw [show p.length = m - i by omega, hX, show m - i + i = m by omega] at h2
  exact h2

theorem RotI.len {G e : List Nat} {m i j : Nat} (h : RotI G e m i j) : m + j ≤ e.length ∧ i ≤ m := by
  obtain ⟨p, X, Y, q, rfl, rfl, hX, hY, hp⟩ := h
  simp; omega
end Am.Pol
end

/- The stable sort: rotate, walked. -/
section
namespace Am.Pol
open Am Go Am.Ir
set_option maxRecDepth 100000
attribute [local simp] ox oz kx kz og ogz kg kgz mo ai

def xRotate : Model := exM (orc [xSwapRange]) slices_rotateCmpFunc 1000

structure RoF (f : Fr) (r v n m : Nat) (c : AVal) (i j : Nat) : Prop where
  s0 : f.get 0 = .sl r v 0 n 1
  s2 : f.get 2 = .int .i64 (m : Int)
  s4 : f.get 4 = c
  s10 : f.get 10 = .int .i64 (i : Int)
  s11 : f.get 11 = .int .i64 (j : Int)

theorem rotate_round {r v n m i j : Nat} {c : AVal} {G e : List Nat} (he : e.length = n) (hn : n < 900) (hi : 0 < i) (hj : 0 < j) (hR : RotI G e m i j) {f : Fr} {S : St} (hS : PL S r v e) (hf : RoF f r v n m c i j) :
    Post (evC (orc [xSwapRange]) 1000 slices_rotateCmpFunc_l0 f S) fun x f' T => if i = j then x = .exit 0 ∧ T = S ∧ RoF f' r v n m c i j else x = .normal ∧ ∃ i' j' e', i' + j' < i + j ∧ 0 < i' ∧ 0 < j' ∧ e'.length = n ∧ RotI G e' m i' j' ∧ PL T r v e' ∧ Off S T r ∧ RoF f' r v n m c i' j' := by
  obtain ⟨s0, s2, s4, s10, s11⟩ := hf
  obtain ⟨hl1, hl2⟩ := hR.len
  by_cases hij : i = j
  · have c0 : binA .neq (.int .i64 (i : Int)) (.int .i64 (j : Int)) = some (.bool false) := neq_f (by omega)
    simp only [if_pos hij]
    suffices hmid : Post (evC (orc [xSwapRange]) 1000 slices_rotateCmpFunc_l0 f S) (fun x f' T => x = .exit 0 ∧ T = S ∧ f'.get 0 = .sl r v 0 n 1 ∧ f'.get 2 = .int .i64 (m : Int) ∧ f'.get 4 = c ∧ f'.get 10 = .int .i64 (i : Int) ∧ f'.get 11 = .int .i64 (j : Int)) by
      refine hmid.mono ?_
      rintro x f' T ⟨k1, k2, k3, k4, k5, k6, k7⟩
      exact ⟨k1, k2, k3, k4, k5, k6, k7⟩
    simp [slices_rotateCmpFunc_l0, exM, orc, orcD, evF, evC, evOps, evOper, evAny, evOp, evCall, putR, putA, Fr.ev, Fr.of, Fr.get, Fr.set, stable, junkA, junkL, resultsA, resA, same, Fr.get_set, s0, s2, s4, s10, s11, c0, Post_some]
  have c0 : binA .neq (.int .i64 (i : Int)) (.int .i64 (j : Int)) = some (.bool true) := neq_t (by omega)
  have c1 : binA .sub (.int .i64 (m : Int)) (.int .i64 (i : Int)) = some (.int .i64 ((m - i : Nat) : Int)) := sub_is (by omega) (by omega) (by omega)
  simp only [if_neg hij]
  by_cases hg : j < i
  · have c2 : binA .gtr (.int .i64 (i : Int)) (.int .i64 (j : Int)) = some (.bool true) := gtr_t (by omega)
    have c3 : binA .sub (.int .i64 (i : Int)) (.int .i64 (j : Int)) = some (.int .i64 ((i - j : Nat) : Int)) := sub_is (by omega) (by omega) (by omega)
    obtain ⟨T, g1, g2, g3⟩ := swapRange_ok (a := m - i) (b := m) (m := j) he (by omega) (by omega) hn hS c
    suffices hmid : Post (evC (orc [xSwapRange]) 1000 slices_rotateCmpFunc_l0 f S) (fun x f' U => x = .normal ∧ U = T ∧ f'.get 0 = .sl r v 0 n 1 ∧ f'.get 2 = .int .i64 (m : Int) ∧ f'.get 4 = c ∧ f'.get 10 = .int .i64 ((i - j : Nat) : Int) ∧ f'.get 11 = .int .i64 (j : Int)) by
      refine hmid.mono ?_
      rintro x f' U ⟨k1, rfl, k3, k4, k5, k6, k7⟩
      exact ⟨k1, i - j, j, _, by omega, by omega, hj, by rw [swN_len]; exact he, hR.gt hg, g2, g3, ⟨k3, k4, k5, k6, k7⟩⟩
    generalize ((i - j : Nat) : Int) = z1 at *
    generalize ((m - i : Nat) : Int) = z2 at *
    simp [slices_rotateCmpFunc_l0, exM, orc, orcD, evF, evC, evOps, evOper, evAny, evOp, evCall, putR, putA, Fr.ev, Fr.of, Fr.get, Fr.set, stable, junkA, junkL, resultsA, resA, same, Fr.get_set, s0, s2, s4, s10, s11, c0, c1, c2, c3, g1, Post_some]
  · have c2 : binA .gtr (.int .i64 (i : Int)) (.int .i64 (j : Int)) = some (.bool false) := gtr_f (by omega)
    have c3 : binA .sub (.int .i64 (j : Int)) (.int .i64 (i : Int)) = some (.int .i64 ((j - i : Nat) : Int)) := sub_is (by omega) (by omega) (by omega)
    have hn2 := hS.len
    have c4 : binA .add (.int .i64 (m : Int)) (.int .i64 (j : Int)) = some (.int .i64 ((m + j : Nat) : Int)) := add_is (by omega) (by omega) (by omega)
    have c5 : binA .sub (.int .i64 ((m + j : Nat) : Int)) (.int .i64 (i : Int)) = some (.int .i64 ((m + j - i : Nat) : Int)) := sub_is (by omega) (by omega) (by omega)
    obtain ⟨T, g1, g2, g3⟩ := swapRange_ok (a := m - i) (b := m + j - i) (m := i) he (by omega) (by omega) hn hS c
    suffices hmid : Post (evC (orc [xSwapRange]) 1000 slices_rotateCmpFunc_l0 f S) (fun x f' U => x = .normal ∧ U = T ∧ f'.get 0 = .sl r v 0 n 1 ∧ f'.get 2 = .int .i64 (m : Int) ∧ f'.get 4 = c ∧ f'.get 10 = .int .i64 (i : Int) ∧ f'.get 11 = .int .i64 ((j - i : Nat) : Int)) by
      refine hmid.mono ?_
      rintro x f' U ⟨k1, rfl, k3, k4, k5, k6, k7⟩
      exact ⟨k1, i, j - i, _, by omega, hi, by omega, by rw [swN_len]; exact he, hR.lt (by omega), g2, g3, ⟨k3, k4, k5, k6, k7⟩⟩
    generalize ((j - i : Nat) : Int) = z1 at *
    generalize ((m - i : Nat) : Int) = z2 at *
    generalize ((m + j - i : Nat) : Int) = z3 at *
    generalize ((m + j : Nat) : Int) = z4 at *
    simp [slices_rotateCmpFunc_l0, exM, orc, orcD, evF, evC, evOps, evOper, evAny, evOp, evCall, putR, putA, Fr.ev, Fr.of, Fr.get, Fr.set, stable, junkA, junkL, resultsA, resA, same, Fr.get_set, s0, s2, s4, s10, s11, c0, c1, c2, c3, c4, c5, g1, Post_some]
end Am.Pol
end

/- The stable sort: rotate. -/
section
namespace Am.Pol
open Am Go Am.Ir
set_option maxRecDepth 100000
attribute [local simp] ox oz kx kz og ogz kg kgz mo ai

theorem rotate_ok {r v n a m b : Nat} {c : AVal} {G d : List Nat} (hd : d.length = n) (hn : n < 400) (ha : a < m) (hb : m < b) (hR : RotI G d m (m - a) (b - m)) {S : St} (hS : PL S r v d) :
    ∃ T, xRotate [.sl r v 0 n 1, .int .i64 (a : Int), .int .i64 (m : Int), .int .i64 (b : Int), c] S = some (.tup [], T) ∧ PL T r v G ∧ Off S T r := by
  unfold xRotate exM
  refine evF_postX (F := slices_rotateCmpFunc) (R := fun T => PL T r v G ∧ Off S T r) rfl rfl ?_
  obtain ⟨hl1, hl2⟩ := hR.len
  have c1 : binA .sub (.int .i64 (m : Int)) (.int .i64 (a : Int)) = some (.int .i64 ((m - a : Nat) : Int)) := sub_is (by omega) (by omega) (by omega)
  have c2 : binA .sub (.int .i64 (b : Int)) (.int .i64 (m : Int)) = some (.int .i64 ((b - m : Nat) : Int)) := sub_is (by omega) (by omega) (by omega)
  obtain ⟨f', T', g1, i, e, hi, he, hR', hP, hO, hF⟩ := loop_meas (O := orc [xSwapRange]) (k := 1000) (id := 0) (b := slices_rotateCmpFunc_l0)
    (I := fun k f T => ∃ i j e, i + j = k ∧ 0 < i ∧ 0 < j ∧ e.length = n ∧ RotI G e m i j ∧ PL T r v e ∧ Off S T r ∧ RoF f r v n m c i j)
    (Q := fun f T => ∃ i e, 0 < i ∧ e.length = n ∧ RotI G e m i i ∧ PL T r v e ∧ Off S T r ∧ RoF f r v n m c i i)
    (by
      rintro k f T ⟨i, j, e, rfl, hi, hj, he, hR, hP, hO, hF⟩
      refine (rotate_round he (by omega) hi hj hR hP hF).mono ?_
      rintro x f' U hq
      by_cases hij : i = j
      · rw [if_pos hij] at hq
        obtain ⟨rfl, rfl, k3⟩ := hq
        subst hij
        exact .inr ⟨rfl, i, e, hi, he, hR, hP, hO, k3⟩
      · rw [if_neg hij] at hq
        obtain ⟨rfl, i', j', e', q1, q2, q3, q4, q5, q6, q7, q8⟩ := hq
        exact .inl ⟨rfl, i' + j', q1, i', j', e', rfl, q2, q3, q4, q5, q6, hO.trans q7, q8⟩)
    (m := m - a + (b - m)) (by omega)
    (f := [(0, .sl r v 0 n 1), (1, .int .i64 (a : Int)), (2, .int .i64 (m : Int)), (3, .int .i64 (b : Int)), (4, c), (12, .int .i64 (m : Int)), (13, .int .i64 (a : Int)), (14, .int .i64 ((m - a : Nat) : Int)), (10, .int .i64 ((m - a : Nat) : Int)), (15, .int .i64 (b : Int)), (16, .int .i64 (m : Int)), (17, .int .i64 ((b - m : Nat) : Int)), (11, .int .i64 ((b - m : Nat) : Int))]) (S := S)
    ⟨m - a, b - m, d, rfl, by omega, by omega, hd, hR, hS, Off.refl S r, ⟨by simp [Fr.get], by simp [Fr.get], by simp [Fr.get], by simp [Fr.get], by simp [Fr.get]⟩⟩
  obtain ⟨s0, s2, s4, s10, s11⟩ := hF
  obtain ⟨hl3, hl4⟩ := hR'.len
  have c3 : binA .sub (.int .i64 (m : Int)) (.int .i64 (i : Int)) = some (.int .i64 ((m - i : Nat) : Int)) := sub_is (by omega) (by omega) (by omega)
  obtain ⟨U, h1, h2, h3⟩ := swapRange_ok (a := m - i) (b := m) (m := i) he (by omega) (by omega) (by omega) hP c
  rw [hR'.eq] at h2
  simp only [slices_rotateCmpFunc, slices_rotateCmpFunc_t2, Post_seq]
  simp only [orc] at g1
  generalize ((m - a : Nat) : Int) = z1 at *
  generalize ((b - m : Nat) : Int) = z2 at *
  generalize ((m - i : Nat) : Int) = z3 at *
  simp [exM, orc, orcD, evF, evC, evOps, evOper, evAny, evOp, evCall, putR, putA, Fr.ev, Fr.of, Fr.get, Fr.set, stable, junkA, junkL, resultsA, resA, same, c1, c2, Post_some]
  rw [show slices_rotateCmpFunc_s1 = .block 0 (.loop slices_rotateCmpFunc_l0) from rfl, g1]
  simp [exM, orc, orcD, evF, evC, evOps, evOper, evAny, evOp, evCall, putR, putA, Fr.ev, Fr.of, Fr.get, Fr.set, stable, junkA, junkL, resultsA, resA, same, Fr.get_set, s0, s2, s4, s10, s11, c3, h1, Post_some]
  exact ⟨h2, hO.trans h3⟩
end Am.Pol
end

/- The stable sort: the comparer, and one step of an insertion. -/
section
namespace Am.Pol
open Am Go Am.Ir
set_option maxRecDepth 100000
attribute [local simp] ox oz kx kz og ogz kg kgz mo ai

/-- What the comparer says, wherever some premise about the heap holds that the sort's own writes leave. -/
structure Cm (D : Nat → Model) (k : Nat) (bx : AVal) (P : St → Prop) (r n : Nat) (lt : Nat → Nat → Bool) : Prop where
  call : ∀ S, P S → ∀ i j, i < n → j < n → ∃ z : Int, D k [.int .i64 (i : Int), .int .i64 (j : Int), bx] S = some (.int .i64 z, S) ∧ lt i j = decide (z < 0)
  stay : ∀ S T, P S → Off S T r → P T

/-- All places are less than a number. -/
def Lt (d : List Nat) (n : Nat) : Prop := ∀ x ∈ d, x < n
theorem Lt.get {d : List Nat} {n i : Nat} (h : Lt d n) (hi : i < d.length) : d.getD i 0 < n := by
  have : d.getD i 0 ∈ d := by rw [List.getD_eq_getElem?_getD, List.getElem?_eq_getElem hi]; exact List.getElem_mem hi
  exact h _ this
end Am.Pol
end

/- The stable sort: a round of the inner loop of insertionSort. -/
section
namespace Am.Pol
open Am Go Am.Ir
set_option maxRecDepth 100000
attribute [local simp] ox oz kx kz og ogz kg kgz mo ai

structure InF (f : Fr) (r v n a b : Nat) (k : Nat) (bx : AVal) (i : Nat) : Prop where
  s0 : f.get 0 = .sl r v 0 n 1
  s1 : f.get 1 = .int .i64 (a : Int)
  s2 : f.get 2 = .int .i64 (b : Int)
  s3 : f.get 3 = .fn (.func k) [] [bx]
  s8 : f.get 8 = .int .i64 (i : Int)

theorem ins_round {O : Orc} {k : Nat} {bx : AVal} {P : St → Prop} {r v n a b i j : Nat} {lt : Nat → Nat → Bool} {d : List Nat} (hC : Cm O.dyn k bx P r n lt) (hd : d.length = n) (hlt : Lt d n) (ha : a ≤ j) (hj : j < n) (hn : n < 900)
    {f : Fr} {S : St} (hP : P S) (hS : PL S r v d) (hf : InF f r v n a b k bx i) (h9 : f.get 9 = .int .i64 (j : Int)) :
    Post (evC O 1000 slices_insertionSortCmpFunc_l0 f S) fun e f' T => if a < j ∧ lt (d.getD j 0) (d.getD (j - 1) 0) = true then e = .normal ∧ PL T r v (sw d j (j - 1)) ∧ Off S T r ∧ InF f' r v n a b k bx i ∧ f'.get 9 = .int .i64 ((j - 1 : Nat) : Int)
      else e = .exit 2 ∧ T = S ∧ InF f' r v n a b k bx i := by
  obtain ⟨s0, s1, s2, s3, s8⟩ := hf
  by_cases hja : a < j
  rotate_left
  · have c0 : binA .gtr (.int .i64 (j : Int)) (.int .i64 (a : Int)) = some (.bool false) := gtr_f (by omega)
    simp only [if_neg (show ¬ (a < j ∧ lt (d.getD j 0) (d.getD (j - 1) 0) = true) from fun h => hja h.1)]
    suffices hmid : Post (evC O 1000 slices_insertionSortCmpFunc_l0 f S) (fun e f' T => e = .exit 2 ∧ T = S ∧ f'.get 0 = .sl r v 0 n 1 ∧ f'.get 1 = .int .i64 (a : Int) ∧ f'.get 2 = .int .i64 (b : Int) ∧ f'.get 3 = .fn (.func k) [] [bx] ∧ f'.get 8 = .int .i64 (i : Int)) by
      refine hmid.mono ?_
      rintro e f' T ⟨k1, k2, k3, k4, k5, k6, k7⟩
      exact ⟨k1, k2, k3, k4, k5, k6, k7⟩
    simp [slices_insertionSortCmpFunc_l0, exM, orc, orcD, evF, evC, evOps, evOper, evAny, evOp, evCall, putR, putA, Fr.ev, Fr.of, Fr.get, Fr.set, stable, junkA, junkL, resultsA, resA, same, Fr.get_set, s0, s1, s2, s3, s8, h9, c0, Post_some]
  have c0 : binA .gtr (.int .i64 (j : Int)) (.int .i64 (a : Int)) = some (.bool true) := gtr_t (by omega)
  have c1 : binA .sub (.int .i64 (j : Int)) (.int .i64 1) = some (.int .i64 ((j - 1 : Nat) : Int)) := sub_is (by omega) (by omega) (by omega)
  have l1 := hS.load (i := j) (getD_some (by omega))
  have l2 := hS.load (i := j - 1) (getD_some (by omega))
  have p1 : iaddrSA 1 (.sl r v 0 n 1) (.int .i64 (j : Int)) = some (.ptr r v (0 + j * 1)) := by rw [iaS (by omega) (by omega), Int.toNat_natCast]
  have p2 : iaddrSA 1 (.sl r v 0 n 1) (.int .i64 ((j - 1 : Nat) : Int)) = some (.ptr r v (0 + (j - 1) * 1)) := by rw [iaS (by omega) (by omega), Int.toNat_natCast]
  obtain ⟨z, hz, hl⟩ := hC.call S hP (d.getD j 0) (d.getD (j - 1) 0) (hlt.get (by omega)) (hlt.get (by omega))
  obtain ⟨T, U, g1, g2, g3, g4⟩ := hS.swap (i := j) (j := j - 1) (by omega) (by omega)
  rw [hl]
  by_cases hzz : z < 0
  · have c2 : binA .lss (.int .i64 z) (.int .i64 0) = some (.bool true) := lss_t hzz
    simp only [if_pos (show a < j ∧ decide (z < 0) = true from ⟨hja, by simp [hzz]⟩)]
    suffices hmid : Post (evC O 1000 slices_insertionSortCmpFunc_l0 f S) (fun e f' V => e = .normal ∧ V = U ∧ f'.get 0 = .sl r v 0 n 1 ∧ f'.get 1 = .int .i64 (a : Int) ∧ f'.get 2 = .int .i64 (b : Int) ∧ f'.get 3 = .fn (.func k) [] [bx] ∧ f'.get 8 = .int .i64 (i : Int) ∧ f'.get 9 = .int .i64 ((j - 1 : Nat) : Int)) by
      refine hmid.mono ?_
      rintro e f' V ⟨k1, rfl, k3, k4, k5, k6, k7, k8⟩
      exact ⟨k1, g3, g4, ⟨k3, k4, k5, k6, k7⟩, k8⟩
    generalize ((j - 1 : Nat) : Int) = z1 at *
    generalize (0 + j * 1) = o1 at *
    generalize (0 + (j - 1) * 1) = o2 at *
    generalize ((d.getD j 0 : Nat) : Int) = x1 at *
    generalize ((d.getD (j - 1) 0 : Nat) : Int) = x2 at *
    simp [slices_insertionSortCmpFunc_l0, exM, orc, orcD, evF, evC, evOps, evOper, evAny, evOp, evCall, putR, putA, Fr.ev, Fr.of, Fr.get, Fr.set, stable, junkA, junkL, resultsA, resA, same, Fr.get_set, s0, s1, s2, s3, s8, h9, c0, c1, c2, p1, p2, l1, l2, hz, g1, g2, Post_some]
  · have c2 : binA .lss (.int .i64 z) (.int .i64 0) = some (.bool false) := lss_f (by omega)
    simp only [if_neg (show ¬ (a < j ∧ decide (z < 0) = true) from fun h => hzz (by simpa using h.2))]
    suffices hmid : Post (evC O 1000 slices_insertionSortCmpFunc_l0 f S) (fun e f' T => e = .exit 2 ∧ T = S ∧ f'.get 0 = .sl r v 0 n 1 ∧ f'.get 1 = .int .i64 (a : Int) ∧ f'.get 2 = .int .i64 (b : Int) ∧ f'.get 3 = .fn (.func k) [] [bx] ∧ f'.get 8 = .int .i64 (i : Int)) by
      refine hmid.mono ?_
      rintro e f' T ⟨k1, k2, k3, k4, k5, k6, k7⟩
      exact ⟨k1, k2, k3, k4, k5, k6, k7⟩
    generalize ((j - 1 : Nat) : Int) = z1 at *
    generalize (0 + j * 1) = o1 at *
    generalize (0 + (j - 1) * 1) = o2 at *
    generalize ((d.getD j 0 : Nat) : Int) = x1 at *
    generalize ((d.getD (j - 1) 0 : Nat) : Int) = x2 at *
    simp [slices_insertionSortCmpFunc_l0, exM, orc, orcD, evF, evC, evOps, evOper, evAny, evOp, evCall, putR, putA, Fr.ev, Fr.of, Fr.get, Fr.set, stable, junkA, junkL, resultsA, resA, same, Fr.get_set, s0, s1, s2, s3, s8, h9, c0, c1, c2, p1, p2, l1, l2, hz, Post_some]
end Am.Pol
end

/- The stable sort: the inner loop of insertionSort. -/
section
namespace Am.Pol
open Am Go Am.Ir
set_option maxRecDepth 100000
attribute [local simp] ox oz kx kz og ogz kg kgz mo ai

theorem getD_at (p q : List Nat) (e : Nat) : (p ++ e :: q).getD p.length 0 = e := by
  rw [List.getD_eq_getElem?_getD, List.getElem?_append_right (Nat.le_refl _)]; simp
theorem sw_up (p q : List Nat) (z e : Nat) : sw (p ++ z :: e :: q) (p.length + 1) p.length = p ++ e :: z :: q := by
  unfold sw
  have h1 : (p ++ z :: e :: q).getD p.length 0 = z := getD_at ..
  have h2 : (p ++ z :: e :: q).getD (p.length + 1) 0 = e := by
    have := getD_at (p ++ [z]) q e
    simpa using this
  rw [h1, h2]
  simp [List.set_append]
theorem sw_dn (p q : List Nat) (z e : Nat) : sw (p ++ z :: e :: q) p.length (p.length + 1) = p ++ e :: z :: q := by
  unfold sw
  have h1 : (p ++ z :: e :: q).getD p.length 0 = z := getD_at ..
  have h2 : (p ++ z :: e :: q).getD (p.length + 1) 0 = e := by
    have := getD_at (p ++ [z]) q e
    simpa using this
  rw [h1, h2]
  simp [List.set_append]

theorem eq_snoc {x : List Nat} (h : x ≠ []) : ∃ y z, x = y ++ [z] := ⟨x.dropLast, x.getLast h, (List.dropLast_concat_getLast h).symm⟩

theorem ins_loop {O : Orc} {k : Nat} {bx : AVal} {P : St → Prop} {r v n b i e : Nat} {L : Nat → Nat} {p x q : List Nat} (hC : Cm O.dyn k bx P r n fun y z => decide (L z < L y))
    (hd : (p ++ (x ++ e :: q)).length = n) (hlt : Lt (p ++ (x ++ e :: q)) n) (hn : n < 900)
    {f : Fr} {S : St} (hP : P S) (hS : PL S r v (p ++ (x ++ e :: q))) (hf : InF f r v n p.length b k bx i) (h9 : f.get 9 = .int .i64 ((p.length + x.length : Nat) : Int)) :
    ∃ f' T, evC O 1000 slices_insertionSortCmpFunc_s1 f S = some (.normal, f', T) ∧ ∃ x1 x2, x = x1 ++ x2 ∧ PL T r v (p ++ (x1 ++ e :: (x2 ++ q))) ∧ Off S T r ∧ InF f' r v n p.length b k bx i ∧
      (∀ y ∈ x2, L y < L e) ∧ ∀ x0 z, x1 = x0 ++ [z] → L e ≤ L z := by
  refine loop_meas (O := O) (k := 1000) (id := 2) (b := slices_insertionSortCmpFunc_l0)
    (I := fun m f T => ∃ x1 x2, x = x1 ++ x2 ∧ x1.length = m ∧ PL T r v (p ++ (x1 ++ e :: (x2 ++ q))) ∧ Off S T r ∧ InF f r v n p.length b k bx i ∧ (∀ y ∈ x2, L y < L e) ∧ f.get 9 = .int .i64 ((p.length + x1.length : Nat) : Int))
    ?_ (m := x.length) (by simp at hd; omega) ⟨x, [], by simp, rfl, by simpa using hS, Off.refl S r, hf, by simp, h9⟩
  rintro m g T ⟨x1, x2, rfl, rfl, hT, hO, hg, h2, g9⟩
  have hlt' : Lt (p ++ (x1 ++ e :: (x2 ++ q))) n := by
    intro y hy
    refine hlt y ?_
    simp only [List.mem_append, List.mem_cons] at hy ⊢
    grind
  have hd' : (p ++ (x1 ++ e :: (x2 ++ q))).length = n := by simp at hd ⊢; omega
  have hj : (p ++ (x1 ++ e :: (x2 ++ q))).getD (p.length + x1.length) 0 = e := by
    have := getD_at (p ++ x1) (x2 ++ q) e
    simpa using this
  refine (ins_round (lt := fun y z => decide (L z < L y)) hC hd' hlt' (Nat.le_add_right _ _) (by simp at hd'; omega) hn (hC.stay _ _ hP hO) hT hg g9).mono ?_
  intro ex f' U hq
  rw [hj] at hq
  by_cases h0 : x1 = []
  · subst h0
    rw [if_neg (by simp)] at hq
    obtain ⟨rfl, rfl, h3⟩ := hq
    exact .inr ⟨rfl, [], x2, by simp, hT, hO, h3, h2, by simp⟩
  · obtain ⟨x0, z, rfl⟩ := eq_snoc h0
    have hz : (p ++ ((x0 ++ [z]) ++ e :: (x2 ++ q))).getD (p.length + (x0 ++ [z]).length - 1) 0 = z := by
      have := getD_at (p ++ x0) (e :: (x2 ++ q)) z
      simpa using this
    rw [hz] at hq
    by_cases hc : L z < L e
    · rw [if_pos ⟨by simp, by simpa using hc⟩] at hq
      obtain ⟨rfl, h4, h5, h6, h7⟩ := hq
      have hsw : sw (p ++ ((x0 ++ [z]) ++ e :: (x2 ++ q))) (p.length + (x0 ++ [z]).length) (p.length + (x0 ++ [z]).length - 1) = p ++ (x0 ++ e :: ((z :: x2) ++ q)) := by
        have := sw_up (p ++ x0) (x2 ++ q) z e
        simpa [Nat.add_assoc] using this
      rw [hsw] at h4
      refine .inl ⟨rfl, x0.length, by simp, x0, z :: x2, by simp, rfl, h4, hO.trans h5, h6, ?_, ?_⟩
      · intro y hy
        rcases List.mem_cons.1 hy with rfl | hy
        · exact hc
        · exact h2 y hy
      · rw [h7]; congr 2; simp
    · rw [if_neg (by simp [hc])] at hq
      obtain ⟨rfl, rfl, h3⟩ := hq
      refine .inr ⟨rfl, x0 ++ [z], x2, rfl, hT, hO, h3, h2, ?_⟩
      intro y w hy
      have := List.append_inj_right' hy rfl
      simp at this
      subst this
      omega
end Am.Pol
end

