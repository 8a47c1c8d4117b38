/- The document's net: what comes. -/
import Derived.Test.YtcecdoaddhgohaaAmNet9
set_option linter.all false
namespace Am.Net
open Am Go Am.Ir
set_option maxRecDepth 100000

theorem deep_bcells (T : St) (k : Nat) : ∀ u : List UInt8, (bcells u).mapM (deep T 0 (k + 1)) = some (bcells u)
  | [] => rfl
  | b :: u => by
    have h := deep_bcells T k u
    show (AVal.int .u8 (b.toNat : Int) :: bcells u).mapM _ = _
    rw [List.mapM_cons, h]
    rfl

theorem bcells_take (u : List UInt8) : List.take u.length (bcells u) = bcells u := List.take_of_length_le (by rw [bcells_len]; exact Nat.le_refl _)

theorem bcells_fold (u : List UInt8) : u.map (fun b => AVal.int .u8 (b.toNat : Int)) = bcells u := rfl

theorem refTake_none {c0 c1 : AVal} {L0 L1} (h0 : RefC c0 L0) (h1 : RefC c1 L1) (b : Bool) {n : Int} (hn : sel b L0 L1 = [] ∨ n < 0) (S : St) :
    mRefTake [.agg [c0, c1], .bool b, .int .i64 n] S = some (.tup [.agg [c0, c1], .nils, .bool false], S) := by
  have e0 := h0.closed
  have e1 := h1.closed
  have hl := (h0.selc h1 b).len
  by_cases h : sel b L0 L1 = []
  · rw [h] at hl
    simp [mRefTake, pureM, closedL, closedV, e0, e1, xRefTake, exM, orc, ref22_Take, evF, evC, evOps, evOper, evAny, evOp, evCall, putR, putA, Fr.ev, Fr.of, Fr.get, Fr.set, stable, resultsA, resA, same, loadA, storeA, partA, cells_agg, splice, refLine_ok h0 h1, hl, binA, intBin, deep_tup, deep_agg, deep_nils, deep_bool, h0.deep _ 1, h1.deep _ 1]
  · have hn' : n < 0 := by rcases hn with h1 | h1; exact absurd h1 h; exact h1
    have h2 : ¬ ((sel b L0 L1).length : Int) = 0 := by intro e; exact h (List.length_eq_zero_iff.1 (by omega))
    simp [mRefTake, pureM, closedL, closedV, e0, e1, xRefTake, exM, orc, ref22_Take, evF, evC, evOps, evOper, evAny, evOp, evCall, putR, putA, Fr.ev, Fr.of, Fr.get, Fr.set, stable, resultsA, resA, same, loadA, storeA, partA, cells_agg, splice, refLine_ok h0 h1, hl, binA, intBin, deep_tup, deep_agg, deep_nils, deep_bool, h0.deep _ 1, h1.deep _ 1, h, hn', h2]

theorem RefC.cons {c : AVal} {x L} (h : RefC c (x :: L)) : c = .fz false (L.length + 1) (.str x :: L.map .str) := by
  rcases h with ⟨_, h⟩ | rfl
  · simp at h
  · simp

theorem refTake_some {c0 c1 : AVal} {L0 L1} (h0 : RefC c0 L0) (h1 : RefC c1 L1) (b : Bool) {x : List UInt8} {L' : List (List UInt8)} (hL : sel b L0 L1 = x :: L') (hlen : L'.length < 1000) (n : Int) (hn : n = 0 ∨ n = 1) :
    ∃ c', RefC c' L' ∧ ∀ S : St, mRefTake [.agg [c0, c1], .bool b, .int .i64 n] S = some (.tup [.agg (sel b [c', c1] [c0, c']), if n = 0 then .fz false x.length (bcells x) else .nils, .bool (n == 0)], S) := by
  have e0 := h0.closed
  have e1 := h1.closed
  have hs := h0.selc h1 b
  rw [hL] at hs
  have hc := hs.cons
  have hsel : sel b c0 c1 = .fz false (L'.length + 1) (.str x :: L'.map .str) := hc
  have hlenA : lenA .sl (.fz false (L'.length + 1) (AVal.str x :: L'.map .str)) = some (.int .i64 ((L'.length : Int) + 1)) := by simp [lenA]
  have hw := wrap_len hlen
  have h2 : ¬ ((L'.length : Int) + 1 = 0) := by omega
  have h3 : (1 : Int) ≤ (L'.length : Int) + 1 := by omega
  have h4 : (L'.length : Int) < (L'.length : Int) + 1 := by omega
  have i0 : iaddrSA 1 (.fz false (L'.length + 1) (AVal.str x :: L'.map .str)) (.int .i64 0) = some (.fq [.str x]) := by
    simp [iaddrSA]
  obtain ⟨z, il⟩ : ∃ z, iaddrSA 1 (.fz false (L'.length + 1) (AVal.str x :: L'.map .str)) (.int .i64 (L'.length : Int)) = some (.fq [z]) := by
    have hj : L'.length < (AVal.str x :: L'.map .str).length := by simp
    refine ⟨(AVal.str x :: L'.map .str)[L'.length], ?_⟩
    have ht : ((AVal.str x :: L'.map .str).drop L'.length).take 1 = [(AVal.str x :: L'.map .str)[L'.length]] := by
      rw [List.drop_eq_getElem_cons hj, List.take_succ_cons, List.take_zero]
    simp only [iaddrSA, Int.toNat_natCast, Nat.mul_one, ht]
    rw [if_pos]
    refine ⟨by simp, by omega, by omega⟩
  have s1 : slcSA 1 (.fz false (L'.length + 1) (AVal.str x :: L'.map .str)) (some (.int .i64 1)) none = some (.fz false L'.length (L'.map .str)) := by
    have ht : List.take L'.length (L'.map AVal.str) = L'.map .str := List.take_of_length_le (by simp)
    simp [slcSA, bounds, h3, ht]
  have hf : L'.length * 16 ≤ 140737488355328 := by omega
  have a1 : ∀ b0 b1 : ABlock, appendA 1 16 (.sl 2 0 0 0 1) (.fz false L'.length (L'.map .str)) [b0, b1, .live 0 []] = some (.sl 2 1 0 L'.length 1, [b0, b1, .live 1 (L'.map .str)]) := by
    intro b0 b1
    simp [appendA, cellsOf, hf]
  have ht : ∀ l : List (List UInt8), List.take l.length (l.map AVal.str) = l.map .str := fun l => List.take_of_length_le (by simp)
  refine ⟨.fz false L'.length (L'.map .str), .inr rfl, fun S => ?_⟩
  rcases hn with rfl | rfl
  · simp [mRefTake, pureM, closedL, closedV, e0, e1, xRefTake, exM, orc, ref22_Take, evF, evC, evOps, evOper, evAny, evOp, evCall, putR, putA, Fr.ev, Fr.of, Fr.get, Fr.set, stable, resultsA, resA, same, loadA, storeA, partA, cells_agg, splice, refLine_ok h0 h1, hsel, hlenA, binA, intBin, h2, h3, i0, il, s1, hw, fillA, a1, refWith_sl, bcells_fold]
    cases b <;> simp [sel, Fr.get, Fr.set, partA, splice, deep_tup, deep_agg, deep_bool, deep_sl, h0.deep _ 1, h1.deep _ 1, ht, deep_strs, deep_strs2, deep_str, deep_bcells, bcells_take, bcells_len]
  · simp [mRefTake, pureM, closedL, closedV, e0, e1, xRefTake, exM, orc, ref22_Take, evF, evC, evOps, evOper, evAny, evOp, evCall, putR, putA, Fr.ev, Fr.of, Fr.get, Fr.set, stable, resultsA, resA, same, loadA, storeA, partA, cells_agg, splice, refLine_ok h0 h1, hsel, hlenA, binA, intBin, h2, h3, i0, il, s1, hw, fillA, a1, refWith_sl, bcells_fold]
    cases b <;> simp [sel, Fr.get, Fr.set, partA, splice, deep_tup, deep_agg, deep_bool, deep_nils, deep_sl, h0.deep _ 1, h1.deep _ 1, ht, deep_strs, deep_strs2, deep_str, deep_bcells, bcells_take, bcells_len]
theorem refTake_twice {c0 c1 : AVal} {L0 L1} (h0 : RefC c0 L0) (h1 : RefC c1 L1) (b : Bool) {x : List UInt8} {L' : List (List UInt8)} (hL : sel b L0 L1 = x :: L') (hlen : L'.length < 1000) :
    ∃ c', RefC c' (L' ++ [x]) ∧ ∀ S : St, mRefTake [.agg [c0, c1], .bool b, .int .i64 2] S = some (.tup [.agg (sel b [c', c1] [c0, c']), .fz false x.length (bcells x), .bool true], S) := by
  have e0 := h0.closed
  have e1 := h1.closed
  have hs := h0.selc h1 b
  rw [hL] at hs
  have hc := hs.cons
  have hsel : sel b c0 c1 = .fz false (L'.length + 1) (.str x :: L'.map .str) := hc
  have hlenA : lenA .sl (.fz false (L'.length + 1) (AVal.str x :: L'.map .str)) = some (.int .i64 ((L'.length : Int) + 1)) := by simp [lenA]
  have hw := wrap_len hlen
  have h2 : ¬ ((L'.length : Int) + 1 = 0) := by omega
  have h3 : (1 : Int) ≤ (L'.length : Int) + 1 := by omega
  have h4 : (L'.length : Int) < (L'.length : Int) + 1 := by omega
  have i0 : iaddrSA 1 (.fz false (L'.length + 1) (AVal.str x :: L'.map .str)) (.int .i64 0) = some (.fq [.str x]) := by
    simp [iaddrSA]
  obtain ⟨z, il⟩ : ∃ z, iaddrSA 1 (.fz false (L'.length + 1) (AVal.str x :: L'.map .str)) (.int .i64 (L'.length : Int)) = some (.fq [z]) := by
    have hj : L'.length < (AVal.str x :: L'.map .str).length := by simp
    refine ⟨(AVal.str x :: L'.map .str)[L'.length], ?_⟩
    have ht : ((AVal.str x :: L'.map .str).drop L'.length).take 1 = [(AVal.str x :: L'.map .str)[L'.length]] := by
      rw [List.drop_eq_getElem_cons hj, List.take_succ_cons, List.take_zero]
    simp only [iaddrSA, Int.toNat_natCast, Nat.mul_one, ht]
    rw [if_pos]
    refine ⟨by simp, by omega, by omega⟩
  have s1 : slcSA 1 (.fz false (L'.length + 1) (AVal.str x :: L'.map .str)) (some (.int .i64 1)) none = some (.fz false L'.length (L'.map .str)) := by
    have ht : List.take L'.length (L'.map AVal.str) = L'.map .str := List.take_of_length_le (by simp)
    simp [slcSA, bounds, h3, ht]
  have hf : L'.length * 16 ≤ 140737488355328 := by omega
  have a1 : ∀ b0 b1 : ABlock, appendA 1 16 (.sl 2 0 0 0 1) (.fz false L'.length (L'.map .str)) [b0, b1, .live 0 []] = some (.sl 2 1 0 L'.length 1, [b0, b1, .live 1 (L'.map .str)]) := by
    intro b0 b1
    simp [appendA, cellsOf, hf]
  have ht : ∀ l : List (List UInt8), List.take l.length (l.map AVal.str) = l.map .str := fun l => List.take_of_length_le (by simp)
  have hf3 : (L'.length + 1) * 16 ≤ 140737488355328 := by omega
  have a2 : ∀ b0 b1 : ABlock, appendA 1 16 (.sl 2 1 0 L'.length 1) (.sl 3 0 0 1 1) [b0, b1, .live 1 (L'.map .str), .live 0 [.str x]] =
      some (.sl 2 2 0 (L'.length + 1) 1, [b0, b1, .live 2 ((L' ++ [x]).map .str), .live 0 [.str x]]) := by
    intro b0 b1
    simp [appendA, cellsOf, hf3]
    rw [List.take_of_length_le (by simp)]
  have ht2 : ∀ l : List (List UInt8), List.take (l.length + 1) (l.map AVal.str ++ [AVal.str x]) = (l ++ [x]).map .str := by
    intro l
    rw [List.take_of_length_le (by simp)]
    simp
  refine ⟨.fz false (L' ++ [x]).length ((L' ++ [x]).map .str), .inr rfl, fun S => ?_⟩
  simp [mRefTake, pureM, closedL, closedV, e0, e1, xRefTake, exM, orc, ref22_Take, evF, evC, evOps, evOper, evAny, evOp, evCall, putR, putA, Fr.ev, Fr.of, Fr.get, Fr.set, stable, resultsA, resA, same, loadA, storeA, partA, cells_agg, splice, refLine_ok h0 h1, hsel, hlenA, binA, intBin, h2, h3, i0, il, s1, hw, fillA, a1, refWith_sl, bcells_fold, cells_str, a2]
  cases b <;> simp [sel, Fr.get, Fr.set, partA, splice, deep_tup, deep_agg, deep_bool, deep_sl, h0.deep _ 1, h1.deep _ 1, ht, deep_strs, deep_strs2, deep_str, deep_bcells, bcells_take, bcells_len, ht2]

theorem refTake_last {c0 c1 : AVal} {L0 L1} (h0 : RefC c0 L0) (h1 : RefC c1 L1) (b : Bool) {x : List UInt8} {L' : List (List UInt8)} (hL : sel b L0 L1 = x :: L') {y : List UInt8} {L2 : List (List UInt8)} (hy : x :: L' = L2 ++ [y]) (hlen : L'.length < 1000) :
    ∃ c', RefC c' L2 ∧ ∀ S : St, mRefTake [.agg [c0, c1], .bool b, .int .i64 3] S = some (.tup [.agg (sel b [c', c1] [c0, c']), .fz false y.length (bcells y), .bool true], S) := by
  have e0 := h0.closed
  have e1 := h1.closed
  have hs := h0.selc h1 b
  rw [hL] at hs
  have hc := hs.cons
  have hsel : sel b c0 c1 = .fz false (L'.length + 1) (.str x :: L'.map .str) := hc
  have hlenA : lenA .sl (.fz false (L'.length + 1) (AVal.str x :: L'.map .str)) = some (.int .i64 ((L'.length : Int) + 1)) := by simp [lenA]
  have hw := wrap_len hlen
  have h2 : ¬ ((L'.length : Int) + 1 = 0) := by omega
  have h3 : (1 : Int) ≤ (L'.length : Int) + 1 := by omega
  have h4 : (L'.length : Int) < (L'.length : Int) + 1 := by omega
  have i0 : iaddrSA 1 (.fz false (L'.length + 1) (AVal.str x :: L'.map .str)) (.int .i64 0) = some (.fq [.str x]) := by
    simp [iaddrSA]
  have hy1 : L2.length = L'.length := by have := congrArg List.length hy; simp at this; omega
  have hym : AVal.str x :: L'.map .str = L2.map .str ++ [.str y] := by have := congrArg (List.map AVal.str) hy; simpa using this
  have il : iaddrSA 1 (.fz false (L'.length + 1) (AVal.str x :: L'.map .str)) (.int .i64 (L'.length : Int)) = some (.fq [.str y]) := by
    have hj : L'.length < (AVal.str x :: L'.map .str).length := by simp
    have ht : ((AVal.str x :: L'.map .str).drop L'.length).take 1 = [AVal.str y] := by
      rw [hym, ← hy1, List.drop_left' (by simp)]; rfl
    simp only [iaddrSA, Int.toNat_natCast, Nat.mul_one, ht]
    rw [if_pos]
    refine ⟨by simp, by omega, by omega⟩
  have s1 : slcSA 1 (.fz false (L'.length + 1) (AVal.str x :: L'.map .str)) (some (.int .i64 1)) none = some (.fz false L'.length (L'.map .str)) := by
    have ht : List.take L'.length (L'.map AVal.str) = L'.map .str := List.take_of_length_le (by simp)
    simp [slcSA, bounds, h3, ht]
  have hf : L'.length * 16 ≤ 140737488355328 := by omega
  have a1 : ∀ b0 b1 : ABlock, appendA 1 16 (.sl 2 0 0 0 1) (.fz false L'.length (L'.map .str)) [b0, b1, .live 0 []] = some (.sl 2 1 0 L'.length 1, [b0, b1, .live 1 (L'.map .str)]) := by
    intro b0 b1
    simp [appendA, cellsOf, hf]
  have ht : ∀ l : List (List UInt8), List.take l.length (l.map AVal.str) = l.map .str := fun l => List.take_of_length_le (by simp)
  have s2 : slcSA 1 (.fz false (L'.length + 1) (AVal.str x :: L'.map .str)) none (some (.int .i64 (L'.length : Int))) = some (.fz false L2.length (L2.map .str)) := by
    have h5 : (L'.length : Int) ≤ (L'.length : Int) + 1 := by omega
    have ht : List.take L'.length (AVal.str x :: L'.map AVal.str) = L2.map .str := by rw [hym, ← hy1, List.take_left' (by simp)]
    simp [slcSA, bounds, h5, ht, hy1]
  have hf2 : L2.length * 16 ≤ 140737488355328 := by omega
  have a3 : ∀ b0 b1 b2 : ABlock, appendA 1 16 (.sl 3 0 0 0 1) (.fz false L2.length (L2.map .str)) [b0, b1, b2, .live 0 []] = some (.sl 3 1 0 L2.length 1, [b0, b1, b2, .live 1 (L2.map .str)]) := by
    intro b0 b1 b2
    simp [appendA, cellsOf, hf2]
  refine ⟨.fz false L2.length (L2.map .str), .inr rfl, fun S => ?_⟩
  simp [mRefTake, pureM, closedL, closedV, e0, e1, xRefTake, exM, orc, ref22_Take, evF, evC, evOps, evOper, evAny, evOp, evCall, putR, putA, Fr.ev, Fr.of, Fr.get, Fr.set, stable, resultsA, resA, same, loadA, storeA, partA, cells_agg, splice, refLine_ok h0 h1, hsel, hlenA, binA, intBin, h2, h3, i0, il, s1, hw, fillA, a1, refWith_sl, bcells_fold, s2, a3]
  cases b <;> simp [sel, Fr.get, Fr.set, partA, splice, deep_tup, deep_agg, deep_bool, deep_sl, h0.deep _ 1, h1.deep _ 1, ht, deep_strs, deep_strs2, deep_str, deep_bcells, bcells_take, bcells_len]

theorem refTake_spoil {c0 c1 : AVal} {L0 L1} (h0 : RefC c0 L0) (h1 : RefC c1 L1) (b : Bool) {x : List UInt8} {L' : List (List UInt8)} (hL : sel b L0 L1 = x :: L') (hlen : L'.length < 1000) (hx0 : x ≠ []) (hx6 : x.length ≤ 600) {n : Int} (hn : 4 ≤ n) (hn' : n ≤ 9223372036854775807) :
    ∃ c', RefC c' L' ∧ ∀ S : St, mRefTake [.agg [c0, c1], .bool b, .int .i64 n] S = some (.tup [.agg (sel b [c', c1] [c0, c']), .fz false x.length (bcells (flip x ((n - 4) % x.length).toNat)), .bool true], S) := by
  have e0 := h0.closed
  have e1 := h1.closed
  have hs := h0.selc h1 b
  rw [hL] at hs
  have hc := hs.cons
  have hsel : sel b c0 c1 = .fz false (L'.length + 1) (.str x :: L'.map .str) := hc
  have hlenA : lenA .sl (.fz false (L'.length + 1) (AVal.str x :: L'.map .str)) = some (.int .i64 ((L'.length : Int) + 1)) := by simp [lenA]
  have hw := wrap_len hlen
  have h2 : ¬ ((L'.length : Int) + 1 = 0) := by omega
  have h3 : (1 : Int) ≤ (L'.length : Int) + 1 := by omega
  have h4 : (L'.length : Int) < (L'.length : Int) + 1 := by omega
  have i0 : iaddrSA 1 (.fz false (L'.length + 1) (AVal.str x :: L'.map .str)) (.int .i64 0) = some (.fq [.str x]) := by
    simp [iaddrSA]
  obtain ⟨z, il⟩ : ∃ z, iaddrSA 1 (.fz false (L'.length + 1) (AVal.str x :: L'.map .str)) (.int .i64 (L'.length : Int)) = some (.fq [z]) := by
    have hj : L'.length < (AVal.str x :: L'.map .str).length := by simp
    refine ⟨(AVal.str x :: L'.map .str)[L'.length], ?_⟩
    have ht : ((AVal.str x :: L'.map .str).drop L'.length).take 1 = [(AVal.str x :: L'.map .str)[L'.length]] := by
      rw [List.drop_eq_getElem_cons hj, List.take_succ_cons, List.take_zero]
    simp only [iaddrSA, Int.toNat_natCast, Nat.mul_one, ht]
    rw [if_pos]
    refine ⟨by simp, by omega, by omega⟩
  have s1 : slcSA 1 (.fz false (L'.length + 1) (AVal.str x :: L'.map .str)) (some (.int .i64 1)) none = some (.fz false L'.length (L'.map .str)) := by
    have ht : List.take L'.length (L'.map AVal.str) = L'.map .str := List.take_of_length_le (by simp)
    simp [slcSA, bounds, h3, ht]
  have hf : L'.length * 16 ≤ 140737488355328 := by omega
  have a1 : ∀ b0 b1 : ABlock, appendA 1 16 (.sl 2 0 0 0 1) (.fz false L'.length (L'.map .str)) [b0, b1, .live 0 []] = some (.sl 2 1 0 L'.length 1, [b0, b1, .live 1 (L'.map .str)]) := by
    intro b0 b1
    simp [appendA, cellsOf, hf]
  have ht : ∀ l : List (List UInt8), List.take l.length (l.map AVal.str) = l.map .str := fun l => List.take_of_length_le (by simp)
  have hxl : 0 < x.length := by cases x <;> simp at hx0 ⊢
  have hd0 : 0 ≤ (n - 4) % (x.length : Int) := Int.emod_nonneg _ (by omega)
  have hd1 : (n - 4) % (x.length : Int) < x.length := Int.emod_lt_of_pos _ (by omega)
  have hrem : (n - 4).tmod (x.length : Int) = (n - 4) % (x.length : Int) := Int.tmod_eq_emod_of_nonneg (by omega)
  have hx1 : ¬ x = [] := hx0
  obtain ⟨i, hi⟩ : ∃ i : Nat, ((n - 4) % (x.length : Int)) = i := ⟨((n - 4) % (x.length : Int)).toNat, by omega⟩
  have hil : i < x.length := by omega
  rw [hi] at hrem
  have hwn : IntKind.i64.wrap (n - 4) = n - 4 := wrap_i64 (by omega) (by omega)
  have hget : (bcells x)[i]? = some (.int .u8 ((x.getD i 0).toNat : Int)) := by simp [bcells, hil]
  have hsetx : (bcells x).set i (.int .u8 (((x.getD i 0) ^^^ 1).toNat : Int)) = bcells (flip x i) := by
    simp [bcells, flip, List.map_set]
  have hia : iaddrSA 1 (.sl 3 0 0 x.length 1) (.int .i64 (i : Int)) = some (.ptr 3 0 i) := by
    have h5 : (i : Int) < x.length := by omega
    simp [iaddrSA, h5]
  have hspl : splice (bcells x) i [.int .u8 (((x.getD i 0) ^^^ 1).toNat : Int)] = bcells (flip x i) := by
    rw [splice_set _ _ _ (by rw [bcells_len]; exact hil), ← hsetx]
  have spl2 : ∀ u v w z : AVal, splice [w, z] 0 [u, v] = [u, v] := by intro u v w z; rfl
  have cint : ∀ (k : IntKind) (m : Int), cells? (.int k m) = some [.int k m] := fun _ _ => rfl
  have hil1 : i + 1 ≤ x.length := by omega
  have hxo := xor_one (x.getD i 0)
  rw [hi]
  generalize x.getD i 0 = y at hget hxo hspl
  generalize ((y ^^^ 1).toNat : Int) = z1 at hxo hspl
  generalize (y.toNat : Int) = y' at hget hxo
  simp [binA, intBin] at hxo
  have hq1 : ¬ n = 3 := by omega
  have hq2 : ¬ n = 2 := by omega
  have hq3 : ¬ n = 0 := by omega
  have hq4 : ¬ n = 1 := by omega
  have hq5 : ¬ n < 0 := by omega
  have hbt : List.take x.length (bcells (flip x i)) = bcells (flip x i) := List.take_of_length_le (by rw [bcells_len, flip_len]; exact Nat.le_refl _)
  refine ⟨.fz false L'.length (L'.map .str), .inr rfl, fun S => ?_⟩
  have hlx : lenA .sl (.sl 3 0 0 x.length 1) = some (.int .i64 (x.length : Int)) := rfl
  have spl0 : ∀ (w : List AVal), splice [] 0 w = w := by intro w; simp [splice]
  simp [mRefTake, pureM, closedL, closedV, e0, e1, xRefTake, exM, orc, ref22_Take, evF, evC, evOps, evOper, evAny, evOp, evCall, putR, putA, Fr.ev, Fr.of, Fr.get, Fr.set, stable, resultsA, resA, same, loadA, storeA, partA, cells_agg, refLine_ok h0 h1, hsel, hlenA, binA, intBin, h2, h3, i0, il, s1, hw, fillA, a1, refWith_sl, bcells_fold, hlx, hq1, hq2, hq3, hq4, hq5, hwn, hrem, hx1, hia, hget, hspl, spl2, cint, hil1, bcells_len, hxo]
  cases b <;> simp [sel, Fr.get, Fr.set, partA, spl2, deep_tup, deep_agg, deep_bool, deep_sl, h0.deep _ 1, h1.deep _ 1, ht, deep_strs, deep_strs2, deep_str, deep_bcells, bcells_take, bcells_len, flip_len, hbt]

end Am.Net
