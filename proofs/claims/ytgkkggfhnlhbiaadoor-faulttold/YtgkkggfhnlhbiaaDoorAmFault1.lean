/- Faults: their values, and the functions that take one. -/
import Derived.Test.YtgkkggfhnlhbiaaDoorAmIrFault
import Derived.Test.YtgkkggfhnlhbiaaDoorAmFas3
import Derived.Test.YtgkkggfhnlhbiaaDoorAmAr
set_option linter.all false
namespace Am.Fault
open Am Go Am.Ir
set_option maxRecDepth 100000

/-- A fault told in place: operations, the outermost one first, and a number. -/
def fV : List (List UInt8) → Int → AVal
  | [], _ => .nilp
  | op :: r, c => .fq [.str op, .int .i64 c, fV r c]

theorem closed_fV (c : Int) : ∀ ops, closedV 0 (fV ops c) = true
  | [] => rfl
  | op :: r => by simp [fV, closedV, closedL, closed_fV c r]

theorem deep_fV (T : St) (n : Nat) (c : Int) : ∀ (ops : List (List UInt8)) (k : Nat), ops.length + 1 ≤ k → deep T n (k + 1) (fV ops c) = some (fV ops c)
  | [], k, _ => rfl
  | op :: r, 0, h => by simp at h
  | op :: r, k + 1, h => by
    have ih := deep_fV T n c r k (by simp at h; omega)
    have e1 : deep T n (k + 1) (.str op) = some (.str op) := rfl
    have e2 : deep T n (k + 1) (.int .i64 c) = some (.int .i64 c) := rfl
    have : deep T n (k + 1 + 1) (.fq [.str op, .int .i64 c, fV r c]) = (List.mapM (deep T n (k + 1)) [.str op, .int .i64 c, fV r c]).map .fq := rfl
    rw [fV, this, List.mapM_cons, List.mapM_cons, List.mapM_cons, List.mapM_nil, e1, e2, ih]
    rfl

theorem deep_box {T : St} {n k r v : Nat} {cells cs : List AVal} (hr : T[r]? = some (.live v cells)) (hn : n ≤ r) (hm : cells.mapM (deep T n k) = some cs) : deep T n (k + 1) (.ptr r v 0) = some (.fq cs) := by
  simp only [deep]
  rw [if_neg (by omega), hr]
  simp [hm]

theorem deep_fault {T : St} {n k r : Nat} {op : List UInt8} {c : Int} {ops : List (List UInt8)} (hr : T[r]? = some (.live 0 [.str op, .int .i64 c, fV ops c])) (hn : n ≤ r) (hk : ops.length + 1 ≤ k) : deep T n (k + 2) (.ptr r 0 0) = some (fV (op :: ops) c) := by
  refine deep_box hr hn ?_
  have e1 : deep T n (k + 1) (.str op) = some (.str op) := rfl
  have e2 : deep T n (k + 1) (.int .i64 c) = some (.int .i64 c) := rfl
  rw [List.mapM_cons, List.mapM_cons, List.mapM_cons, List.mapM_nil, e1, e2, deep_fV T n c ops k hk]
  rfl

/-- A link of a fault. -/
def lV (ops : List (List UInt8)) (c : Int) : AVal := .iface 46 (.agg [fV ops c])

theorem deep_lV (T : St) (n : Nat) (c : Int) (ops : List (List UInt8)) (k : Nat) (h : ops.length + 1 ≤ k) : deep T n (k + 3) (lV ops c) = some (lV ops c) := by
  have e : deep T n (k + 2) (.agg [fV ops c]) = some (.agg [fV ops c]) := by
    rw [deep_agg, List.mapM_cons, List.mapM_nil, deep_fV T n c ops k h]; rfl
  have : deep T n (k + 2 + 1) (.iface 46 (.agg [fV ops c])) = (deep T n (k + 2) (.agg [fV ops c])).map (.iface 46) := rfl
  rw [lV, this, e]; rfl
theorem closed_lV (c : Int) (ops : List (List UInt8)) : closedV 0 (lV ops c) = true := by simp [lV, closedV, closedL, closed_fV]

noncomputable def mOf : Model := pureM 100 (exM (orc []) fault_Of 10)
noncomputable def mWrap : Model := pureM 100 (exM (orc []) fault_Wrap 10)
noncomputable def mCode : Model := pureM 100 (exM (orc []) fault_Code 10)
noncomputable def mLUnwrap : Model := pureM 100 (exM (orc []) fault_link_Unwrap 10)
noncomputable def mLIs : Model := pureM 100 (exM (orc []) fault_link_Is 10)
noncomputable def mUnwrap : Model := pureM 100 (exM (orc [mLUnwrap]) errors_Unwrap 10)
noncomputable def mNext : Model := pureM 100 (exM (orc [mUnwrap, mAs]) fault_next 10)

def ofS (op : List UInt8) (c : Int) : AVal := if c = 0 then .nilp else fV [op] c

theorem of_ok (op : List UInt8) (c : Int) (S : St) : mOf [.str op, .int .i64 c] S = some (ofS op c, S) := by
  by_cases h : c = 0
  · subst h
    refine pureM_run (T := []) (v := .nilp) rfl ?_ rfl
    have b : binA .eql (.int .i64 0) (.int .i64 0) = some (.bool true) := rfl
    simp [exM, fault_Of, exM, orc, orcD, evF, evC, evOps, evOper, evAny, evOp, evCall, putR, putA, Fr.ev, Fr.of, Fr.get, Fr.set, stable, junkA, junkL, resultsA, resA, same, b]
  · rw [ofS, if_neg h]
    refine pureM_run (T := [.live 0 [.str op, .int .i64 c, .nilp]]) (v := .ptr 0 0 0) (by simp [closedL, closedV]) ?_ ?_
    · have b : binA .eql (.int .i64 c) (.int .i64 0) = some (.bool false) := eql_f h
      simp [exM, fault_Of, exM, orc, orcD, evF, evC, evOps, evOper, evAny, evOp, evCall, putR, putA, Fr.ev, Fr.of, Fr.get, Fr.set, stable, junkA, junkL, resultsA, resA, same, b, fillA, cells?, splice]
    · exact deep_fault (ops := []) (k := 98) rfl (Nat.le_refl _) (by simp)

theorem wrap_nil (op : List UInt8) (S : St) : mWrap [.str op, .nilp] S = some (.nilp, S) := by
  refine pureM_run (T := []) (v := .nilp) rfl ?_ rfl
  simp [exM, fault_Wrap, exM, orc, orcD, evF, evC, evOps, evOper, evAny, evOp, evCall, putR, putA, Fr.ev, Fr.of, Fr.get, Fr.set, stable, junkA, junkL, resultsA, resA, same, eq2]

theorem wrap_ok (op o1 : List UInt8) (r : List (List UInt8)) (c : Int) (hr : r.length ≤ 90) (S : St) : mWrap [.str op, fV (o1 :: r) c] S = some (fV (op :: o1 :: r) c, S) := by
  refine pureM_run (T := [.live 0 [.str op, .int .i64 c, fV (o1 :: r) c]]) (v := .ptr 0 0 0) (by simp [closedL, closedV, closed_fV]) ?_ ?_
  · simp [exM, fault_Wrap, exM, orc, orcD, evF, evC, evOps, evOper, evAny, evOp, evCall, putR, putA, Fr.ev, Fr.of, Fr.get, Fr.set, stable, junkA, junkL, resultsA, resA, same, fV, eq2, faddrA, load_fq, fillA, cells?, splice]
  · exact deep_fault (k := 98) rfl (Nat.le_refl _) (by simp; omega)

theorem code_nil (S : St) : mCode [.nilp] S = some (.int .i64 0, S) := by
  refine pureM_run (T := []) (v := .int .i64 0) rfl ?_ rfl
  simp [exM, fault_Code, exM, orc, orcD, evF, evC, evOps, evOper, evAny, evOp, evCall, putR, putA, Fr.ev, Fr.of, Fr.get, Fr.set, stable, junkA, junkL, resultsA, resA, same, eq2]
theorem code_ok' (op : List UInt8) (r : List (List UInt8)) (c : Int) (S : St) : mCode [fV (op :: r) c] S = some (.int .i64 c, S) := by
  refine pureM_run (T := []) (v := .int .i64 c) (by simp [closedL, closed_fV]) ?_ rfl
  simp [exM, fault_Code, exM, orc, orcD, evF, evC, evOps, evOper, evAny, evOp, evCall, putR, putA, Fr.ev, Fr.of, Fr.get, Fr.set, stable, junkA, junkL, resultsA, resA, same, fV, eq2, faddrA, load_fq]

def nextL (r : List (List UInt8)) (c : Int) : AVal := if r = [] then .nili else lV r c

theorem lunwrap_ok (op : List UInt8) (r : List (List UInt8)) (c : Int) (hr : r.length ≤ 90) (S : St) : mLUnwrap [.agg [fV (op :: r) c]] S = some (nextL r c, S) := by
  cases r with
  | nil =>
    refine pureM_run (T := [.live 0 [fV [op] c]]) (v := .nili) (by simp [closedL, closedV, closed_fV]) ?_ rfl
    simp [exM, fault_link_Unwrap, exM, orc, orcD, evF, evC, evOps, evOper, evAny, evOp, evCall, putR, putA, Fr.ev, Fr.of, Fr.get, Fr.set, stable, junkA, junkL, resultsA, resA, same, cells?, fV, eq2, faddrA, loadA, partA]
  | cons o1 r =>
    refine pureM_run (T := [.live 0 [fV (op :: o1 :: r) c]]) (v := lV (o1 :: r) c) (by simp [closedL, closedV, closed_fV]) ?_ (deep_lV _ _ _ _ 97 (by simp at hr ⊢; omega))
    simp [exM, fault_link_Unwrap, exM, orc, orcD, evF, evC, evOps, evOper, evAny, evOp, evCall, putR, putA, Fr.ev, Fr.of, Fr.get, Fr.set, stable, junkA, junkL, resultsA, resA, same, cells?, fV, eq2, faddrA, loadA, partA, fillA, splice, lV]

theorem unwrap_ok (op : List UInt8) (r : List (List UInt8)) (c : Int) (hr : r.length ≤ 90) (S : St) : mUnwrap [lV (op :: r) c] S = some (nextL r c, S) := by
  have h1 := lunwrap_ok op r c hr []
  have hd : deep [] 0 100 (nextL r c) = some (nextL r c) := by
    unfold nextL
    split
    · rfl
    · exact deep_lV _ _ _ _ 97 (by omega)
  refine pureM_run (T := []) (v := nextL r c) (by simp [closedL, closed_lV]) ?_ hd
  generalize nextL r c = N at *
  simp [exM, errors_Unwrap, exM, orc, orcD, evF, evC, evOps, evOper, evAny, evOp, evCall, putR, putA, Fr.ev, Fr.of, Fr.get, Fr.set, stable, junkA, junkL, resultsA, resA, same, lV, unA, h1, List.lookup]

theorem as_nil' (x : AVal) (S : St) : mAs [.nili, x] S = some (.bool false, S) := rfl

theorem next_ok (op : List UInt8) (r : List (List UInt8)) (c : Int) (hr : r.length ≤ 90) (S : St) : mNext [fV (op :: r) c] S = some (fV r c, S) := by
  have h1 := unwrap_ok op r c hr [.live 0 [.nilp]]
  cases r with
  | nil =>
    have h2 : mAs [.nili, .iface 59 (.ptr 0 0 0)] [.live 0 [.nilp]] = some (.bool false, [.live 0 [.nilp]]) := rfl
    refine pureM_run (T := [.live 0 [.nilp]]) (v := .nilp) (by simp [closedL, closed_fV]) ?_ rfl
    have h1' : mUnwrap [.iface 46 (.agg [fV [op] c])] [.live 0 [.nilp]] = some (.nili, [.live 0 [.nilp]]) := h1
    have hc : cells? (fV [op] c) = some [fV [op] c] := rfl
    generalize fV [op] c = F at *
    simp [exM, fault_next, exM, orc, orcD, evF, evC, evOps, evOper, evAny, evOp, evCall, putR, putA, Fr.ev, Fr.of, Fr.get, Fr.set, stable, junkA, junkL, resultsA, resA, same, fillA, hc, splice, h1', h2, unA]
  | cons o1 r =>
    have hc1 : cells? (fV (o1 :: r) c) = some [fV (o1 :: r) c] := rfl
    have h2 : mAs [.iface 46 (.agg [fV (o1 :: r) c]), .iface 59 (.ptr 0 0 0)] [.live 0 [.nilp]] = some (.bool true, [.live 0 [fV (o1 :: r) c]]) := by
      simp [mAs, hc1]
    refine pureM_run (T := [.live 0 [fV (o1 :: r) c]]) (v := fV (o1 :: r) c) (by simp [closedL, closed_fV]) ?_ (deep_fV _ _ _ _ 99 (by simp at hr ⊢; omega))
    have h1' : mUnwrap [.iface 46 (.agg [fV (op :: o1 :: r) c])] [.live 0 [.nilp]] = some (.iface 46 (.agg [fV (o1 :: r) c]), [.live 0 [.nilp]]) := h1
    have hc : cells? (fV (op :: o1 :: r) c) = some [fV (op :: o1 :: r) c] := rfl
    generalize fV (op :: o1 :: r) c = F at *
    generalize fV (o1 :: r) c = G at *
    simp [exM, fault_next, exM, orc, orcD, evF, evC, evOps, evOper, evAny, evOp, evCall, putR, putA, Fr.ev, Fr.of, Fr.get, Fr.set, stable, junkA, junkL, resultsA, resA, same, fillA, hc, splice, h1', h2, unA, faddrA, loadA, partA]
end Am.Fault
