/- The document's net: what its functions answer. -/
import Derived.Test.YtcecdoaddhgohaaAmNet7
set_option linter.all false
namespace Am.Net
open Am Go Am.Ir
set_option maxRecDepth 100000

theorem cells_agg (cs : List AVal) : cells? (.agg cs) = some cs := rfl
theorem cells_sl (r v o l z : Nat) : cells? (.sl r v o l z) = some [.sl r v o l z] := rfl
theorem cells_str (s : List UInt8) : cells? (.str s) = some [.str s] := rfl

theorem deep_tup (T : St) (n k : Nat) (cs : List AVal) : deep T n (k + 1) (.tup cs) = (cs.mapM (deep T n k)).map .tup := rfl
theorem deep_agg (T : St) (n k : Nat) (cs : List AVal) : deep T n (k + 1) (.agg cs) = (cs.mapM (deep T n k)).map .agg := rfl
theorem deep_int (T : St) (n k : Nat) (j : IntKind) (x : Int) : deep T n (k + 1) (.int j x) = some (.int j x) := rfl
theorem deep_bool (T : St) (n k : Nat) (b : Bool) : deep T n (k + 1) (.bool b) = some (.bool b) := rfl
theorem deep_str (T : St) (n k : Nat) (b : List UInt8) : deep T n (k + 1) (.str b) = some (.str b) := rfl
theorem deep_nils (T : St) (n k : Nat) : deep T n (k + 1) .nils = some .nils := rfl
theorem deep_sl (T : St) (k r v off len sz : Nat) : deep T 0 (k + 1) (.sl r v off len sz) = match T[r]? with
      | some (.live v' cells) => if v' = v ∧ off + len * sz ≤ cells.length then (((cells.drop off).take (len * sz)).mapM (deep T 0 k)).map (.fz false len) else none
      | _ => none := rfl
theorem deep_fz (T : St) (n k : Nat) (full : Bool) (len : Nat) (cells : List AVal) : deep T n (k + 1) (.fz full len cells) = (cells.mapM (deep T n k)).map (.fz full len) := rfl

/-- A line of the document's net. -/
def RefC (c : AVal) (L : List (List UInt8)) : Prop := (c = .nils ∧ L = []) ∨ c = .fz false L.length (L.map .str)

theorem RefC.closed {c : AVal} {L} (h : RefC c L) : closedV 0 c = true := by
  rcases h with ⟨rfl, _⟩ | rfl
  · rfl
  · simp only [closedV, closedL_iff]
    intro x hx
    obtain ⟨s, _, rfl⟩ := List.mem_map.1 hx
    rfl

theorem deep_strs (T : St) (k : Nat) : ∀ L : List (List UInt8), (L.map AVal.str).mapM (deep T 0 (k + 1)) = some (L.map .str)
  | [] => rfl
  | s :: L => by
    rw [List.map_cons, List.mapM_cons, deep_strs T k L]
    simp [deep]

theorem deep_strs2 (T : St) (k : Nat) (L : List (List UInt8)) : L.mapM (deep T 0 (k + 1) ∘ AVal.str) = some (L.map .str) := by
  have := deep_strs T k L
  rwa [List.mapM_map] at this

theorem RefC.deep {c : AVal} {L} (h : RefC c L) (T : St) (k : Nat) : deep T 0 (k + 2) c = some c := by
  rcases h with ⟨rfl, _⟩ | rfl
  · rfl
  · show (List.mapM (Am.deep T 0 (k + 1)) (L.map .str)).map (AVal.fz false L.length) = _
    rw [deep_strs]; rfl

theorem RefC.cells {c : AVal} {L} (h : RefC c L) (S : St) : cellsOf 1 c S = some (L.length, L.map .str) := by
  rcases h with ⟨rfl, rfl⟩ | rfl
  · rfl
  · simp [cellsOf]

theorem RefC.one {c : AVal} {L} (h : RefC c L) : cells? c = some [c] := by
  rcases h with ⟨rfl, rfl⟩ | rfl <;> rfl

theorem RefC.len {c : AVal} {L} (h : RefC c L) : lenA .sl c = some (.int .i64 L.length) := by
  rcases h with ⟨rfl, rfl⟩ | rfl
  · rfl
  · simp [lenA]

def xRefLine := exM (orc []) ref22_line 10
def mRefLine : Model := pureM 3 xRefLine
def xRefWith := exM (orc []) ref22_with 10
def xRefSend := exM (orc [mRefLine, xRefWith]) ref22_Send 10
def mRefSend : Model := pureM 5 xRefSend
def xRefTake := exM (orc [mRefLine, xRefWith]) ref22_Take 10
def mRefTake : Model := pureM 5 xRefTake
def xRefWaits := exM (orc [mRefLine]) ref22_Waits 10
def mRefWaits : Model := pureM 3 xRefWaits

theorem refLine_ok {c0 c1 : AVal} {L0 L1} (h0 : RefC c0 L0) (h1 : RefC c1 L1) (b : Bool) (S : St) : mRefLine [.agg [c0, c1], .bool b] S = some (sel b c0 c1, S) := by
  have e0 := h0.closed
  have e1 := h1.closed
  cases b <;> simp [mRefLine, pureM, closedL, closedV, e0, e1, xRefLine, exM, orc, ref22_line, evF, evC, evOps, evOper, evAny, evOp, putR, putA, Fr.ev, Fr.of, Fr.get, Fr.set, stable, resultsA, resA, same, faddrA, loadA, partA, cells_agg, cells_str, sel, h0.deep _ 1, h1.deep _ 1]

theorem refWith_ok (c0 c1 l : AVal) (hl : cells? l = some [l]) (b : Bool) (S : St) :
    xRefWith [.agg [c0, c1], .bool b, l] S = some (.agg (sel b [l, c1] [c0, l]), S ++ [.live 0 (sel b [l, c1] [c0, l]), .live 0 (sel b [l, c1] [c0, l])]) := by
  cases b <;> simp [xRefWith, exM, orc, ref22_with, evF, evC, evOps, evOper, evAny, evOp, putR, putA, Fr.ev, Fr.of, Fr.get, Fr.set, stable, resultsA, resA, same, faddrA, loadA, storeA, partA, cells_agg, cells_str, hl, sel, splice, List.getElem?_append, List.set_append]

theorem refWith_sl (c0 c1 : AVal) (r v o n z : Nat) (b : Bool) (S : St) :
    xRefWith [.agg [c0, c1], .bool b, .sl r v o n z] S = some (.agg (sel b [.sl r v o n z, c1] [c0, .sl r v o n z]), S ++ [.live 0 (sel b [.sl r v o n z, c1] [c0, .sl r v o n z]), .live 0 (sel b [.sl r v o n z, c1] [c0, .sl r v o n z])]) :=
  refWith_ok c0 c1 _ rfl b S

theorem refWaits_ok {c0 c1 : AVal} {L0 L1} (h0 : RefC c0 L0) (h1 : RefC c1 L1) (b : Bool) (S : St) : mRefWaits [.agg [c0, c1], .bool b] S = some (.int .i64 ((sel b L0 L1).length : Int), S) := by
  have e0 := h0.closed
  have e1 := h1.closed
  cases b <;> simp [mRefWaits, pureM, closedL, closedV, e0, e1, xRefWaits, exM, orc, ref22_Waits, evF, evC, evOps, evOper, evAny, evOp, evCall, putR, putA, Fr.ev, Fr.of, Fr.get, Fr.set, stable, resultsA, resA, same, faddrA, loadA, partA, cells_agg, cells_str, sel, refLine_ok h0 h1, h0.len, h1.len, deep_int]

theorem IsB.closed {x : AVal} {u : List UInt8} (h : IsB x u) : closedV 0 x = true := by
  rcases h with ⟨rfl, _⟩ | rfl
  · rfl
  · simp only [closedV, closedL_iff]
    intro c hc
    obtain ⟨s, _, rfl⟩ := List.mem_map.1 hc
    rfl

theorem RefC.selc {c0 c1 : AVal} {L0 L1} (h0 : RefC c0 L0) (h1 : RefC c1 L1) (b : Bool) : RefC (sel b c0 c1) (sel b L0 L1) := by
  cases b
  · exact h0
  · exact h1

theorem refSend_bad {c0 c1 : AVal} {L0 L1} (h0 : RefC c0 L0) (h1 : RefC c1 L1) (b : Bool) {x : AVal} {u : List UInt8} (hx : IsB x u) (hu : u = [] ∨ 600 < u.length) (S : St) :
    mRefSend [.agg [c0, c1], .bool b, x] S = some (.tup [.agg [c0, c1], .int .i64 4], S) := by
  have e0 := h0.closed
  have e1 := h1.closed
  have e2 := hx.closed
  have el := (hx.arg []).len
  by_cases e : u = []
  · subst e
    simp [mRefSend, pureM, closedL, closedV, e0, e1, e2, xRefSend, exM, orc, ref22_Send, evF, evC, evOps, evOper, evAny, evOp, evCall, putR, putA, Fr.ev, Fr.of, Fr.get, Fr.set, stable, resultsA, resA, same, loadA, storeA, partA, cells_agg, cells_str, splice, refLine_ok h0 h1, el, binA, intBin, deep_tup, deep_agg, deep_int, h0.deep _ 1, h1.deep _ 1]
  · have h6 : (600 : Int) < u.length := by rcases hu with h | h; exact absurd h e; omega
    simp [mRefSend, pureM, closedL, closedV, e0, e1, e2, xRefSend, exM, orc, ref22_Send, evF, evC, evOps, evOper, evAny, evOp, evCall, putR, putA, Fr.ev, Fr.of, Fr.get, Fr.set, stable, resultsA, resA, same, loadA, storeA, partA, cells_agg, cells_str, splice, refLine_ok h0 h1, el, binA, intBin, deep_tup, deep_agg, deep_int, h0.deep _ 1, h1.deep _ 1, e, h6]

theorem refSend_full {c0 c1 : AVal} {L0 L1} (h0 : RefC c0 L0) (h1 : RefC c1 L1) (b : Bool) {x : AVal} {u : List UInt8} (hx : IsB x u) (hu : u ≠ []) (hu6 : u.length ≤ 600) (hf : 100 ≤ (sel b L0 L1).length) (S : St) :
    mRefSend [.agg [c0, c1], .bool b, x] S = some (.tup [.agg [c0, c1], .int .i64 7], S) := by
  have e0 := h0.closed
  have e1 := h1.closed
  have e2 := hx.closed
  have el := (hx.arg []).len
  have e : ¬ u = [] := hu
  have h6 : ¬ (600 : Int) < u.length := by omega
  have hl := (h0.selc h1 b).len
  have hf' : (100 : Int) ≤ (sel b L0 L1).length := by omega
  simp [mRefSend, pureM, closedL, closedV, e0, e1, e2, xRefSend, exM, orc, ref22_Send, evF, evC, evOps, evOper, evAny, evOp, evCall, putR, putA, Fr.ev, Fr.of, Fr.get, Fr.set, stable, resultsA, resA, same, loadA, storeA, partA, cells_agg, cells_str, splice, refLine_ok h0 h1, el, binA, intBin, deep_tup, deep_agg, deep_int, h0.deep _ 1, h1.deep _ 1, e, h6, hl, hf']

theorem refSend_ok {c0 c1 : AVal} {L0 L1} (h0 : RefC c0 L0) (h1 : RefC c1 L1) (b : Bool) {x : AVal} {u : List UInt8} (hx : IsB x u) (hu : u ≠ []) (hu6 : u.length ≤ 600) (hf : (sel b L0 L1).length < 100) :
    ∃ c', RefC c' (sel b L0 L1 ++ [u]) ∧ ∀ S : St, mRefSend [.agg [c0, c1], .bool b, x] S = some (.tup [.agg (sel b [c', c1] [c0, c']), .int .i64 0], S) := by
  have e0 := h0.closed
  have e1 := h1.closed
  have e2 := hx.closed
  have el := (hx.arg []).len
  have e : ¬ u = [] := hu
  have h6 : ¬ (600 : Int) < u.length := by omega
  have hsel := h0.selc h1 b
  have hl := hsel.len
  have hc := hsel.cells
  have hb := fun S => hx.bytes S
  have hf' : ¬ (100 : Int) ≤ (sel b L0 L1).length := by omega
  have hf2 : (sel b L0 L1).length * 16 ≤ 140737488355328 := by omega
  have hf3 : ((sel b L0 L1).length + 1) * 16 ≤ 140737488355328 := by omega
  refine ⟨.fz false (sel b L0 L1 ++ [u]).length ((sel b L0 L1 ++ [u]).map .str), .inr rfl, fun S => ?_⟩
  have hd := deep_strs
  have a1 : ∀ b0 b1 : ABlock, appendA 1 16 (.sl 2 0 0 0 1) (sel b c0 c1) [b0, b1, .live 0 []] = some (.sl 2 1 0 (sel b L0 L1).length 1, [b0, b1, .live 1 ((sel b L0 L1).map .str)]) := by
    intro b0 b1
    simp [appendA, hc, hf2]
  have a2 : ∀ b0 b1 : ABlock, appendA 1 16 (.sl 2 1 0 (sel b L0 L1).length 1) (.sl 3 0 0 1 1) [b0, b1, .live 1 ((sel b L0 L1).map .str), .live 0 [.str u]] =
      some (.sl 2 2 0 ((sel b L0 L1).length + 1) 1, [b0, b1, .live 2 ((sel b L0 L1 ++ [u]).map .str), .live 0 [.str u]]) := by
    intro b0 b1
    simp [appendA, cellsOf, hf3]
    rw [List.take_of_length_le (by simp)]
  have hd1 := deep_strs
  simp [mRefSend, pureM, closedL, closedV, e0, e1, e2, xRefSend, exM, orc, ref22_Send, evF, evC, evOps, evOper, evAny, evOp, evCall, putR, putA, Fr.ev, Fr.of, Fr.get, Fr.set, stable, resultsA, resA, same, loadA, storeA, partA, cells_agg, cells_str, splice, refLine_ok h0 h1, refWith_sl, el, binA, intBin, e, h6, hl, hf', fillA, hb, a1, a2]
  have ht : ∀ l : List (List UInt8), List.take (l.length + 1) (l.map AVal.str ++ [AVal.str u]) = (l ++ [u]).map .str := by
    intro l
    rw [List.take_of_length_le (by simp)]
    simp
  cases b <;> simp [sel, Fr.get, Fr.set, partA, splice, deep_tup, deep_agg, deep_int, deep_sl, h0.deep _ 1, h1.deep _ 1, ht, deep_strs, deep_strs2, deep_str]
end Am.Net
