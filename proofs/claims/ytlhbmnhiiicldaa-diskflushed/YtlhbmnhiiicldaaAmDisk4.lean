/- The disk over its heap: the fuse, writes, all that is on it. -/
import Derived.Test.YtlhbmnhiiicldaaAmDisk3
set_option linter.all false
namespace Am.Disk
open Am Go Am.Ir
set_option maxRecDepth 100000

variable {S : St} {p ro : Nat} {cw : AVal} {fw : List Nat} {on : List UInt8} {ws : List (Nat × List UInt8)} {lets : Int} {off : Bool}

theorem set_self {S : St} {p : Nat} {b : ABlock} (h : S[p]? = some b) : S.set p b = S := by
  apply List.ext_getElem?
  intro q
  rw [List.getElem?_set]
  split
  · rename_i e; subst e
    have := (List.getElem?_eq_some_iff.1 h).1
    simp only [this, if_true]; exact h.symm
  · rfl

/-- The disk's own block is laid anew. -/
theorem DiskI.setp (h : DiskI S p ro cw fw on ws lets off) (lets' : Int) (off' : Bool) : DiskI (S.set p (.live 0 [.sl ro 0 0 on.length 1, cw, .int .i64 lets', .bool off'])) p ro cw fw on ws lets' off' := by
  have hk := Keeps.set S p (.live 0 [.sl ro 0 0 on.length 1, cw, .int .i64 lets', .bool off'])
  have hlt := live_lt h.hp
  have hnd := h.nd
  simp only [List.nodup_cons, List.mem_cons, not_or] at hnd
  refine ⟨by simp [hlt], hk.get h.ho (by simp; exact fun e => hnd.1.1 e.symm), h.hw.keep hk (fun r hr => by simp; rintro rfl; exact hnd.1.2 hr), h.nd⟩

def letsN (lets : Int) : Int := if 0 < lets then lets - 1 else lets
def offN (lets : Int) (off : Bool) : Bool := if lets = 0 then true else off

theorem spend_ok (h : DiskI S p ro cw fw on ws lets off) (hl : lets ≤ 9223372036854775807) : xSpend [.ptr p 0 0] S = some (.bool (decide (lets ≠ 0)), S.set p (.live 0 [.sl ro 0 0 on.length 1, cw, .int .i64 (letsN lets), .bool (offN lets off)])) := by
  by_cases h0 : lets = 0
  · subst h0
    simp [xSpend, disk_spend, exM, orc, orcD, evF, evC, evOps, evOper, evAny, evOp, evCall, putR, putA, Fr.ev, Fr.of, Fr.get, Fr.set, stable, junkA, junkL, resultsA, resA, same, faddrA, loadA, h.hp, partA, binA, intBin, storeA, cells?, splice, letsN, offN]
  · by_cases h1 : 0 < lets
    · have hw : IntKind.i64.wrap (lets - 1) = lets - 1 := wrap64 (by omega) (by omega)
      simp [xSpend, disk_spend, exM, orc, orcD, evF, evC, evOps, evOper, evAny, evOp, evCall, putR, putA, Fr.ev, Fr.of, Fr.get, Fr.set, stable, junkA, junkL, resultsA, resA, same, faddrA, loadA, h.hp, partA, binA, intBin, storeA, cells?, splice, letsN, offN, h0, h1, hw]
    · have hs := set_self h.hp
      simp [xSpend, disk_spend, exM, orc, orcD, evF, evC, evOps, evOper, evAny, evOp, evCall, putR, putA, Fr.ev, Fr.of, Fr.get, Fr.set, stable, junkA, junkL, resultsA, resA, same, faddrA, loadA, h.hp, partA, binA, intBin, letsN, offN, h0, h1, hs]

theorem fuse_ok (h : DiskI S p ro cw fw on ws lets off) (f : Int) : xFuse [.ptr p 0 0, .int .i64 f] S = some (.tup [], S.set p (.live 0 [.sl ro 0 0 on.length 1, cw, .int .i64 (max f 0), .bool off])) := by
  simp [xFuse, disk_Fuse, exM, orc, orcD, evF, evC, evOps, evOper, evAny, evOp, evCall, putR, putA, Fr.ev, Fr.of, Fr.get, Fr.set, stable, junkA, junkL, resultsA, resA, same, eq2, faddrA, loadA, h.hp, partA, storeA, cells?, splice]

noncomputable def yDump : Model := exM (orc [mClone]) disk_Dump 10

theorem on_cells (h : DiskI S p ro cw fw on ws lets off) : cellsOf 1 (.sl ro 0 0 on.length 1) S = some (on.length, bcells on) := by
  simp [cellsOf, h.ho, bcells_len]
  rw [List.take_of_length_le (by simp [bcells_len])]

theorem dump_ok (h : DiskI S p ro cw fw on ws lets off) (hb : on.length ≤ 131072) : yDump [.ptr p 0 0] S = some (.fz false on.length (bcells on), S) := by
  have hc := mClone_ok (S := S) (x := .sl ro 0 0 on.length 1) (u := on) rfl (on_cells h) (by omega)
  simp [yDump, disk_Dump, exM, orc, orcD, evF, evC, evOps, evOper, evAny, evOp, evCall, putR, putA, Fr.ev, Fr.of, Fr.get, Fr.set, stable, junkA, junkL, resultsA, resA, same, eq2, faddrA, loadA, h.hp, partA, hc]

noncomputable def yWrite : Model := exM (orc [xHas, xSpend, mClone]) disk_Write 10

theorem write_off (h : DiskI S p ro cw fw on ws lets true) (i : Int) (x : AVal) : yWrite [.ptr p 0 0, .int .i64 i, x] S = some (.int .i64 8, S) := by
  simp [yWrite, disk_Write, exM, orc, orcD, evF, evC, evOps, evOper, evAny, evOp, evCall, putR, putA, Fr.ev, Fr.of, Fr.get, Fr.set, stable, junkA, junkL, resultsA, resA, same, eq2, faddrA, loadA, h.hp, partA]

theorem write_arg (h : DiskI S p ro cw fw on ws lets false) {n : Nat} (hn : on.length = n * 256) (hb : n ≤ 512) (i : Int) (x : AVal) (m : Nat) (hx : lenA .sl x = some (.int .i64 m)) (hbad : ¬ (0 ≤ i ∧ i < n) ∨ m ≠ 256) :
    yWrite [.ptr p 0 0, .int .i64 i, x] S = some (.int .i64 1, S) := by
  have hh := has_ok h hn hb i
  by_cases h1 : 0 ≤ i ∧ i < n
  · have h2 : m ≠ 256 := by rcases hbad with h2 | h2; exact absurd h1 h2; exact h2
    have h3 : ¬ (m : Int) = 256 := by omega
    have h4 : decide (0 ≤ i ∧ i < (n : Int)) = true := by simp [h1]
    rw [h4] at hh
    simp [yWrite, disk_Write, exM, orc, orcD, evF, evC, evOps, evOper, evAny, evOp, evCall, putR, putA, Fr.ev, Fr.of, Fr.get, Fr.set, stable, junkA, junkL, resultsA, resA, same, eq2, faddrA, loadA, h.hp, partA, hh, unA, hx, binA, intBin, h3]
  · have h4 : decide (0 ≤ i ∧ i < (n : Int)) = false := by simp; intro h5; have := h1; omega
    rw [h4] at hh
    simp [yWrite, disk_Write, exM, orc, orcD, evF, evC, evOps, evOper, evAny, evOp, evCall, putR, putA, Fr.ev, Fr.of, Fr.get, Fr.set, stable, junkA, junkL, resultsA, resA, same, eq2, faddrA, loadA, h.hp, partA, hh, unA]

theorem write_fuse (h : DiskI S p ro cw fw on ws 0 false) {n : Nat} (hn : on.length = n * 256) (hb : n ≤ 512) (i : Nat) (hi : i < n) (x : AVal) (hx : lenA .sl x = some (.int .i64 256)) :
    yWrite [.ptr p 0 0, .int .i64 i, x] S = some (.int .i64 8, S.set p (.live 0 [.sl ro 0 0 on.length 1, cw, .int .i64 0, .bool true])) := by
  have hh := has_ok h hn hb i
  have h4 : decide (0 ≤ (i : Int) ∧ (i : Int) < (n : Int)) = true := by simp; omega
  rw [h4] at hh
  have hs := spend_ok h (by omega)
  simp [letsN, offN] at hs
  simp [yWrite, disk_Write, exM, orc, orcD, evF, evC, evOps, evOper, evAny, evOp, evCall, putR, putA, Fr.ev, Fr.of, Fr.get, Fr.set, stable, junkA, junkL, resultsA, resA, same, eq2, faddrA, loadA, h.hp, partA, hh, unA, hx, binA, intBin, hs]

/-- A write that is taken. -/
theorem write_ok (h : DiskI S p ro cw fw on ws lets false) {n : Nat} (hn : on.length = n * 256) (hb : n ≤ 512) (i : Nat) (hi : i < n) {x : AVal} {u : List UInt8} (hx : isSl x = true) (hu : ∀ S' : St, (∀ r, r ≠ p → S'[r]? = S[r]?) → cellsOf 1 x S' = some (u.length, bcells u))
    (hxl : lenA .sl x = some (.int .i64 256)) (hul : u.length = 256) (hl0 : lets ≠ 0) (hlm : lets ≤ 9223372036854775807) (hwl : ws.length ≤ 1000) :
    ∃ S' cw' fw', yWrite [.ptr p 0 0, .int .i64 i, x] S = some (.int .i64 0, S') ∧ DiskI S' p ro cw' fw' on (ws ++ [(i, u)]) (letsN lets) false ∧ Keeps S S' (p :: fw) ∧ (∀ r ∈ fw', r ∈ fw ∨ S.length ≤ r) := by
  have hh := has_ok h hn hb i
  have h4 : decide (0 ≤ (i : Int) ∧ (i : Int) < (n : Int)) = true := by simp; omega
  rw [h4] at hh
  have hs := spend_ok h hlm
  have hof : offN lets false = false := by simp [offN, hl0]
  rw [hof] at hs
  have hdl : decide (lets ≠ 0) = true := by simp [hl0]
  rw [hdl] at hs
  have h1 := h.setp (letsN lets) false
  obtain ⟨S1, hS1⟩ : ∃ S1 : St, S.set p (.live 0 [.sl ro 0 0 on.length 1, cw, .int .i64 (letsN lets), .bool false]) = S1 := ⟨_, rfl⟩
  rw [hS1] at hs h1
  have hlen1 : S1.length = S.length := by rw [← hS1]; simp
  have hk1 : Keeps S S1 [p] := by rw [← hS1]; exact Keeps.set S p _
  have hcl := mClone_ok (S := S1) hx (hu S1 (fun r hr => by rw [← hS1, List.getElem?_set, if_neg (fun e => hr e.symm)])) (by omega)
  have hnd := h.nd
  simp only [List.nodup_cons, List.mem_cons, not_or] at hnd
  have hplt := live_lt h1.hp
  rw [hul] at hcl
  rcases h1.hw with ⟨rfl, rfl, rfl⟩ | ⟨rw', vw, rfl, hrw, rfl⟩
  · refine ⟨(S1 ++ [ABlock.live 0 [.int .i64 (i : Int), .fz false 256 (bcells u)], ABlock.live 0 [.int .i64 (i : Int), .fz false 256 (bcells u)]]).set p (.live 0 [.sl ro 0 0 on.length 1, .sl (S1.length + 1) 0 0 1 2, .int .i64 (letsN lets), .bool false]),
      .sl (S1.length + 1) 0 0 1 2, [S1.length + 1], ?_, ?_, ?_, ?_⟩
    · have hp1 : ∀ T : St, (S1 ++ T)[p]? = some (.live 0 [.sl ro 0 0 on.length 1, .nils, .int .i64 (letsN lets), .bool false]) := fun T => by rw [get_old hplt]; exact h1.hp
      simp [yWrite, disk_Write, exM, orc, orcD, evF, evC, evOps, evOper, evAny, evOp, evCall, putR, putA, Fr.ev, Fr.of, Fr.get, Fr.set, stable, junkA, junkL, resultsA, resA, same, eq2, faddrA, loadA, h.hp, h1.hp, partA, hh, unA, hxl, binA, intBin, hs, hcl, fillA, cells?, splice, appendA, cellsOf, storeA, trL, sameRead, sameVal, beqV, hp1]
    · refine ⟨?_, ?_, .inr ⟨S1.length + 1, 0, rfl, ?_, rfl⟩, ?_⟩
      · simp [List.getElem?_set]; omega
      · rw [List.getElem?_set, if_neg hnd.1.1, get_old (live_lt h1.ho)]; exact h1.ho
      · rw [List.getElem?_set, if_neg (by omega)]; simp [wcells, hul]
      · have := live_lt h1.ho
        simp only [List.nodup_cons, List.mem_cons, List.not_mem_nil, or_false, not_or, not_false_eq_true, List.nodup_nil, and_true]
        exact ⟨⟨hnd.1.1, by omega⟩, by omega⟩
    · refine ⟨by simp; omega, fun r hr hn => ?_⟩
      simp only [List.mem_cons, List.not_mem_nil, or_false] at hn
      rw [List.getElem?_set, if_neg (fun e => hn e.symm), get_old (by omega)]
      exact hk1.2 r hr (by simp [hn])
    · intro r hr; simp at hr; right; omega
  · have hrp : rw' ≠ p := fun e => hnd.1.2 (by simp [e])
    have hro : ro ≠ rw' := fun e => hnd.2.1 (by simp [e])
    refine ⟨((S1 ++ [ABlock.live 0 [.int .i64 (i : Int), .fz false 256 (bcells u)]]).set rw' (.live (vw + 1) (wcells ws ++ [.int .i64 (i : Int), .fz false 256 (bcells u)]))).set p (.live 0 [.sl ro 0 0 on.length 1, .sl rw' (vw + 1) 0 (ws.length + 1) 2, .int .i64 (letsN lets), .bool false]),
      .sl rw' (vw + 1) 0 (ws.length + 1) 2, [rw'], ?_, ?_, ?_, ?_⟩
    · have hp1 : ∀ T : St, (S1 ++ T)[p]? = some (.live 0 [.sl ro 0 0 on.length 1, .sl rw' vw 0 ws.length 2, .int .i64 (letsN lets), .bool false]) := fun T => by rw [get_old hplt]; exact h1.hp
      have hrwl := live_lt hrw
      have hr1 : ∀ T : St, (S1 ++ T)[rw']? = some (.live vw (wcells ws)) := fun T => by rw [get_old hrwl]; exact hrw
      have hp2 : ∀ (T : St) (b : ABlock), ((S1 ++ T).set rw' b)[p]? = some (.live 0 [.sl ro 0 0 on.length 1, .sl rw' vw 0 ws.length 2, .int .i64 (letsN lets), .bool false]) := fun T b => by
        rw [List.getElem?_set, if_neg hrp]; exact hp1 T
      have htk : List.take (ws.length * 2) (wcells ws) = wcells ws := List.take_of_length_le (by rw [wcells_len]; omega)
      have hlw := wcells_len ws
      have hby : (ws.length + 1) * 32 ≤ 140737488355328 := by omega
      simp [yWrite, disk_Write, exM, orc, orcD, evF, evC, evOps, evOper, evAny, evOp, evCall, putR, putA, Fr.ev, Fr.of, Fr.get, Fr.set, stable, junkA, junkL, resultsA, resA, same, eq2, faddrA, loadA, h.hp, h1.hp, partA, hh, unA, hxl, binA, intBin, hs, hcl, fillA, cells?, splice, appendA, cellsOf, storeA, trL, sameRead, sameVal, beqV, hp1, hr1, hp2, htk, hlw, hby]
    · refine ⟨?_, ?_, .inr ⟨rw', vw + 1, by simp, ?_, rfl⟩, h.nd⟩
      · simp [List.getElem?_set]; omega
      · rw [List.getElem?_set, if_neg hnd.1.1, List.getElem?_set, if_neg (fun e => hro e.symm), get_old (live_lt h1.ho)]; exact h1.ho
      · have hrwl := live_lt hrw
        rw [List.getElem?_set, if_neg (fun e => hrp e.symm), List.getElem?_set, if_pos rfl, if_pos (by simp; omega), wcells_append]
        simp [wcells, hul]
    · refine ⟨by simp; omega, fun r hr hn => ?_⟩
      simp only [List.mem_cons, List.not_mem_nil, or_false, not_or] at hn
      rw [List.getElem?_set, if_neg (fun e => hn.1 e.symm), List.getElem?_set, if_neg (fun e => hn.2 e.symm), get_old (by omega)]
      exact hk1.2 r hr (by simp [hn.1])
    · intro r hr; exact .inl hr
end Am.Disk
