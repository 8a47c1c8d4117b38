import Derived.Test.YtlhbmnhiiicldaaAmDisk1
import Derived.Test.YtlhbmnhiiicldaaAmKeep
set_option linter.all false
/- The disk over its heap. -/
section
namespace Am.Disk
open Am Go Am.Ir
set_option maxRecDepth 100000

/-- The cells of writes that wait. -/
def wcells (ws : List (Nat × List UInt8)) : List AVal := ws.flatMap fun w => [.int .i64 (w.1 : Int), .fz false w.2.length (bcells w.2)]

theorem wcells_len (ws : List (Nat × List UInt8)) : (wcells ws).length = ws.length * 2 := by
  induction ws with
  | nil => rfl
  | cons w ws ih =>
    have : wcells (w :: ws) = [.int .i64 (w.1 : Int), .fz false w.2.length (bcells w.2)] ++ wcells ws := rfl
    rw [this, List.length_append, ih]; simp; omega

theorem wcells_append (a b : List (Nat × List UInt8)) : wcells (a ++ b) = wcells a ++ wcells b := by simp [wcells]

theorem wcells_get (ws : List (Nat × List UInt8)) (j : Nat) (w : Nat × List UInt8) (h : ws[j]? = some w) : ((wcells ws).drop (j * 2)).take 2 = [.int .i64 (w.1 : Int), .fz false w.2.length (bcells w.2)] := by
  induction ws generalizing j with
  | nil => simp at h
  | cons x ws ih =>
    have hc : wcells (x :: ws) = [.int .i64 (x.1 : Int), .fz false x.2.length (bcells x.2)] ++ wcells ws := rfl
    cases j with
    | zero => simp at h; subst h; rw [hc]; rfl
    | succ j =>
      have h' : ws[j]? = some w := by simpa using h
      rw [hc, show (j + 1) * 2 = j * 2 + 2 from by omega]
      have := ih j h'
      simpa [List.drop_append] using this

theorem closed_wcells (n : Nat) (ws : List (Nat × List UInt8)) : closedL n (wcells ws) = true := by
  rw [closedL_iff]; intro c hc
  simp only [wcells, List.mem_flatMap, List.mem_cons, List.not_mem_nil, or_false] at hc
  obtain ⟨w, _, rfl | rfl⟩ := hc
  · rfl
  · simp only [closedV]; exact closed_bcells n _

/-- What waits. -/
def WI (S : St) (cw : AVal) (ws : List (Nat × List UInt8)) (fw : List Nat) : Prop :=
  (cw = .nils ∧ ws = [] ∧ fw = []) ∨ ∃ rw vw, cw = .sl rw vw 0 ws.length 2 ∧ S[rw]? = some (.live vw (wcells ws)) ∧ fw = [rw]

/-- A disk. -/
structure DiskI (S : St) (p ro : Nat) (cw : AVal) (fw : List Nat) (on : List UInt8) (ws : List (Nat × List UInt8)) (lets : Int) (off : Bool) : Prop where
  hp : S[p]? = some (.live 0 [.sl ro 0 0 on.length 1, cw, .int .i64 lets, .bool off])
  ho : S[ro]? = some (.live 0 (bcells on))
  hw : WI S cw ws fw
  nd : (p :: ro :: fw).Nodup

theorem WI.keep {S S' : St} {cw ws fw K} (h : WI S cw ws fw) (hk : Keeps S S' K) (hn : ∀ r ∈ fw, r ∉ K) : WI S' cw ws fw := by
  rcases h with h | ⟨rw', vw, h1, h2, h3⟩
  · exact .inl h
  · exact .inr ⟨rw', vw, h1, hk.get h2 (hn _ (by simp [h3])), h3⟩

theorem DiskI.keep {S S' : St} {p ro cw fw on ws lets off K} (h : DiskI S p ro cw fw on ws lets off) (hk : Keeps S S' K) (hn : ∀ r ∈ p :: ro :: fw, r ∉ K) : DiskI S' p ro cw fw on ws lets off :=
  ⟨hk.get h.hp (hn _ (by simp)), hk.get h.ho (hn _ (by simp)), h.hw.keep hk (fun r hr => hn r (by simp [hr])), h.nd⟩

theorem WI.len {S : St} {cw ws fw} (h : WI S cw ws fw) : lenA .sl cw = some (.int .i64 (ws.length : Int)) := by
  rcases h with ⟨rfl, rfl, _⟩ | ⟨rw', vw, rfl, _⟩ <;> rfl

theorem WI.lt {S : St} {cw ws fw} (h : WI S cw ws fw) : ∀ r ∈ fw, r < S.length := by
  rcases h with ⟨_, _, rfl⟩ | ⟨rw', vw, _, h2, rfl⟩
  · simp
  · simp; exact live_lt h2

theorem DiskI.lt {S : St} {p ro cw fw on ws lets off} (h : DiskI S p ro cw fw on ws lets off) : ∀ r ∈ p :: ro :: fw, r < S.length := by
  intro r hr
  simp only [List.mem_cons] at hr
  rcases hr with rfl | rfl | hr
  · exact live_lt h.hp
  · exact live_lt h.ho
  · exact h.hw.lt r hr

variable {S : St} {p ro : Nat} {cw : AVal} {fw : List Nat} {on : List UInt8} {ws : List (Nat × List UInt8)} {lets : Int} {off : Bool}

theorem bcells_rep (n : Nat) : (List.replicate n [AVal.int IntKind.u8 0]).flatten = bcells (List.replicate n 0) := by
  induction n with
  | zero => rfl
  | succ n ih => simp only [List.replicate_succ, List.flatten_cons, ih]; rfl

theorem new_ok (n : Nat) (h1 : 16 ≤ n) (h2 : n ≤ 512) (S : St) :
    xNew [.int .i64 n] S = some (.tup [.ptr (S.length + 1) 0 0, .int .i64 0], S ++ [.live 0 (bcells (List.replicate (n * 256) 0)), .live 0 [.sl S.length 0 0 (n * 256) 1, .nils, .int .i64 (-1), .bool false]]) := by
  have a1 : ¬ (n : Int) < 16 := by omega
  have a2 : ¬ (512 : Int) < n := by omega
  have a3 : IntKind.i64.wrap ((n : Int) * 256) = (n : Int) * 256 := wrap64 (by omega) (by omega)
  have a4 : (0 : Int) ≤ (n : Int) * 256 ∧ (n : Int) * 256 ≤ 281474976710656 ∧ (n : Int) * 256 ≤ 9223372036854775807 := by omega
  have a5 : ((n : Int) * 256).toNat = n * 256 := by omega
  have a6 : List.replicate (n * 256) (AVal.int IntKind.u8 0) = bcells (List.replicate (n * 256) 0) := by simp [bcells]
  simp [xNew, disk_New, exM, orc, orcD, evF, evC, evOps, evOper, evAny, evOp, evCall, putR, putA, Fr.ev, Fr.of, Fr.get, Fr.set, stable, junkA, junkL, resultsA, resA, same, binA, intBin, a1, a2, a3, a4, a5, a6, mkA, fillA, cells?, splice]

/-- So many noughts. -/
def zeros (n : Nat) : List UInt8 := List.replicate n 0
theorem zeros_len (n : Nat) : (zeros n).length = n := List.length_replicate

theorem new_ok' (n : Nat) (h1 : 16 ≤ n) (h2 : n ≤ 512) (S : St) :
    ∃ S', xNew [.int .i64 n] S = some (.tup [.ptr (S.length + 1) 0 0, .int .i64 0], S') ∧ S'.length = S.length + 2 ∧ Keeps S S' [] ∧ S'[S.length + 1]? = some (.live 0 [.sl S.length 0 0 (zeros (n * 256)).length 1, .nils, .int .i64 (-1), .bool false]) ∧
      S'[S.length]? = some (.live 0 (bcells (zeros (n * 256)))) := by
  refine ⟨_, new_ok n h1 h2 S, by simp, Keeps.append S _, ?_, ?_⟩
  · rw [zeros_len]; simp
  · simp [zeros]

theorem new_diskI (n : Nat) (S : St) : DiskI (S ++ [.live 0 (bcells (List.replicate (n * 256) 0)), .live 0 [.sl S.length 0 0 (n * 256) 1, .nils, .int .i64 (-1), .bool false]]) (S.length + 1) S.length .nils [] (List.replicate (n * 256) 0) [] (-1) false :=
  ⟨by simp, by simp, .inl ⟨rfl, rfl, rfl⟩, by simp⟩

theorem len_ok (h : DiskI S p ro cw fw on ws lets off) {n : Nat} (hn : on.length = n * 256) (hb : n ≤ 512) : xLen [.ptr p 0 0] S = some (.int .i64 n, S) := by
  have h2 : IntKind.i64.wrap ((on.length : Int) / 256) = n := by
    rw [hn, wrap64 (by omega) (by omega)]; omega
  simp [xLen, disk_Len, exM, orc, orcD, evF, evC, evOps, evOper, evAny, evOp, evCall, putR, putA, Fr.ev, Fr.of, Fr.get, Fr.set, stable, junkA, junkL, resultsA, resA, same, eq2, faddrA, loadA, h.hp, partA, lenA, binA, intBin, h2]

theorem waits_ok (h : DiskI S p ro cw fw on ws lets off) : xWaits [.ptr p 0 0] S = some (.int .i64 ws.length, S) := by
  simp [xWaits, disk_Waits, exM, orc, orcD, evF, evC, evOps, evOper, evAny, evOp, evCall, putR, putA, Fr.ev, Fr.of, Fr.get, Fr.set, stable, junkA, junkL, resultsA, resA, same, eq2, faddrA, loadA, h.hp, partA, h.hw.len]

theorem has_ok (h : DiskI S p ro cw fw on ws lets off) {n : Nat} (hn : on.length = n * 256) (hb : n ≤ 512) (i : Int) : xHas [.ptr p 0 0, .int .i64 i] S = some (.bool (decide (0 ≤ i ∧ i < n)), S) := by
  have hl := len_ok h hn hb
  by_cases h0 : 0 ≤ i
  · by_cases h1 : i < n <;> simp [xHas, disk_has, exM, orc, orcD, evF, evC, evOps, evOper, evAny, evOp, evCall, putR, putA, Fr.ev, Fr.of, Fr.get, Fr.set, stable, junkA, junkL, resultsA, resA, same, binA, intBin, hl, h0, h1]
  · simp [xHas, disk_has, exM, orc, orcD, evF, evC, evOps, evOper, evAny, evOp, evCall, putR, putA, Fr.ev, Fr.of, Fr.get, Fr.set, stable, junkA, junkL, resultsA, resA, same, binA, intBin, hl, h0]

theorem sector_ok (h : DiskI S p ro cw fw on ws lets off) {n : Nat} (hn : on.length = n * 256) (hb : n ≤ 512) {i : Nat} (hi : i < n) : xSector [.ptr p 0 0, .int .i64 i] S = some (.sl ro 0 (i * 256) 256 1, S) := by
  have a3 : IntKind.i64.wrap ((i : Int) * 256) = (i : Int) * 256 := wrap64 (by omega) (by omega)
  have a4 : IntKind.i64.wrap ((i : Int) + 1) = (i : Int) + 1 := wrap64 (by omega) (by omega)
  have a5 : IntKind.i64.wrap (((i : Int) + 1) * 256) = ((i : Int) + 1) * 256 := wrap64 (by omega) (by omega)
  have a6 : (0 : Int) ≤ (i : Int) * 256 ∧ (i : Int) * 256 ≤ ((i : Int) + 1) * 256 ∧ ((i : Int) + 1) * 256 ≤ (on.length : Int) := by omega
  have a7 : (((i : Int) + 1) * 256).toNat - ((i : Int) * 256).toNat = 256 := by omega
  have a8 : ((i : Int) * 256).toNat = i * 256 := by omega
  have a9 : (((i : Int) + 1) * 256).toNat = (i + 1) * 256 := by omega
  have b1 : (i : Int) ≤ (i : Int) + 1 := by omega
  have b2 : (i + 1) * 256 - i * 256 = 256 := by omega
  simp [xSector, disk_sector, exM, orc, orcD, evF, evC, evOps, evOper, evAny, evOp, evCall, putR, putA, Fr.ev, Fr.of, Fr.get, Fr.set, stable, junkA, junkL, resultsA, resA, same, binA, intBin, a3, a4, a5, faddrA, loadA, h.hp, partA, slcSA, bounds, a6, a7, a8, a9, b1, b2]

/-- 'bytes.Clone', whose result nobody writes. -/
noncomputable def mClone : Model := tellM 2 xClone

theorem clone_nil (S : St) : xClone [.nils] S = some (.nils, S) := by
  simp [xClone, bytes_Clone, exM, orc, orcD, evF, evC, evOps, evOper, evAny, evOp, evCall, putR, putA, Fr.ev, Fr.of, Fr.get, Fr.set, stable, junkA, junkL, resultsA, resA, same, eq2]

theorem clone_ok {x : AVal} {u : List UInt8} (hx : isSl x = true) (hu : cellsOf 1 x S = some (u.length, bcells u)) (hl : u.length ≤ 140737488355328) :
    xClone [x] S = some (.sl S.length 1 0 u.length 1, S ++ [.live 1 (bcells u)]) := by
  have hu' : cellsOf 1 x (S ++ [.live 0 []]) = some (u.length, bcells u) := by
    cases x <;> simp [isSl] at hx
    · rename_i r v off len sz
      simp only [cellsOf] at hu ⊢
      split at hu
      · rename_i v' cs hS
        rw [get_old (live_lt hS), hS]; exact hu
      · simp at hu
    · exact hu
  by_cases h0 : u = []
  · subst h0
    simp [xClone, bytes_Clone, exM, orc, orcD, evF, evC, evOps, evOper, evAny, evOp, evCall, putR, putA, Fr.ev, Fr.of, Fr.get, Fr.set, stable, junkA, junkL, resultsA, resA, same, eq2_sl hx, fillA, appendA, hu']
  · simp [xClone, bytes_Clone, exM, orc, orcD, evF, evC, evOps, evOper, evAny, evOp, evCall, putR, putA, Fr.ev, Fr.of, Fr.get, Fr.set, stable, junkA, junkL, resultsA, resA, same, eq2_sl hx, fillA, appendA, hu', hl]

theorem mClone_ok {x : AVal} {u : List UInt8} (hx : isSl x = true) (hu : cellsOf 1 x S = some (u.length, bcells u)) (hl : u.length ≤ 140737488355328) :
    mClone [x] S = some (.fz false u.length (bcells u), S) := by
  refine tellM_new (clone_ok hx hu hl) ?_
  refine deep_sl (cells := bcells u) (Nat.le_refl _) (by simp) (by simp [bcells_len]) ?_
  rw [List.drop_zero, Nat.mul_one, List.take_of_length_le (by simp [bcells_len])]
  exact deep_bcells u

end Am.Disk
end

/- The disk over its heap: the fuse, writes, all that is on it. -/
section
namespace Am.Disk
open Am Go Am.Ir
set_option maxRecDepth 100000

variable {S : St} {p ro : Nat} {cw : AVal} {fw : List Nat} {on : List UInt8} {ws : List (Nat × List UInt8)} {lets : Int} {off : Bool}

theorem set_self {S : St} {p : Nat} {b : ABlock} (h : S[p]? = some b) : S.set p b = S := by
  apply List.ext_getElem?
  intro q
  rw [List.getElem?_set]
  split
  · rename_i e; subst e
    have := (List.getElem?_eq_some_iff.1 h).1
    simp only [this, if_true]; exact h.symm
  · rfl

/-- The disk's own block is laid anew. -/
theorem DiskI.setp (h : DiskI S p ro cw fw on ws lets off) (lets' : Int) (off' : Bool) : DiskI (S.set p (.live 0 [.sl ro 0 0 on.length 1, cw, .int .i64 lets', .bool off'])) p ro cw fw on ws lets' off' := by
  have hk := Keeps.set S p (.live 0 [.sl ro 0 0 on.length 1, cw, .int .i64 lets', .bool off'])
  have hlt := live_lt h.hp
  have hnd := h.nd
  simp only [List.nodup_cons, List.mem_cons, not_or] at hnd
  refine ⟨by simp [hlt], hk.get h.ho (by simp; exact fun e => hnd.1.1 e.symm), h.hw.keep hk (fun r hr => by simp; rintro rfl; exact hnd.1.2 hr), h.nd⟩

def letsN (lets : Int) : Int := if 0 < lets then lets - 1 else lets
def offN (lets : Int) (off : Bool) : Bool := if lets = 0 then true else off

theorem spend_ok (h : DiskI S p ro cw fw on ws lets off) (hl : lets ≤ 9223372036854775807) : xSpend [.ptr p 0 0] S = some (.bool (decide (lets ≠ 0)), S.set p (.live 0 [.sl ro 0 0 on.length 1, cw, .int .i64 (letsN lets), .bool (offN lets off)])) := by
  by_cases h0 : lets = 0
  · subst h0
    simp [xSpend, disk_spend, exM, orc, orcD, evF, evC, evOps, evOper, evAny, evOp, evCall, putR, putA, Fr.ev, Fr.of, Fr.get, Fr.set, stable, junkA, junkL, resultsA, resA, same, faddrA, loadA, h.hp, partA, binA, intBin, storeA, cells?, splice, letsN, offN]
  · by_cases h1 : 0 < lets
    · have hw : IntKind.i64.wrap (lets - 1) = lets - 1 := wrap64 (by omega) (by omega)
      simp [xSpend, disk_spend, exM, orc, orcD, evF, evC, evOps, evOper, evAny, evOp, evCall, putR, putA, Fr.ev, Fr.of, Fr.get, Fr.set, stable, junkA, junkL, resultsA, resA, same, faddrA, loadA, h.hp, partA, binA, intBin, storeA, cells?, splice, letsN, offN, h0, h1, hw]
    · have hs := set_self h.hp
      simp [xSpend, disk_spend, exM, orc, orcD, evF, evC, evOps, evOper, evAny, evOp, evCall, putR, putA, Fr.ev, Fr.of, Fr.get, Fr.set, stable, junkA, junkL, resultsA, resA, same, faddrA, loadA, h.hp, partA, binA, intBin, letsN, offN, h0, h1, hs]

theorem fuse_ok (h : DiskI S p ro cw fw on ws lets off) (f : Int) : xFuse [.ptr p 0 0, .int .i64 f] S = some (.tup [], S.set p (.live 0 [.sl ro 0 0 on.length 1, cw, .int .i64 (max f 0), .bool off])) := by
  simp [xFuse, disk_Fuse, exM, orc, orcD, evF, evC, evOps, evOper, evAny, evOp, evCall, putR, putA, Fr.ev, Fr.of, Fr.get, Fr.set, stable, junkA, junkL, resultsA, resA, same, eq2, faddrA, loadA, h.hp, partA, storeA, cells?, splice]

noncomputable def yDump : Model := exM (orc [mClone]) disk_Dump 10

theorem on_cells (h : DiskI S p ro cw fw on ws lets off) : cellsOf 1 (.sl ro 0 0 on.length 1) S = some (on.length, bcells on) := by
  simp [cellsOf, h.ho, bcells_len]
  rw [List.take_of_length_le (by simp [bcells_len])]

theorem dump_ok (h : DiskI S p ro cw fw on ws lets off) (hb : on.length ≤ 131072) : yDump [.ptr p 0 0] S = some (.fz false on.length (bcells on), S) := by
  have hc := mClone_ok (S := S) (x := .sl ro 0 0 on.length 1) (u := on) rfl (on_cells h) (by omega)
  simp [yDump, disk_Dump, exM, orc, orcD, evF, evC, evOps, evOper, evAny, evOp, evCall, putR, putA, Fr.ev, Fr.of, Fr.get, Fr.set, stable, junkA, junkL, resultsA, resA, same, eq2, faddrA, loadA, h.hp, partA, hc]

noncomputable def yWrite : Model := exM (orc [xHas, xSpend, mClone]) disk_Write 10

theorem write_off (h : DiskI S p ro cw fw on ws lets true) (i : Int) (x : AVal) : yWrite [.ptr p 0 0, .int .i64 i, x] S = some (.int .i64 8, S) := by
  simp [yWrite, disk_Write, exM, orc, orcD, evF, evC, evOps, evOper, evAny, evOp, evCall, putR, putA, Fr.ev, Fr.of, Fr.get, Fr.set, stable, junkA, junkL, resultsA, resA, same, eq2, faddrA, loadA, h.hp, partA]

theorem write_arg (h : DiskI S p ro cw fw on ws lets false) {n : Nat} (hn : on.length = n * 256) (hb : n ≤ 512) (i : Int) (x : AVal) (m : Nat) (hx : lenA .sl x = some (.int .i64 m)) (hbad : ¬ (0 ≤ i ∧ i < n) ∨ m ≠ 256) :
    yWrite [.ptr p 0 0, .int .i64 i, x] S = some (.int .i64 1, S) := by
  have hh := has_ok h hn hb i
  by_cases h1 : 0 ≤ i ∧ i < n
  · have h2 : m ≠ 256 := by rcases hbad with h2 | h2; exact absurd h1 h2; exact h2
    have h3 : ¬ (m : Int) = 256 := by omega
    have h4 : decide (0 ≤ i ∧ i < (n : Int)) = true := by simp [h1]
    rw [h4] at hh
    simp [yWrite, disk_Write, exM, orc, orcD, evF, evC, evOps, evOper, evAny, evOp, evCall, putR, putA, Fr.ev, Fr.of, Fr.get, Fr.set, stable, junkA, junkL, resultsA, resA, same, eq2, faddrA, loadA, h.hp, partA, hh, unA, hx, binA, intBin, h3]
  · have h4 : decide (0 ≤ i ∧ i < (n : Int)) = false := by simp; intro h5; have := h1; omega
    rw [h4] at hh
    simp [yWrite, disk_Write, exM, orc, orcD, evF, evC, evOps, evOper, evAny, evOp, evCall, putR, putA, Fr.ev, Fr.of, Fr.get, Fr.set, stable, junkA, junkL, resultsA, resA, same, eq2, faddrA, loadA, h.hp, partA, hh, unA]

theorem write_fuse (h : DiskI S p ro cw fw on ws 0 false) {n : Nat} (hn : on.length = n * 256) (hb : n ≤ 512) (i : Nat) (hi : i < n) (x : AVal) (hx : lenA .sl x = some (.int .i64 256)) :
    yWrite [.ptr p 0 0, .int .i64 i, x] S = some (.int .i64 8, S.set p (.live 0 [.sl ro 0 0 on.length 1, cw, .int .i64 0, .bool true])) := by
  have hh := has_ok h hn hb i
  have h4 : decide (0 ≤ (i : Int) ∧ (i : Int) < (n : Int)) = true := by simp; omega
  rw [h4] at hh
  have hs := spend_ok h (by omega)
  simp [letsN, offN] at hs
  simp [yWrite, disk_Write, exM, orc, orcD, evF, evC, evOps, evOper, evAny, evOp, evCall, putR, putA, Fr.ev, Fr.of, Fr.get, Fr.set, stable, junkA, junkL, resultsA, resA, same, eq2, faddrA, loadA, h.hp, partA, hh, unA, hx, binA, intBin, hs]

/-- A write that is taken. -/
theorem write_ok (h : DiskI S p ro cw fw on ws lets false) {n : Nat} (hn : on.length = n * 256) (hb : n ≤ 512) (i : Nat) (hi : i < n) {x : AVal} {u : List UInt8} (hx : isSl x = true) (hu : ∀ S' : St, (∀ r, r ≠ p → S'[r]? = S[r]?) → cellsOf 1 x S' = some (u.length, bcells u))
    (hxl : lenA .sl x = some (.int .i64 256)) (hul : u.length = 256) (hl0 : lets ≠ 0) (hlm : lets ≤ 9223372036854775807) (hwl : ws.length ≤ 1000) :
    ∃ S' cw' fw', yWrite [.ptr p 0 0, .int .i64 i, x] S = some (.int .i64 0, S') ∧ DiskI S' p ro cw' fw' on (ws ++ [(i, u)]) (letsN lets) false ∧ Keeps S S' (p :: fw) ∧ (∀ r ∈ fw', r ∈ fw ∨ S.length ≤ r) := by
  have hh := has_ok h hn hb i
  have h4 : decide (0 ≤ (i : Int) ∧ (i : Int) < (n : Int)) = true := by simp; omega
  rw [h4] at hh
  have hs := spend_ok h hlm
  have hof : offN lets false = false := by simp [offN, hl0]
  rw [hof] at hs
  have hdl : decide (lets ≠ 0) = true := by simp [hl0]
  rw [hdl] at hs
  have h1 := h.setp (letsN lets) false
  obtain ⟨S1, hS1⟩ : ∃ S1 : St, S.set p (.live 0 [.sl ro 0 0 on.length 1, cw, .int .i64 (letsN lets), .bool false]) = S1 := ⟨_, rfl⟩
  rw [hS1] at hs h1
  have hlen1 : S1.length = S.length := by rw [← hS1]; simp
  have hk1 : Keeps S S1 [p] := by rw [← hS1]; exact Keeps.set S p _
  have hcl := mClone_ok (S := S1) hx (hu S1 (fun r hr => by rw [← hS1, List.getElem?_set, if_neg (fun e => hr e.symm)])) (by omega)
  have hnd := h.nd
  simp only [List.nodup_cons, List.mem_cons, not_or] at hnd
  have hplt := live_lt h1.hp
  rw [hul] at hcl
  rcases h1.hw with ⟨rfl, rfl, rfl⟩ | ⟨rw', vw, rfl, hrw, rfl⟩
  · refine ⟨(S1 ++ [ABlock.live 0 [.int .i64 (i : Int), .fz false 256 (bcells u)], ABlock.live 0 [.int .i64 (i : Int), .fz false 256 (bcells u)]]).set p (.live 0 [.sl ro 0 0 on.length 1, .sl (S1.length + 1) 0 0 1 2, .int .i64 (letsN lets), .bool false]),
      .sl (S1.length + 1) 0 0 1 2, [S1.length + 1], ?_, ?_, ?_, ?_⟩
    · have hp1 : ∀ T : St, (S1 ++ T)[p]? = some (.live 0 [.sl ro 0 0 on.length 1, .nils, .int .i64 (letsN lets), .bool false]) := fun T => by rw [get_old hplt]; exact h1.hp
      simp [yWrite, disk_Write, exM, orc, orcD, evF, evC, evOps, evOper, evAny, evOp, evCall, putR, putA, Fr.ev, Fr.of, Fr.get, Fr.set, stable, junkA, junkL, resultsA, resA, same, eq2, faddrA, loadA, h.hp, h1.hp, partA, hh, unA, hxl, binA, intBin, hs, hcl, fillA, cells?, splice, appendA, cellsOf, storeA, trL, sameRead, sameVal, beqV, hp1]
    · refine ⟨?_, ?_, .inr ⟨S1.length + 1, 0, rfl, ?_, rfl⟩, ?_⟩
      · simp [List.getElem?_set]; omega
      · rw [List.getElem?_set, if_neg hnd.1.1, get_old (live_lt h1.ho)]; exact h1.ho
      · rw [List.getElem?_set, if_neg (by omega)]; simp [wcells, hul]
      · have := live_lt h1.ho
        simp only [List.nodup_cons, List.mem_cons, List.not_mem_nil, or_false, not_or, not_false_eq_true, List.nodup_nil, and_true]
        exact ⟨⟨hnd.1.1, by omega⟩, by omega⟩
    · refine ⟨by simp; omega, fun r hr hn => ?_⟩
      simp only [List.mem_cons, List.not_mem_nil, or_false] at hn
      rw [List.getElem?_set, if_neg (fun e => hn e.symm), get_old (by omega)]
      exact hk1.2 r hr (by simp [hn])
    · intro r hr; simp at hr; right; omega
  · have hrp : rw' ≠ p := fun e => hnd.1.2 (by simp [e])
    have hro : ro ≠ rw' := fun e => hnd.2.1 (by simp [e])
    refine ⟨((S1 ++ [ABlock.live 0 [.int .i64 (i : Int), .fz false 256 (bcells u)]]).set rw' (.live (vw + 1) (wcells ws ++ [.int .i64 (i : Int), .fz false 256 (bcells u)]))).set p (.live 0 [.sl ro 0 0 on.length 1, .sl rw' (vw + 1) 0 (ws.length + 1) 2, .int .i64 (letsN lets), .bool false]),
      .sl rw' (vw + 1) 0 (ws.length + 1) 2, [rw'], ?_, ?_, ?_, ?_⟩
    · have hp1 : ∀ T : St, (S1 ++ T)[p]? = some (.live 0 [.sl ro 0 0 on.length 1, .sl rw' vw 0 ws.length 2, .int .i64 (letsN lets), .bool false]) := fun T => by rw [get_old hplt]; exact h1.hp
      have hrwl := live_lt hrw
      have hr1 : ∀ T : St, (S1 ++ T)[rw']? = some (.live vw (wcells ws)) := fun T => by rw [get_old hrwl]; exact hrw
      have hp2 : ∀ (T : St) (b : ABlock), ((S1 ++ T).set rw' b)[p]? = some (.live 0 [.sl ro 0 0 on.length 1, .sl rw' vw 0 ws.length 2, .int .i64 (letsN lets), .bool false]) := fun T b => by
        rw [List.getElem?_set, if_neg hrp]; exact hp1 T
      have htk : List.take (ws.length * 2) (wcells ws) = wcells ws := List.take_of_length_le (by rw [wcells_len]; omega)
      have hlw := wcells_len ws
      have hby : (ws.length + 1) * 32 ≤ 140737488355328 := by omega
      simp [yWrite, disk_Write, exM, orc, orcD, evF, evC, evOps, evOper, evAny, evOp, evCall, putR, putA, Fr.ev, Fr.of, Fr.get, Fr.set, stable, junkA, junkL, resultsA, resA, same, eq2, faddrA, loadA, h.hp, h1.hp, partA, hh, unA, hxl, binA, intBin, hs, hcl, fillA, cells?, splice, appendA, cellsOf, storeA, trL, sameRead, sameVal, beqV, hp1, hr1, hp2, htk, hlw, hby]
    · refine ⟨?_, ?_, .inr ⟨rw', vw + 1, by simp, ?_, rfl⟩, h.nd⟩
      · simp [List.getElem?_set]; omega
      · rw [List.getElem?_set, if_neg hnd.1.1, List.getElem?_set, if_neg (fun e => hro e.symm), get_old (live_lt h1.ho)]; exact h1.ho
      · have hrwl := live_lt hrw
        rw [List.getElem?_set, if_neg (fun e => hrp e.symm), List.getElem?_set, if_pos rfl, if_pos (by simp; omega), wcells_append]
        simp [wcells, hul]
    · refine ⟨by simp; omega, fun r hr hn => ?_⟩
      simp only [List.mem_cons, List.not_mem_nil, or_false, not_or] at hn
      rw [List.getElem?_set, if_neg (fun e => hn.1 e.symm), List.getElem?_set, if_neg (fun e => hn.2 e.symm), get_old (by omega)]
      exact hk1.2 r hr (by simp [hn.1])
    · intro r hr; exact .inl hr
end Am.Disk
end

/- The disk over its heap: what waits is laid onto it; it goes bad. -/
section
namespace Am.Disk
open Am Go Am.Ir
set_option maxRecDepth 100000

variable {S : St} {p ro : Nat} {cw : AVal} {fw : List Nat} {on : List UInt8} {ws : List (Nat × List UInt8)} {lets : Int} {off : Bool}

/-- Bytes laid onto a sector. -/
def lay (on : List UInt8) (i : Nat) (b : List UInt8) : List UInt8 := on.take (i * 256) ++ b ++ on.drop (i * 256 + b.length)

theorem lay_len (on : List UInt8) (i : Nat) (b : List UInt8) (h : i * 256 + b.length ≤ on.length) : (lay on i b).length = on.length := by
  simp [lay]; omega

theorem splice_bcells (on : List UInt8) (i : Nat) (b : List UInt8) : splice (bcells on) (i * 256) (bcells b) = bcells (lay on i b) := by
  simp [splice, lay, bcells]

theorem bcells_take (u : List UInt8) (n : Nat) : (bcells u).take n = bcells (u.take n) := by simp [bcells]

/-- The bytes on the disk are laid anew. -/
theorem DiskI.seto (h : DiskI S p ro cw fw on ws lets off) {on' : List UInt8} (hl : on'.length = on.length) : DiskI (S.set ro (.live 0 (bcells on'))) p ro cw fw on' ws lets off := by
  have hk := Keeps.set S ro (.live 0 (bcells on'))
  have hlt := live_lt h.ho
  have hnd := h.nd
  simp only [List.nodup_cons, List.mem_cons, not_or] at hnd
  refine ⟨by rw [hl]; exact hk.get h.hp (by simp; exact hnd.1.1), by simp [hlt], h.hw.keep hk (fun r hr => by simp; rintro rfl; exact hnd.2.1 hr), h.nd⟩

/-- 'copy' onto a sector. -/
theorem copy_on (h : DiskI S p ro cw fw on ws lets off) {i : Nat} (hi : (i + 1) * 256 ≤ on.length) {b : List UInt8} (hb : b.length ≤ 256) (fl : Bool) :
    copyA 1 (.sl ro 0 (i * 256) 256 1) (.fz fl b.length (bcells b)) S = some (.int .i64 b.length, S.set ro (.live 0 (bcells (lay on i b)))) := by
  have h1 : i * 256 + 256 ≤ (bcells on).length := by rw [bcells_len]; omega
  have h2 : min b.length 256 = b.length := by omega
  have h3 : List.take b.length (bcells b) = bcells b := List.take_of_length_le (by rw [bcells_len]; exact Nat.le_refl _)
  have h4 := splice_bcells on i b
  simp [copyA, cellsOf, bcells_len, h.ho, h1, h2, h3, h4]
  rw [bcells_len] at h1; omega

theorem wait_ix (h : DiskI S p ro cw fw on ws lets off) {j : Nat} {w : Nat × List UInt8} (hj : ws[j]? = some w) :
    ∃ rw' vw, iaddrSA 2 cw (.int .i64 (j : Int)) = some (.ptr rw' vw (j * 2)) ∧ S[rw']? = some (.live vw (wcells ws)) ∧ partA (some 2) (j * 2) (wcells ws) = some (.agg [.int .i64 (w.1 : Int), .fz false w.2.length (bcells w.2)]) := by
  have hlt := (List.getElem?_eq_some_iff.1 hj).1
  rcases h.hw with ⟨_, rfl, _⟩ | ⟨rw', vw, rfl, hrw, _⟩
  · simp at hlt
  · refine ⟨rw', vw, ?_, hrw, ?_⟩
    · have : (j : Int) < (ws.length : Int) := by omega
      simp [iaddrSA, this]
    · have h1 := wcells_get ws j w hj
      have h2 : j * 2 + 2 ≤ (wcells ws).length := by rw [wcells_len]; omega
      simp [partA, h2, h1]

theorem partA_none (off : Nat) (cs : List AVal) : partA none off cs = cs[off]? := rfl

def flushS (on : List UInt8) (ws : List (Nat × List UInt8)) : List UInt8 := ws.foldl (fun on w => lay on w.1 w.2) on

def WsOk (n : Nat) (ws : List (Nat × List UInt8)) : Prop := ∀ w ∈ ws, w.1 < n ∧ w.2.length = 256

theorem flushS_len {n : Nat} {on : List UInt8} {ws : List (Nat × List UInt8)} (hn : on.length = n * 256) (hw : WsOk n ws) : (flushS on ws).length = on.length := by
  induction ws generalizing on with
  | nil => rfl
  | cons w ws ih =>
    obtain ⟨h1, h2⟩ := hw w (by simp)
    have hl := lay_len on w.1 w.2 (by omega)
    show (flushS (lay on w.1 w.2) ws).length = _
    rw [ih (by omega) (fun x hx => hw x (by simp [hx])), hl]

theorem take_succ {α : Type} {l : List α} {j : Nat} {x : α} (h : l[j]? = some x) : l.take (j + 1) = l.take j ++ [x] := by
  rw [List.take_add_one, h]; rfl

/-- The frame's slots that a loop over what waits reads. -/
structure FlF (f : Fr) (p : Nat) (cw : AVal) (len j : Nat) : Prop where
  s0 : f.get 0 = .ptr p 0 0
  s21 : f.get 21 = cw
  s22 : f.get 22 = .int .i64 (len : Int)
  s23 : f.get 23 = .int .i64 (j : Int)

theorem flush_round {O : Orc} {k : Nat} (hO : O.loc[1]? = some xSector) {f : Fr} {n : Nat} (h : DiskI S p ro cw fw on ws lets off) (hn : on.length = n * 256) (hnb : n ≤ 512) {j : Nat} {w : Nat × List UInt8} (hj : ws[j]? = some w) (hw : w.1 < n ∧ w.2.length = 256)
    (hb : ws.length ≤ 1000) (hf : FlF f p cw ws.length j) :
    Post (evC O k disk_Flush_l0 f S) fun e f' S' => e = .normal ∧ FlF f' p cw ws.length (j + 1) ∧ DiskI S' p ro cw fw (lay on w.1 w.2) ws lets off ∧ Keeps S S' [ro] := by
  obtain ⟨rw', vw, hq1, hq2, hq3⟩ := wait_ix h hj
  have hlt := (List.getElem?_eq_some_iff.1 hj).1
  have hjl : (j : Int) < (ws.length : Int) := by omega
  have hwj : IntKind.i64.wrap ((j : Int) + 1) = (j : Int) + 1 := wrap64 (by omega) (by omega)
  obtain ⟨at', b⟩ := w
  simp only at hw hq3
  have hk1 : Keeps S (S ++ [ABlock.live 0 [.int .i64 (at' : Int), .fz false b.length (bcells b)]]) [] := Keeps.append S _
  have h1 := h.keep hk1 (by simp)
  have hsec := sector_ok h1 hn hnb hw.1
  have hcp := copy_on h1 (i := at') (b := b) (by omega) (by omega) false
  have h2 := h1.seto (lay_len on at' b (by omega))
  have hrol := live_lt h.ho
  simp [disk_Flush_l0, exM, orc, orcD, evF, evC, evOps, evOper, evAny, evOp, evCall, putR, putA, Fr.ev, Fr.of, Fr.get, Fr.set, stable, junkA, junkL, resultsA, resA, same, Fr.get_set, hf.s0, hf.s21, hf.s22, hf.s23, binA, intBin, hjl, hq1, hq2, hq3, storeA, cells?, splice, faddrA, loadA, partA_none, hO, hsec, hcp, trL, sameRead, sameVal, beqV, beqL_refl, hwj, Post_some]
  refine ⟨⟨?_, ?_, ?_, ?_⟩, h2, by simp, fun r hr hn' => ?_⟩
  · simp [Fr.get_set, hf.s0]
  · simp [Fr.get_set, hf.s21]
  · simp [Fr.get_set, hf.s22]
  · simp [Fr.get_set]
  · simp at hn'
    rw [List.getElem?_set, if_neg (fun e => hn' e.symm), get_old hr]

theorem flush_loop {O : Orc} (hO : O.loc[1]? = some xSector) {n : Nat} (hn : on.length = n * 256) (hnb : n ≤ 512) (hw : WsOk n ws) (hb : ws.length ≤ 900) {f : Fr} (h : DiskI S p ro cw fw on ws lets off) (hf : FlF f p cw ws.length 0) :
    Post (evC O 1000 disk_Flush_s1 f S) fun e f' S' => e = .normal ∧ f'.get 0 = .ptr p 0 0 ∧ DiskI S' p ro cw fw (flushS on ws) ws lets off ∧ Keeps S S' [ro] := by
  have hlen : ∀ j, (flushS on (ws.take j)).length = on.length := fun j => flushS_len hn (fun w hm => hw w (List.mem_of_mem_take hm))
  obtain ⟨f', S', h1, h2⟩ := loop_post (O := O) (k := 1000) (id := 0) (b := disk_Flush_l0) (I := fun j f T => FlF f p cw ws.length j ∧ DiskI T p ro cw fw (flushS on (ws.take j)) ws lets off ∧ Keeps S T [ro])
    (Q := fun f' S' => f'.get 0 = .ptr p 0 0 ∧ DiskI S' p ro cw fw (flushS on ws) ws lets off ∧ Keeps S S' [ro]) ws.length (by omega)
    (by
      rintro j hj f T ⟨g1, g2, g3⟩
      obtain ⟨w, hwj⟩ : ∃ w, ws[j]? = some w := ⟨_, List.getElem?_eq_getElem hj⟩
      refine (flush_round hO g2 ((hlen j).trans hn) hnb hwj (hw w (List.mem_of_getElem? hwj)) (by omega) g1).mono ?_
      rintro e f' S' ⟨rfl, k1, k2, k3⟩
      refine ⟨rfl, k1, ?_, g3.trans k3 (fun r hr => .inl hr)⟩
      rw [take_succ hwj]
      simpa [flushS] using k2)
    (by
      rintro f T ⟨g1, g2, g3⟩
      rw [List.take_of_length_le (Nat.le_refl _)] at g2
      have : ¬ ((ws.length : Int) < (ws.length : Int)) := by omega
      simp [disk_Flush_l0, exM, orc, orcD, evF, evC, evOps, evOper, evAny, evOp, evCall, putR, putA, Fr.ev, Fr.of, Fr.get, Fr.set, stable, junkA, junkL, resultsA, resA, same, Fr.get_set, g1.s0, g1.s21, g1.s22, g1.s23, binA, intBin, Post_some]
      exact ⟨g2, g3⟩)
    (f := f) (S := S) ⟨hf, by simpa [flushS] using h, Keeps.refl S _⟩
  rw [show disk_Flush_s1 = .block 0 (.loop disk_Flush_l0) from rfl, h1]
  exact Post.of rfl ⟨rfl, h2⟩

theorem flush_off (h : DiskI S p ro cw fw on ws lets true) : xFlush [.ptr p 0 0] S = some (.int .i64 8, S) := by
  simp [xFlush, disk_Flush, exM, orc, orcD, evF, evC, evOps, evOper, evAny, evOp, evCall, putR, putA, Fr.ev, Fr.of, Fr.get, Fr.set, stable, junkA, junkL, resultsA, resA, same, eq2, faddrA, loadA, h.hp, partA]

theorem flush_fuse (h : DiskI S p ro cw fw on ws 0 false) : xFlush [.ptr p 0 0] S = some (.int .i64 8, S.set p (.live 0 [.sl ro 0 0 on.length 1, cw, .int .i64 0, .bool true])) := by
  have hs := spend_ok h (by omega)
  simp [letsN, offN] at hs
  simp [xFlush, disk_Flush, exM, orc, orcD, evF, evC, evOps, evOper, evAny, evOp, evCall, putR, putA, Fr.ev, Fr.of, Fr.get, Fr.set, stable, junkA, junkL, resultsA, resA, same, eq2, faddrA, loadA, h.hp, partA, unA, hs]

theorem flush_ok (h : DiskI S p ro cw fw on ws lets false) {n : Nat} (hn : on.length = n * 256) (hnb : n ≤ 512) (hw : WsOk n ws) (hb : ws.length ≤ 900) (hl0 : lets ≠ 0) (hlm : lets ≤ 9223372036854775807) :
    ∃ S', xFlush [.ptr p 0 0] S = some (.int .i64 0, S') ∧ DiskI S' p ro .nils [] (flushS on ws) [] (letsN lets) false ∧ Keeps S S' [p, ro] := by
  have hs := spend_ok h hlm
  have hof : offN lets false = false := by simp [offN, hl0]
  rw [hof] at hs
  have hdl : decide (lets ≠ 0) = true := by simp [hl0]
  rw [hdl] at hs
  have h1 := h.setp (letsN lets) false
  obtain ⟨S1, hS1⟩ : ∃ S1 : St, S.set p (.live 0 [.sl ro 0 0 on.length 1, cw, .int .i64 (letsN lets), .bool false]) = S1 := ⟨_, rfl⟩
  rw [hS1] at hs h1
  have hk1 : Keeps S S1 [p] := by rw [← hS1]; exact Keeps.set S p _
  suffices hsuf : Post (evC (orc [xSpend, xSector]) 1000 disk_Flush.body (Fr.of [.ptr p 0 0]) S) (fun e f S' => (e = .normal ∨ e = .ret) ∧ resultsA f S' disk_Flush.results = some (.int .i64 0) ∧
      DiskI S' p ro .nils [] (flushS on ws) [] (letsN lets) false ∧ Keeps S S' [p, ro]) by
    obtain ⟨e, f, S', g1, g2, g3, g4, g5⟩ := hsuf.ex
    exact ⟨S', evF_post rfl rfl (.of g1 ⟨g2, g3, rfl⟩), g4, g5⟩
  simp only [disk_Flush, disk_Flush_t2, Post_seq]
  simp [exM, orc, orcD, evF, evC, evOps, evOper, evAny, evOp, evCall, putR, putA, Fr.ev, Fr.of, Fr.get, Fr.set, stable, junkA, junkL, resultsA, resA, same, eq2, faddrA, loadA, h.hp, h1.hp, partA_none, unA, hs, h1.hw.len, Post_some]
  refine (flush_loop (O := orc [xSpend, xSector]) rfl hn hnb hw hb h1 ⟨rfl, rfl, rfl, rfl⟩).mono ?_
  rintro e f' S' ⟨rfl, g0, g1, g2⟩
  simp [exM, orc, orcD, evF, evC, evOps, evOper, evAny, evOp, evCall, putR, putA, Fr.ev, Fr.of, Fr.get, Fr.set, stable, junkA, junkL, resultsA, resA, same, Fr.get_set, g0, faddrA, storeA, cells?, g1.hp, Post_some, splice]
  have hnd := h.nd
  simp only [List.nodup_cons, List.mem_cons, not_or] at hnd
  have hlt := live_lt g1.hp
  refine ⟨⟨by simp [hlt], ?_, .inl ⟨rfl, rfl, rfl⟩, ?_⟩, ?_⟩
  · rw [List.getElem?_set, if_neg hnd.1.1]; exact g1.ho
  · simp; exact hnd.1.1
  · have hk2 := Keeps.set S' p (.live 0 [.sl ro 0 0 (flushS on ws).length 1, .nils, .int .i64 (letsN lets), .bool false])
    refine Keeps.trans (fp' := [p, ro]) ⟨hk1.1, fun r hr hn' => hk1.2 r hr (by simp at hn' ⊢; exact hn'.1)⟩ (Keeps.trans (fp' := [p]) ⟨g2.1, fun r hr hn' => g2.2 r hr (by simp at hn' ⊢; exact hn'.2)⟩ hk2 (by simp)) (by simp)
end Am.Disk
end

/- The disk over its heap: crashes. -/
section
namespace Am.Disk
open Am Go Am.Ir
set_option maxRecDepth 100000

variable {S : St} {p ro : Nat} {cw : AVal} {fw : List Nat} {on : List UInt8} {ws : List (Nat × List UInt8)} {lets : Int} {off : Bool}

/-- How many bytes of a write take hold. -/
def cutN (K : List Int) (i : Nat) : Nat := match K[i]? with
  | some x => (min (max x 0) 256).toNat
  | none => 0

theorem cutN_le (K : List Int) (i : Nat) : cutN K i ≤ 256 := by
  unfold cutN; split <;> omega

/-- An argument of numbers. -/
structure Ints (x : AVal) (K : List Int) : Prop where
  len : lenA .sl x = some (.int .i64 (K.length : Int))
  ix : ∀ (i : Nat) y, K[i]? = some y → iaddrSA 1 x (.int .i64 (i : Int)) = some (.fq [.int .i64 y])

def crashS (K : List Int) (on : List UInt8) (ws : List (Nat × List UInt8)) : List UInt8 := ws.zipIdx.foldl (fun on p => lay on p.1.1 (p.1.2.take (cutN K p.2))) on

theorem crashS_succ (K : List Int) (on : List UInt8) (ws : List (Nat × List UInt8)) {j : Nat} {w} (h : ws[j]? = some w) : crashS K on (ws.take (j + 1)) = lay (crashS K on (ws.take j)) w.1 (w.2.take (cutN K j)) := by
  have hl := (List.getElem?_eq_some_iff.1 h).1
  have hlen : (ws.take j).length = j := by simp; omega
  simp only [crashS, take_succ h, List.zipIdx_append, List.foldl_append, hlen, Nat.zero_add]
  rfl

theorem crashS_len {n : Nat} (K : List Int) (hn : on.length = n * 256) (hw : WsOk n ws) : ∀ j, (crashS K on (ws.take j)).length = on.length := by
  intro j
  induction j with
  | zero => simp [crashS]
  | succ j ih =>
    cases h : ws[j]? with
    | none =>
      have hl := List.getElem?_eq_none_iff.1 h
      rw [List.take_of_length_le (by omega)]
      rw [List.take_of_length_le hl] at ih; exact ih
    | some w =>
      rw [crashS_succ K on ws h]
      obtain ⟨h1, h2⟩ := hw w (List.mem_of_getElem? h)
      rw [lay_len _ _ _ (by rw [ih, hn]; simp; omega), ih]

/-- The frame's slots that the loop reads. -/
structure CrF (f : Fr) (p : Nat) (x cw : AVal) (len j : Nat) : Prop where
  s0 : f.get 0 = .ptr p 0 0
  s1 : f.get 1 = x
  s12 : f.get 12 = cw
  s13 : f.get 13 = .int .i64 (len : Int)
  s14 : f.get 14 = .int .i64 (j : Int)

theorem crash_round {O : Orc} {k : Nat} (hO : O.loc[0]? = some xSector) {f : Fr} {n : Nat} {x : AVal} {K : List Int} (hx : Ints x K) (h : DiskI S p ro cw fw on ws lets off) (hn : on.length = n * 256) (hnb : n ≤ 512) {j : Nat} {w : Nat × List UInt8} (hj : ws[j]? = some w) (hw : w.1 < n ∧ w.2.length = 256)
    (hb : ws.length ≤ 1000) (hf : CrF f p x cw ws.length j) :
    Post (evC O k disk_Crash_l0 f S) fun e f' S' => e = .normal ∧ CrF f' p x cw ws.length (j + 1) ∧ DiskI S' p ro cw fw (lay on w.1 (w.2.take (cutN K j))) ws lets off ∧ Keeps S S' [ro] := by
  obtain ⟨rw', vw, hq1, hq2, hq3⟩ := wait_ix h hj
  have hlt := (List.getElem?_eq_some_iff.1 hj).1
  have hjl : (j : Int) < (ws.length : Int) := by omega
  have hwj : IntKind.i64.wrap ((j : Int) + 1) = (j : Int) + 1 := wrap64 (by omega) (by omega)
  obtain ⟨at', b⟩ := w
  simp only at hw hq3
  have hc := cutN_le K j
  have hk1 : Keeps S (S ++ [ABlock.live 0 [.int .i64 (at' : Int), .fz false b.length (bcells b)]]) [] := Keeps.append S _
  have h1 := h.keep hk1 (by simp)
  have hsec := sector_ok h1 hn hnb hw.1
  have hcl : (b.take (cutN K j)).length = cutN K j := by simp; omega
  have hcp := copy_on h1 (i := at') (b := b.take (cutN K j)) (by omega) (by omega) false
  have h2 := h1.seto (lay_len on at' (b.take (cutN K j)) (by simp; omega))
  have hrol := live_lt h.ho
  rw [hcl] at hcp
  have fin : ∀ f' : Fr, f'.get 0 = .ptr p 0 0 → f'.get 1 = x → f'.get 12 = cw → f'.get 13 = .int .i64 (ws.length : Int) → f'.get 14 = .int .i64 ((j : Int) + 1) →
      CrF f' p x cw ws.length (j + 1) ∧ DiskI ((S ++ [ABlock.live 0 [.int .i64 (at' : Int), .fz false b.length (bcells b)]]).set ro (.live 0 (bcells (lay on at' (b.take (cutN K j)))))) p ro cw fw (lay on at' (b.take (cutN K j))) ws lets off ∧
      Keeps S ((S ++ [ABlock.live 0 [.int .i64 (at' : Int), .fz false b.length (bcells b)]]).set ro (.live 0 (bcells (lay on at' (b.take (cutN K j)))))) [ro] := by
    intro f' g0 g1 g2 g3 g4
    refine ⟨⟨g0, g1, g2, g3, by rw [g4]; simp⟩, h2, by simp, fun r hr hn' => ?_⟩
    simp at hn'
    rw [List.getElem?_set, if_neg (fun e => hn' e.symm), get_old hr]
  by_cases hjk : j < K.length
  · obtain ⟨y, hy⟩ : ∃ y, K[j]? = some y := ⟨_, List.getElem?_eq_getElem hjk⟩
    have hix := hx.ix j y hy
    have hjk' : (j : Int) < (K.length : Int) := by omega
    have hcy : cutN K j = (min (max y 0) 256).toNat := by simp [cutN, hy]
    have hsl : slcSA 1 (.fz false b.length (bcells b)) none (some (.int .i64 (min (max y 0) 256))) = some (.fz false (cutN K j) (bcells (b.take (cutN K j)))) := by
      have e1 : (0 : Int) ≤ min (max y 0) 256 ∧ min (max y 0) 256 ≤ (b.length : Int) := by omega
      simp [slcSA, bounds, e1, bcells_len, ← hcy, bcells_take]
    simp [disk_Crash_l0, exM, orc, orcD, evF, evC, evOps, evOper, evAny, evOp, evCall, putR, putA, Fr.ev, Fr.of, Fr.get, Fr.set, stable, junkA, junkL, resultsA, resA, same, Fr.get_set, hf.s0, hf.s1, hf.s12, hf.s13, hf.s14, binA, intBin, hjl, hq1, hq2, hq3, storeA, cells?, splice, faddrA, loadA, partA_none, hO, hsec, hx.len, hjk', hix, hsl, hcp, trL, sameRead, sameVal, beqV, beqL_refl, hwj, Post_some]
    exact fin _ (by simp [Fr.get_set, hf.s0]) (by simp [Fr.get_set, hf.s1]) (by simp [Fr.get_set, hf.s12]) (by simp [Fr.get_set, hf.s13]) (by simp [Fr.get_set])
  · have hjk' : ¬ (j : Int) < (K.length : Int) := by omega
    have hcy : cutN K j = 0 := by simp [cutN, List.getElem?_eq_none (Nat.le_of_not_lt hjk)]
    have hsl : slcSA 1 (.fz false b.length (bcells b)) none (some (.int .i64 0)) = some (.fz false (cutN K j) (bcells (b.take (cutN K j)))) := by
      simp [slcSA, bounds, bcells_len, hcy, bcells]
    simp [disk_Crash_l0, exM, orc, orcD, evF, evC, evOps, evOper, evAny, evOp, evCall, putR, putA, Fr.ev, Fr.of, Fr.get, Fr.set, stable, junkA, junkL, resultsA, resA, same, Fr.get_set, hf.s0, hf.s1, hf.s12, hf.s13, hf.s14, binA, intBin, hjl, hq1, hq2, hq3, storeA, cells?, splice, faddrA, loadA, partA_none, hO, hsec, hx.len, hjk', hsl, hcp, trL, sameRead, sameVal, beqV, beqL_refl, hwj, Post_some]
    exact fin _ (by simp [Fr.get_set, hf.s0]) (by simp [Fr.get_set, hf.s1]) (by simp [Fr.get_set, hf.s12]) (by simp [Fr.get_set, hf.s13]) (by simp [Fr.get_set])

theorem crash_loop {O : Orc} (hO : O.loc[0]? = some xSector) {n : Nat} {x : AVal} {K : List Int} (hx : Ints x K) (hn : on.length = n * 256) (hnb : n ≤ 512) (hw : WsOk n ws) (hb : ws.length ≤ 900) {f : Fr} (h : DiskI S p ro cw fw on ws lets off) (hf : CrF f p x cw ws.length 0) :
    Post (evC O 1000 disk_Crash_s1 f S) fun e f' S' => e = .normal ∧ f'.get 0 = .ptr p 0 0 ∧ DiskI S' p ro cw fw (crashS K on ws) ws lets off ∧ Keeps S S' [ro] := by
  have hlen := crashS_len (on := on) (ws := ws) K hn hw
  obtain ⟨f', S', h1, h2⟩ := loop_post (O := O) (k := 1000) (id := 0) (b := disk_Crash_l0) (I := fun j f T => CrF f p x cw ws.length j ∧ DiskI T p ro cw fw (crashS K on (ws.take j)) ws lets off ∧ Keeps S T [ro])
    (Q := fun f' S' => f'.get 0 = .ptr p 0 0 ∧ DiskI S' p ro cw fw (crashS K on ws) ws lets off ∧ Keeps S S' [ro]) ws.length (by omega)
    (by
      rintro j hj f T ⟨g1, g2, g3⟩
      obtain ⟨w, hwj⟩ : ∃ w, ws[j]? = some w := ⟨_, List.getElem?_eq_getElem hj⟩
      refine (crash_round hO hx g2 ((hlen j).trans hn) hnb hwj (hw w (List.mem_of_getElem? hwj)) (by omega) g1).mono ?_
      rintro e f' S' ⟨rfl, k1, k2, k3⟩
      refine ⟨rfl, k1, ?_, g3.trans k3 (fun r hr => .inl hr)⟩
      rw [crashS_succ K on ws hwj]; exact k2)
    (by
      rintro f T ⟨g1, g2, g3⟩
      rw [List.take_of_length_le (Nat.le_refl _)] at g2
      have : ¬ ((ws.length : Int) < (ws.length : Int)) := by omega
      simp [disk_Crash_l0, exM, orc, orcD, evF, evC, evOps, evOper, evAny, evOp, evCall, putR, putA, Fr.ev, Fr.of, Fr.get, Fr.set, stable, junkA, junkL, resultsA, resA, same, Fr.get_set, g1.s0, g1.s12, g1.s13, g1.s14, binA, intBin, Post_some]
      exact ⟨g2, g3⟩)
    (f := f) (S := S) ⟨hf, by simpa [crashS] using h, Keeps.refl S _⟩
  rw [show disk_Crash_s1 = .block 0 (.loop disk_Crash_l0) from rfl, h1]
  exact Post.of rfl ⟨rfl, h2⟩

theorem crash_ok (h : DiskI S p ro cw fw on ws lets off) {n : Nat} {x : AVal} {K : List Int} (hx : Ints x K) (hn : on.length = n * 256) (hnb : n ≤ 512) (hw : WsOk n ws) (hb : ws.length ≤ 900) :
    ∃ S', xCrash [.ptr p 0 0, x] S = some (.tup [], S') ∧ DiskI S' p ro .nils [] (crashS K on ws) [] (-1) false ∧ Keeps S S' [p, ro] := by
  suffices hsuf : Post (evC (orc [xSector]) 1000 disk_Crash.body (Fr.of [.ptr p 0 0, x]) S) (fun e f S' => (e = .normal ∨ e = .ret) ∧ resultsA f S' disk_Crash.results = some (.tup []) ∧
      DiskI S' p ro .nils [] (crashS K on ws) [] (-1) false ∧ Keeps S S' [p, ro]) by
    obtain ⟨e, f, S', g1, g2, g3, g4, g5⟩ := hsuf.ex
    exact ⟨S', evF_post rfl rfl (.of g1 ⟨g2, g3, rfl⟩), g4, g5⟩
  simp only [disk_Crash, disk_Crash_t2, Post_seq]
  simp [exM, orc, orcD, evF, evC, evOps, evOper, evAny, evOp, evCall, putR, putA, Fr.ev, Fr.of, Fr.get, Fr.set, stable, junkA, junkL, resultsA, resA, same, eq2, faddrA, loadA, h.hp, partA_none, h.hw.len, Post_some]
  refine (crash_loop (O := orc [xSector]) rfl hx hn hnb hw hb h ⟨rfl, rfl, rfl, rfl, rfl⟩).mono ?_
  rintro e f' S' ⟨rfl, g0, g1, g2⟩
  have hnd := h.nd
  simp only [List.nodup_cons, List.mem_cons, not_or] at hnd
  have hlt := live_lt g1.hp
  have hset : ∀ b : ABlock, (S'.set p b)[p]? = some b := fun b => by simp [hlt]
  clear hlt
  simp [exM, orc, orcD, evF, evC, evOps, evOper, evAny, evOp, evCall, putR, putA, Fr.ev, Fr.of, Fr.get, Fr.set, stable, junkA, junkL, resultsA, resA, same, Fr.get_set, g0, faddrA, storeA, cells?, g1.hp, Post_some, splice, hset]
  have hlt := live_lt g1.hp
  refine ⟨⟨by simp [hlt], ?_, .inl ⟨rfl, rfl, rfl⟩, ?_⟩, ?_⟩
  · rw [List.getElem?_set, if_neg hnd.1.1]; exact g1.ho
  · simp; exact hnd.1.1
  · have hk2 := Keeps.set S' p (.live 0 [.sl ro 0 0 (crashS K on ws).length 1, .nils, .int .i64 (-1), .bool false])
    exact Keeps.trans (fp' := [p]) ⟨g2.1, fun r hr hn' => g2.2 r hr (by simp at hn' ⊢; exact hn'.2)⟩ hk2 (by simp)
end Am.Disk
end

