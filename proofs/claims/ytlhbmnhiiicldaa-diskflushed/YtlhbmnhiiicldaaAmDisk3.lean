/- The disk over its heap. -/
import Derived.Test.YtlhbmnhiiicldaaAmDisk1
import Derived.Test.YtlhbmnhiiicldaaAmKeep
set_option linter.all false
namespace Am.Disk
open Am Go Am.Ir
set_option maxRecDepth 100000

/-- The cells of writes that wait. -/
def wcells (ws : List (Nat × List UInt8)) : List AVal := ws.flatMap fun w => [.int .i64 (w.1 : Int), .fz false w.2.length (bcells w.2)]

theorem wcells_len (ws : List (Nat × List UInt8)) : (wcells ws).length = ws.length * 2 := by
  induction ws with
  | nil => rfl
  | cons w ws ih =>
    have : wcells (w :: ws) = [.int .i64 (w.1 : Int), .fz false w.2.length (bcells w.2)] ++ wcells ws := rfl
    rw [this, List.length_append, ih]; simp; omega

theorem wcells_append (a b : List (Nat × List UInt8)) : wcells (a ++ b) = wcells a ++ wcells b := by simp [wcells]

theorem wcells_get (ws : List (Nat × List UInt8)) (j : Nat) (w : Nat × List UInt8) (h : ws[j]? = some w) : ((wcells ws).drop (j * 2)).take 2 = [.int .i64 (w.1 : Int), .fz false w.2.length (bcells w.2)] := by
  induction ws generalizing j with
  | nil => simp at h
  | cons x ws ih =>
    have hc : wcells (x :: ws) = [.int .i64 (x.1 : Int), .fz false x.2.length (bcells x.2)] ++ wcells ws := rfl
    cases j with
    | zero => simp at h; subst h; rw [hc]; rfl
    | succ j =>
      have h' : ws[j]? = some w := by simpa using h
      rw [hc, show (j + 1) * 2 = j * 2 + 2 from by omega]
      have := ih j h'
      simpa [List.drop_append] using this

theorem closed_wcells (n : Nat) (ws : List (Nat × List UInt8)) : closedL n (wcells ws) = true := by
  rw [closedL_iff]; intro c hc
  simp only [wcells, List.mem_flatMap, List.mem_cons, List.not_mem_nil, or_false] at hc
  obtain ⟨w, _, rfl | rfl⟩ := hc
  · rfl
  · simp only [closedV]; exact closed_bcells n _

/-- What waits. -/
def WI (S : St) (cw : AVal) (ws : List (Nat × List UInt8)) (fw : List Nat) : Prop :=
  (cw = .nils ∧ ws = [] ∧ fw = []) ∨ ∃ rw vw, cw = .sl rw vw 0 ws.length 2 ∧ S[rw]? = some (.live vw (wcells ws)) ∧ fw = [rw]

/-- A disk. -/
structure DiskI (S : St) (p ro : Nat) (cw : AVal) (fw : List Nat) (on : List UInt8) (ws : List (Nat × List UInt8)) (lets : Int) (off : Bool) : Prop where
  hp : S[p]? = some (.live 0 [.sl ro 0 0 on.length 1, cw, .int .i64 lets, .bool off])
  ho : S[ro]? = some (.live 0 (bcells on))
  hw : WI S cw ws fw
  nd : (p :: ro :: fw).Nodup

theorem WI.keep {S S' : St} {cw ws fw K} (h : WI S cw ws fw) (hk : Keeps S S' K) (hn : ∀ r ∈ fw, r ∉ K) : WI S' cw ws fw := by
  rcases h with h | ⟨rw', vw, h1, h2, h3⟩
  · exact .inl h
  · exact .inr ⟨rw', vw, h1, hk.get h2 (hn _ (by simp [h3])), h3⟩

theorem DiskI.keep {S S' : St} {p ro cw fw on ws lets off K} (h : DiskI S p ro cw fw on ws lets off) (hk : Keeps S S' K) (hn : ∀ r ∈ p :: ro :: fw, r ∉ K) : DiskI S' p ro cw fw on ws lets off :=
  ⟨hk.get h.hp (hn _ (by simp)), hk.get h.ho (hn _ (by simp)), h.hw.keep hk (fun r hr => hn r (by simp [hr])), h.nd⟩

theorem WI.len {S : St} {cw ws fw} (h : WI S cw ws fw) : lenA .sl cw = some (.int .i64 (ws.length : Int)) := by
  rcases h with ⟨rfl, rfl, _⟩ | ⟨rw', vw, rfl, _⟩ <;> rfl

theorem WI.lt {S : St} {cw ws fw} (h : WI S cw ws fw) : ∀ r ∈ fw, r < S.length := by
  rcases h with ⟨_, _, rfl⟩ | ⟨rw', vw, _, h2, rfl⟩
  · simp
  · simp; exact live_lt h2

theorem DiskI.lt {S : St} {p ro cw fw on ws lets off} (h : DiskI S p ro cw fw on ws lets off) : ∀ r ∈ p :: ro :: fw, r < S.length := by
  intro r hr
  simp only [List.mem_cons] at hr
  rcases hr with rfl | rfl | hr
  · exact live_lt h.hp
  · exact live_lt h.ho
  · exact h.hw.lt r hr

variable {S : St} {p ro : Nat} {cw : AVal} {fw : List Nat} {on : List UInt8} {ws : List (Nat × List UInt8)} {lets : Int} {off : Bool}

theorem bcells_rep (n : Nat) : (List.replicate n [AVal.int IntKind.u8 0]).flatten = bcells (List.replicate n 0) := by
  induction n with
  | zero => rfl
  | succ n ih => simp only [List.replicate_succ, List.flatten_cons, ih]; rfl

theorem new_ok (n : Nat) (h1 : 16 ≤ n) (h2 : n ≤ 512) (S : St) :
    xNew [.int .i64 n] S = some (.tup [.ptr (S.length + 1) 0 0, .int .i64 0], S ++ [.live 0 (bcells (List.replicate (n * 256) 0)), .live 0 [.sl S.length 0 0 (n * 256) 1, .nils, .int .i64 (-1), .bool false]]) := by
  have a1 : ¬ (n : Int) < 16 := by omega
  have a2 : ¬ (512 : Int) < n := by omega
  have a3 : IntKind.i64.wrap ((n : Int) * 256) = (n : Int) * 256 := wrap64 (by omega) (by omega)
  have a4 : (0 : Int) ≤ (n : Int) * 256 ∧ (n : Int) * 256 ≤ 281474976710656 ∧ (n : Int) * 256 ≤ 9223372036854775807 := by omega
  have a5 : ((n : Int) * 256).toNat = n * 256 := by omega
  have a6 : List.replicate (n * 256) (AVal.int IntKind.u8 0) = bcells (List.replicate (n * 256) 0) := by simp [bcells]
  simp [xNew, disk_New, exM, orc, orcD, evF, evC, evOps, evOper, evAny, evOp, evCall, putR, putA, Fr.ev, Fr.of, Fr.get, Fr.set, stable, junkA, junkL, resultsA, resA, same, binA, intBin, a1, a2, a3, a4, a5, a6, mkA, fillA, cells?, splice]

/-- So many noughts. -/
def zeros (n : Nat) : List UInt8 := List.replicate n 0
theorem zeros_len (n : Nat) : (zeros n).length = n := List.length_replicate

theorem new_ok' (n : Nat) (h1 : 16 ≤ n) (h2 : n ≤ 512) (S : St) :
    ∃ S', xNew [.int .i64 n] S = some (.tup [.ptr (S.length + 1) 0 0, .int .i64 0], S') ∧ S'.length = S.length + 2 ∧ Keeps S S' [] ∧ S'[S.length + 1]? = some (.live 0 [.sl S.length 0 0 (zeros (n * 256)).length 1, .nils, .int .i64 (-1), .bool false]) ∧
      S'[S.length]? = some (.live 0 (bcells (zeros (n * 256)))) := by
  refine ⟨_, new_ok n h1 h2 S, by simp, Keeps.append S _, ?_, ?_⟩
  · rw [zeros_len]; simp
  · simp [zeros]

theorem new_diskI (n : Nat) (S : St) : DiskI (S ++ [.live 0 (bcells (List.replicate (n * 256) 0)), .live 0 [.sl S.length 0 0 (n * 256) 1, .nils, .int .i64 (-1), .bool false]]) (S.length + 1) S.length .nils [] (List.replicate (n * 256) 0) [] (-1) false :=
  ⟨by simp, by simp, .inl ⟨rfl, rfl, rfl⟩, by simp⟩

theorem len_ok (h : DiskI S p ro cw fw on ws lets off) {n : Nat} (hn : on.length = n * 256) (hb : n ≤ 512) : xLen [.ptr p 0 0] S = some (.int .i64 n, S) := by
  have h2 : IntKind.i64.wrap ((on.length : Int) / 256) = n := by
    rw [hn, wrap64 (by omega) (by omega)]; omega
  simp [xLen, disk_Len, exM, orc, orcD, evF, evC, evOps, evOper, evAny, evOp, evCall, putR, putA, Fr.ev, Fr.of, Fr.get, Fr.set, stable, junkA, junkL, resultsA, resA, same, eq2, faddrA, loadA, h.hp, partA, lenA, binA, intBin, h2]

theorem waits_ok (h : DiskI S p ro cw fw on ws lets off) : xWaits [.ptr p 0 0] S = some (.int .i64 ws.length, S) := by
  simp [xWaits, disk_Waits, exM, orc, orcD, evF, evC, evOps, evOper, evAny, evOp, evCall, putR, putA, Fr.ev, Fr.of, Fr.get, Fr.set, stable, junkA, junkL, resultsA, resA, same, eq2, faddrA, loadA, h.hp, partA, h.hw.len]

theorem has_ok (h : DiskI S p ro cw fw on ws lets off) {n : Nat} (hn : on.length = n * 256) (hb : n ≤ 512) (i : Int) : xHas [.ptr p 0 0, .int .i64 i] S = some (.bool (decide (0 ≤ i ∧ i < n)), S) := by
  have hl := len_ok h hn hb
  by_cases h0 : 0 ≤ i
  · by_cases h1 : i < n <;> simp [xHas, disk_has, exM, orc, orcD, evF, evC, evOps, evOper, evAny, evOp, evCall, putR, putA, Fr.ev, Fr.of, Fr.get, Fr.set, stable, junkA, junkL, resultsA, resA, same, binA, intBin, hl, h0, h1]
  · simp [xHas, disk_has, exM, orc, orcD, evF, evC, evOps, evOper, evAny, evOp, evCall, putR, putA, Fr.ev, Fr.of, Fr.get, Fr.set, stable, junkA, junkL, resultsA, resA, same, binA, intBin, hl, h0]

theorem sector_ok (h : DiskI S p ro cw fw on ws lets off) {n : Nat} (hn : on.length = n * 256) (hb : n ≤ 512) {i : Nat} (hi : i < n) : xSector [.ptr p 0 0, .int .i64 i] S = some (.sl ro 0 (i * 256) 256 1, S) := by
  have a3 : IntKind.i64.wrap ((i : Int) * 256) = (i : Int) * 256 := wrap64 (by omega) (by omega)
  have a4 : IntKind.i64.wrap ((i : Int) + 1) = (i : Int) + 1 := wrap64 (by omega) (by omega)
  have a5 : IntKind.i64.wrap (((i : Int) + 1) * 256) = ((i : Int) + 1) * 256 := wrap64 (by omega) (by omega)
  have a6 : (0 : Int) ≤ (i : Int) * 256 ∧ (i : Int) * 256 ≤ ((i : Int) + 1) * 256 ∧ ((i : Int) + 1) * 256 ≤ (on.length : Int) := by omega
  have a7 : (((i : Int) + 1) * 256).toNat - ((i : Int) * 256).toNat = 256 := by omega
  have a8 : ((i : Int) * 256).toNat = i * 256 := by omega
  have a9 : (((i : Int) + 1) * 256).toNat = (i + 1) * 256 := by omega
  have b1 : (i : Int) ≤ (i : Int) + 1 := by omega
  have b2 : (i + 1) * 256 - i * 256 = 256 := by omega
  simp [xSector, disk_sector, exM, orc, orcD, evF, evC, evOps, evOper, evAny, evOp, evCall, putR, putA, Fr.ev, Fr.of, Fr.get, Fr.set, stable, junkA, junkL, resultsA, resA, same, binA, intBin, a3, a4, a5, faddrA, loadA, h.hp, partA, slcSA, bounds, a6, a7, a8, a9, b1, b2]

/-- 'bytes.Clone', whose result nobody writes. -/
noncomputable def mClone : Model := tellM 2 xClone

theorem clone_nil (S : St) : xClone [.nils] S = some (.nils, S) := by
  simp [xClone, bytes_Clone, exM, orc, orcD, evF, evC, evOps, evOper, evAny, evOp, evCall, putR, putA, Fr.ev, Fr.of, Fr.get, Fr.set, stable, junkA, junkL, resultsA, resA, same, eq2]

theorem clone_ok {x : AVal} {u : List UInt8} (hx : isSl x = true) (hu : cellsOf 1 x S = some (u.length, bcells u)) (hl : u.length ≤ 140737488355328) :
    xClone [x] S = some (.sl S.length 1 0 u.length 1, S ++ [.live 1 (bcells u)]) := by
  have hu' : cellsOf 1 x (S ++ [.live 0 []]) = some (u.length, bcells u) := by
    cases x <;> simp [isSl] at hx
    · rename_i r v off len sz
      simp only [cellsOf] at hu ⊢
      split at hu
      · rename_i v' cs hS
        rw [get_old (live_lt hS), hS]; exact hu
      · simp at hu
    · exact hu
  by_cases h0 : u = []
  · subst h0
    simp [xClone, bytes_Clone, exM, orc, orcD, evF, evC, evOps, evOper, evAny, evOp, evCall, putR, putA, Fr.ev, Fr.of, Fr.get, Fr.set, stable, junkA, junkL, resultsA, resA, same, eq2_sl hx, fillA, appendA, hu']
  · simp [xClone, bytes_Clone, exM, orc, orcD, evF, evC, evOps, evOper, evAny, evOp, evCall, putR, putA, Fr.ev, Fr.of, Fr.get, Fr.set, stable, junkA, junkL, resultsA, resA, same, eq2_sl hx, fillA, appendA, hu', hl]

theorem mClone_ok {x : AVal} {u : List UInt8} (hx : isSl x = true) (hu : cellsOf 1 x S = some (u.length, bcells u)) (hl : u.length ≤ 140737488355328) :
    mClone [x] S = some (.fz false u.length (bcells u), S) := by
  refine tellM_new (clone_ok hx hu hl) ?_
  refine deep_sl (cells := bcells u) (Nat.le_refl _) (by simp) (by simp [bcells_len]) ?_
  rw [List.drop_zero, Nat.mul_one, List.take_of_length_le (by simp [bcells_len])]
  exact deep_bcells u

end Am.Disk
