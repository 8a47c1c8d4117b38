/- The fuse. -/
import Derived.Test.YtlhbmnhiiicldaaAmDisk9
set_option linter.all false
namespace Am.Disk
open Am Go Am.Ir
set_option maxRecDepth 100000

variable {S : St} {p ro : Nat} {cw : AVal} {fw : List Nat} {on : List UInt8} {ws : List (Nat × List UInt8)} {lets : Int} {off : Bool}

/-- 256 noughts. -/
def zero256 : List UInt8 := List.replicate 256 0
theorem zero256_len : zero256.length = 256 := List.length_replicate

theorem mk256 (S : St) : mkA 1 1 [.int .u8 0] (.int .i64 256) (.int .i64 256) S = some (.sl S.length 0 0 256 1, S ++ [.live 0 (bcells zero256)]) := by
  have h := bcells_rep 256
  simp only [mkA, List.length_singleton]
  rw [if_pos (by decide)]
  rw [show (256 : Int).toNat = 256 from rfl, h]; rfl

/-- Where the writes stand. -/
structure FuI (S : St) (p ro : Nat) (on : List UInt8) (L j : Nat) : Prop where
  ex : ∃ cw fw ws, DiskI S p ro cw fw on ws ((L - j : Nat) : Int) (decide (L < j)) ∧ ws.length = min j L ∧ WsOk 512 ws

theorem fuse_step {L j : Nat} (hon : on.length = 512 * 256) (hL : L ≤ 9223372036854775807) (hj : j < 31) (h : FuI S p ro on L j) :
    ∃ S', yWrite [.ptr p 0 0, .int .i64 (j : Int), .sl S.length 0 0 256 1] (S ++ [.live 0 (bcells zero256)]) = some (.int .i64 (if j < L then 0 else 8), S') ∧ FuI S' p ro on L (j + 1) := by
  obtain ⟨cw, fw, ws, h1, h2, h3⟩ := h.ex
  generalize hS1 : S ++ [.live 0 (bcells zero256)] = S1
  have hk : Keeps S S1 [] := by rw [← hS1]; exact Keeps.append S _
  have g1 := h1.keep hk (by simp)
  have hlt := h1.lt
  have hx : S1[S.length]? = some (.live 0 (bcells zero256)) := by rw [← hS1]; exact app_get _ _
  by_cases c1 : L < j
  · rw [show decide (L < j) = true from decide_eq_true c1] at g1
    refine ⟨S1, by rw [write_off g1, if_neg (by omega)], ⟨cw, fw, ws, ?_, by omega, h3⟩⟩
    rw [show decide (L < j + 1) = true from decide_eq_true (by omega), show L - (j + 1) = L - j by omega]; exact g1
  · rw [show decide (L < j) = false from decide_eq_false c1] at g1
    by_cases c2 : j = L
    · have h0 : ((L - j : Nat) : Int) = 0 := by omega
      rw [h0] at g1
      refine ⟨_, by rw [write_fuse g1 hon (by omega) j (by omega) _ rfl, if_neg (by omega)], ⟨cw, fw, ws, ?_, by omega, h3⟩⟩
      have := g1.setp 0 true
      rw [show decide (L < j + 1) = true from decide_eq_true (by omega), show L - (j + 1) = 0 by omega]; exact this
    · have hu : ∀ S' : St, (∀ r, r ≠ p → S'[r]? = S1[r]?) → cellsOf 1 (.sl S.length 0 0 256 1) S' = some (zero256.length, bcells zero256) := by
        intro S' hS'
        have hp := hlt p (by simp)
        have := hS' S.length (by omega)
        rw [hx] at this
        have hl : (bcells zero256).length = 256 := by rw [bcells_len, zero256_len]
        simp only [cellsOf, this]
        rw [if_pos (by rw [hl]; decide), zero256_len, List.drop_zero, List.take_of_length_le (by rw [hl]; exact Nat.le_refl _)]
      obtain ⟨S', cw', fw', k1, k2, k3, k4⟩ := write_ok g1 hon (by omega) j (by omega) (x := .sl S.length 0 0 256 1) (u := zero256) rfl hu rfl zero256_len (by omega) (by omega) (by omega)
      refine ⟨S', by rw [k1, if_pos (by omega)], ⟨cw', fw', ws ++ [(j, zero256)], ?_, by simp; omega, ?_⟩⟩
      · have e1 : letsN ((L - j : Nat) : Int) = ((L - (j + 1) : Nat) : Int) := by unfold letsN; rw [if_pos (by omega)]; omega
        rw [e1] at k2
        rw [show decide (L < j + 1) = false from decide_eq_false (by omega)]; exact k2
      · intro w hw
        rcases List.mem_append.1 hw with hw | hw
        · exact h3 w hw
        · simp at hw; subst hw; exact ⟨by omega, zero256_len⟩

noncomputable def oFuse : Orc := orc [xNew, xFuse, yWrite, mRead, xWaits, xCrash, mAlive, yDump]

structure FuF (f : Fr) (p L k j : Nat) (fv : Int) : Prop where
  s0 : f.get 0 = .int .i64 fv
  s5 : f.get 5 = .ptr p 0 0
  s7 : f.get 7 = .int .i64 (k : Int)
  s8 : f.get 8 = .int .i64 ((min j L : Nat) : Int)
  s9 : f.get 9 = .int .i64 (j : Int)

theorem fuse_loop {L k : Nat} {fv : Int} (hon : on.length = 512 * 256) (hL : L ≤ 9223372036854775807) (hk : k ≤ 31) {f : Fr} (h : FuI S p ro on L 0) (hf : FuF f p L k 0 fv) :
    Post (evC oFuse 1000 DiskFuse_s1 f S) fun e f' S' => e = .normal ∧ FuF f' p L k k fv ∧ FuI S' p ro on L k := by
  obtain ⟨f', S', h1, h2⟩ := loop_post (O := oFuse) (k := 1000) (id := 0) (b := DiskFuse_l0) (I := fun j f T => FuF f p L k j fv ∧ FuI T p ro on L j) (Q := fun f' S' => FuF f' p L k k fv ∧ FuI S' p ro on L k) k (by omega)
    (by
      rintro j hj f T ⟨g1, g2⟩
      obtain ⟨S', k1, k2⟩ := fuse_step hon hL (by omega) g2
      have hlss : binA .lss (.int .i64 (j : Int)) (.int .i64 (k : Int)) = some (.bool true) := by simp [binA, intBin]; omega
      have hadd : binA .add (.int .i64 (j : Int)) (.int .i64 1) = some (.int .i64 ((j : Int) + 1)) := by
        simp only [binA, intBin]; rw [if_neg (by simp), if_pos trivial, wrap64 (by omega) (by omega)]
      have hmk := mk256 T
      by_cases c : j < L
      · rw [if_pos c] at k1
        have hm : min j L = j := by omega
        have h8 := g1.s8; rw [hm] at h8
        have heq : binA .eql (.int .i64 0) (.int .i64 0) = some (.bool true) := rfl
        simp [DiskFuse_l0, exM, orc, orcD, evF, evC, evOps, evOper, evAny, evOp, evCall, putR, putA, Fr.ev, Fr.of, Fr.get, Fr.set, stable, junkA, junkL, resultsA, resA, same, Fr.get_set, g1.s5, g1.s7, h8, g1.s9, hlss, hadd, hmk, oFuse, k1, heq, Post_some]
        refine ⟨⟨?_, ?_, ?_, ?_, ?_⟩, k2⟩
        · simp [Fr.get_set, g1.s0]
        · simp [Fr.get_set, g1.s5]
        · simp [Fr.get_set, g1.s7]
        · simp [Fr.get_set]; omega
        · simp [Fr.get_set]
      · rw [if_neg c] at k1
        have hm : min (j + 1) L = min j L := by omega
        have heq : binA .eql (.int .i64 8) (.int .i64 0) = some (.bool false) := rfl
        simp [DiskFuse_l0, exM, orc, orcD, evF, evC, evOps, evOper, evAny, evOp, evCall, putR, putA, Fr.ev, Fr.of, Fr.get, Fr.set, stable, junkA, junkL, resultsA, resA, same, Fr.get_set, g1.s5, g1.s7, g1.s9, hlss, hadd, hmk, oFuse, k1, heq, Post_some]
        refine ⟨⟨?_, ?_, ?_, ?_, ?_⟩, k2⟩
        · simp [Fr.get_set, g1.s0]
        · simp [Fr.get_set, g1.s5]
        · simp [Fr.get_set, g1.s7]
        · simp [Fr.get_set, g1.s8]; omega
        · simp [Fr.get_set])
    (by
      rintro f T ⟨g1, g2⟩
      have hlss : binA .lss (.int .i64 (k : Int)) (.int .i64 (k : Int)) = some (.bool false) := by simp [binA, intBin]
      simp [DiskFuse_l0, exM, orc, orcD, evF, evC, evOps, evOper, evAny, evOp, evCall, putR, putA, Fr.ev, Fr.of, Fr.get, Fr.set, stable, junkA, junkL, resultsA, resA, same, Fr.get_set, g1.s7, g1.s9, hlss, Post_some]
      refine ⟨⟨?_, ?_, ?_, ?_, ?_⟩, g2⟩ <;> simp [Fr.get_set, g1.s0, g1.s5, g1.s7, g1.s8, g1.s9])
    (f := f) (S := S) ⟨hf, h⟩
  rw [show DiskFuse_s1 = .block 0 (.loop DiskFuse_l0) from rfl, h1]
  exact Post.of rfl ⟨rfl, h2⟩

theorem ints_nil : Ints .nils [] := ⟨rfl, fun i y h => by simp at h⟩

set_option maxHeartbeats 800000 in
theorem diskFuse (fv n : Int) (hf : fv ≤ 9223372036854775807) : ∃ T, evF oFuse 1000 DiskFuse [.int .i64 fv, .int .i64 n] [] = some (.bool true, T) := by
  obtain ⟨L, hLd⟩ : ∃ L : Nat, (max fv 0).toNat = L := ⟨_, rfl⟩
  have hL : max fv 0 = (L : Int) := by omega
  have hLm : L ≤ 9223372036854775807 := by omega
  obtain ⟨k, hk1, hk2⟩ := and_low n 31 (by omega)
  obtain ⟨S1, n1, n2, n3, n4, n5⟩ := new_ok' 512 (by omega) (by omega) []
  obtain ⟨on, hon0⟩ : ∃ on, zeros (512 * 256) = on := ⟨_, rfl⟩
  have hon : on.length = 512 * 256 := by rw [← hon0]; exact zeros_len _
  rw [hon0] at n4 n5
  clear hon0
  rw [show ((512 : Nat) : Int) = 512 from rfl] at n1
  rw [show ((31 : Nat) : Int) = 31 from rfl] at hk1
  simp only [List.length_nil, Nat.zero_add] at n1 n2 n4 n5
  have hD : DiskI S1 1 0 .nils [] on [] (-1) false := ⟨n4, n5, .inl ⟨rfl, rfl, rfl⟩, by simp⟩
  have hfu := fuse_ok hD fv
  have hD1 := hD.setp (max fv 0) false
  obtain ⟨S2, hS2⟩ : ∃ S2 : St, S1.set 1 (.live 0 [.sl 0 0 0 on.length 1, .nils, .int .i64 (max fv 0), .bool false]) = S2 := ⟨_, rfl⟩
  rw [hS2] at hfu hD1
  have hI : FuI S2 1 0 on L 0 := ⟨.nils, [], [], by rw [hL] at hD1; rw [show decide (L < 0) = false from decide_eq_false (by omega), show L - 0 = L from rfl]; exact hD1, (Nat.zero_min L).symm, fun w hw => by simp at hw⟩
  refine (evF_postX (O := oFuse) (k := 1000) (F := DiskFuse) (v := .bool true) (R := fun _ => True) rfl rfl ?_).imp fun _ h => h.1
  have hloc : oFuse.loc = [xNew, xFuse, yWrite, mRead, xWaits, xCrash, mAlive, yDump] := rfl
  simp only [DiskFuse, DiskFuse_t2, Post_seq]
  simp [exM, orc, orcD, evF, evC, evOps, evOper, evAny, evOp, evCall, putR, putA, Fr.ev, Fr.of, Fr.get, Fr.set, stable, junkA, junkL, resultsA, resA, same, hloc, n1, hfu, eq2, hk1, Post_some, show binA .neq (.int .i64 0) (.int .i64 0) = some (.bool false) from rfl]
  refine (fuse_loop (L := L) (k := k) (fv := fv) hon hLm hk2 hI ⟨rfl, rfl, rfl, by simp [Fr.get], rfl⟩).mono ?_
  rintro e f' T ⟨rfl, hF, hT⟩
  obtain ⟨cw, fw, ws, h1, h2, h3⟩ := hT.ex
  have hwt := waits_ok h1
  rw [h2] at hwt
  have hmn : min (k : Int) (max fv 0) = ((min k L : Nat) : Int) := by omega
  obtain ⟨T2, c1, c2, c3⟩ := crash_ok h1 ints_nil hon (by omega) h3 (by omega)
  have hlen : (crashS [] on ws).length = 512 * 256 := by
    have := crashS_len [] hon h3 ws.length
    rw [List.take_of_length_le (Nat.le_refl _)] at this; omega
  obtain ⟨r1, r2⟩ := read_ok c2 hlen (by omega) (fun w hw => by simp at hw) (by simp) (i := 0) (by omega)
  have hw2 := waits_ok c2
  have hd2 := dump_ok c2 (by omega)
  rw [show ((0 : Nat) : Int) = 0 from rfl] at r1
  simp only [List.length_nil, hlen] at hw2 hd2
  rw [show ((0 : Nat) : Int) = 0 from rfl] at hw2
  have hne : ∀ x : Int, binA .neq (.int .i64 x) (.int .i64 x) = some (.bool false) := fun x => by simp [binA, intBin]
  have hgt : binA .gtr (.int .i64 (k : Int)) (.int .i64 (L : Int)) = some (.bool (decide (L < k))) := by simp [binA, intBin]
  have hrd : ∃ x g, mRead [.ptr 1 0 0, .int .i64 0] T = some (.tup [x, .int .i64 g], T) ∧ binA .eql (.int .i64 g) (.int .i64 8) = some (.bool (decide (L < k))) := by
    by_cases c : L < k
    · rw [show decide (L < k) = true from decide_eq_true c] at h1 ⊢
      exact ⟨_, _, read_off h1 0, rfl⟩
    · rw [show decide (L < k) = false from decide_eq_false c] at h1 ⊢
      obtain ⟨q1, q2⟩ := read_ok h1 hon (by omega) h3 (by omega) (i := 0) (by omega)
      exact ⟨_, _, q1, rfl⟩
  obtain ⟨x, g, hr, hg⟩ := hrd
  rw [hL] at hmn
  simp [exM, orc, orcD, evF, evC, evOps, evOper, evAny, evOp, evCall, putR, putA, Fr.ev, Fr.of, Fr.get, Fr.set, stable, junkA, junkL, resultsA, resA, same, hloc, Fr.get_set, hF.s0, hF.s5, hF.s7, hF.s8, hr, hL, hmn, hne, hwt, hg, hgt, eq2, c1, r1, hw2, hd2, mAlive_eq, lenA, Post_some, show binA .eql (.int .i64 0) (.int .i64 0) = some (.bool true) from rfl,
    show binA .eql (.int .i64 256) (.int .i64 256) = some (.bool true) from rfl, show binA .eql (.int .i64 131072) (.int .i64 131072) = some (.bool true) from rfl]
end Am.Disk
