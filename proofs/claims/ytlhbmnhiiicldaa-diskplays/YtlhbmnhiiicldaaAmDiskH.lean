import Derived.Test.YtlhbmnhiiicldaaAmDisk7
import Derived.Test.YtlhbmnhiiicldaaAmDiskS
set_option linter.all false
/- What was flushed stays: the loop. -/
section
namespace Am.Disk
open Am Go Am.Ir
set_option maxRecDepth 100000

variable {S : St} {p ro : Nat}

theorem FlI.keep {S' : St} {at' m : Nat} {b : List UInt8} (h : FlI S p ro at' b m) (E : St) : FlI (S ++ E) p ro at' b m := by
  obtain ⟨cw, fw, on, ws, h1, h2⟩ := h.ex
  exact ⟨cw, fw, on, ws, h1.keep (Keeps.append S E) (by simp), h2⟩

theorem FlI.more {at' m m' : Nat} {b : List UInt8} (h : FlI S p ro at' b m) (hm : m ≤ m') : FlI S p ro at' b m' := by
  obtain ⟨cw, fw, on, ws, h1, h2, h3, h4, h5, h6⟩ := h.ex
  exact ⟨cw, fw, on, ws, h1, h2, h3, h4, h5, by omega⟩

noncomputable def oFl : Orc := orc [xNew, mAlive, yWrite, xFlush, mSmall, mLsector, xCrash, mRead]

structure FgF (f : Fr) (p at' : Nat) (b : List UInt8) (fl : Bool) (x : AVal) (j : Nat) : Prop where
  s0 : f.get 0 = .int .i64 (at' : Int)
  s1 : f.get 1 = .fz fl 256 (bcells b)
  s2 : f.get 2 = x
  s7 : f.get 7 = .ptr p 0 0
  s9 : f.get 9 = .int .i64 0
  s10 : f.get 10 = .int .i64 0
  s11 : f.get 11 = .int .i64 (j : Int)

theorem kind_cases (k : Int) (h1 : ¬ k < 1) (h3 : ¬ 3 < k) : k = 1 ∨ k = 2 ∨ k = 3 := by omega

theorem flu_round {f : Fr} {at' j : Nat} {b : List UInt8} {fl : Bool} {x : AVal} {L : List ActV} (hx : ActsV x L) (hj : j < L.length) (hj2 : j < 40) (hat : at' < 16) (hbl : b.length = 256) (h : FlI S p ro at' b j) (hf : FgF f p at' b fl x j) :
    Post (evC oFl 1000 DiskFlushed_l0 f S) fun e f' S' => e = .normal ∧ FgF f' p at' b fl x (j + 1) ∧ FlI S' p ro at' b (j + 1) := by
  obtain ⟨a, ha⟩ : ∃ a, L[j]? = some a := ⟨_, List.getElem?_eq_getElem hj⟩
  have hix := hx.ix j a ha
  have hlss : binA .lss (.int .i64 (j : Int)) (.int .i64 (L.length : Int)) = some (.bool true) := by simp [binA, intBin]; omega
  have hlss2 : binA .lss (.int .i64 (j : Int)) (.int .i64 40) = some (.bool true) := by simp [binA, intBin]; omega
  have hadd : binA .add (.int .i64 (j : Int)) (.int .i64 1) = some (.int .i64 ((j : Int) + 1)) := by
    simp only [binA, intBin]; rw [if_neg (by simp), if_pos trivial, wrap64 (by omega) (by omega)]
  have hloc : oFl.loc = [xNew, mAlive, yWrite, xFlush, mSmall, mLsector, xCrash, mRead] := rfl
  obtain ⟨T, hT⟩ : ∃ T : St, S ++ [.live 0 a.cells] = T := ⟨_, rfl⟩
  have hI : FlI T p ro at' b j := by rw [← hT]; exact h.keep (S' := S) _
  have hbx : T[S.length]? = some (.live 0 a.cells) := by rw [← hT]; exact app_get _ _
  have hsm := small_ok a T
  have c0 : a.cells[0]? = some (.int .i64 a.kind) := rfl
  have c1 : a.cells[1]? = some (.int .i64 a.at') := rfl
  have c4 : a.cells[4]? = some a.k := rfl
  have hpa : partA (some 5) 0 a.cells = some (.agg a.cells) := rfl
  have hal : ∀ (T0 : St), S ++ [.live 0 [.int .i64 0, .int .i64 0, .nils, .bool false, .nils]] = T0 → storeA 5 (.ptr S.length 0 0) (.agg a.cells) T0 = some T := by
    rintro T0 rfl
    simp [storeA, cells?, ActV.cells, splice, ← hT]
  suffices hmid : Post (evC oFl 1000 DiskFlushed_l0 f S) (fun e f' S' => e = .normal ∧ f'.get 0 = f.get 0 ∧ f'.get 1 = f.get 1 ∧ f'.get 2 = f.get 2 ∧ f'.get 7 = f.get 7 ∧ f'.get 9 = f.get 9 ∧ f'.get 10 = f.get 10 ∧ f'.get 11 = .int .i64 ((j : Int) + 1) ∧ FlI S' p ro at' b (j + 1)) by
    refine hmid.mono ?_
    rintro e f' S' ⟨h1, g0, g1, g2, g7, g9, g10, g11, h2⟩
    exact ⟨h1, ⟨g0.trans hf.s0, g1.trans hf.s1, g2.trans hf.s2, g7.trans hf.s7, g9.trans hf.s9, g10.trans hf.s10, by rw [g11]; simp⟩, h2⟩
  have hal' := hal _ rfl
  by_cases k1 : smallS a = true
  · rw [k1] at hsm
    have hul : a.u.length ≤ 300 := by simp [smallS] at k1; exact k1.1
    by_cases k2 : a.at' = (at' : Int)
    · have heq : binA .eql (.int .i64 a.at') (.int .i64 (at' : Int)) = some (.bool true) := by simp [binA, intBin, k2]
      simp [DiskFlushed_l0, exM, orc, orcD, evF, evC, evOps, evOper, evAny, evOp, evCall, putR, putA, Fr.ev, Fr.of, Fr.get, Fr.set, stable, junkA, junkL, resultsA, resA, same, Fr.get_set, hf.s0, hf.s1, hf.s2, hf.s7, hf.s9, hf.s10, hf.s11, hlss, hlss2, hadd, hx.len, hix, loadA, hbx, hpa, partA_none, c0, c1, c4, hal', hloc, hsm, unA, faddrA, heq, Post_some]
      exact hI.more (by omega)
    · have heq : binA .eql (.int .i64 a.at') (.int .i64 (at' : Int)) = some (.bool false) := by simp [binA, intBin, k2]
      by_cases k3 : a.kind < 1
      · have hk3 : binA .lss (.int .i64 a.kind) (.int .i64 1) = some (.bool true) := by simp [binA, intBin, k3]
        simp [DiskFlushed_l0, exM, orc, orcD, evF, evC, evOps, evOper, evAny, evOp, evCall, putR, putA, Fr.ev, Fr.of, Fr.get, Fr.set, stable, junkA, junkL, resultsA, resA, same, Fr.get_set, hf.s0, hf.s1, hf.s2, hf.s7, hf.s9, hf.s10, hf.s11, hlss, hlss2, hadd, hx.len, hix, loadA, hbx, hpa, partA_none, c0, c1, c4, hal', hloc, hsm, unA, faddrA, heq, hk3, Post_some]
        exact hI.more (by omega)
      · have hk3 : binA .lss (.int .i64 a.kind) (.int .i64 1) = some (.bool false) := by simp [binA, intBin]; omega
        by_cases k4 : 3 < a.kind
        · have hk4 : binA .gtr (.int .i64 a.kind) (.int .i64 3) = some (.bool true) := by simp [binA, intBin, k4]
          simp [DiskFlushed_l0, exM, orc, orcD, evF, evC, evOps, evOper, evAny, evOp, evCall, putR, putA, Fr.ev, Fr.of, Fr.get, Fr.set, stable, junkA, junkL, resultsA, resA, same, Fr.get_set, hf.s0, hf.s1, hf.s2, hf.s7, hf.s9, hf.s10, hf.s11, hlss, hlss2, hadd, hx.len, hix, loadA, hbx, hpa, partA_none, c0, c1, c4, hal', hloc, hsm, unA, faddrA, heq, hk3, hk4, Post_some]
          exact hI.more (by omega)
        · have hk4 : binA .gtr (.int .i64 a.kind) (.int .i64 3) = some (.bool false) := by simp [binA, intBin]; omega
          have hneq : binA .neq (.int .i64 0) (.int .i64 0) = some (.bool false) := rfl
          have hneS : binA .neq (.str b) (.str b) = some (.bool false) := by simp [binA, strBin]
          have hby : ∀ S' fl', bytesA (.fz fl' 256 (bcells b)) S' = some b := by
            intro S' fl'
            have := fz_cells fl' b S'
            rw [hbl] at this
            simp only [bytesA, this, asBytes_bcells]
          have hnl : S.length < (S ++ [ABlock.live 0 a.cells]).length := by simp
          have he1 : ∀ n : Int, binA .eql (.int .i64 n) (.int .i64 n) = some (.bool true) := fun n => by simp [binA, intBin]
          have he12 : binA .eql (.int .i64 1) (.int .i64 2) = some (.bool false) := rfl
          have he13 : binA .eql (.int .i64 1) (.int .i64 3) = some (.bool false) := rfl
          have he21 : binA .eql (.int .i64 2) (.int .i64 1) = some (.bool false) := rfl
          have he23 : binA .eql (.int .i64 2) (.int .i64 3) = some (.bool false) := rfl
          have he31 : binA .eql (.int .i64 3) (.int .i64 1) = some (.bool false) := rfl
          have he32 : binA .eql (.int .i64 3) (.int .i64 2) = some (.bool false) := rfl
          rcases kind_cases a.kind k3 k4 with e | e | e
          · have hls := lsector_ok a hul T
            have hpl : (padS a.raw a.u).length ≤ 1000 := by
              unfold padS; split
              · omega
              · simp; omega
            obtain ⟨T', er, w1, w2, w3⟩ := fl_write h (by omega) a.at' k2 false (padS a.raw a.u) hpl [.live 0 a.cells]
            have hbx' : T'[S.length]? = some (.live 0 a.cells) := by rw [w3 _ (Nat.le_refl _) hnl]; exact app_get _ _
            have hrd := fl_read w2 (by omega) hat
            rw [hT] at w1
            have d0 : a.cells[0]? = some (.int .i64 1) := by rw [c0, e]
            rw [e] at hk3 hk4
            simp [DiskFlushed_l0, exM, orc, orcD, evF, evC, evOps, evOper, evAny, evOp, evCall, putR, putA, Fr.ev, Fr.of, Fr.get, Fr.set, stable, junkA, junkL, resultsA, resA, same, Fr.get_set, hf.s0, hf.s1, hf.s2, hf.s7, hf.s9, hf.s10, hf.s11, hlss, hlss2, hadd, hx.len, hix, loadA, hbx, hbx', hpa, partA_none, d0, c1, c4, hal', hloc, hsm, unA, faddrA, heq, hk3, hk4, he1, he12, he13, hls, w1, hrd, hby, hneq, hneS, trL, sameRead, sameVal, beqV, Post_some]
            exact w2
          · obtain ⟨T', w1, w2, w3⟩ := fl_flush h (by omega) [.live 0 a.cells]
            have hbx' : T'[S.length]? = some (.live 0 a.cells) := by rw [w3 _ (Nat.le_refl _) hnl]; exact app_get _ _
            have hrd := fl_read w2 (by omega) hat
            rw [hT] at w1
            have d0 : a.cells[0]? = some (.int .i64 2) := by rw [c0, e]
            rw [e] at hk3 hk4
            simp [DiskFlushed_l0, exM, orc, orcD, evF, evC, evOps, evOper, evAny, evOp, evCall, putR, putA, Fr.ev, Fr.of, Fr.get, Fr.set, stable, junkA, junkL, resultsA, resA, same, Fr.get_set, hf.s0, hf.s1, hf.s2, hf.s7, hf.s9, hf.s10, hf.s11, hlss, hlss2, hadd, hx.len, hix, loadA, hbx, hbx', hpa, partA_none, d0, c1, c4, hal', hloc, hsm, unA, faddrA, heq, hk3, hk4, he1, he21, he23, w1, hrd, hby, hneq, hneS, Post_some]
            exact w2.more (by omega)
          · obtain ⟨T', w1, w2, w3⟩ := fl_crash h (by omega) a.hk.ints [.live 0 a.cells]
            have hrd := fl_read w2 (by omega) hat
            rw [hT] at w1
            have d0 : a.cells[0]? = some (.int .i64 3) := by rw [c0, e]
            rw [e] at hk3 hk4
            simp [DiskFlushed_l0, exM, orc, orcD, evF, evC, evOps, evOper, evAny, evOp, evCall, putR, putA, Fr.ev, Fr.of, Fr.get, Fr.set, stable, junkA, junkL, resultsA, resA, same, Fr.get_set, hf.s0, hf.s1, hf.s2, hf.s7, hf.s9, hf.s10, hf.s11, hlss, hlss2, hadd, hx.len, hix, loadA, hbx, hpa, partA_none, d0, c1, c4, hal', hloc, hsm, unA, faddrA, heq, hk3, hk4, he1, he31, he32, w1, hrd, hby, hneq, hneS, Post_some]
            exact w2.more (by omega)
  · have k1' : smallS a = false := by simpa using k1
    rw [k1'] at hsm
    simp [DiskFlushed_l0, exM, orc, orcD, evF, evC, evOps, evOper, evAny, evOp, evCall, putR, putA, Fr.ev, Fr.of, Fr.get, Fr.set, stable, junkA, junkL, resultsA, resA, same, Fr.get_set, hf.s0, hf.s1, hf.s2, hf.s7, hf.s9, hf.s10, hf.s11, hlss, hlss2, hadd, hx.len, hix, loadA, hbx, hpa, partA_none, c0, c1, c4, hal', hloc, hsm, unA, faddrA, Post_some]
    exact hI.more (by omega)
end Am.Disk
end

/- What was flushed stays: all of it. The arguments of the disk's statements. -/
section
namespace Am.Disk
open Am Go Am.Ir
set_option maxRecDepth 100000

variable {S : St} {p ro : Nat}

theorem flu_loop {f : Fr} {at' : Nat} {b : List UInt8} {fl : Bool} {x : AVal} {L : List ActV} (hx : ActsV x L) (hat : at' < 16) (hbl : b.length = 256) (h : FlI S p ro at' b 0) (hf : FgF f p at' b fl x 0) :
    Post (evC oFl 1000 DiskFlushed_s1 f S) fun e f' S' => e = .normal ∧ f'.get 9 = .int .i64 0 ∧ f'.get 10 = .int .i64 0 := by
  obtain ⟨n, hn⟩ : ∃ n, min L.length 40 = n := ⟨_, rfl⟩
  obtain ⟨f', S', h1, h2⟩ := loop_post (O := oFl) (k := 1000) (id := 0) (b := DiskFlushed_l0) (I := fun j f T => FgF f p at' b fl x j ∧ FlI T p ro at' b j) (Q := fun f' S' => f'.get 9 = .int .i64 0 ∧ f'.get 10 = .int .i64 0) n (by omega)
    (by
      rintro j hj f T ⟨g1, g2⟩
      exact flu_round hx (by omega) (by omega) hat hbl g2 g1)
    (by
      rintro f T ⟨g1, g2⟩
      suffices hmid : Post (evC oFl 1000 DiskFlushed_l0 f T) (fun e f' T' => e = .exit 0 ∧ f'.get 9 = f.get 9 ∧ f'.get 10 = f.get 10) by
        refine hmid.mono ?_
        rintro e f' T' ⟨h1, h2, h3⟩
        exact ⟨h1, h2.trans g1.s9, h3.trans g1.s10⟩
      by_cases hl : L.length ≤ 40
      · have hlss : binA .lss (.int .i64 (n : Int)) (.int .i64 (L.length : Int)) = some (.bool false) := by simp [binA, intBin]; omega
        simp [DiskFlushed_l0, exM, orc, orcD, evF, evC, evOps, evOper, evAny, evOp, evCall, putR, putA, Fr.ev, Fr.of, Fr.get, Fr.set, stable, junkA, junkL, resultsA, resA, same, Fr.get_set, g1.s2, g1.s11, hx.len, hlss, Post_some]
      · have hlss : binA .lss (.int .i64 (n : Int)) (.int .i64 (L.length : Int)) = some (.bool true) := by simp [binA, intBin]; omega
        have hlss2 : binA .lss (.int .i64 (n : Int)) (.int .i64 40) = some (.bool false) := by simp [binA, intBin]; omega
        simp [DiskFlushed_l0, exM, orc, orcD, evF, evC, evOps, evOper, evAny, evOp, evCall, putR, putA, Fr.ev, Fr.of, Fr.get, Fr.set, stable, junkA, junkL, resultsA, resA, same, Fr.get_set, g1.s2, g1.s11, hx.len, hlss, hlss2, Post_some])
    (f := f) (S := S) ⟨hf, h⟩
  rw [show DiskFlushed_s1 = .block 0 (.loop DiskFlushed_l0) from rfl, h1]
  exact Post.of rfl ⟨rfl, h2⟩

theorem hloc : oFl.loc = [xNew, mAlive, yWrite, xFlush, mSmall, mLsector, xCrash, mRead] := rfl

/-- What the law's function comes to. -/
def FlOk (at' : Int) (b x : AVal) : Prop := Post (evC oFl 1000 DiskFlushed.body (Fr.of [.int .i64 at', b, x]) []) fun e f S' => (e = .normal ∨ e = .ret) ∧ resultsA f S' DiskFlushed.results = some (.bool true) ∧ True

theorem fl_len (at' : Int) (b x : AVal) (m : Nat) (hl : lenA .sl b = some (.int .i64 (m : Int))) (hm : m ≠ 256) {S1 : St} (n1 : xNew [.int .i64 16] [] = some (.tup [.ptr 1 0 0, .int .i64 0], S1)) : FlOk at' b x := by
  have hne0 : binA .neq (.int .i64 0) (.int .i64 0) = some (.bool false) := rfl
  have hne : binA .neq (.int .i64 (m : Int)) (.int .i64 256) = some (.bool true) := by simp [binA, intBin]; omega
  unfold FlOk
  simp only [DiskFlushed, DiskFlushed_t2, Post_seq]
  simp [exM, orc, orcD, evF, evC, evOps, evOper, evAny, evOp, evCall, putR, putA, Fr.ev, Fr.of, Fr.get, Fr.set, stable, junkA, junkL, resultsA, resA, same, hloc, n1, eq2, hne0, hl, hne, mAlive_eq, Post_some]

theorem fl_low (at' : Int) (b x : AVal) (hl : lenA .sl b = some (.int .i64 256)) (hm : at' < 0) {S1 : St} (n1 : xNew [.int .i64 16] [] = some (.tup [.ptr 1 0 0, .int .i64 0], S1)) : FlOk at' b x := by
  have hne0 : binA .neq (.int .i64 0) (.int .i64 0) = some (.bool false) := rfl
  have hne : binA .neq (.int .i64 256) (.int .i64 256) = some (.bool false) := rfl
  have h2 : binA .lss (.int .i64 at') (.int .i64 0) = some (.bool true) := by simp [binA, intBin, hm]
  unfold FlOk
  simp only [DiskFlushed, DiskFlushed_t2, Post_seq]
  simp [exM, orc, orcD, evF, evC, evOps, evOper, evAny, evOp, evCall, putR, putA, Fr.ev, Fr.of, Fr.get, Fr.set, stable, junkA, junkL, resultsA, resA, same, hloc, n1, eq2, hne0, hl, hne, h2, mAlive_eq, Post_some]

theorem fl_high (at' : Int) (b x : AVal) (hl : lenA .sl b = some (.int .i64 256)) (hm : 16 ≤ at') {S1 : St} (n1 : xNew [.int .i64 16] [] = some (.tup [.ptr 1 0 0, .int .i64 0], S1)) : FlOk at' b x := by
  have hne0 : binA .neq (.int .i64 0) (.int .i64 0) = some (.bool false) := rfl
  have hne : binA .neq (.int .i64 256) (.int .i64 256) = some (.bool false) := rfl
  have h2 : binA .lss (.int .i64 at') (.int .i64 0) = some (.bool false) := by simp [binA, intBin]; omega
  have h3 : binA .geq (.int .i64 at') (.int .i64 16) = some (.bool true) := by simp [binA, intBin]; omega
  unfold FlOk
  simp only [DiskFlushed, DiskFlushed_t2, Post_seq]
  simp [exM, orc, orcD, evF, evC, evOps, evOper, evAny, evOp, evCall, putR, putA, Fr.ev, Fr.of, Fr.get, Fr.set, stable, junkA, junkL, resultsA, resA, same, hloc, n1, eq2, hne0, hl, hne, h2, h3, mAlive_eq, Post_some]

theorem fl_mid (a : Nat) (x : AVal) (u : List UInt8) (L : List ActV) (hx : ActsV x L) (ha : a < 16) (c1 : u.length = 256) {S1 S2 S3 : St} (n1 : xNew [.int .i64 16] [] = some (.tup [.ptr 1 0 0, .int .i64 0], S1))
    (w1 : yWrite [.ptr 1 0 0, .int .i64 a, .fz false 256 (bcells u)] S1 = some (.int .i64 0, S2)) (w2 : xFlush [.ptr 1 0 0] S2 = some (.int .i64 0, S3)) (w3 : FlI S3 1 0 a u 0) : FlOk a (.fz false 256 (bcells u)) x := by
  have hne0 : binA .neq (.int .i64 0) (.int .i64 0) = some (.bool false) := rfl
  have heq0 : binA .eql (.int .i64 0) (.int .i64 0) = some (.bool true) := rfl
  have hl : lenA .sl (.fz false 256 (bcells u)) = some (.int .i64 256) := rfl
  have hne : binA .neq (.int .i64 256) (.int .i64 256) = some (.bool false) := rfl
  have h2 : binA .lss (.int .i64 (a : Int)) (.int .i64 0) = some (.bool false) := by simp [binA, intBin]
  have h3 : binA .geq (.int .i64 (a : Int)) (.int .i64 16) = some (.bool false) := by simp [binA, intBin]; omega
  unfold FlOk
  simp only [DiskFlushed, DiskFlushed_t2, Post_seq]
  simp [exM, orc, orcD, evF, evC, evOps, evOper, evAny, evOp, evCall, putR, putA, Fr.ev, Fr.of, Fr.get, Fr.set, stable, junkA, junkL, resultsA, resA, same, hloc, n1, eq2, hne0, hl, hne, h2, h3, w1, w2, Post_some]
  refine Post.mono (flu_loop hx ha c1 w3 (fl := false) ?_) ?_
  · constructor <;> simp [Fr.get]
  · intro e f' T hh
    obtain ⟨h1, g9, g10⟩ := hh
    rw [if_pos h1]
    simp [exM, orc, orcD, evF, evC, evOps, evOper, evAny, evOp, evCall, putR, putA, Fr.ev, Fr.of, Fr.get, Fr.set, stable, junkA, junkL, resultsA, resA, same, hloc, Fr.get_set, g9, g10, mAlive_eq, heq0, Post_some]

theorem diskFlushed (at' : Int) (b x : AVal) (u : List UInt8) (L : List ActV) (hb : ByteV b u) (hx : ActsV x L) : ∃ T, evF oFl 1000 DiskFlushed [.int .i64 at', b, x] [] = some (.bool true, T) := by
  obtain ⟨S1, n1, n2, n3, n4, n5⟩ := new_ok' 16 (by omega) (by omega) []
  obtain ⟨on, hon0⟩ : ∃ on, zeros (16 * 256) = on := ⟨_, rfl⟩
  have hon : on.length = 16 * 256 := by rw [← hon0]; exact zeros_len _
  rw [hon0] at n4 n5
  clear hon0
  rw [show ((16 : Nat) : Int) = 16 from rfl] at n1
  simp only [List.length_nil, Nat.zero_add] at n1 n2 n4 n5
  have hD : DiskI S1 1 0 .nils [] on [] (-1) false := ⟨n4, n5, .inl ⟨rfl, rfl, rfl⟩, by simp⟩
  have key : FlOk at' b x := by
    by_cases c1 : u.length = 256
    · have hl : lenA .sl b = some (.int .i64 256) := by rw [hb.len, c1]; rfl
      by_cases c2 : at' < 0
      · exact fl_low at' b x hl c2 n1
      · by_cases c3 : at' < 16
        · obtain ⟨a, rfl⟩ : ∃ a : Nat, at' = a := ⟨at'.toNat, by omega⟩
          have hbe : b = .fz false 256 (bcells u) := by
            rcases hb with ⟨_, rfl⟩ | rfl
            · simp at c1
            · rw [c1]
          subst hbe
          obtain ⟨S2, S3, w1, w2, w3⟩ := fl_start hD hon (at' := a) (by omega) false c1
          exact fl_mid a x u L hx (by omega) c1 n1 w1 w2 w3
        · exact fl_high at' b x hl (by omega) n1
    · exact fl_len at' b x u.length hb.len c1 n1
  exact (evF_postX (O := oFl) (k := 1000) (F := DiskFlushed) (v := .bool true) (R := fun _ => True) rfl rfl key).imp fun _ h => h.1

/-- The types of the arguments. -/
def actT : DT := .st (.fld (.int .i64) (.fld (.int .i64) (.fld (.sl (.int .u8)) (.fld .bool (.fld (.sl (.int .i64)) .done)))))

theorem byte_arg (x : Option (List Int)) (h : (DT.sl (.int .u8)).Wf x) : ∃ u, ByteV ((DT.sl (.int .u8)).one x) u := by
  obtain ⟨u, ⟨h1, rfl⟩ | h1⟩ := arg_bytes h
  · exact ⟨[], .inl ⟨h1, rfl⟩⟩
  · exact ⟨u, .inr h1⟩

theorem int_arg (x : Option (List Int)) : ∃ u, IntV ((DT.sl (.int .i64)).one x) u := by
  cases x with
  | none => exact ⟨[], .inl ⟨rfl, rfl⟩⟩
  | some l =>
    refine ⟨l, .inr ?_⟩
    simp only [DT.one]
    congr 1
    induction l with
    | nil => rfl
    | cons a l ih => simp only [List.flatMap_cons, List.map_cons, ih]; rfl

theorem enc_one_sl (e : DT) (x : Option (List e.Val)) : (DT.sl e).enc x = [(DT.sl e).one x] := by cases x <;> rfl

theorem act_of (x : actT.Val) (h : actT.Wf x) : ∃ a : ActV, actT.enc x = a.cells := by
  obtain ⟨kind, at', b, raw, k, u⟩ := x
  obtain ⟨h1, h2, h3, h4, h5, h6⟩ := h
  obtain ⟨ub, hb⟩ := byte_arg b h3
  obtain ⟨K, hk⟩ := int_arg k
  refine ⟨⟨kind, at', _, raw, _, ub, K, hb, hk⟩, ?_⟩
  show [AVal.int .i64 kind] ++ ([AVal.int .i64 at'] ++ ((DT.sl (.int .u8)).enc b ++ ([AVal.bool raw] ++ ((DT.sl (.int .i64)).enc k ++ [])))) = _
  rw [enc_one_sl, enc_one_sl]
  rfl

theorem acts_of (l : List actT.Val) (h : ∀ x ∈ l, actT.Wf x) : ∃ L : List ActV, L.length = l.length ∧ l.flatMap actT.enc = L.flatMap ActV.cells := by
  induction l with
  | nil => exact ⟨[], rfl, rfl⟩
  | cons x l ih =>
    obtain ⟨L, h1, h2⟩ := ih (fun y hy => h y (by simp [hy]))
    obtain ⟨a, ha⟩ := act_of x (h x (by simp))
    exact ⟨a :: L, by simp [h1], by simp only [List.flatMap_cons, ha, h2]⟩

theorem cells_ix (L : List ActV) : ∀ (i : Nat) a, L[i]? = some a → ((L.flatMap ActV.cells).drop (i * 5)).take 5 = a.cells := by
  induction L with
  | nil => intro i a h; simp at h
  | cons x L ih =>
    intro i a h
    have hx : x.cells.length = 5 := rfl
    cases i with
    | zero => simp at h; subst h; simp [List.flatMap_cons, List.take_append, hx]
    | succ i =>
      have := ih i a (by simpa using h)
      have hd : (x.cells ++ L.flatMap ActV.cells).drop 5 = L.flatMap ActV.cells := by
        rw [List.drop_append_of_le_length (by omega), List.drop_of_length_le (by omega), List.nil_append]
      rw [List.flatMap_cons, show (i + 1) * 5 = 5 + i * 5 from by omega, ← List.drop_drop, hd]
      exact this

theorem acts_len (L : List ActV) : (L.flatMap ActV.cells).length = L.length * 5 := by
  induction L with
  | nil => rfl
  | cons x L ih => rw [List.flatMap_cons, List.length_append, ih]; simp [ActV.cells]; omega

theorem acts_arg (x : Option (List actT.Val)) (h : (DT.sl actT).Wf x) : ∃ L, ActsV ((DT.sl actT).one x) L := by
  cases x with
  | none => exact ⟨[], rfl, fun i a h => by simp at h⟩
  | some l =>
    obtain ⟨L, h1, h2⟩ := acts_of l h.2
    refine ⟨L, by simp only [DT.one, lenA, h1], fun i a ha => ?_⟩
    have hlt := (List.getElem?_eq_some_iff.1 ha).1
    simp only [DT.one, h2, ← h1, iaddrSA]
    rw [if_pos ⟨acts_len L, by omega, by omega⟩]
    rw [show ((i : Int)).toNat = i from by omega, cells_ix L i a ha]
end Am.Disk
end

/- The disk's functions, told in place: each model is the truth of its function in the given program. -/
section
namespace Am.Disk
open Am Go Am.Ir Go.Proofs Go.Proofs.Ytlhbmnhiiicldaa Go.RowKit
set_option maxRecDepth 100000

theorem smClone : Sound Try.prog 25 mClone := Sound.tell 2 sClone
theorem syWrite : Sound Try.prog 9 yWrite := sx (fs := [23, 24, 25]) (l := [xHas, xSpend, mClone]) ⟨sHas, sSpend, smClone, trivial⟩ Try.func9 disk_Write_ok 10
theorem syDump : Sound Try.prog 17 yDump := sx (fs := [25]) (l := [mClone]) ⟨smClone, trivial⟩ Try.func17 disk_Dump_ok 10
theorem smRead : Sound Try.prog 14 mRead := Sound.tell 3 (Sound.exD (fs := [23, 26, 25]) (l := [xHas, xSector, mClone]) (ds := []) (is := [(nNewest, iNewest)]) ⟨sHas, sSector, smClone, trivial⟩ trivial ⟨siNewest, trivial⟩ mix Try.func14 disk_Read_ok 10)
theorem smSmall : Sound Try.prog 11 mSmall := Sound.tell 1 (sx (fs := []) (l := []) trivial Try.func11 disk_small_ok 10)
theorem smLsector : Sound Try.prog 12 mLsector := Sound.tell 2 (sx (fs := []) (l := []) trivial Try.func12 disk_lsector_ok 1000)
end Am.Disk
end

