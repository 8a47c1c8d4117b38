/- What was flushed stays: the loop. -/
import Derived.Test.YtlhbmnhiiicldaaAmDiskG
set_option linter.all false
namespace Am.Disk
open Am Go Am.Ir
set_option maxRecDepth 100000

variable {S : St} {p ro : Nat}

theorem FlI.keep {S' : St} {at' m : Nat} {b : List UInt8} (h : FlI S p ro at' b m) (E : St) : FlI (S ++ E) p ro at' b m := by
  obtain ⟨cw, fw, on, ws, h1, h2⟩ := h.ex
  exact ⟨cw, fw, on, ws, h1.keep (Keeps.append S E) (by simp), h2⟩

theorem FlI.more {at' m m' : Nat} {b : List UInt8} (h : FlI S p ro at' b m) (hm : m ≤ m') : FlI S p ro at' b m' := by
  obtain ⟨cw, fw, on, ws, h1, h2, h3, h4, h5, h6⟩ := h.ex
  exact ⟨cw, fw, on, ws, h1, h2, h3, h4, h5, by omega⟩

noncomputable def oFl : Orc := orc [xNew, mAlive, yWrite, xFlush, mSmall, mLsector, xCrash, mRead]

structure FgF (f : Fr) (p at' : Nat) (b : List UInt8) (fl : Bool) (x : AVal) (j : Nat) : Prop where
  s0 : f.get 0 = .int .i64 (at' : Int)
  s1 : f.get 1 = .fz fl 256 (bcells b)
  s2 : f.get 2 = x
  s7 : f.get 7 = .ptr p 0 0
  s9 : f.get 9 = .int .i64 0
  s10 : f.get 10 = .int .i64 0
  s11 : f.get 11 = .int .i64 (j : Int)

theorem kind_cases (k : Int) (h1 : ¬ k < 1) (h3 : ¬ 3 < k) : k = 1 ∨ k = 2 ∨ k = 3 := by omega

theorem flu_round {f : Fr} {at' j : Nat} {b : List UInt8} {fl : Bool} {x : AVal} {L : List ActV} (hx : ActsV x L) (hj : j < L.length) (hj2 : j < 40) (hat : at' < 16) (hbl : b.length = 256) (h : FlI S p ro at' b j) (hf : FgF f p at' b fl x j) :
    Post (evC oFl 1000 DiskFlushed_l0 f S) fun e f' S' => e = .normal ∧ FgF f' p at' b fl x (j + 1) ∧ FlI S' p ro at' b (j + 1) := by
  obtain ⟨a, ha⟩ : ∃ a, L[j]? = some a := ⟨_, List.getElem?_eq_getElem hj⟩
  have hix := hx.ix j a ha
  have hlss : binA .lss (.int .i64 (j : Int)) (.int .i64 (L.length : Int)) = some (.bool true) := by simp [binA, intBin]; omega
  have hlss2 : binA .lss (.int .i64 (j : Int)) (.int .i64 40) = some (.bool true) := by simp [binA, intBin]; omega
  have hadd : binA .add (.int .i64 (j : Int)) (.int .i64 1) = some (.int .i64 ((j : Int) + 1)) := by
    simp only [binA, intBin]; rw [if_neg (by simp), if_pos trivial, wrap64 (by omega) (by omega)]
  have hloc : oFl.loc = [xNew, mAlive, yWrite, xFlush, mSmall, mLsector, xCrash, mRead] := rfl
  obtain ⟨T, hT⟩ : ∃ T : St, S ++ [.live 0 a.cells] = T := ⟨_, rfl⟩
  have hI : FlI T p ro at' b j := by rw [← hT]; exact h.keep (S' := S) _
  have hbx : T[S.length]? = some (.live 0 a.cells) := by rw [← hT]; exact app_get _ _
  have hsm := small_ok a T
  have c0 : a.cells[0]? = some (.int .i64 a.kind) := rfl
  have c1 : a.cells[1]? = some (.int .i64 a.at') := rfl
  have c4 : a.cells[4]? = some a.k := rfl
  have hpa : partA (some 5) 0 a.cells = some (.agg a.cells) := rfl
  have hal : ∀ (T0 : St), S ++ [.live 0 [.int .i64 0, .int .i64 0, .nils, .bool false, .nils]] = T0 → storeA 5 (.ptr S.length 0 0) (.agg a.cells) T0 = some T := by
    rintro T0 rfl
    simp [storeA, cells?, ActV.cells, splice, ← hT]
  suffices hmid : Post (evC oFl 1000 DiskFlushed_l0 f S) (fun e f' S' => e = .normal ∧ f'.get 0 = f.get 0 ∧ f'.get 1 = f.get 1 ∧ f'.get 2 = f.get 2 ∧ f'.get 7 = f.get 7 ∧ f'.get 9 = f.get 9 ∧ f'.get 10 = f.get 10 ∧ f'.get 11 = .int .i64 ((j : Int) + 1) ∧ FlI S' p ro at' b (j + 1)) by
    refine hmid.mono ?_
    rintro e f' S' ⟨h1, g0, g1, g2, g7, g9, g10, g11, h2⟩
    exact ⟨h1, ⟨g0.trans hf.s0, g1.trans hf.s1, g2.trans hf.s2, g7.trans hf.s7, g9.trans hf.s9, g10.trans hf.s10, by rw [g11]; simp⟩, h2⟩
  have hal' := hal _ rfl
  by_cases k1 : smallS a = true
  · rw [k1] at hsm
    have hul : a.u.length ≤ 300 := by simp [smallS] at k1; exact k1.1
    by_cases k2 : a.at' = (at' : Int)
    · have heq : binA .eql (.int .i64 a.at') (.int .i64 (at' : Int)) = some (.bool true) := by simp [binA, intBin, k2]
      simp [DiskFlushed_l0, exM, orc, orcD, evF, evC, evOps, evOper, evAny, evOp, evCall, putR, putA, Fr.ev, Fr.of, Fr.get, Fr.set, stable, junkA, junkL, resultsA, resA, same, Fr.get_set, hf.s0, hf.s1, hf.s2, hf.s7, hf.s9, hf.s10, hf.s11, hlss, hlss2, hadd, hx.len, hix, loadA, hbx, hpa, partA_none, c0, c1, c4, hal', hloc, hsm, unA, faddrA, heq, Post_some]
      exact hI.more (by omega)
    · have heq : binA .eql (.int .i64 a.at') (.int .i64 (at' : Int)) = some (.bool false) := by simp [binA, intBin, k2]
      by_cases k3 : a.kind < 1
      · have hk3 : binA .lss (.int .i64 a.kind) (.int .i64 1) = some (.bool true) := by simp [binA, intBin, k3]
        simp [DiskFlushed_l0, exM, orc, orcD, evF, evC, evOps, evOper, evAny, evOp, evCall, putR, putA, Fr.ev, Fr.of, Fr.get, Fr.set, stable, junkA, junkL, resultsA, resA, same, Fr.get_set, hf.s0, hf.s1, hf.s2, hf.s7, hf.s9, hf.s10, hf.s11, hlss, hlss2, hadd, hx.len, hix, loadA, hbx, hpa, partA_none, c0, c1, c4, hal', hloc, hsm, unA, faddrA, heq, hk3, Post_some]
        exact hI.more (by omega)
      · have hk3 : binA .lss (.int .i64 a.kind) (.int .i64 1) = some (.bool false) := by simp [binA, intBin]; omega
        by_cases k4 : 3 < a.kind
        · have hk4 : binA .gtr (.int .i64 a.kind) (.int .i64 3) = some (.bool true) := by simp [binA, intBin, k4]
          simp [DiskFlushed_l0, exM, orc, orcD, evF, evC, evOps, evOper, evAny, evOp, evCall, putR, putA, Fr.ev, Fr.of, Fr.get, Fr.set, stable, junkA, junkL, resultsA, resA, same, Fr.get_set, hf.s0, hf.s1, hf.s2, hf.s7, hf.s9, hf.s10, hf.s11, hlss, hlss2, hadd, hx.len, hix, loadA, hbx, hpa, partA_none, c0, c1, c4, hal', hloc, hsm, unA, faddrA, heq, hk3, hk4, Post_some]
          exact hI.more (by omega)
        · have hk4 : binA .gtr (.int .i64 a.kind) (.int .i64 3) = some (.bool false) := by simp [binA, intBin]; omega
          have hneq : binA .neq (.int .i64 0) (.int .i64 0) = some (.bool false) := rfl
          have hneS : binA .neq (.str b) (.str b) = some (.bool false) := by simp [binA, strBin]
          have hby : ∀ S' fl', bytesA (.fz fl' 256 (bcells b)) S' = some b := by
            intro S' fl'
            have := fz_cells fl' b S'
            rw [hbl] at this
            simp only [bytesA, this, asBytes_bcells]
          have hnl : S.length < (S ++ [ABlock.live 0 a.cells]).length := by simp
          have he1 : ∀ n : Int, binA .eql (.int .i64 n) (.int .i64 n) = some (.bool true) := fun n => by simp [binA, intBin]
          have he12 : binA .eql (.int .i64 1) (.int .i64 2) = some (.bool false) := rfl
          have he13 : binA .eql (.int .i64 1) (.int .i64 3) = some (.bool false) := rfl
          have he21 : binA .eql (.int .i64 2) (.int .i64 1) = some (.bool false) := rfl
          have he23 : binA .eql (.int .i64 2) (.int .i64 3) = some (.bool false) := rfl
          have he31 : binA .eql (.int .i64 3) (.int .i64 1) = some (.bool false) := rfl
          have he32 : binA .eql (.int .i64 3) (.int .i64 2) = some (.bool false) := rfl
          rcases kind_cases a.kind k3 k4 with e | e | e
          · have hls := lsector_ok a hul T
            have hpl : (padS a.raw a.u).length ≤ 1000 := by
              unfold padS; split
              · omega
              · simp; omega
            obtain ⟨T', er, w1, w2, w3⟩ := fl_write h (by omega) a.at' k2 false (padS a.raw a.u) hpl [.live 0 a.cells]
            have hbx' : T'[S.length]? = some (.live 0 a.cells) := by rw [w3 _ (Nat.le_refl _) hnl]; exact app_get _ _
            have hrd := fl_read w2 (by omega) hat
            rw [hT] at w1
            have d0 : a.cells[0]? = some (.int .i64 1) := by rw [c0, e]
            rw [e] at hk3 hk4
            simp [DiskFlushed_l0, exM, orc, orcD, evF, evC, evOps, evOper, evAny, evOp, evCall, putR, putA, Fr.ev, Fr.of, Fr.get, Fr.set, stable, junkA, junkL, resultsA, resA, same, Fr.get_set, hf.s0, hf.s1, hf.s2, hf.s7, hf.s9, hf.s10, hf.s11, hlss, hlss2, hadd, hx.len, hix, loadA, hbx, hbx', hpa, partA_none, d0, c1, c4, hal', hloc, hsm, unA, faddrA, heq, hk3, hk4, he1, he12, he13, hls, w1, hrd, hby, hneq, hneS, trL, sameRead, sameVal, beqV, Post_some]
            exact w2
          · obtain ⟨T', w1, w2, w3⟩ := fl_flush h (by omega) [.live 0 a.cells]
            have hbx' : T'[S.length]? = some (.live 0 a.cells) := by rw [w3 _ (Nat.le_refl _) hnl]; exact app_get _ _
            have hrd := fl_read w2 (by omega) hat
            rw [hT] at w1
            have d0 : a.cells[0]? = some (.int .i64 2) := by rw [c0, e]
            rw [e] at hk3 hk4
            simp [DiskFlushed_l0, exM, orc, orcD, evF, evC, evOps, evOper, evAny, evOp, evCall, putR, putA, Fr.ev, Fr.of, Fr.get, Fr.set, stable, junkA, junkL, resultsA, resA, same, Fr.get_set, hf.s0, hf.s1, hf.s2, hf.s7, hf.s9, hf.s10, hf.s11, hlss, hlss2, hadd, hx.len, hix, loadA, hbx, hbx', hpa, partA_none, d0, c1, c4, hal', hloc, hsm, unA, faddrA, heq, hk3, hk4, he1, he21, he23, w1, hrd, hby, hneq, hneS, Post_some]
            exact w2.more (by omega)
          · obtain ⟨T', w1, w2, w3⟩ := fl_crash h (by omega) a.hk.ints [.live 0 a.cells]
            have hrd := fl_read w2 (by omega) hat
            rw [hT] at w1
            have d0 : a.cells[0]? = some (.int .i64 3) := by rw [c0, e]
            rw [e] at hk3 hk4
            simp [DiskFlushed_l0, exM, orc, orcD, evF, evC, evOps, evOper, evAny, evOp, evCall, putR, putA, Fr.ev, Fr.of, Fr.get, Fr.set, stable, junkA, junkL, resultsA, resA, same, Fr.get_set, hf.s0, hf.s1, hf.s2, hf.s7, hf.s9, hf.s10, hf.s11, hlss, hlss2, hadd, hx.len, hix, loadA, hbx, hpa, partA_none, d0, c1, c4, hal', hloc, hsm, unA, faddrA, heq, hk3, hk4, he1, he31, he32, w1, hrd, hby, hneq, hneS, Post_some]
            exact w2.more (by omega)
  · have k1' : smallS a = false := by simpa using k1
    rw [k1'] at hsm
    simp [DiskFlushed_l0, exM, orc, orcD, evF, evC, evOps, evOper, evAny, evOp, evCall, putR, putA, Fr.ev, Fr.of, Fr.get, Fr.set, stable, junkA, junkL, resultsA, resA, same, Fr.get_set, hf.s0, hf.s1, hf.s2, hf.s7, hf.s9, hf.s10, hf.s11, hlss, hlss2, hadd, hx.len, hix, loadA, hbx, hpa, partA_none, c0, c1, c4, hal', hloc, hsm, unA, faddrA, Post_some]
    exact hI.more (by omega)
end Am.Disk
