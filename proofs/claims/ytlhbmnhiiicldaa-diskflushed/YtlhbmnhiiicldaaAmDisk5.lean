/- The disk over its heap: what waits is laid onto it; it goes bad. -/
import Derived.Test.YtlhbmnhiiicldaaAmDisk4
set_option linter.all false
namespace Am.Disk
open Am Go Am.Ir
set_option maxRecDepth 100000

variable {S : St} {p ro : Nat} {cw : AVal} {fw : List Nat} {on : List UInt8} {ws : List (Nat × List UInt8)} {lets : Int} {off : Bool}

/-- Bytes laid onto a sector. -/
def lay (on : List UInt8) (i : Nat) (b : List UInt8) : List UInt8 := on.take (i * 256) ++ b ++ on.drop (i * 256 + b.length)

theorem lay_len (on : List UInt8) (i : Nat) (b : List UInt8) (h : i * 256 + b.length ≤ on.length) : (lay on i b).length = on.length := by
  simp [lay]; omega

theorem splice_bcells (on : List UInt8) (i : Nat) (b : List UInt8) : splice (bcells on) (i * 256) (bcells b) = bcells (lay on i b) := by
  simp [splice, lay, bcells]

theorem bcells_take (u : List UInt8) (n : Nat) : (bcells u).take n = bcells (u.take n) := by simp [bcells]

/-- The bytes on the disk are laid anew. -/
theorem DiskI.seto (h : DiskI S p ro cw fw on ws lets off) {on' : List UInt8} (hl : on'.length = on.length) : DiskI (S.set ro (.live 0 (bcells on'))) p ro cw fw on' ws lets off := by
  have hk := Keeps.set S ro (.live 0 (bcells on'))
  have hlt := live_lt h.ho
  have hnd := h.nd
  simp only [List.nodup_cons, List.mem_cons, not_or] at hnd
  refine ⟨by rw [hl]; exact hk.get h.hp (by simp; exact hnd.1.1), by simp [hlt], h.hw.keep hk (fun r hr => by simp; rintro rfl; exact hnd.2.1 hr), h.nd⟩

/-- 'copy' onto a sector. -/
theorem copy_on (h : DiskI S p ro cw fw on ws lets off) {i : Nat} (hi : (i + 1) * 256 ≤ on.length) {b : List UInt8} (hb : b.length ≤ 256) (fl : Bool) :
    copyA 1 (.sl ro 0 (i * 256) 256 1) (.fz fl b.length (bcells b)) S = some (.int .i64 b.length, S.set ro (.live 0 (bcells (lay on i b)))) := by
  have h1 : i * 256 + 256 ≤ (bcells on).length := by rw [bcells_len]; omega
  have h2 : min b.length 256 = b.length := by omega
  have h3 : List.take b.length (bcells b) = bcells b := List.take_of_length_le (by rw [bcells_len]; exact Nat.le_refl _)
  have h4 := splice_bcells on i b
  simp [copyA, cellsOf, bcells_len, h.ho, h1, h2, h3, h4]
  rw [bcells_len] at h1; omega

theorem wait_ix (h : DiskI S p ro cw fw on ws lets off) {j : Nat} {w : Nat × List UInt8} (hj : ws[j]? = some w) :
    ∃ rw' vw, iaddrSA 2 cw (.int .i64 (j : Int)) = some (.ptr rw' vw (j * 2)) ∧ S[rw']? = some (.live vw (wcells ws)) ∧ partA (some 2) (j * 2) (wcells ws) = some (.agg [.int .i64 (w.1 : Int), .fz false w.2.length (bcells w.2)]) := by
  have hlt := (List.getElem?_eq_some_iff.1 hj).1
  rcases h.hw with ⟨_, rfl, _⟩ | ⟨rw', vw, rfl, hrw, _⟩
  · simp at hlt
  · refine ⟨rw', vw, ?_, hrw, ?_⟩
    · have : (j : Int) < (ws.length : Int) := by omega
      simp [iaddrSA, this]
    · have h1 := wcells_get ws j w hj
      have h2 : j * 2 + 2 ≤ (wcells ws).length := by rw [wcells_len]; omega
      simp [partA, h2, h1]

theorem partA_none (off : Nat) (cs : List AVal) : partA none off cs = cs[off]? := rfl

def flushS (on : List UInt8) (ws : List (Nat × List UInt8)) : List UInt8 := ws.foldl (fun on w => lay on w.1 w.2) on

def WsOk (n : Nat) (ws : List (Nat × List UInt8)) : Prop := ∀ w ∈ ws, w.1 < n ∧ w.2.length = 256

theorem flushS_len {n : Nat} {on : List UInt8} {ws : List (Nat × List UInt8)} (hn : on.length = n * 256) (hw : WsOk n ws) : (flushS on ws).length = on.length := by
  induction ws generalizing on with
  | nil => rfl
  | cons w ws ih =>
    obtain ⟨h1, h2⟩ := hw w (by simp)
    have hl := lay_len on w.1 w.2 (by omega)
    show (flushS (lay on w.1 w.2) ws).length = _
    rw [ih (by omega) (fun x hx => hw x (by simp [hx])), hl]

theorem take_succ {α : Type} {l : List α} {j : Nat} {x : α} (h : l[j]? = some x) : l.take (j + 1) = l.take j ++ [x] := by
  rw [List.take_add_one, h]; rfl

/-- The frame's slots that a loop over what waits reads. -/
structure FlF (f : Fr) (p : Nat) (cw : AVal) (len j : Nat) : Prop where
  s0 : f.get 0 = .ptr p 0 0
  s21 : f.get 21 = cw
  s22 : f.get 22 = .int .i64 (len : Int)
  s23 : f.get 23 = .int .i64 (j : Int)

theorem flush_round {O : Orc} {k : Nat} (hO : O.loc[1]? = some xSector) {f : Fr} {n : Nat} (h : DiskI S p ro cw fw on ws lets off) (hn : on.length = n * 256) (hnb : n ≤ 512) {j : Nat} {w : Nat × List UInt8} (hj : ws[j]? = some w) (hw : w.1 < n ∧ w.2.length = 256)
    (hb : ws.length ≤ 1000) (hf : FlF f p cw ws.length j) :
    Post (evC O k disk_Flush_l0 f S) fun e f' S' => e = .normal ∧ FlF f' p cw ws.length (j + 1) ∧ DiskI S' p ro cw fw (lay on w.1 w.2) ws lets off ∧ Keeps S S' [ro] := by
  obtain ⟨rw', vw, hq1, hq2, hq3⟩ := wait_ix h hj
  have hlt := (List.getElem?_eq_some_iff.1 hj).1
  have hjl : (j : Int) < (ws.length : Int) := by omega
  have hwj : IntKind.i64.wrap ((j : Int) + 1) = (j : Int) + 1 := wrap64 (by omega) (by omega)
  obtain ⟨at', b⟩ := w
  simp only at hw hq3
  have hk1 : Keeps S (S ++ [ABlock.live 0 [.int .i64 (at' : Int), .fz false b.length (bcells b)]]) [] := Keeps.append S _
  have h1 := h.keep hk1 (by simp)
  have hsec := sector_ok h1 hn hnb hw.1
  have hcp := copy_on h1 (i := at') (b := b) (by omega) (by omega) false
  have h2 := h1.seto (lay_len on at' b (by omega))
  have hrol := live_lt h.ho
  simp [disk_Flush_l0, exM, orc, orcD, evF, evC, evOps, evOper, evAny, evOp, evCall, putR, putA, Fr.ev, Fr.of, Fr.get, Fr.set, stable, junkA, junkL, resultsA, resA, same, Fr.get_set, hf.s0, hf.s21, hf.s22, hf.s23, binA, intBin, hjl, hq1, hq2, hq3, storeA, cells?, splice, faddrA, loadA, partA_none, hO, hsec, hcp, trL, sameRead, sameVal, beqV, beqL_refl, hwj, Post_some]
  refine ⟨⟨?_, ?_, ?_, ?_⟩, h2, by simp, fun r hr hn' => ?_⟩
  · simp [Fr.get_set, hf.s0]
  · simp [Fr.get_set, hf.s21]
  · simp [Fr.get_set, hf.s22]
  · simp [Fr.get_set]
  · simp at hn'
    rw [List.getElem?_set, if_neg (fun e => hn' e.symm), get_old hr]

theorem flush_loop {O : Orc} (hO : O.loc[1]? = some xSector) {n : Nat} (hn : on.length = n * 256) (hnb : n ≤ 512) (hw : WsOk n ws) (hb : ws.length ≤ 900) {f : Fr} (h : DiskI S p ro cw fw on ws lets off) (hf : FlF f p cw ws.length 0) :
    Post (evC O 1000 disk_Flush_s1 f S) fun e f' S' => e = .normal ∧ f'.get 0 = .ptr p 0 0 ∧ DiskI S' p ro cw fw (flushS on ws) ws lets off ∧ Keeps S S' [ro] := by
  have hlen : ∀ j, (flushS on (ws.take j)).length = on.length := fun j => flushS_len hn (fun w hm => hw w (List.mem_of_mem_take hm))
  obtain ⟨f', S', h1, h2⟩ := loop_post (O := O) (k := 1000) (id := 0) (b := disk_Flush_l0) (I := fun j f T => FlF f p cw ws.length j ∧ DiskI T p ro cw fw (flushS on (ws.take j)) ws lets off ∧ Keeps S T [ro])
    (Q := fun f' S' => f'.get 0 = .ptr p 0 0 ∧ DiskI S' p ro cw fw (flushS on ws) ws lets off ∧ Keeps S S' [ro]) ws.length (by omega)
    (by
      rintro j hj f T ⟨g1, g2, g3⟩
      obtain ⟨w, hwj⟩ : ∃ w, ws[j]? = some w := ⟨_, List.getElem?_eq_getElem hj⟩
      refine (flush_round hO g2 ((hlen j).trans hn) hnb hwj (hw w (List.mem_of_getElem? hwj)) (by omega) g1).mono ?_
      rintro e f' S' ⟨rfl, k1, k2, k3⟩
      refine ⟨rfl, k1, ?_, g3.trans k3 (fun r hr => .inl hr)⟩
      rw [take_succ hwj]
      simpa [flushS] using k2)
    (by
      rintro f T ⟨g1, g2, g3⟩
      rw [List.take_of_length_le (Nat.le_refl _)] at g2
      have : ¬ ((ws.length : Int) < (ws.length : Int)) := by omega
      simp [disk_Flush_l0, exM, orc, orcD, evF, evC, evOps, evOper, evAny, evOp, evCall, putR, putA, Fr.ev, Fr.of, Fr.get, Fr.set, stable, junkA, junkL, resultsA, resA, same, Fr.get_set, g1.s0, g1.s21, g1.s22, g1.s23, binA, intBin, Post_some]
      exact ⟨g2, g3⟩)
    (f := f) (S := S) ⟨hf, by simpa [flushS] using h, Keeps.refl S _⟩
  rw [show disk_Flush_s1 = .block 0 (.loop disk_Flush_l0) from rfl, h1]
  exact Post.of rfl ⟨rfl, h2⟩

theorem flush_off (h : DiskI S p ro cw fw on ws lets true) : xFlush [.ptr p 0 0] S = some (.int .i64 8, S) := by
  simp [xFlush, disk_Flush, exM, orc, orcD, evF, evC, evOps, evOper, evAny, evOp, evCall, putR, putA, Fr.ev, Fr.of, Fr.get, Fr.set, stable, junkA, junkL, resultsA, resA, same, eq2, faddrA, loadA, h.hp, partA]

theorem flush_fuse (h : DiskI S p ro cw fw on ws 0 false) : xFlush [.ptr p 0 0] S = some (.int .i64 8, S.set p (.live 0 [.sl ro 0 0 on.length 1, cw, .int .i64 0, .bool true])) := by
  have hs := spend_ok h (by omega)
  simp [letsN, offN] at hs
  simp [xFlush, disk_Flush, exM, orc, orcD, evF, evC, evOps, evOper, evAny, evOp, evCall, putR, putA, Fr.ev, Fr.of, Fr.get, Fr.set, stable, junkA, junkL, resultsA, resA, same, eq2, faddrA, loadA, h.hp, partA, unA, hs]

theorem flush_ok (h : DiskI S p ro cw fw on ws lets false) {n : Nat} (hn : on.length = n * 256) (hnb : n ≤ 512) (hw : WsOk n ws) (hb : ws.length ≤ 900) (hl0 : lets ≠ 0) (hlm : lets ≤ 9223372036854775807) :
    ∃ S', xFlush [.ptr p 0 0] S = some (.int .i64 0, S') ∧ DiskI S' p ro .nils [] (flushS on ws) [] (letsN lets) false ∧ Keeps S S' [p, ro] := by
  have hs := spend_ok h hlm
  have hof : offN lets false = false := by simp [offN, hl0]
  rw [hof] at hs
  have hdl : decide (lets ≠ 0) = true := by simp [hl0]
  rw [hdl] at hs
  have h1 := h.setp (letsN lets) false
  obtain ⟨S1, hS1⟩ : ∃ S1 : St, S.set p (.live 0 [.sl ro 0 0 on.length 1, cw, .int .i64 (letsN lets), .bool false]) = S1 := ⟨_, rfl⟩
  rw [hS1] at hs h1
  have hk1 : Keeps S S1 [p] := by rw [← hS1]; exact Keeps.set S p _
  suffices hsuf : Post (evC (orc [xSpend, xSector]) 1000 disk_Flush.body (Fr.of [.ptr p 0 0]) S) (fun e f S' => (e = .normal ∨ e = .ret) ∧ resultsA f S' disk_Flush.results = some (.int .i64 0) ∧
      DiskI S' p ro .nils [] (flushS on ws) [] (letsN lets) false ∧ Keeps S S' [p, ro]) by
    obtain ⟨e, f, S', g1, g2, g3, g4, g5⟩ := hsuf.ex
    exact ⟨S', evF_post rfl rfl (.of g1 ⟨g2, g3, rfl⟩), g4, g5⟩
  simp only [disk_Flush, disk_Flush_t2, Post_seq]
  simp [exM, orc, orcD, evF, evC, evOps, evOper, evAny, evOp, evCall, putR, putA, Fr.ev, Fr.of, Fr.get, Fr.set, stable, junkA, junkL, resultsA, resA, same, eq2, faddrA, loadA, h.hp, h1.hp, partA_none, unA, hs, h1.hw.len, Post_some]
  refine (flush_loop (O := orc [xSpend, xSector]) rfl hn hnb hw hb h1 ⟨rfl, rfl, rfl, rfl⟩).mono ?_
  rintro e f' S' ⟨rfl, g0, g1, g2⟩
  simp [exM, orc, orcD, evF, evC, evOps, evOper, evAny, evOp, evCall, putR, putA, Fr.ev, Fr.of, Fr.get, Fr.set, stable, junkA, junkL, resultsA, resA, same, Fr.get_set, g0, faddrA, storeA, cells?, g1.hp, Post_some, splice]
  have hnd := h.nd
  simp only [List.nodup_cons, List.mem_cons, not_or] at hnd
  have hlt := live_lt g1.hp
  refine ⟨⟨by simp [hlt], ?_, .inl ⟨rfl, rfl, rfl⟩, ?_⟩, ?_⟩
  · rw [List.getElem?_set, if_neg hnd.1.1]; exact g1.ho
  · simp; exact hnd.1.1
  · have hk2 := Keeps.set S' p (.live 0 [.sl ro 0 0 (flushS on ws).length 1, .nils, .int .i64 (letsN lets), .bool false])
    refine Keeps.trans (fp' := [p, ro]) ⟨hk1.1, fun r hr hn' => hk1.2 r hr (by simp at hn' ⊢; exact hn'.1)⟩ (Keeps.trans (fp' := [p]) ⟨g2.1, fun r hr hn' => g2.2 r hr (by simp at hn' ⊢; exact hn'.2)⟩ hk2 (by simp)) (by simp)
end Am.Disk
