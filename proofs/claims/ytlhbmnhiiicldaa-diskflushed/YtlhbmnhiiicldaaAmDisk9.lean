/- The disk over its heap: what is read, told in place. -/
import Derived.Test.YtlhbmnhiiicldaaAmDisk8
set_option linter.all false
namespace Am.Disk
open Am Go Am.Ir
set_option maxRecDepth 100000

variable {S : St} {p ro : Nat} {cw : AVal} {fw : List Nat} {on : List UInt8} {ws : List (Nat × List UInt8)} {lets : Int} {off : Bool}

noncomputable def oRead : Orc := orcD [xHas, xSector, mClone] [] [(nNewest, iNewest)]
noncomputable def yRead : Model := exM oRead disk_Read 10
/-- 'Read', whose result nobody writes. -/
noncomputable def mRead : Model := tellM 3 yRead

theorem get_mark {f : Fr} {j t : Nat} (v : AVal) (ht : t < markBase) : Fr.get ((markBase + j, v) :: f) t = f.get t := by
  simp only [Fr.get]; rw [if_neg (by omega)]

theorem newest_run {f : Fr} (h : DiskI S p ro cw fw on ws lets off) {i : Nat} (hw : ∀ w ∈ ws, w.2.length ≤ 256) (hwl : ws.length ≤ 900)
    (h3 : f.get 3 = .ptr S.length 0 0) (h4 : f.get 4 = .ptr (S.length + 1) 0 0) (h5 : f.get 5 = .ptr (S.length + 2) 0 0) {T : St} (hT : RdI S T i) :
    ∃ T', iNewest (rdY oRead 10 f (S.length + 3)) [.ptr p 0 0, .yld (S.length + 3)] T = some (.tup [], T') ∧ ((RdI S T' i ∧ newestS ws i = none) ∨ ∃ u, RdF S T' u ∧ newestS ws i = some u) := by
  have hk : Keeps S T [] := ⟨by have := get_lt hT.lp; omega, fun r hr _ => hT.keep r hr⟩
  have hD := h.keep hk (by simp)
  have hwl' : IntKind.i64.wrap ((ws.length : Int) - 1) = (ws.length : Int) - 1 := wrap64 (by omega) (by omega)
  have hsub : binA .sub (.int .i64 (ws.length : Int)) (.int .i64 1) = some (.int .i64 ((ws.length : Int) - 1)) := by
    simp only [binA, intBin]; rw [if_neg (by simp), if_pos trivial, hwl']
  suffices hs : Post (evC { orc [] with yld := rdY oRead 10 f (S.length + 3) } 1000 disk_newest.body (Fr.of [.ptr p 0 0, .yld (S.length + 3)]) T) (fun e f S1 => (e = .normal ∨ e = .ret) ∧ resultsA f S1 disk_newest.results = some (.tup []) ∧
      ((RdI S S1 i ∧ newestS ws i = none) ∨ ∃ u, RdF S S1 u ∧ newestS ws i = some u)) by
    obtain ⟨e, g, T', g1, g2, g3, g4⟩ := hs.ex
    exact ⟨T', evF_post rfl rfl (.of g1 ⟨g2, g3, rfl⟩), g4⟩
  simp only [disk_newest, Post_seq]
  simp [exM, orc, orcD, evF, evC, evOps, evOper, evAny, evOp, evCall, putR, putA, Fr.ev, Fr.of, Fr.get, Fr.set, stable, junkA, junkL, resultsA, resA, same, faddrA, loadA, hD.hp, partA_none, hD.hw.len, hsub, Post_some]
  refine (newest_loop (O := oRead) (k := 10) rfl h hw hwl h3 h4 h5 hT ⟨rfl, rfl, rfl⟩).mono ?_
  rintro e g' T' (⟨rfl, k1, k2⟩ | ⟨rfl, u, k1, k2⟩)
  · exact ⟨.inl rfl, .inl ⟨k1, k2⟩⟩
  · exact ⟨.inr rfl, .inr ⟨u, k1, k2⟩⟩

theorem read_range {f : Fr} (h : DiskI S p ro cw fw on ws lets off) {i : Nat} (hw : ∀ w ∈ ws, w.2.length ≤ 256) (hwl : ws.length ≤ 900) (hm : marks f = [])
    (h3 : f.get 3 = .ptr S.length 0 0) (h4 : f.get 4 = .ptr (S.length + 1) 0 0) (h5 : f.get 5 = .ptr (S.length + 2) 0 0) (h22 : f.get 22 = .fn (.func nNewest) [.ptr p 0 0] []) {S3 : St} (hS3 : S3 = S ++ [.live 0 [.int .i64 (i : Int)], .live 0 [.nils], .live 0 [.int .i64 0]]) :
    Post (evC oRead 10 disk_Read_b3 f S3) fun e f' T => f' = (markBase + (S.length + 3), .junk) :: f ∧ (∀ r, r < S.length → T[r]? = S[r]?) ∧ (∃ st pe, T[S.length + 3]? = some (.loop st pe)) ∧ T[S.length + 2]? = some (.live 0 [.int .i64 0]) ∧
      ((e = .normal ∧ newestS ws i = none ∧ T[S.length]? = some (.live 0 [.int .i64 (i : Int)]) ∧ T[S.length + 1]? = some (.live 0 [.nils])) ∨
        (e = .ret ∧ ∃ u, newestS ws i = some u ∧ T[S.length + 1]? = some (.live 0 [.fz false u.length (bcells u)]))) := by
  have hl3 : S3.length = S.length + 3 := by rw [hS3]; simp
  have hT : RdI S (S3 ++ [.loop .ready none]) i := by
    subst hS3
    refine ⟨fun r hr => by rw [List.append_assoc, get_old hr], ?_, ?_, ?_, ?_⟩ <;> simp
  obtain ⟨T', k1, k2⟩ := newest_run (f := f) h hw hwl h3 h4 h5 hT
  have hit : oRead.itr nNewest = iNewest := rfl
  have hY : (fun j args S' => if j = S3.length then rnd (evC oRead 10 disk_Read_a0) (evC oRead 10 disk_Read_r1) [23] f j args S' else none) = rdY oRead 10 f (S.length + 3) := by
    funext j args S'
    simp only [rdY, hl3]
    split
    · rename_i e; rw [e]
    · rfl
  have hev : evC oRead 10 disk_Read_g2 f S3 = rngEnd f (S.length + 3) (some (.tup [], T')) := by
    simp only [disk_Read_g2, evC, Fr.ev, h22, hm]
    rw [hit, hY, hl3, List.append_nil, ← k1]; rfl
  have hb3 : evC oRead 10 disk_Read_b3 f S3 = (match evC oRead 10 disk_Read_g2 f S3 with | some (.exit id', f', S') => some (if id' = 1 then .normal else .exit id', f', S') | r => r) := rfl
  rw [hb3, hev]
  rcases k2 with ⟨c1, c2⟩ | ⟨u, c1, c2⟩
  · have hlt := get_lt c1.lp
    simp only [rngEnd, c1.lp, Post_some]
    refine ⟨by trivial, fun r hr => ?_, ⟨_, _, set_get (by omega) _⟩, ?_, .inl ⟨by trivial, c2, ?_, ?_⟩⟩
    · rw [set_get' (by omega)]; exact c1.keep r hr
    · rw [set_get' (by omega)]; exact c1.b5
    · rw [set_get' (by omega)]; exact c1.b3
    · rw [set_get' (by omega)]; exact c1.b4
  · have hlt := get_lt c1.lp
    simp only [rngEnd, c1.lp, Post_some]
    refine ⟨by trivial, fun r hr => ?_, ⟨_, _, set_get (by omega) _⟩, ?_, .inr ⟨by trivial, u, c2, ?_⟩⟩
    · rw [set_get' (by omega)]; exact c1.keep r hr
    · rw [set_get' (by omega)]; exact c1.b5
    · rw [set_get' (by omega)]; exact c1.b4

theorem prefix_of {S T : St} (hl : S.length ≤ T.length) (h : ∀ r, r < S.length → T[r]? = S[r]?) : T = S ++ T.drop S.length := by
  apply List.ext_getElem?
  intro r
  by_cases hr : r < S.length
  · rw [get_old hr, h r hr]
  · rw [List.getElem?_append_right (by omega), List.getElem?_drop]; congr 1; omega

theorem mRead_of {x : AVal} {e : Int} {i : Int} {u : List UInt8} {T : St} (h : yRead [.ptr p 0 0, .int .i64 i] S = some (.tup [x, .int .i64 e], T)) (hx : x = .fz false u.length (bcells u) ∨ x = .nils) (hl : S.length ≤ T.length) (hk : ∀ r, r < S.length → T[r]? = S[r]?) :
    mRead [.ptr p 0 0, .int .i64 i] S = some (.tup [x, .int .i64 e], S) := by
  rw [prefix_of hl hk] at h
  refine tellM_new h ?_
  have h1 : ∀ T, deep T S.length 2 x = some x := by
    intro T
    rcases hx with rfl | rfl
    · show ((bcells u).mapM (deep T S.length 1)).map (AVal.fz false u.length) = _
      rw [deep_bcells]; rfl
    · rfl
  show ([x, .int .i64 e].mapM (deep _ S.length 2)).map AVal.tup = _
  simp only [List.mapM_cons, List.mapM_nil, h1, show deep (S ++ List.drop S.length T) S.length 2 (.int .i64 e) = some (.int .i64 e) from rfl]
  rfl

theorem read_off (h : DiskI S p ro cw fw on ws lets true) (i : Int) : mRead [.ptr p 0 0, .int .i64 i] S = some (.tup [.nils, .int .i64 8], S) := by
  refine mRead_of (u := []) (T := S ++ [.live 0 [.int .i64 i], .live 0 [.nils], .live 0 [.int .i64 8]]) ?_ (.inr rfl) (by simp) (fun r hr => get_old hr)
  have hp : ∀ E : St, (S ++ E)[p]? = some (.live 0 [.sl ro 0 0 on.length 1, cw, .int .i64 lets, .bool true]) := fun E => by rw [get_old (live_lt h.hp)]; exact h.hp
  simp [yRead, oRead, disk_Read, exM, orc, orcD, evF, evC, evOps, evOper, evAny, evOp, evCall, putR, putA, Fr.ev, Fr.of, Fr.get, Fr.set, stable, junkA, junkL, resultsA, resA, same, eq2, faddrA, loadA, hp, partA_none, cells?, storeA, splice, marks, markBase, shut]

theorem read_arg (h : DiskI S p ro cw fw on ws lets false) {n : Nat} (hn : on.length = n * 256) (hb : n ≤ 512) (i : Int) (hbad : ¬ (0 ≤ i ∧ i < n)) : mRead [.ptr p 0 0, .int .i64 i] S = some (.tup [.nils, .int .i64 1], S) := by
  refine mRead_of (u := []) (T := S ++ [.live 0 [.int .i64 i], .live 0 [.nils], .live 0 [.int .i64 1]]) ?_ (.inr rfl) (by simp) (fun r hr => get_old hr)
  have hp : ∀ E : St, (S ++ E)[p]? = some (.live 0 [.sl ro 0 0 on.length 1, cw, .int .i64 lets, .bool false]) := fun E => by rw [get_old (live_lt h.hp)]; exact h.hp
  have hh : ∀ E : St, xHas [.ptr p 0 0, .int .i64 i] (S ++ E) = some (.bool false, S ++ E) := fun E => by
    have := has_ok (h.keep (Keeps.append S E) (by simp)) hn hb i
    have h4 : decide (0 ≤ i ∧ i < (n : Int)) = false := by simp; intro h5; omega
    rw [h4] at this; exact this
  simp [yRead, oRead, disk_Read, exM, orc, orcD, evF, evC, evOps, evOper, evAny, evOp, evCall, putR, putA, Fr.ev, Fr.of, Fr.get, Fr.set, stable, junkA, junkL, resultsA, resA, same, eq2, faddrA, loadA, hp, hh, unA, partA_none, cells?, storeA, splice, marks, markBase, shut]

theorem read_ok (h : DiskI S p ro cw fw on ws lets false) {n : Nat} (hn : on.length = n * 256) (hb : n ≤ 512) (hw : WsOk n ws) (hwl : ws.length ≤ 900) {i : Nat} (hi : i < n) :
    mRead [.ptr p 0 0, .int .i64 i] S = some (.tup [.fz false 256 (bcells (readS on ws i)), .int .i64 0], S) ∧ (readS on ws i).length = 256 := by
  have hp : ∀ E : St, (S ++ E)[p]? = some (.live 0 [.sl ro 0 0 on.length 1, cw, .int .i64 lets, .bool false]) := fun E => by rw [get_old (live_lt h.hp)]; exact h.hp
  have hh : ∀ E : St, xHas [.ptr p 0 0, .int .i64 i] (S ++ E) = some (.bool true, S ++ E) := fun E => by
    have := has_ok (h.keep (Keeps.append S E) (by simp)) hn hb i
    have h4 : decide (0 ≤ (i : Int) ∧ (i : Int) < (n : Int)) = true := by simp; omega
    rw [h4] at this; exact this
  have hlen : (readS on ws i).length = 256 := by
    unfold readS
    cases hx : newestS ws i with
    | none => simp; omega
    | some u =>
      simp only [newestS, Option.map_eq_some_iff] at hx
      obtain ⟨w, hw1, rfl⟩ := hx
      have := List.mem_of_find?_eq_some hw1
      exact (hw w (by simpa using this)).2
  refine ⟨?_, hlen⟩
  suffices hs : ∃ T, yRead [.ptr p 0 0, .int .i64 i] S = some (.tup [.fz false (readS on ws i).length (bcells (readS on ws i)), .int .i64 0], T) ∧ S.length ≤ T.length ∧ ∀ r, r < S.length → T[r]? = S[r]? by
    obtain ⟨T, h1, h2, h3⟩ := hs
    have := mRead_of h1 (.inl rfl) h2 h3
    rw [hlen] at this; exact this
  suffices hs : Post (evC oRead 10 disk_Read.body (Fr.of [.ptr p 0 0, .int .i64 i]) S) (fun e f S1 => (e = .normal ∨ e = .ret) ∧ ∃ T, shut (marks f) S1 = some T ∧ resultsA f T disk_Read.results = some (.tup [.fz false (readS on ws i).length (bcells (readS on ws i)), .int .i64 0]) ∧
      S.length ≤ T.length ∧ ∀ r, r < S.length → T[r]? = S[r]?) by
    obtain ⟨e, f, S1, g1, g2, T, g3, g4, g5, g6⟩ := hs.ex
    exact ⟨T, evF_postR rfl rfl (.of g1 ⟨g2, g3, g4⟩), g5, g6⟩
  simp only [disk_Read, disk_Read_t4, Post_seq]
  simp [exM, orc, orcD, evF, evC, evOps, evOper, evAny, evOp, evCall, putR, putA, Fr.ev, Fr.of, Fr.get, Fr.set, stable, junkA, junkL, resultsA, resA, same, eq2, faddrA, loadA, hp, hh, unA, partA_none, cells?, Post_some, oRead]
  refine (read_range h (fun w hm => Nat.le_of_eq (hw w hm).2) hwl rfl rfl rfl rfl rfl (i := i) rfl).mono ?_
  rintro e f' T ⟨hf', hk, ⟨st, pe, hlp⟩, hb5, hres⟩
  have mb : (100 : Nat) < markBase := by simp [markBase]
  have f0 : f'.get 0 = .ptr p 0 0 := by rw [hf', get_mark _ (by omega)]; rfl
  have f3 : f'.get 3 = .ptr S.length 0 0 := by rw [hf', get_mark _ (by omega)]; rfl
  have f4 : f'.get 4 = .ptr (S.length + 1) 0 0 := by rw [hf', get_mark _ (by omega)]; rfl
  have f5 : f'.get 5 = .ptr (S.length + 2) 0 0 := by rw [hf', get_mark _ (by omega)]; rfl
  have fm : marks f' = [S.length + 3] := by rw [hf', marks_mark]; rfl
  have hlt := get_lt hlp
  have hkT : Keeps S T [] := ⟨by omega, fun r hr _ => hk r hr⟩
  have fin : ∀ (T2 : St) (u : List UInt8), (∀ r, r < S.length → T2[r]? = S[r]?) → T2[S.length + 1]? = some (.live 0 [.fz false u.length (bcells u)]) → T2[S.length + 2]? = some (.live 0 [.int .i64 0]) → T2[S.length + 3]? = some (.loop st pe) → readS on ws i = u →
      shut [S.length + 3] T2 = some (T2.set (S.length + 3) .dead) ∧ (T2.set (S.length + 3) .dead)[S.length + 1]? = some (.live 0 [.fz false (readS on ws i).length (bcells (readS on ws i))]) ∧
      (T2.set (S.length + 3) .dead)[S.length + 2]? = some (.live 0 [.int .i64 0]) ∧ S.length ≤ (T2.set (S.length + 3) .dead).length ∧ ∀ r, r < S.length → (T2.set (S.length + 3) .dead)[r]? = S[r]? := by
    rintro T2 u g1 g2 g3 g4 rfl
    have := get_lt g4
    refine ⟨by simp [shut, g4], by rw [set_get' (by omega)]; exact g2, by rw [set_get' (by omega)]; exact g3, by simp; omega, fun r hr => by rw [set_get' (by omega)]; exact g1 r hr⟩
  rcases hres with ⟨rfl, hnone, hb3, hb4⟩ | ⟨rfl, u, hsome, hb4⟩
  · have hD := h.keep hkT (by simp)
    have hsec := sector_ok hD hn hb hi
    have hcel : cellsOf 1 (.sl ro 0 (i * 256) 256 1) T = some (256, bcells ((on.drop (i * 256)).take 256)) := by
      have h1 : i * 256 + 256 ≤ (bcells on).length := by rw [bcells_len]; omega
      simp [cellsOf, hD.ho, h1, bcells]
      rw [bcells_len] at h1; omega
    have hsl : ((on.drop (i * 256)).take 256).length = 256 := by simp; omega
    have hcl := mClone_ok (S := T) (x := .sl ro 0 (i * 256) 256 1) (u := (on.drop (i * 256)).take 256) rfl (by rw [hsl]; exact hcel) (by omega)
    rw [hsl] at hcl
    have g5 : ∀ b, (T.set (S.length + 1) b)[S.length + 2]? = some (.live 0 [.int .i64 0]) := fun b => by rw [set_get' (by omega)]; exact hb5
    obtain ⟨c1, c2, c3, c4, c5⟩ := fin ((T.set (S.length + 1) (.live 0 [.fz false 256 (bcells ((on.drop (i * 256)).take 256))])).set (S.length + 2) (.live 0 [.int .i64 0])) ((on.drop (i * 256)).take 256)
      (fun r hr => by rw [set_get' (by omega), set_get' (by omega)]; exact hk r hr) (by rw [set_get' (by omega), set_get (by omega), hsl]) (by rw [set_get (by simp; omega)]) (by rw [set_get' (by omega), set_get' (by omega)]; exact hlp) (by simp [readS, hnone])
    have fmm : ∀ v1 v2 v3 v4, marks ((((f'.set 31 v1).set 32 v2).set 33 v3).set 34 v4) = [S.length + 3] := fun v1 v2 v3 v4 => by
      rw [marks_set _ _ (by omega), marks_set _ _ (by omega), marks_set _ _ (by omega), marks_set _ _ (by omega), fm]
    simp only [if_true]
    simp [exM, orc, orcD, evF, evC, evOps, evOper, evAny, evOp, evCall, putR, putA, Fr.ev, Fr.of, Fr.get, Fr.set, stable, junkA, junkL, resultsA, resA, same, Fr.get_set, f0, f3, f4, f5, hb3, hb4, g5, loadA, partA_none, hsec, hcl, storeA, cells?, splice, Post_some, fmm, c1, c2, c3]
    exact ⟨by simpa using c4, c5⟩
  · obtain ⟨c1, c2, c3, c4, c5⟩ := fin T u hk hb4 hb5 hlp (by simp [readS, hsome])
    simp [fm, f4, f5, loadA, partA_none, c1, c2, c3]
    exact ⟨by simpa using c4, c5⟩
end Am.Disk
