import Derived.Test.YtlhbmnhiiicldaaAmDisk7
import Derived.Test.YtlhbmnhiiicldaaAmRefK
import Derived.Test.YtlhbmnhiiicldaaAmDiskH
set_option linter.all false
/- The disk over its heap: what is read, where the reader writes on it. -/
section
namespace Am.Disk
open Am Go Am.Ir
set_option maxRecDepth 100000

variable {S : St} {p ro : Nat} {cw : AVal} {fw : List Nat} {on : List UInt8} {ws : List (Nat × List UInt8)} {lets : Int} {off : Bool}

/-- When it is found: a block of its own. -/
structure RdG (S T : St) (q : Nat) (u : List UInt8) : Prop where
  keep : ∀ r, r < S.length → T[r]? = S[r]?
  hq : S.length + 4 ≤ q
  b4 : T[S.length + 1]? = some (.live 0 [.sl q 1 0 u.length 1])
  nq : T[q]? = some (.live 1 (bcells u))
  b5 : T[S.length + 2]? = some (.live 0 [.int .i64 0])
  lp : T[S.length + 3]? = some (.loop .done (some .ret))

noncomputable def oReadR : Orc := orcD [xHas, xSector, xClone] [] [(nNewest, iNewest)]
/-- 'Read'. -/
noncomputable def yReadR : Model := exM oReadR disk_Read 10

theorem read_roundR {O : Orc} {k : Nat} (hO : O.loc[2]? = some xClone) {f : Fr} {T : St} {i at' : Nat} {b : List UInt8} (hb : b.length ≤ 256) (h : RdI S T i)
    (h3 : f.get 3 = .ptr S.length 0 0) (h4 : f.get 4 = .ptr (S.length + 1) 0 0) (h5 : f.get 5 = .ptr (S.length + 2) 0 0) :
    ∃ T', rnd (evC O k disk_Read_a0) (evC O k disk_Read_r1) [23] f (S.length + 3) [.agg [.int .i64 (at' : Int), .fz false b.length (bcells b)]] T = some (.bool (decide (at' ≠ i)), T') ∧
      (at' ≠ i → RdI S T' i) ∧ (at' = i → RdG S T' (T.length + 1) b) := by
  have l3 := get_lt h.lp
  have ha : evC O k disk_Read_a0 (f.set 23 (.agg [.int .i64 (at' : Int), .fz false b.length (bcells b)])) T =
      some (.normal, (f.set 23 (.agg [.int .i64 (at' : Int), .fz false b.length (bcells b)])).set 6 (.ptr T.length 0 0), T ++ [.live 0 [.int .i64 (at' : Int), .fz false b.length (bcells b)]]) := by
    simp [disk_Read_a0, exM, orc, orcD, evF, evC, evOps, evOper, evAny, evOp, evCall, putR, putA, Fr.ev, Fr.of, Fr.get, Fr.set, stable, junkA, junkL, resultsA, resA, same, Fr.get_set, storeA, cells?, splice]
  obtain ⟨T1, hT1⟩ : ∃ T1 : St, T ++ [.live 0 [.int .i64 (at' : Int), .fz false b.length (bcells b)]] = T1 := ⟨_, rfl⟩
  have hlen1 : T1.length = T.length + 1 := by rw [← hT1]; simp
  have old1 : ∀ r, r < T.length → T1[r]? = T[r]? := fun r hr => by rw [← hT1, get_old hr]
  have new1 : T1[T.length]? = some (.live 0 [.int .i64 (at' : Int), .fz false b.length (bcells b)]) := by rw [← hT1]; exact app_get _ _
  rw [hT1] at ha
  have lp1 : T1[S.length + 3]? = some (.loop .ready none) := by rw [old1 _ l3]; exact h.lp
  obtain ⟨T2, hT2⟩ : ∃ T2 : St, T1.set (S.length + 3) (.loop .busy none) = T2 := ⟨_, rfl⟩
  have hlen2 : T2.length = T.length + 1 := by rw [← hT2]; simp [hlen1]
  have g2 : ∀ r, r ≠ S.length + 3 → T2[r]? = T1[r]? := fun r hr => by rw [← hT2, set_get' hr]
  have lp2 : T2[S.length + 3]? = some (.loop .busy none) := by rw [← hT2]; exact set_get (by omega) _
  have n2 : T2[T.length]? = some (.live 0 [.int .i64 (at' : Int), .fz false b.length (bcells b)]) := by rw [g2 _ (by omega)]; exact new1
  have c3 : T2[S.length]? = some (.live 0 [.int .i64 (i : Int)]) := by rw [g2 _ (by omega), old1 _ (by omega)]; exact h.b3
  have c4 : T2[S.length + 1]? = some (.live 0 [.nils]) := by rw [g2 _ (by omega), old1 _ (by omega)]; exact h.b4
  have c5 : T2[S.length + 2]? = some (.live 0 [.int .i64 0]) := by rw [g2 _ (by omega), old1 _ (by omega)]; exact h.b5
  have ck : ∀ r, r < S.length → T2[r]? = S[r]? := fun r hr => by rw [g2 _ (by omega), old1 _ (by omega)]; exact h.keep r hr
  by_cases e : at' = i
  · have e' : (at' : Int) = (i : Int) := by omega
    have hcl := clone_ok (S := T2) (x := .fz false b.length (bcells b)) (u := b) rfl (fz_cells _ _ _) (by omega)
    rw [hlen2] at hcl
    obtain ⟨T3, hT3⟩ : ∃ T3 : St, T2 ++ [.live 1 (bcells b)] = T3 := ⟨_, rfl⟩
    rw [hT3] at hcl
    have hlen3 : T3.length = T.length + 2 := by rw [← hT3]; simp [hlen2]
    have g3 : ∀ r, r < T.length + 1 → T3[r]? = T2[r]? := fun r hr => by rw [← hT3, get_old (by omega)]
    have n3 : T3[T.length + 1]? = some (.live 1 (bcells b)) := by rw [← hT3, ← hlen2]; exact app_get _ _
    have c4 : T3[S.length + 1]? = some (.live 0 [.nils]) := by rw [g3 _ (by omega)]; exact c4
    have c5' : ∀ bl, (T3.set (S.length + 1) bl)[S.length + 2]? = some (.live 0 [.int .i64 0]) := fun bl => by rw [set_get' (by omega), g3 _ (by omega)]; exact c5
    have hb' : evC O k disk_Read_r1 ((f.set 23 (.agg [.int .i64 (at' : Int), .fz false b.length (bcells b)])).set 6 (.ptr T.length 0 0)) T2 =
        some (.ret, (((((((f.set 23 (.agg [.int .i64 (at' : Int), .fz false b.length (bcells b)])).set 6 (.ptr T.length 0 0)).set 24 (.ptr T.length 0 0)).set 25 (.int .i64 (at' : Int))).set 26 (.int .i64 (i : Int))).set 27 (.bool true)).set 28 (.ptr T.length 0 1)).set 29 (.fz false b.length (bcells b)) |>.set 30 (.sl (T.length + 1) 1 0 b.length 1),
          (T3.set (S.length + 1) (.live 0 [.sl (T.length + 1) 1 0 b.length 1])).set (S.length + 2) (.live 0 [.int .i64 0])) := by
      simp [disk_Read_r1, exM, orc, orcD, evF, evC, evOps, evOper, evAny, evOp, evCall, putR, putA, Fr.ev, Fr.of, Fr.get, Fr.set, stable, junkA, junkL, resultsA, resA, same, Fr.get_set, h3, h4, h5, faddrA, loadA, partA_none, n2, c3, c4, c5', binA, intBin, e', hO, hcl, storeA, cells?, splice]
    refine ⟨((T3.set (S.length + 1) (.live 0 [.sl (T.length + 1) 1 0 b.length 1])).set (S.length + 2) (.live 0 [.int .i64 0])).set (S.length + 3) (.loop .done (some .ret)), ?_, fun hne => absurd e hne, fun _ => ?_⟩
    · have lp3 : ((T3.set (S.length + 1) (.live 0 [.sl (T.length + 1) 1 0 b.length 1])).set (S.length + 2) (.live 0 [.int .i64 0]))[S.length + 3]? = some (.loop .busy none) := by
        rw [set_get' (by omega), set_get' (by omega), g3 _ (by omega)]; exact lp2
      simp only [rnd, List.length_cons, List.length_nil, if_true, h.lp, List.zip_cons_cons, List.zip_nil_left, List.foldl_cons, List.foldl_nil, ha, lp1, hT2, hb', lp3]
      simp [e]
    · refine ⟨fun r hr => ?_, by omega, ?_, ?_, ?_, ?_⟩
      · rw [set_get' (by omega), set_get' (by omega), set_get' (by omega), g3 _ (by omega)]; exact ck r hr
      · rw [set_get' (by omega), set_get' (by omega), set_get (by omega)]
      · rw [set_get' (by omega), set_get' (by omega), set_get' (by omega)]; exact n3
      · rw [set_get' (by omega), set_get (by simp; omega)]
      · rw [set_get (by simp; omega)]
  · have e' : ¬ (at' : Int) = (i : Int) := by omega
    have hb' : evC O k disk_Read_r1 ((f.set 23 (.agg [.int .i64 (at' : Int), .fz false b.length (bcells b)])).set 6 (.ptr T.length 0 0)) T2 =
        some (.normal, (((((f.set 23 (.agg [.int .i64 (at' : Int), .fz false b.length (bcells b)])).set 6 (.ptr T.length 0 0)).set 24 (.ptr T.length 0 0)).set 25 (.int .i64 (at' : Int))).set 26 (.int .i64 (i : Int))).set 27 (.bool ((at' : Int) == (i : Int))), T2) := by
      simp [disk_Read_r1, exM, orc, orcD, evF, evC, evOps, evOper, evAny, evOp, evCall, putR, putA, Fr.ev, Fr.of, Fr.get, Fr.set, stable, junkA, junkL, resultsA, resA, same, Fr.get_set, h3, h4, h5, faddrA, loadA, partA_none, n2, c3, binA, intBin, e']
    refine ⟨T2.set (S.length + 3) (.loop .ready none), ?_, fun _ => ?_, fun he => absurd he e⟩
    · simp only [rnd, List.length_cons, List.length_nil, if_true, h.lp, List.zip_cons_cons, List.zip_nil_left, List.foldl_cons, List.foldl_nil, ha, lp1, hT2, hb', lp2]
      simp [e]
    · refine ⟨fun r hr => ?_, ?_, ?_, ?_, ?_⟩
      · rw [set_get' (by omega)]; exact ck r hr
      · rw [set_get' (by omega)]; exact c3
      · rw [set_get' (by omega)]; exact c4
      · rw [set_get' (by omega)]; exact c5
      · rw [set_get (by omega)]

theorem newest_loopR {O : Orc} {k : Nat} (hO : O.loc[2]? = some xClone) {f : Fr} (h : DiskI S p ro cw fw on ws lets off) {i : Nat} (hw : ∀ w ∈ ws, w.2.length ≤ 256) (hwl : ws.length ≤ 900)
    (h3 : f.get 3 = .ptr S.length 0 0) (h4 : f.get 4 = .ptr (S.length + 1) 0 0) (h5 : f.get 5 = .ptr (S.length + 2) 0 0) {T : St} (hT : RdI S T i) {g : Fr} (hg : NwF g p (S.length + 3) ((ws.length : Int) - 1)) :
    Post (evC { orc [] with yld := rdY O k f (S.length + 3) } 1000 disk_newest_s1 g T) fun e g' T' => (e = .normal ∧ RdI S T' i ∧ newestS ws i = none) ∨ (e = .ret ∧ ∃ r u, RdG S T' r u ∧ newestS ws i = some u) := by
  have hd : ∀ T, RdI S T i → DiskI T p ro cw fw on ws lets off := fun T hT => by
    have hk : Keeps S T [] := ⟨by have := get_lt hT.lp; omega, fun r hr _ => hT.keep r hr⟩
    exact h.keep hk (by simp)
  obtain ⟨e, g', T', h1, h2, h6⟩ := iter_post (step := evC { orc [] with yld := rdY O k f (S.length + 3) } 1000 disk_newest_l0)
    (I := fun m g T => RdI S T i ∧ NwF g p (S.length + 3) ((ws.length : Int) - 1 - m) ∧ newestS ws i = newestS (ws.take (ws.length - m)) i)
    (Q := fun e g T => (e = .exit 0 ∧ RdI S T i ∧ newestS ws i = none) ∨ (e = .ret ∧ ∃ r u, RdG S T r u ∧ newestS ws i = some u)) ws.length
    (by
      rintro m hm g T ⟨g1, g2, g3⟩
      obtain ⟨d, hdm⟩ : ∃ d, ws.length - 1 - m = d := ⟨_, rfl⟩
      obtain ⟨w, hwm⟩ : ∃ w, ws[d]? = some w := ⟨_, List.getElem?_eq_getElem (by omega)⟩
      have hidx : ((ws.length : Int) - 1 - m) = (d : Int) := by omega
      rw [hidx] at g2
      have hDT := hd T g1
      obtain ⟨rw', vw, hq1, hq2, hq3⟩ := wait_ix hDT hwm
      obtain ⟨at', b⟩ := w
      simp only at hq3
      obtain ⟨T', k1, k2, k3⟩ := read_roundR (k := k) hO (f := f) (T := T) (i := i) (at' := at') (b := b) (hw _ (List.mem_of_getElem? hwm)) g1 h3 h4 h5
      have hy : rdY O k f (S.length + 3) (S.length + 3) [.agg [.int .i64 (at' : Int), .fz false b.length (bcells b)]] T = some (.bool (decide (at' ≠ i)), T') := by
        simp only [rdY, if_true]; exact k1
      have hge : binA .geq (.int .i64 (d : Int)) (.int .i64 0) = some (.bool true) := by simp [binA, intBin]
      have hsub : binA .sub (.int .i64 (d : Int)) (.int .i64 1) = some (.int .i64 ((d : Int) - 1)) := by
        simp only [binA, intBin]; rw [if_neg (by simp), if_pos trivial, wrap64 (by omega) (by omega)]
      have htk : ws.length - m = d + 1 := by omega
      have hsucc := newestS_succ (i := i) hwm
      rw [htk] at g3
      by_cases e : at' = i
      · have hd0 : decide (at' ≠ i) = false := by simp [e]
        rw [hd0] at hy
        simp [disk_newest_l0, exM, orc, orcD, evF, evC, evOps, evOper, evAny, evOp, evCall, putR, putA, Fr.ev, Fr.of, Fr.get, Fr.set, stable, junkA, junkL, resultsA, resA, same, Fr.get_set, g2.s0, g2.s1, g2.s4, hge, faddrA, loadA, partA_none, hDT.hp, hq1, hq2, hq3, hy, unA, Post_some]
        exact ⟨_, b, k3 e, by rw [g3, hsucc]; simp [e]⟩
      · have hd0 : decide (at' ≠ i) = true := by simp [e]
        rw [hd0] at hy
        simp [disk_newest_l0, exM, orc, orcD, evF, evC, evOps, evOper, evAny, evOp, evCall, putR, putA, Fr.ev, Fr.of, Fr.get, Fr.set, stable, junkA, junkL, resultsA, resA, same, Fr.get_set, g2.s0, g2.s1, g2.s4, hge, hsub, faddrA, loadA, partA_none, hDT.hp, hq1, hq2, hq3, hy, unA, Post_some]
        refine ⟨k2 e, ⟨?_, ?_, ?_⟩, ?_⟩
        · simp [Fr.get_set, g2.s0]
        · simp [Fr.get_set, g2.s1]
        · simp [Fr.get_set]; omega
        · rw [g3, hsucc]; simp [e]; congr 2; omega)
    (by
      rintro g T ⟨g1, g2, g3⟩
      have hge : binA .geq (.int .i64 ((ws.length : Int) - 1 - ws.length)) (.int .i64 0) = some (.bool false) := by
        simp [binA, intBin]; omega
      have h4 := g2.s4
      simp [disk_newest_l0, exM, orc, orcD, evF, evC, evOps, evOper, evAny, evOp, evCall, putR, putA, Fr.ev, Fr.of, Fr.get, Fr.set, stable, junkA, junkL, resultsA, resA, same, Fr.get_set, h4, hge, Post_some]
      exact ⟨g1, by rw [g3]; simp [newestS]⟩) (fuel := 1000) (by omega) (f := g) (S := T) ⟨hT, by simpa using hg, by simp⟩
  rw [show disk_newest_s1 = .block 0 (.loop disk_newest_l0) from rfl]
  simp only [evC, h1]
  rcases h6 with ⟨rfl, k1, k2⟩ | ⟨rfl, r, u, k1, k2⟩
  · simp [Post_some]; exact ⟨k1, k2⟩
  · simp [Post_some]; exact ⟨r, u, k1, k2⟩

theorem newest_runR {f : Fr} (h : DiskI S p ro cw fw on ws lets off) {i : Nat} (hw : ∀ w ∈ ws, w.2.length ≤ 256) (hwl : ws.length ≤ 900)
    (h3 : f.get 3 = .ptr S.length 0 0) (h4 : f.get 4 = .ptr (S.length + 1) 0 0) (h5 : f.get 5 = .ptr (S.length + 2) 0 0) {T : St} (hT : RdI S T i) :
    ∃ T', iNewest (rdY oReadR 10 f (S.length + 3)) [.ptr p 0 0, .yld (S.length + 3)] T = some (.tup [], T') ∧ ((RdI S T' i ∧ newestS ws i = none) ∨ ∃ q u, RdG S T' q u ∧ newestS ws i = some u) := by
  have hk : Keeps S T [] := ⟨by have := get_lt hT.lp; omega, fun r hr _ => hT.keep r hr⟩
  have hD := h.keep hk (by simp)
  have hwl' : IntKind.i64.wrap ((ws.length : Int) - 1) = (ws.length : Int) - 1 := wrap64 (by omega) (by omega)
  have hsub : binA .sub (.int .i64 (ws.length : Int)) (.int .i64 1) = some (.int .i64 ((ws.length : Int) - 1)) := by
    simp only [binA, intBin]; rw [if_neg (by simp), if_pos trivial, hwl']
  suffices hs : Post (evC { orc [] with yld := rdY oReadR 10 f (S.length + 3) } 1000 disk_newest.body (Fr.of [.ptr p 0 0, .yld (S.length + 3)]) T) (fun e f S1 => (e = .normal ∨ e = .ret) ∧ resultsA f S1 disk_newest.results = some (.tup []) ∧
      ((RdI S S1 i ∧ newestS ws i = none) ∨ ∃ q u, RdG S S1 q u ∧ newestS ws i = some u)) by
    obtain ⟨e, g, T', g1, g2, g3, g4⟩ := hs.ex
    exact ⟨T', evF_post rfl rfl (.of g1 ⟨g2, g3, rfl⟩), g4⟩
  simp only [disk_newest, Post_seq]
  simp [exM, orc, orcD, evF, evC, evOps, evOper, evAny, evOp, evCall, putR, putA, Fr.ev, Fr.of, Fr.get, Fr.set, stable, junkA, junkL, resultsA, resA, same, faddrA, loadA, hD.hp, partA_none, hD.hw.len, hsub, Post_some]
  refine (newest_loopR (O := oReadR) (k := 10) rfl h hw hwl h3 h4 h5 hT ⟨rfl, rfl, rfl⟩).mono ?_
  rintro e g' T' (⟨rfl, k1, k2⟩ | ⟨rfl, q, u, k1, k2⟩)
  · exact ⟨.inl rfl, .inl ⟨k1, k2⟩⟩
  · exact ⟨.inr rfl, .inr ⟨q, u, k1, k2⟩⟩

theorem read_rangeR {f : Fr} (h : DiskI S p ro cw fw on ws lets off) {i : Nat} (hw : ∀ w ∈ ws, w.2.length ≤ 256) (hwl : ws.length ≤ 900) (hm : marks f = [])
    (h3 : f.get 3 = .ptr S.length 0 0) (h4 : f.get 4 = .ptr (S.length + 1) 0 0) (h5 : f.get 5 = .ptr (S.length + 2) 0 0) (h22 : f.get 22 = .fn (.func nNewest) [.ptr p 0 0] []) {S3 : St} (hS3 : S3 = S ++ [.live 0 [.int .i64 (i : Int)], .live 0 [.nils], .live 0 [.int .i64 0]]) :
    Post (evC oReadR 10 disk_Read_b3 f S3) fun e f' T => f' = (markBase + (S.length + 3), .junk) :: f ∧ (∀ r, r < S.length → T[r]? = S[r]?) ∧ (∃ st pe, T[S.length + 3]? = some (.loop st pe)) ∧ T[S.length + 2]? = some (.live 0 [.int .i64 0]) ∧
      ((e = .normal ∧ newestS ws i = none ∧ T[S.length]? = some (.live 0 [.int .i64 (i : Int)]) ∧ T[S.length + 1]? = some (.live 0 [.nils])) ∨
        (e = .ret ∧ ∃ q u, newestS ws i = some u ∧ S.length + 4 ≤ q ∧ T[S.length + 1]? = some (.live 0 [.sl q 1 0 u.length 1]) ∧ T[q]? = some (.live 1 (bcells u)))) := by
  have hl3 : S3.length = S.length + 3 := by rw [hS3]; simp
  have hT : RdI S (S3 ++ [.loop .ready none]) i := by
    subst hS3
    refine ⟨fun r hr => by rw [List.append_assoc, get_old hr], ?_, ?_, ?_, ?_⟩ <;> simp
  obtain ⟨T', k1, k2⟩ := newest_runR (f := f) h hw hwl h3 h4 h5 hT
  have hit : oReadR.itr nNewest = iNewest := rfl
  have hY : (fun j args S' => if j = S3.length then rnd (evC oReadR 10 disk_Read_a0) (evC oReadR 10 disk_Read_r1) [23] f j args S' else none) = rdY oReadR 10 f (S.length + 3) := by
    funext j args S'
    simp only [rdY, hl3]
    split
    · rename_i e; rw [e]
    · rfl
  have hev : evC oReadR 10 disk_Read_g2 f S3 = rngEnd f (S.length + 3) (some (.tup [], T')) := by
    simp only [disk_Read_g2, evC, Fr.ev, h22, hm]
    rw [hit, hY, hl3, List.append_nil, ← k1]; rfl
  have hb3 : evC oReadR 10 disk_Read_b3 f S3 = (match evC oReadR 10 disk_Read_g2 f S3 with | some (.exit id', f', S') => some (if id' = 1 then .normal else .exit id', f', S') | r => r) := rfl
  rw [hb3, hev]
  rcases k2 with ⟨c1, c2⟩ | ⟨q, u, c1, c2⟩
  · have hlt := get_lt c1.lp
    simp only [rngEnd, c1.lp, Post_some]
    refine ⟨by trivial, fun r hr => ?_, ⟨_, _, set_get (by omega) _⟩, ?_, .inl ⟨by trivial, c2, ?_, ?_⟩⟩
    · rw [set_get' (by omega)]; exact c1.keep r hr
    · rw [set_get' (by omega)]; exact c1.b5
    · rw [set_get' (by omega)]; exact c1.b3
    · rw [set_get' (by omega)]; exact c1.b4
  · have hlt := get_lt c1.lp
    simp only [rngEnd, c1.lp, Post_some]
    refine ⟨by trivial, fun r hr => ?_, ⟨_, _, set_get (by omega) _⟩, ?_, .inr ⟨by trivial, q, u, c2, c1.hq, ?_, ?_⟩⟩
    · rw [set_get' (by omega)]; exact c1.keep r hr
    · rw [set_get' (by omega)]; exact c1.b5
    · rw [set_get' (by omega)]; exact c1.b4
    · have := c1.hq
      rw [set_get' (by omega)]; exact c1.nq

theorem readR_off (h : DiskI S p ro cw fw on ws lets true) (i : Int) : ∃ T, yReadR [.ptr p 0 0, .int .i64 i] S = some (.tup [.nils, .int .i64 8], T) ∧ Keeps S T [] := by
  refine ⟨S ++ [.live 0 [.int .i64 i], .live 0 [.nils], .live 0 [.int .i64 8]], ?_, Keeps.append ..⟩
  have hp : ∀ E : St, (S ++ E)[p]? = some (.live 0 [.sl ro 0 0 on.length 1, cw, .int .i64 lets, .bool true]) := fun E => by rw [get_old (live_lt h.hp)]; exact h.hp
  simp [yReadR, oReadR, disk_Read, exM, orc, orcD, evF, evC, evOps, evOper, evAny, evOp, evCall, putR, putA, Fr.ev, Fr.of, Fr.get, Fr.set, stable, junkA, junkL, resultsA, resA, same, eq2, faddrA, loadA, hp, partA_none, cells?, storeA, splice, marks, markBase, shut]

theorem readR_arg (h : DiskI S p ro cw fw on ws lets false) {n : Nat} (hn : on.length = n * 256) (hb : n ≤ 512) (i : Int) (hbad : ¬ (0 ≤ i ∧ i < n)) : ∃ T, yReadR [.ptr p 0 0, .int .i64 i] S = some (.tup [.nils, .int .i64 1], T) ∧ Keeps S T [] := by
  refine ⟨S ++ [.live 0 [.int .i64 i], .live 0 [.nils], .live 0 [.int .i64 1]], ?_, Keeps.append ..⟩
  have hp : ∀ E : St, (S ++ E)[p]? = some (.live 0 [.sl ro 0 0 on.length 1, cw, .int .i64 lets, .bool false]) := fun E => by rw [get_old (live_lt h.hp)]; exact h.hp
  have hh : ∀ E : St, xHas [.ptr p 0 0, .int .i64 i] (S ++ E) = some (.bool false, S ++ E) := fun E => by
    have := has_ok (h.keep (Keeps.append S E) (by simp)) hn hb i
    have h4 : decide (0 ≤ i ∧ i < (n : Int)) = false := by simp; intro h5; omega
    rw [h4] at this; exact this
  simp [yReadR, oReadR, disk_Read, exM, orc, orcD, evF, evC, evOps, evOper, evAny, evOp, evCall, putR, putA, Fr.ev, Fr.of, Fr.get, Fr.set, stable, junkA, junkL, resultsA, resA, same, eq2, faddrA, loadA, hp, hh, unA, partA_none, cells?, storeA, splice, marks, markBase, shut]

theorem readS_len {n : Nat} (hn : on.length = n * 256) (hw : WsOk n ws) {i : Nat} (hi : i < n) : (readS on ws i).length = 256 := by
  unfold readS
  cases hx : newestS ws i with
  | none => simp; omega
  | some u =>
    simp only [newestS, Option.map_eq_some_iff] at hx
    obtain ⟨w, hw1, rfl⟩ := hx
    have := List.mem_of_find?_eq_some hw1
    exact (hw w (by simpa using this)).2

theorem readR_ok (h : DiskI S p ro cw fw on ws lets false) {n : Nat} (hn : on.length = n * 256) (hb : n ≤ 512) (hw : WsOk n ws) (hwl : ws.length ≤ 900) {i : Nat} (hi : i < n) :
    ∃ T q, yReadR [.ptr p 0 0, .int .i64 i] S = some (.tup [.sl q 1 0 256 1, .int .i64 0], T) ∧ S.length ≤ q ∧ T[q]? = some (.live 1 (bcells (readS on ws i))) ∧ Keeps S T [] := by
  have hp : ∀ E : St, (S ++ E)[p]? = some (.live 0 [.sl ro 0 0 on.length 1, cw, .int .i64 lets, .bool false]) := fun E => by rw [get_old (live_lt h.hp)]; exact h.hp
  have hh : ∀ E : St, xHas [.ptr p 0 0, .int .i64 i] (S ++ E) = some (.bool true, S ++ E) := fun E => by
    have := has_ok (h.keep (Keeps.append S E) (by simp)) hn hb i
    have h4 : decide (0 ≤ (i : Int) ∧ (i : Int) < (n : Int)) = true := by simp; omega
    rw [h4] at this; exact this
  have hlen := readS_len hn hw hi
  suffices hs : ∃ T q, yReadR [.ptr p 0 0, .int .i64 i] S = some (.tup [.sl q 1 0 (readS on ws i).length 1, .int .i64 0], T) ∧ S.length ≤ q ∧ T[q]? = some (.live 1 (bcells (readS on ws i))) ∧ S.length ≤ T.length ∧ ∀ r, r < S.length → T[r]? = S[r]? by
    obtain ⟨T, q, h1, h2, h3, h4, h5⟩ := hs
    rw [hlen] at h1
    exact ⟨T, q, h1, h2, h3, h4, fun r hr _ => h5 r hr⟩
  suffices hs : Post (evC oReadR 10 disk_Read.body (Fr.of [.ptr p 0 0, .int .i64 i]) S) (fun e f S1 => (e = .normal ∨ e = .ret) ∧ ∃ T q, shut (marks f) S1 = some T ∧ resultsA f T disk_Read.results = some (.tup [.sl q 1 0 (readS on ws i).length 1, .int .i64 0]) ∧
      S.length ≤ q ∧ T[q]? = some (.live 1 (bcells (readS on ws i))) ∧ S.length ≤ T.length ∧ ∀ r, r < S.length → T[r]? = S[r]?) by
    obtain ⟨e, f, S1, g1, g2, T, q, g3, g4, g5⟩ := hs.ex
    exact ⟨T, q, evF_postR rfl rfl (.of g1 ⟨g2, g3, g4⟩), g5⟩
  simp only [disk_Read, disk_Read_t4, Post_seq]
  simp [exM, orc, orcD, evF, evC, evOps, evOper, evAny, evOp, evCall, putR, putA, Fr.ev, Fr.of, Fr.get, Fr.set, stable, junkA, junkL, resultsA, resA, same, eq2, faddrA, loadA, hp, hh, unA, partA_none, cells?, Post_some, oReadR]
  refine (read_rangeR h (fun w hm => Nat.le_of_eq (hw w hm).2) hwl rfl rfl rfl rfl rfl (i := i) rfl).mono ?_
  rintro e f' T ⟨hf', hk, ⟨st, pe, hlp⟩, hb5, hres⟩
  have mb : (100 : Nat) < markBase := by simp [markBase]
  have f0 : f'.get 0 = .ptr p 0 0 := by rw [hf', get_mark _ (by omega)]; rfl
  have f3 : f'.get 3 = .ptr S.length 0 0 := by rw [hf', get_mark _ (by omega)]; rfl
  have f4 : f'.get 4 = .ptr (S.length + 1) 0 0 := by rw [hf', get_mark _ (by omega)]; rfl
  have f5 : f'.get 5 = .ptr (S.length + 2) 0 0 := by rw [hf', get_mark _ (by omega)]; rfl
  have fm : marks f' = [S.length + 3] := by rw [hf', marks_mark]; rfl
  have hlt := get_lt hlp
  have hkT : Keeps S T [] := ⟨by omega, fun r hr _ => hk r hr⟩
  have fin : ∀ (T2 : St) (q : Nat) (u : List UInt8), (∀ r, r < S.length → T2[r]? = S[r]?) → S.length + 4 ≤ q → T2[q]? = some (.live 1 (bcells u)) → T2[S.length + 1]? = some (.live 0 [.sl q 1 0 u.length 1]) → T2[S.length + 2]? = some (.live 0 [.int .i64 0]) → T2[S.length + 3]? = some (.loop st pe) → readS on ws i = u →
      shut [S.length + 3] T2 = some (T2.set (S.length + 3) .dead) ∧ (T2.set (S.length + 3) .dead)[S.length + 1]? = some (.live 0 [.sl q 1 0 (readS on ws i).length 1]) ∧
      (T2.set (S.length + 3) .dead)[S.length + 2]? = some (.live 0 [.int .i64 0]) ∧ S.length ≤ q ∧ (T2.set (S.length + 3) .dead)[q]? = some (.live 1 (bcells (readS on ws i))) ∧ S.length ≤ (T2.set (S.length + 3) .dead).length ∧ ∀ r, r < S.length → (T2.set (S.length + 3) .dead)[r]? = S[r]? := by
    rintro T2 q u g1 gq gn g2 g3 g4 rfl
    have := get_lt g4
    refine ⟨by simp [shut, g4], by rw [set_get' (by omega)]; exact g2, by rw [set_get' (by omega)]; exact g3, by omega, by rw [set_get' (by omega)]; exact gn, by simp; omega, fun r hr => by rw [set_get' (by omega)]; exact g1 r hr⟩
  rcases hres with ⟨rfl, hnone, hb3, hb4⟩ | ⟨rfl, q, u, hsome, hq, hb4, hnq⟩
  · have hD := h.keep hkT (by simp)
    have hsec := sector_ok hD hn hb hi
    have hcel : cellsOf 1 (.sl ro 0 (i * 256) 256 1) T = some (256, bcells ((on.drop (i * 256)).take 256)) := by
      have h1 : i * 256 + 256 ≤ (bcells on).length := by rw [bcells_len]; omega
      simp [cellsOf, hD.ho, h1, bcells]
      rw [bcells_len] at h1; omega
    have hsl : ((on.drop (i * 256)).take 256).length = 256 := by simp; omega
    have hcl := clone_ok (S := T) (x := .sl ro 0 (i * 256) 256 1) (u := (on.drop (i * 256)).take 256) rfl (by rw [hsl]; exact hcel) (by omega)
    rw [hsl] at hcl
    obtain ⟨U, hU⟩ : ∃ U : St, T ++ [.live 1 (bcells ((on.drop (i * 256)).take 256))] = U := ⟨_, rfl⟩
    rw [hU] at hcl
    have hlU : U.length = T.length + 1 := by rw [← hU]; simp
    have oldU : ∀ r, r < T.length → U[r]? = T[r]? := fun r hr => by rw [← hU, get_old hr]
    have newU : U[T.length]? = some (.live 1 (bcells ((on.drop (i * 256)).take 256))) := by rw [← hU]; exact app_get _ _
    have hb4U : U[S.length + 1]? = some (.live 0 [.nils]) := by rw [oldU _ (by omega)]; exact hb4
    have g5 : ∀ b, (U.set (S.length + 1) b)[S.length + 2]? = some (.live 0 [.int .i64 0]) := fun b => by rw [set_get' (by omega), oldU _ (by omega)]; exact hb5
    obtain ⟨c1, c2, c3, c4, c5, c6, c7⟩ := fin ((U.set (S.length + 1) (.live 0 [.sl T.length 1 0 256 1])).set (S.length + 2) (.live 0 [.int .i64 0])) T.length ((on.drop (i * 256)).take 256)
      (fun r hr => by rw [set_get' (by omega), set_get' (by omega), oldU _ (by omega)]; exact hk r hr) (by omega) (by rw [set_get' (by omega), set_get' (by omega)]; exact newU)
      (by rw [set_get' (by omega), set_get (by omega), hsl]) (by rw [set_get (by simp; omega)]) (by rw [set_get' (by omega), set_get' (by omega), oldU _ (by omega)]; exact hlp) (by simp [readS, hnone])
    have fmm : ∀ v1 v2 v3 v4, marks ((((f'.set 31 v1).set 32 v2).set 33 v3).set 34 v4) = [S.length + 3] := fun v1 v2 v3 v4 => by
      rw [marks_set _ _ (by omega), marks_set _ _ (by omega), marks_set _ _ (by omega), marks_set _ _ (by omega), fm]
    simp only [if_true]
    simp [exM, orc, orcD, evF, evC, evOps, evOper, evAny, evOp, evCall, putR, putA, Fr.ev, Fr.of, Fr.get, Fr.set, stable, junkA, junkL, resultsA, resA, same, Fr.get_set, f0, f3, f4, f5, hb3, hb4U, g5, loadA, partA_none, hsec, hcl, storeA, cells?, splice, Post_some, fmm, c1, c2, c3]
    exact ⟨c4, c5, by simpa using c6, c7⟩
  · obtain ⟨c1, c2, c3, c4, c5, c6, c7⟩ := fin T q u hk hq hnq hb4 hb5 hlp (by simp [readS, hsome])
    simp [fm, f4, f5, loadA, partA_none, c1, c2, c3]
    exact ⟨c4, c5, by simpa using c6, c7⟩
end Am.Disk
end

/- The document's disk: what its functions answer. -/
section
namespace Am.Disk
open Am Go Am.Ir
set_option maxRecDepth 100000

/-- The cells of the document's writes that wait. -/
def wcR (ws : List (Nat × List UInt8)) : List AVal := ws.flatMap fun w => [.int .i64 (w.1 : Int), .str w.2]

theorem wcR_len (ws : List (Nat × List UInt8)) : (wcR ws).length = ws.length * 2 := by
  induction ws with
  | nil => rfl
  | cons w ws ih =>
    have : wcR (w :: ws) = [.int .i64 (w.1 : Int), .str w.2] ++ wcR ws := rfl
    rw [this, List.length_append, ih]; simp; omega

theorem wcR_append (a b : List (Nat × List UInt8)) : wcR (a ++ b) = wcR a ++ wcR b := by simp [wcR]

theorem wcR_get (ws : List (Nat × List UInt8)) (j : Nat) (w : Nat × List UInt8) (h : ws[j]? = some w) : ((wcR ws).drop (j * 2)).take 2 = [.int .i64 (w.1 : Int), .str w.2] := by
  induction ws generalizing j with
  | nil => simp at h
  | cons x ws ih =>
    have hc : wcR (x :: ws) = [.int .i64 (x.1 : Int), .str x.2] ++ wcR ws := rfl
    cases j with
    | zero => simp at h; subst h; rw [hc]; rfl
    | succ j =>
      have h' : ws[j]? = some w := by simpa using h
      rw [hc, show (j + 1) * 2 = j * 2 + 2 from by omega]
      have := ih j h'
      simpa [List.drop_append] using this

theorem flat_wcR (ws : List (Nat × List UInt8)) : ∀ v ∈ wcR ws, flat v = true := by
  intro v hv
  simp only [wcR, List.mem_flatMap, List.mem_cons, List.not_mem_nil, or_false] at hv
  obtain ⟨w, _, rfl | rfl⟩ := hv <;> rfl

/-- What waits, told in place. -/
def WtV (x : AVal) (ws : List (Nat × List UInt8)) : Prop := (x = .nils ∧ ws = []) ∨ x = .fz false ws.length (wcR ws)

variable {x : AVal} {ws : List (Nat × List UInt8)}

theorem WtV.deep (h : WtV x ws) (T : St) (n k : Nat) : Am.deep T n (k + 2) x = some x := by
  rcases h with ⟨rfl, _⟩ | rfl
  · rfl
  · exact deep_fz' (flats_deep T n k (flat_wcR ws))
theorem WtV.closed (h : WtV x ws) (n : Nat) : closedV n x = true := by
  rcases h with ⟨rfl, _⟩ | rfl
  · rfl
  · simp only [closedV]; exact flats_closed (flat_wcR ws) n
theorem WtV.one (h : WtV x ws) : cells? x = some [x] := by rcases h with ⟨rfl, _⟩ | rfl <;> rfl
theorem WtV.len (h : WtV x ws) : lenA .sl x = some (.int .i64 (ws.length : Int)) := by rcases h with ⟨rfl, rfl⟩ | rfl <;> rfl
theorem WtV.cells (h : WtV x ws) (S : St) : cellsOf 2 x S = some (ws.length, wcR ws) := by
  rcases h with ⟨rfl, rfl⟩ | rfl
  · rfl
  · simp [cellsOf, wcR_len]
theorem WtV.ix (h : WtV x ws) {j : Nat} {w : Nat × List UInt8} (hj : ws[j]? = some w) : iaddrSA 2 x (.int .i64 (j : Int)) = some (.fq [.int .i64 (w.1 : Int), .str w.2]) := by
  have hl := (List.getElem?_eq_some_iff.1 hj).1
  rcases h with ⟨rfl, rfl⟩ | rfl
  · simp at hl
  · have h2 : (j : Int) < (ws.length : Int) := by omega
    simp [iaddrSA, h2, wcR_get ws j w hj, wcR_len]

/-- The document's disk, in cells. -/
def rc (secs : List (List UInt8)) (x : AVal) (has : Bool) (fuse : Int) (off : Bool) : List AVal := [svA secs, x, .bool has, .int .i64 fuse, .bool off]

theorem rc_closed (h : WtV x ws) (secs : List (List UInt8)) (has : Bool) (fuse : Int) (off : Bool) : closedV 0 (.agg (rc secs x has fuse off)) = true := by
  simp [closedV, closedL, rc, svA_closed, h.closed 0]

theorem rc_deep (h : WtV x ws) (secs : List (List UInt8)) (has : Bool) (fuse : Int) (off : Bool) (T : St) (k : Nat) : Am.deep T 0 (k + 3) (.agg (rc secs x has fuse off)) = some (.agg (rc secs x has fuse off)) := by
  rw [deep_agg]
  simp [rc, svA_deep, h.deep, deep_int, deep_bool]

noncomputable def mBlankR : Model := pureM 1 (exM (orc []) r04_blank 10)
noncomputable def mSpendR : Model := pureM 5 (exM (orc []) r04_spend 10)
noncomputable def mPutR : Model := pureM 5 (exM (orc [mSpendR]) r04_Put 10)
noncomputable def mFuseR : Model := pureM 5 (exM (orc []) r04_Fuse 10)
noncomputable def mLayR : Model := pureM 1 (exM (orc []) r04_lay 10)

variable {secs : List (List UInt8)} {has off : Bool} {fuse : Int}

theorem fuseR_ok (h : WtV x ws) (f : Int) (S : St) : mFuseR [.agg (rc secs x has fuse off), .int .i64 f] S = some (.agg (rc secs x true (max f 0) off), S) := by
  have hd := rc_deep h secs true (max f 0) off
  refine pureM_run (T := ?_) (v := .agg (rc secs x true (max f 0) off)) (by simp [closedL, closedV, rc, svA_closed, h.closed 0]) ?_ (hd _ 2)
  rotate_left
  · simp [exM, r04_Fuse, exM, orc, orcD, evF, evC, evOps, evOper, evAny, evOp, evCall, putR, putA, Fr.ev, Fr.of, Fr.get, Fr.set, stable, junkA, junkL, resultsA, resA, same, cells_agg, rc, faddrA, storeA, loadA, partA, cells?, splice]
    rfl

/-- A call more. -/
theorem spendR_no (h : WtV x ws) (S : St) : mSpendR [.agg (rc secs x true 0 off)] S = some (.tup [.agg (rc secs x true 0 true), .bool false], S) := by
  have hd := rc_deep h secs true 0 true
  refine pureM_run (T := ?_) (v := .tup [.agg (rc secs x true 0 true), .bool false]) (by simp [closedL, closedV, rc, svA_closed, h.closed 0]) ?_ (by rw [deep_tup]; simp [hd _ 1, deep_bool])
  rotate_left
  · simp [exM, r04_spend, exM, orc, orcD, evF, evC, evOps, evOper, evAny, evOp, evCall, putR, putA, Fr.ev, Fr.of, Fr.get, Fr.set, stable, junkA, junkL, resultsA, resA, same, cells_agg, rc, faddrA, storeA, loadA, partA, cells?, splice, binA, intBin]
    rfl

theorem spendR_has (h : WtV x ws) (h0 : fuse ≠ 0) (h1 : IntKind.i64.wrap (fuse - 1) = fuse - 1) (S : St) : mSpendR [.agg (rc secs x true fuse off)] S = some (.tup [.agg (rc secs x true (fuse - 1) off), .bool true], S) := by
  have hd := rc_deep h secs true (fuse - 1) off
  refine pureM_run (T := ?_) (v := .tup [.agg (rc secs x true (fuse - 1) off), .bool true]) (by simp [closedL, closedV, rc, svA_closed, h.closed 0]) ?_ (by rw [deep_tup]; simp [hd _ 1, deep_bool])
  rotate_left
  · simp [exM, r04_spend, exM, orc, orcD, evF, evC, evOps, evOper, evAny, evOp, evCall, putR, putA, Fr.ev, Fr.of, Fr.get, Fr.set, stable, junkA, junkL, resultsA, resA, same, cells_agg, rc, faddrA, storeA, loadA, partA, cells?, splice, binA, intBin, h0, h1]
    rfl

theorem spendR_not (h : WtV x ws) (S : St) : mSpendR [.agg (rc secs x false fuse off)] S = some (.tup [.agg (rc secs x false fuse off), .bool true], S) := by
  have hd := rc_deep h secs false fuse off
  refine pureM_run (T := ?_) (v := .tup [.agg (rc secs x false fuse off), .bool true]) (by simp [closedL, closedV, rc, svA_closed, h.closed 0]) ?_ (by rw [deep_tup]; simp [hd _ 1, deep_bool])
  rotate_left
  · simp [exM, r04_spend, exM, orc, orcD, evF, evC, evOps, evOper, evAny, evOp, evCall, putR, putA, Fr.ev, Fr.of, Fr.get, Fr.set, stable, junkA, junkL, resultsA, resA, same, cells_agg, rc, faddrA, storeA, loadA, partA, cells?, splice, binA, intBin]
    rfl

theorem layR_ok {s b : List UInt8} {n : Nat} (h1 : n ≤ s.length) (h2 : n ≤ b.length) (h3 : s.length ≤ 1000) (S : St) : mLayR [.str s, .str b, .int .i64 (n : Int)] S = some (.str (b.take n ++ s.drop n), S) := by
  have g1 : (n : Int) ≤ (b.length : Int) := by omega
  have g2 : (n : Int) ≤ (s.length : Int) := by omega
  have g3 : min n b.length + (s.length - n) ≤ 9223372036854775807 := by omega
  refine pureM_run (T := ?_) (v := .str (b.take n ++ s.drop n)) (by simp [closedL, closedV]) ?_ (deep_str ..)
  rotate_left
  · simp [exM, r04_lay, exM, orc, orcD, evF, evC, evOps, evOper, evAny, evOp, evCall, putR, putA, Fr.ev, Fr.of, Fr.get, Fr.set, stable, junkA, junkL, resultsA, resA, same, slcStrA, bounds, binA, strBin, g1, g2, g3]
    rfl

theorem blankR_ok (S : St) : mBlankR [] S = some (.str zero256, S) := by
  refine pureM_run (T := ?_) (v := .str zero256) rfl ?_ (deep_str ..)
  rotate_left
  · have hb : ∀ T : St, bytesA (.sl 0 0 0 256 1) (ABlock.live 0 (bcells zero256) :: T) = some zero256 := fun T => by
      have hc : cellsOf 1 (.sl 0 0 0 256 1) (ABlock.live 0 (bcells zero256) :: T) = some (256, bcells zero256) := by
        simp [cellsOf, bcells_len, zero256_len]
        rw [List.take_of_length_le (by simp [bcells_len, zero256_len])]
      simp only [bytesA, hc, asBytes_bcells]
    simp [exM, r04_blank, exM, orc, orcD, evF, evC, evOps, evOper, evAny, evOp, evCall, putR, putA, Fr.ev, Fr.of, Fr.get, Fr.set, stable, junkA, junkL, resultsA, resA, same, mk256, hb]
    rfl
end Am.Disk
end

/- The document's disk: Put. -/
section
namespace Am.Disk
open Am Go Am.Ir
set_option maxRecDepth 100000

variable {x : AVal} {ws : List (Nat × List UInt8)} {secs : List (List UInt8)} {has off : Bool} {fuse : Int}

theorem fzb_closed (fl : Bool) (u : List UInt8) (n : Nat) : closedV n (.fz fl u.length (bcells u)) = true := by
  simp only [closedV]; exact closed_bcells n u

theorem putR_off (h : WtV x ws) (i : Int) {b : AVal} (hb : closedV 0 b = true) (hb1 : cells? b = some [b]) (S : St) : mPutR [.agg (rc secs x has fuse true), .int .i64 i, b] S = some (.tup [.agg (rc secs x has fuse true), .int .i64 8], S) := by
  have hd := rc_deep h secs has fuse true
  refine pureM_run (T := ?_) (v := .tup [.agg (rc secs x has fuse true), .int .i64 8]) (by simp [closedL, closedV, rc, svA_closed, h.closed 0, hb]) ?_ (by rw [deep_tup]; simp [hd _ 1, deep_int])
  rotate_left
  · simp [exM, r04_Put, exM, orc, orcD, evF, evC, evOps, evOper, evAny, evOp, evCall, putR, putA, Fr.ev, Fr.of, Fr.get, Fr.set, stable, junkA, junkL, resultsA, resA, same, cells_agg, rc, faddrA, storeA, loadA, partA, cells?, splice]
    rfl

theorem putR_arg (h : WtV x ws) (i : Int) {b : AVal} {m : Nat} (hb : closedV 0 b = true) (hl : lenA .sl b = some (.int .i64 (m : Int))) (hbad : ¬ (0 ≤ i ∧ i < (secs.length : Int)) ∨ m ≠ 256) (S : St) :
    mPutR [.agg (rc secs x has fuse false), .int .i64 i, b] S = some (.tup [.agg (rc secs x has fuse false), .int .i64 1], S) := by
  have hd := rc_deep h secs has fuse false
  refine pureM_run (T := [.live 0 (rc secs x has fuse false), .live 0 (rc secs x has fuse false)]) (v := .tup [.agg (rc secs x has fuse false), .int .i64 1]) (by simp [closedL, closedV, rc, svA_closed, h.closed 0, hb]) ?_ (by rw [deep_tup]; simp [hd _ 1, deep_int])
  · by_cases h1 : i < 0
    · simp [exM, r04_Put, exM, orc, orcD, evF, evC, evOps, evOper, evAny, evOp, evCall, putR, putA, Fr.ev, Fr.of, Fr.get, Fr.set, stable, junkA, junkL, resultsA, resA, same, cells_agg, rc, faddrA, storeA, loadA, partA, cells?, splice, binA, intBin, h1]
    · by_cases h2 : (secs.length : Int) ≤ i
      · simp [exM, r04_Put, exM, orc, orcD, evF, evC, evOps, evOper, evAny, evOp, evCall, putR, putA, Fr.ev, Fr.of, Fr.get, Fr.set, stable, junkA, junkL, resultsA, resA, same, cells_agg, rc, faddrA, storeA, loadA, partA, cells?, splice, binA, intBin, svA_len, h1, h2]
      · have h3 : ¬ ((m : Int) = 256) := by omega
        simp [exM, r04_Put, exM, orc, orcD, evF, evC, evOps, evOper, evAny, evOp, evCall, putR, putA, Fr.ev, Fr.of, Fr.get, Fr.set, stable, junkA, junkL, resultsA, resA, same, cells_agg, rc, faddrA, storeA, loadA, partA, cells?, splice, binA, intBin, svA_len, hl, h1, h2, h3]

theorem putR_fuse (h : WtV x ws) (i : Int) {b : AVal} (hb : closedV 0 b = true) (hl : lenA .sl b = some (.int .i64 256)) (h1 : 0 ≤ i) (h2 : i < (secs.length : Int)) (S : St) :
    mPutR [.agg (rc secs x true 0 false), .int .i64 i, b] S = some (.tup [.agg (rc secs x true 0 true), .int .i64 8], S) := by
  have hd := rc_deep h secs true 0 true
  have hsp := fun S => spendR_no (secs := secs) (off := false) h S
  simp only [rc] at hsp
  have h1' : ¬ i < 0 := by omega
  have h2' : ¬ (secs.length : Int) ≤ i := by omega
  refine pureM_run (T := ?_) (v := .tup [.agg (rc secs x true 0 true), .int .i64 8]) (by simp [closedL, closedV, rc, svA_closed, h.closed 0, hb]) ?_ (by rw [deep_tup]; simp [hd _ 1, deep_int])
  rotate_left
  · simp [exM, r04_Put, exM, orc, orcD, evF, evC, evOps, evOper, evAny, evOp, evCall, putR, putA, Fr.ev, Fr.of, Fr.get, Fr.set, stable, junkA, junkL, resultsA, resA, same, cells_agg, rc, faddrA, storeA, loadA, partA, cells?, splice, binA, intBin, svA_len, hl, h1', h2', hsp, unA]
    rfl

theorem putR_ok (h : WtV x ws) {i : Nat} {u : List UInt8} (hu : u.length = 256) (h2 : i < secs.length) (hw : ws.length ≤ 900) {fuse' : Int}
    (hsp : ∀ S, mSpendR [.agg (rc secs x has fuse false)] S = some (.tup [.agg (rc secs x has fuse' false), .bool true], S)) (S : St) :
    mPutR [.agg (rc secs x has fuse false), .int .i64 i, .fz false u.length (bcells u)] S = some (.tup [.agg (rc secs (.fz false (ws ++ [(i, u)]).length (wcR (ws ++ [(i, u)]))) has fuse' false), .int .i64 0], S) := by
  have hx' : WtV (.fz false (ws ++ [(i, u)]).length (wcR (ws ++ [(i, u)]))) (ws ++ [(i, u)]) := .inr rfl
  have hl : lenA .sl (.fz false u.length (bcells u)) = some (.int .i64 256) := by rw [← show ((u.length : Nat) : Int) = 256 by omega]; rfl
  simp only [rc] at hsp
  have h1' : ¬ (i : Int) < 0 := by omega
  have h2' : ¬ (secs.length : Int) ≤ i := by omega
  have hby : ∀ T : St, bytesA (.fz false u.length (bcells u)) T = some u := fun T => by simp only [bytesA, fz_cells, asBytes_bcells]
  have hc := fun T => h.cells T
  have e1 : ws.length ≤ 140737488355328 := by omega
  have e2 : ws.length + 1 ≤ 140737488355328 := by omega
  have hw1 : List.take (ws.length * 2) (wcR ws) = wcR ws := List.take_of_length_le (by rw [wcR_len]; exact Nat.le_refl _)
  have hx1 := h.one
  have hap1 : ∀ B0 B1, appendA 2 24 (.sl 2 0 0 0 2) x [B0, B1, .live 0 []] = some (.sl 2 1 0 ws.length 2, [B0, B1, .live 1 (wcR ws)]) := fun B0 B1 => by
    have e3 : ws.length * 24 ≤ 140737488355328 := by omega
    simp [appendA, hc, e3]
  have hap2 : ∀ B0 B1, appendA 2 24 (.sl 2 1 0 ws.length 2) (.sl 3 0 0 1 2) [B0, B1, .live 1 (wcR ws), .live 0 [.int .i64 (i : Int), .str u]] = some (.sl 2 2 0 (ws.length + 1) 2, [B0, B1, .live 2 (wcR (ws ++ [(i, u)])), .live 0 [.int .i64 (i : Int), .str u]]) := fun B0 B1 => by
    have e3 : (ws.length + 1) * 24 ≤ 140737488355328 := by omega
    have e4 : wcR (ws ++ [(i, u)]) = wcR ws ++ [.int .i64 (i : Int), .str u] := by rw [wcR_append]; rfl
    simp [appendA, cellsOf, wcR_len, hw1, e3, e4]
  have hT : ∃ B0 B1 B3, exM (orc [mSpendR]) r04_Put 10 [.agg (rc secs x has fuse false), .int .i64 i, .fz false u.length (bcells u)] [] = some (.tup [.agg [svA secs, .sl 2 2 0 (ws.length + 1) 2, .bool has, .int .i64 fuse', .bool false], .int .i64 0], [B0, B1, .live 2 (wcR (ws ++ [(i, u)])), B3]) := by
    simp [exM, r04_Put, exM, orc, orcD, evF, evC, evOps, evOper, evAny, evOp, evCall, putR, putA, Fr.ev, Fr.of, Fr.get, Fr.set, stable, junkA, junkL, resultsA, resA, same, cells_agg, rc, faddrA, storeA, loadA, partA, cells?, splice, binA, intBin, svA_len, hl, h1', h2', hsp, unA, fillA, hap1, hap2, hby]
  obtain ⟨B0, B1, B3, hT⟩ := hT
  refine pureM_run (by simp [closedL, closedV, rc, svA_closed, h.closed 0]; exact closed_bcells 0 u) hT ?_
  have hsl : deep [B0, B1, .live 2 (wcR (ws ++ [(i, u)])), B3] 0 3 (.sl 2 2 0 (ws.length + 1) 2) = some (.fz false (ws ++ [(i, u)]).length (wcR (ws ++ [(i, u)]))) := by
    rw [deep_sl (cells := wcR (ws ++ [(i, u)])) (cs := wcR (ws ++ [(i, u)])) (Nat.zero_le _) rfl (by rw [wcR_len]; simp)]
    · simp
    · rw [List.drop_zero, List.take_of_length_le (by rw [wcR_len]; simp)]
      exact flats_deep _ _ _ (flat_wcR _)
  rw [deep_tup]
  simp [deep_agg, rc, svA_deep, hsl, deep_int, deep_bool]
end Am.Disk
end

/- The document's disk: Flush, Crash. -/
section
namespace Am.Disk
open Am Go Am.Ir
set_option maxRecDepth 100000

variable {x : AVal} {ws : List (Nat × List UInt8)} {secs : List (List UInt8)} {has off : Bool} {fuse : Int}

theorem splice_one {l : List AVal} {i : Nat} (h : i < l.length) (v : AVal) : splice l i [v] = l.set i v := by
  rw [List.set_eq_take_append_cons_drop, if_pos h]; simp [splice]

theorem splice_sc {L : List (List UInt8)} {i : Nat} (h : i < L.length) (s : List UInt8) : splice (scells L) i [.str s] = scells (L.set i s) := by
  rw [splice_one (by simpa [scells] using h), scells_set]

theorem sl_ix {T : St} {r v n i : Nat} (h : i < n) : iaddrSA 1 (.sl r v 0 n 1) (.int .i64 (i : Int)) = some (.ptr r v i) := by
  have h2 : (i : Int) < (n : Int) := by omega
  simp [iaddrSA, h2]

def flushR (secs : List (List UInt8)) (ws : List (Nat × List UInt8)) : List (List UInt8) := ws.foldl (fun s w => s.set w.1 w.2) secs

theorem flushR_len (ws : List (Nat × List UInt8)) : ∀ secs : List (List UInt8), (flushR secs ws).length = secs.length := by
  induction ws with
  | nil => intro _; rfl
  | cons w ws ih => intro secs; show (flushR (secs.set w.1 w.2) ws).length = _; rw [ih]; simp

theorem flushR_succ (secs : List (List UInt8)) {j : Nat} {w} (h : ws[j]? = some w) : flushR secs (ws.take (j + 1)) = (flushR secs (ws.take j)).set w.1 w.2 := by
  rw [take_succ h]; simp [flushR]

/-- The slots of the document's loop over what waits. -/
structure RfF (f : Fr) (j n : Nat) : Prop where
  s1 : f.get 1 = .ptr 0 0 0
  s2 : f.get 2 = .ptr 1 0 0
  s5 : f.get 5 = .sl 2 1 0 n 1
  s6 : f.get 6 = .int .i64 (j : Int)

theorem flushR_round (h : WtV x ws) {O : Orc} {k j : Nat} {f : Fr} {B1 : ABlock} {l : List (List UInt8)} {w : Nat × List UInt8} (hj : ws[j]? = some w) (hw : w.1 < l.length) (hb : ws.length ≤ 900) (hf : RfF f j l.length) :
    Post (evC O k r04_Flush_l0 f [.live 0 (rc secs x has fuse off), B1, .live 1 (scells l)]) fun e f' T => e = .normal ∧ T = [.live 0 (rc secs x has fuse off), B1, .live 1 (scells (l.set w.1 w.2))] ∧ RfF f' (j + 1) l.length := by
  have hlt := (List.getElem?_eq_some_iff.1 hj).1
  have hjl : (j : Int) < (ws.length : Int) := by omega
  have hwj : IntKind.i64.wrap ((j : Int) + 1) = (j : Int) + 1 := wrap64 (by omega) (by omega)
  have hix := h.ix hj
  have hsl : iaddrSA 1 (.sl 2 1 0 l.length 1) (.int .i64 (w.1 : Int)) = some (.ptr 2 1 w.1) := sl_ix (T := []) hw
  have hsp := splice_sc hw w.2
  have hln : w.1 + 1 ≤ (scells l).length := by rw [scells_len]; omega
  suffices hmid : Post (evC O k r04_Flush_l0 f [.live 0 (rc secs x has fuse off), B1, .live 1 (scells l)]) (fun e f' T => e = .normal ∧ T = [.live 0 (rc secs x has fuse off), B1, .live 1 (scells (l.set w.1 w.2))] ∧ f'.get 1 = .ptr 0 0 0 ∧ f'.get 2 = .ptr 1 0 0 ∧ f'.get 5 = .sl 2 1 0 l.length 1 ∧ f'.get 6 = .int .i64 ((j : Int) + 1)) by
    refine hmid.mono ?_
    rintro e f' T ⟨h1, h2, h3, h4, h5, h6⟩
    exact ⟨h1, h2, ⟨h3, h4, h5, by rw [h6]; simp⟩⟩
  simp [r04_Flush_l0, exM, orc, orcD, evF, evC, evOps, evOper, evAny, evOp, evCall, putR, putA, Fr.ev, Fr.of, Fr.get, Fr.set, stable, junkA, junkL, resultsA, resA, same, Fr.get_set, hf.s1, hf.s2, hf.s5, hf.s6, rc, faddrA, loadA, partA, h.len, binA, intBin, hjl, hix, hsl, storeA, cells?, hsp, hln, hwj, Post_some]

theorem flushR_loop (h : WtV x ws) {O : Orc} {f : Fr} {B1 : ABlock} (hw : ∀ w ∈ ws, w.1 < secs.length) (hb : ws.length ≤ 900) (hf : RfF f 0 secs.length) :
    Post (evC O 1000 r04_Flush_s1 f [.live 0 (rc secs x has fuse off), B1, .live 1 (scells secs)]) fun e f' T => e = .normal ∧ T = [.live 0 (rc secs x has fuse off), B1, .live 1 (scells (flushR secs ws))] ∧ f'.get 1 = .ptr 0 0 0 ∧ f'.get 2 = .ptr 1 0 0 ∧ f'.get 5 = .sl 2 1 0 secs.length 1 := by
  obtain ⟨f', S', h1, h2⟩ := loop_post (O := O) (k := 1000) (id := 0) (b := r04_Flush_l0) (I := fun j f T => T = [.live 0 (rc secs x has fuse off), B1, .live 1 (scells (flushR secs (ws.take j)))] ∧ RfF f j secs.length)
    (Q := fun f' T => T = [.live 0 (rc secs x has fuse off), B1, .live 1 (scells (flushR secs ws))] ∧ f'.get 1 = .ptr 0 0 0 ∧ f'.get 2 = .ptr 1 0 0 ∧ f'.get 5 = .sl 2 1 0 secs.length 1) ws.length (by omega)
    (by
      rintro j hj f T ⟨rfl, g2⟩
      obtain ⟨w, hwj⟩ : ∃ w, ws[j]? = some w := ⟨_, List.getElem?_eq_getElem hj⟩
      have hl := flushR_len (ws.take j) secs
      refine (flushR_round h hwj (by rw [hl]; exact hw w (List.mem_of_getElem? hwj)) hb (by rw [hl]; exact g2)).mono ?_
      rintro e f' S' ⟨rfl, k1, k2⟩
      rw [hl] at k2
      exact ⟨rfl, by rw [flushR_succ secs hwj]; exact k1, k2⟩)
    (by
      rintro f T ⟨rfl, g2⟩
      rw [List.take_of_length_le (Nat.le_refl _)]
      have : ¬ ((ws.length : Int) < (ws.length : Int)) := by omega
      simp [r04_Flush_l0, exM, orc, orcD, evF, evC, evOps, evOper, evAny, evOp, evCall, putR, putA, Fr.ev, Fr.of, Fr.get, Fr.set, stable, junkA, junkL, resultsA, resA, same, Fr.get_set, g2.s1, g2.s2, g2.s5, g2.s6, rc, faddrA, loadA, partA, h.len, binA, intBin, Post_some])
    (f := f) (S := [.live 0 (rc secs x has fuse off), B1, .live 1 (scells secs)]) ⟨rfl, hf⟩
  rw [show r04_Flush_s1 = .block 0 (.loop r04_Flush_l0) from rfl, h1]
  exact Post.of rfl ⟨rfl, h2⟩

noncomputable def xFlushR : Model := exM (orc [mSpendR]) r04_Flush 1000
noncomputable def mFlushR : Model := pureM 5 xFlushR

theorem flushR_off (h : WtV x ws) (S : St) : mFlushR [.agg (rc secs x has fuse true)] S = some (.tup [.agg (rc secs x has fuse true), .int .i64 8], S) := by
  have hd := rc_deep h secs has fuse true
  refine pureM_run (T := ?_) (v := .tup [.agg (rc secs x has fuse true), .int .i64 8]) (by simp [closedL, closedV, rc, svA_closed, h.closed 0]) ?_ (by rw [deep_tup]; simp [hd _ 1, deep_int])
  rotate_left
  · simp [xFlushR, r04_Flush, exM, orc, orcD, evF, evC, evOps, evOper, evAny, evOp, evCall, putR, putA, Fr.ev, Fr.of, Fr.get, Fr.set, stable, junkA, junkL, resultsA, resA, same, cells_agg, rc, faddrA, storeA, loadA, partA, cells?, splice]
    rfl

theorem flushR_fuse (h : WtV x ws) (S : St) : mFlushR [.agg (rc secs x true 0 false)] S = some (.tup [.agg (rc secs x true 0 true), .int .i64 8], S) := by
  have hd := rc_deep h secs true 0 true
  have hsp := fun S => spendR_no (secs := secs) (off := false) h S
  simp only [rc] at hsp
  refine pureM_run (T := ?_) (v := .tup [.agg (rc secs x true 0 true), .int .i64 8]) (by simp [closedL, closedV, rc, svA_closed, h.closed 0]) ?_ (by rw [deep_tup]; simp [hd _ 1, deep_int])
  rotate_left
  · simp [xFlushR, r04_Flush, exM, orc, orcD, evF, evC, evOps, evOper, evAny, evOp, evCall, putR, putA, Fr.ev, Fr.of, Fr.get, Fr.set, stable, junkA, junkL, resultsA, resA, same, cells_agg, rc, faddrA, storeA, loadA, partA, cells?, splice, hsp, unA]
    rfl

theorem app_sc (B0 B1 : ABlock) (hl : secs.length ≤ 512) : appendA 1 16 (.sl 2 0 0 0 1) (svA secs) [B0, B1, .live 0 []] = some (.sl 2 1 0 secs.length 1, [B0, B1, .live 1 (scells secs)]) := by
  have e3 : secs.length * 16 ≤ 140737488355328 := by omega
  simp [appendA, svA_cells, e3]

theorem deep_scs (B0 B1 : ABlock) (l : List (List UInt8)) (k : Nat) : deep [B0, B1, .live 1 (scells l)] 0 (k + 2) (.sl 2 1 0 l.length 1) = some (svA l) := by
  rw [deep_sl (cells := scells l) (cs := scells l) (Nat.zero_le _) rfl (by rw [scells_len]; simp)]
  · rfl
  · rw [List.drop_zero, List.take_of_length_le (by rw [scells_len]; simp)]
    exact flats_deep _ _ _ (flat_scells _)

theorem flushR_ok (h : WtV x ws) (hw : ∀ w ∈ ws, w.1 < secs.length) (hb : ws.length ≤ 900) (hl : secs.length ≤ 512) {fuse' : Int}
    (hsp : ∀ S, mSpendR [.agg (rc secs x has fuse false)] S = some (.tup [.agg (rc secs x has fuse' false), .bool true], S)) (S : St) :
    mFlushR [.agg (rc secs x has fuse false)] S = some (.tup [.agg (rc (flushR secs ws) .nils has fuse' false), .int .i64 0], S) := by
  simp only [rc] at hsp
  have hap := fun B0 B1 => app_sc (secs := secs) B0 B1 hl
  have hT : ∃ B0 B1, xFlushR [.agg (rc secs x has fuse false)] [] = some (.tup [.agg [.sl 2 1 0 secs.length 1, .nils, .bool has, .int .i64 fuse', .bool false], .int .i64 0], [B0, B1, .live 1 (scells (flushR secs ws))]) := by
    suffices hs : Post (evC (orc [mSpendR]) 1000 r04_Flush.body (Fr.of [.agg (rc secs x has fuse false)]) []) (fun e f S1 => (e = .normal ∨ e = .ret) ∧ resultsA f S1 r04_Flush.results = some (.tup [.agg [.sl 2 1 0 secs.length 1, .nils, .bool has, .int .i64 fuse', .bool false], .int .i64 0]) ∧ ∃ B0 B1, S1 = [B0, B1, .live 1 (scells (flushR secs ws))]) by
      obtain ⟨e, f, S1, g1, g2, g3, B0, B1, rfl⟩ := hs.ex
      exact ⟨B0, B1, evF_post rfl rfl (Post.of g1 ⟨g2, g3, rfl⟩)⟩
    simp only [r04_Flush, r04_Flush_t2, Post_seq]
    simp [exM, orc, orcD, evF, evC, evOps, evOper, evAny, evOp, evCall, putR, putA, Fr.ev, Fr.of, Fr.get, Fr.set, stable, junkA, junkL, resultsA, resA, same, cells_agg, rc, faddrA, storeA, loadA, partA, cells?, splice, hsp, unA, fillA, hap, Post_some]
    refine (flushR_loop (has := has) (fuse := fuse') (off := false) h hw hb ⟨rfl, rfl, rfl, rfl⟩).mono ?_
    rintro e f T ⟨rfl, rfl, k1, k2, k3⟩
    simp [exM, orc, orcD, evF, evC, evOps, evOper, evAny, evOp, evCall, putR, putA, Fr.ev, Fr.of, Fr.get, Fr.set, stable, junkA, junkL, resultsA, resA, same, Fr.get_set, k1, k2, k3, rc, faddrA, storeA, loadA, partA, cells?, splice, Post_some]
  obtain ⟨B0, B1, hT⟩ := hT
  refine pureM_run (by simp [closedL, closedV, rc, svA_closed, h.closed 0]) hT ?_
  have hl2 := flushR_len ws secs
  have hsl := deep_scs B0 B1 (flushR secs ws) 1
  rw [hl2] at hsl
  rw [deep_tup]
  simp [deep_agg, rc, hsl, deep_int, deep_bool, deep_nils]
end Am.Disk
end

/- The document's disk: Crash. -/
section
namespace Am.Disk
open Am Go Am.Ir
set_option maxRecDepth 100000

variable {x : AVal} {ws : List (Nat × List UInt8)} {secs : List (List UInt8)} {has off : Bool} {fuse : Int}

theorem IntV.closed {b : AVal} {u : List Int} (h : IntV b u) (n : Nat) : closedV n b = true := by
  rcases h with ⟨rfl, _⟩ | rfl
  · rfl
  · simp only [closedV, closedL_iff]
    intro c hc
    obtain ⟨s, _, rfl⟩ := List.mem_map.1 hc
    rfl

theorem ByteV.closed {b : AVal} {u : List UInt8} (h : ByteV b u) (n : Nat) : closedV n b = true := by
  rcases h with ⟨rfl, _⟩ | rfl
  · rfl
  · exact fzb_closed false u n

def crashR (K : List Int) (secs : List (List UInt8)) (ws : List (Nat × List UInt8)) : List (List UInt8) :=
  ws.zipIdx.foldl (fun s p => s.set p.1.1 (p.1.2.take (cutN K p.2) ++ (s.getD p.1.1 []).drop (cutN K p.2))) secs

theorem crashR_succ (K : List Int) (secs : List (List UInt8)) (ws : List (Nat × List UInt8)) {j : Nat} {w} (h : ws[j]? = some w) :
    crashR K secs (ws.take (j + 1)) = (crashR K secs (ws.take j)).set w.1 (w.2.take (cutN K j) ++ ((crashR K secs (ws.take j)).getD w.1 []).drop (cutN K j)) := by
  have hl := (List.getElem?_eq_some_iff.1 h).1
  have hlen : (ws.take j).length = j := by simp; omega
  simp only [crashR, take_succ h, List.zipIdx_append, List.foldl_append, hlen, Nat.zero_add]
  rfl

/-- All sectors are whole. -/
def Whole (secs : List (List UInt8)) : Prop := ∀ s ∈ secs, s.length = 256

theorem Whole.get (h : Whole secs) {i : Nat} (hi : i < secs.length) : ∃ s, secs[i]? = some s ∧ s.length = 256 := ⟨secs[i], List.getElem?_eq_getElem hi, h _ (List.getElem_mem hi)⟩

theorem Whole.set (h : Whole secs) (i : Nat) {b : List UInt8} (hb : b.length = 256) : Whole (secs.set i b) := by
  intro s hs
  rcases List.mem_or_eq_of_mem_set hs with h1 | rfl
  · exact h s h1
  · exact hb

theorem crashR_whole (K : List Int) (hs : Whole secs) (hw : WsOk secs.length ws) : ∀ j, (crashR K secs (ws.take j)).length = secs.length ∧ Whole (crashR K secs (ws.take j)) := by
  intro j
  induction j with
  | zero => exact ⟨rfl, hs⟩
  | succ j ih =>
    cases h : ws[j]? with
    | none =>
      have hl := List.getElem?_eq_none_iff.1 h
      rw [List.take_of_length_le (by omega)]
      rw [List.take_of_length_le hl] at ih; exact ih
    | some w =>
      rw [crashR_succ K secs ws h]
      obtain ⟨h1, h2⟩ := hw w (List.mem_of_getElem? h)
      obtain ⟨s, g1, g2⟩ := ih.2.get (i := w.1) (by rw [ih.1]; exact h1)
      have := cutN_le K j
      refine ⟨by simp [ih.1], ih.2.set _ ?_⟩
      simp [List.getD, g1, g2, h2]; omega

structure RkF (f : Fr) (k : AVal) (j n : Nat) : Prop where
  s1 : f.get 1 = k
  s2 : f.get 2 = .ptr 0 0 0
  s4 : f.get 4 = .ptr 1 0 0
  s5 : f.get 5 = .sl 2 1 0 n 1
  s6 : f.get 6 = .int .i64 (j : Int)

theorem crashR_round (h : WtV x ws) {k' : AVal} {K : List Int} (hk : Ints k' K) {O : Orc} {k j : Nat} (hO : O.loc[0]? = some mLayR) {f : Fr} {B1 : ABlock} {l : List (List UInt8)} {w : Nat × List UInt8} {s : List UInt8} (hj : ws[j]? = some w) (hjk : j < K.length) (hw : w.2.length = 256) (hs : l[w.1]? = some s) (hs2 : s.length = 256)
    (hb : ws.length ≤ 900) (hf : RkF f k' j l.length) :
    Post (evC O k r04_Crash_l0 f [.live 0 (rc secs x has fuse off), B1, .live 1 (scells l)]) fun e f' T => e = .normal ∧ T = [.live 0 (rc secs x has fuse off), B1, .live 1 (scells (l.set w.1 (w.2.take (cutN K j) ++ s.drop (cutN K j))))] ∧ RkF f' k' (j + 1) l.length := by
  have hlt := (List.getElem?_eq_some_iff.1 hj).1
  have hwl := (List.getElem?_eq_some_iff.1 hs).1
  have hjl : (j : Int) < (ws.length : Int) := by omega
  have hjl2 : (j : Int) < (K.length : Int) := by omega
  have hwj : IntKind.i64.wrap ((j : Int) + 1) = (j : Int) + 1 := wrap64 (by omega) (by omega)
  have hix := h.ix hj
  obtain ⟨y, hy⟩ : ∃ y, K[j]? = some y := ⟨_, List.getElem?_eq_getElem hjk⟩
  have hky := hk.ix j y hy
  have hkl := hk.len
  have hcut : min (max y 0) 256 = ((cutN K j : Nat) : Int) := by simp only [cutN, hy]; omega
  have hcl := cutN_le K j
  have hlay := fun T => layR_ok (s := s) (b := w.2) (n := cutN K j) (by omega) (by omega) (by omega) T
  have hsl : iaddrSA 1 (.sl 2 1 0 l.length 1) (.int .i64 (w.1 : Int)) = some (.ptr 2 1 w.1) := sl_ix (T := []) hwl
  have hsp := splice_sc hwl (w.2.take (cutN K j) ++ s.drop (cutN K j))
  have hln : w.1 + 1 ≤ (scells l).length := by rw [scells_len]; omega
  have hgt := scells_get hs
  suffices hmid : Post (evC O k r04_Crash_l0 f [.live 0 (rc secs x has fuse off), B1, .live 1 (scells l)]) (fun e f' T => e = .normal ∧ T = [.live 0 (rc secs x has fuse off), B1, .live 1 (scells (l.set w.1 (w.2.take (cutN K j) ++ s.drop (cutN K j))))] ∧ f'.get 1 = k' ∧ f'.get 2 = .ptr 0 0 0 ∧ f'.get 4 = .ptr 1 0 0 ∧ f'.get 5 = .sl 2 1 0 l.length 1 ∧ f'.get 6 = .int .i64 ((j : Int) + 1)) by
    refine hmid.mono ?_
    rintro e f' T ⟨h1, h2, h3, h4, h5, h6, h7⟩
    exact ⟨h1, h2, ⟨h3, h4, h5, h6, by rw [h7]; simp⟩⟩
  simp [r04_Crash_l0, exM, orc, orcD, evF, evC, evOps, evOper, evAny, evOp, evCall, putR, putA, Fr.ev, Fr.of, Fr.get, Fr.set, stable, junkA, junkL, resultsA, resA, same, Fr.get_set, hf.s1, hf.s2, hf.s4, hf.s5, hf.s6, rc, faddrA, loadA, partA, h.len, hkl, hky, binA, intBin, hjl, hjl2, hix, hsl, hgt, hcut, hO, hlay, storeA, cells?, hsp, hln, hwj, Post_some]

theorem crashR_end (h : WtV x ws) {k' : AVal} {K : List Int} (hk : Ints k' K) {O : Orc} {k j : Nat} {f : Fr} {T : St} {B1 B2 : ABlock} {n : Nat} (hj : ¬ (j < ws.length ∧ j < K.length)) (hT : T = [.live 0 (rc secs x has fuse off), B1, B2]) (hf : RkF f k' j n) :
    Post (evC O k r04_Crash_l0 f T) fun e f' T' => e = .exit 0 ∧ T' = T ∧ f'.get 4 = .ptr 1 0 0 ∧ f'.get 5 = .sl 2 1 0 n 1 := by
  have hkl := hk.len
  subst hT
  by_cases h1 : j < ws.length
  · have h2 : ¬ (j : Int) < (K.length : Int) := by omega
    have h1' : (j : Int) < (ws.length : Int) := by omega
    simp [r04_Crash_l0, exM, orc, orcD, evF, evC, evOps, evOper, evAny, evOp, evCall, putR, putA, Fr.ev, Fr.of, Fr.get, Fr.set, stable, junkA, junkL, resultsA, resA, same, Fr.get_set, hf.s1, hf.s2, hf.s4, hf.s5, hf.s6, rc, faddrA, loadA, partA, h.len, hkl, binA, intBin, h1', h2, Post_some]
  · have h1' : ¬ (j : Int) < (ws.length : Int) := by omega
    simp [r04_Crash_l0, exM, orc, orcD, evF, evC, evOps, evOper, evAny, evOp, evCall, putR, putA, Fr.ev, Fr.of, Fr.get, Fr.set, stable, junkA, junkL, resultsA, resA, same, Fr.get_set, hf.s1, hf.s2, hf.s4, hf.s5, hf.s6, rc, faddrA, loadA, partA, h.len, hkl, binA, intBin, h1', Post_some]

theorem crashR_loop (h : WtV x ws) {k' : AVal} {K : List Int} (hk : Ints k' K) {O : Orc} (hO : O.loc[0]? = some mLayR) {f : Fr} {B1 : ABlock} (hs : Whole secs) (hw : WsOk secs.length ws) (hb : ws.length ≤ 900) (hf : RkF f k' 0 secs.length) :
    Post (evC O 1000 r04_Crash_s1 f [.live 0 (rc secs x has fuse off), B1, .live 1 (scells secs)]) fun e f' T => e = .normal ∧ T = [.live 0 (rc secs x has fuse off), B1, .live 1 (scells (crashR K secs (ws.take (min ws.length K.length))))] ∧ f'.get 4 = .ptr 1 0 0 ∧ f'.get 5 = .sl 2 1 0 secs.length 1 := by
  obtain ⟨f', S', h1, h2⟩ := loop_post (O := O) (k := 1000) (id := 0) (b := r04_Crash_l0) (I := fun j f T => T = [.live 0 (rc secs x has fuse off), B1, .live 1 (scells (crashR K secs (ws.take j)))] ∧ RkF f k' j secs.length)
    (Q := fun f' T => T = [.live 0 (rc secs x has fuse off), B1, .live 1 (scells (crashR K secs (ws.take (min ws.length K.length))))] ∧ f'.get 4 = .ptr 1 0 0 ∧ f'.get 5 = .sl 2 1 0 secs.length 1) (min ws.length K.length) (by omega)
    (by
      rintro j hj f T ⟨rfl, g2⟩
      obtain ⟨w, hwj⟩ : ∃ w, ws[j]? = some w := ⟨_, List.getElem?_eq_getElem (by omega)⟩
      obtain ⟨hl, hwh⟩ := crashR_whole K hs hw j
      obtain ⟨w1, w2⟩ := hw w (List.mem_of_getElem? hwj)
      obtain ⟨s, s1, s2⟩ := hwh.get (i := w.1) (by rw [hl]; exact w1)
      refine (crashR_round h hk hO hwj (by omega) w2 s1 s2 hb (by rw [hl]; exact g2)).mono ?_
      rintro e f' S' ⟨rfl, k1, k2⟩
      rw [hl] at k2
      refine ⟨rfl, ?_, k2⟩
      rw [crashR_succ K secs ws hwj, k1]
      simp [List.getD, s1])
    (by
      rintro f T ⟨rfl, g2⟩
      refine (crashR_end h hk (by omega) rfl g2).mono ?_
      rintro e f' T' ⟨k1, rfl, k2, k3⟩
      exact ⟨k1, rfl, k2, k3⟩)
    (f := f) (S := [.live 0 (rc secs x has fuse off), B1, .live 1 (scells secs)]) ⟨rfl, hf⟩
  rw [show r04_Crash_s1 = .block 0 (.loop r04_Crash_l0) from rfl, h1]
  exact Post.of rfl ⟨rfl, h2⟩

noncomputable def xCrashR : Model := exM (orc [mLayR]) r04_Crash 1000
noncomputable def mCrashR : Model := pureM 5 xCrashR

theorem crashR_ok (h : WtV x ws) {k' : AVal} {K : List Int} (hk : Ints k' K) (hkc : closedV 0 k' = true) (hs : Whole secs) (hw : WsOk secs.length ws) (hb : ws.length ≤ 900) (hl : secs.length ≤ 512) (S : St) :
    mCrashR [.agg (rc secs x has fuse off), k'] S = some (.agg (rc (crashR K secs (ws.take (min ws.length K.length))) .nils false 0 false), S) := by
  have hap := fun B0 B1 => app_sc (secs := secs) B0 B1 hl
  have hT : ∃ B0 B1, xCrashR [.agg (rc secs x has fuse off), k'] [] = some (.agg [.sl 2 1 0 secs.length 1, .nils, .bool false, .int .i64 0, .bool false], [B0, B1, .live 1 (scells (crashR K secs (ws.take (min ws.length K.length))))]) := by
    suffices hs : Post (evC (orc [mLayR]) 1000 r04_Crash.body (Fr.of [.agg (rc secs x has fuse off), k']) []) (fun e f S1 => (e = .normal ∨ e = .ret) ∧ resultsA f S1 r04_Crash.results = some (.agg [.sl 2 1 0 secs.length 1, .nils, .bool false, .int .i64 0, .bool false]) ∧ ∃ B0 B1, S1 = [B0, B1, .live 1 (scells (crashR K secs (ws.take (min ws.length K.length))))]) by
      obtain ⟨e, f, S1, g1, g2, g3, B0, B1, rfl⟩ := hs.ex
      exact ⟨B0, B1, evF_post rfl rfl (Post.of g1 ⟨g2, g3, rfl⟩)⟩
    simp only [r04_Crash, r04_Crash_t2, Post_seq]
    simp [exM, orc, orcD, evF, evC, evOps, evOper, evAny, evOp, evCall, putR, putA, Fr.ev, Fr.of, Fr.get, Fr.set, stable, junkA, junkL, resultsA, resA, same, cells_agg, rc, faddrA, storeA, loadA, partA, cells?, splice, fillA, hap, Post_some]
    refine (crashR_loop (has := has) (fuse := fuse) (off := off) h hk rfl hs hw hb ⟨rfl, rfl, rfl, rfl, rfl⟩).mono ?_
    rintro e f T ⟨rfl, rfl, k1, k2⟩
    simp [exM, orc, orcD, evF, evC, evOps, evOper, evAny, evOp, evCall, putR, putA, Fr.ev, Fr.of, Fr.get, Fr.set, stable, junkA, junkL, resultsA, resA, same, Fr.get_set, k1, k2, rc, faddrA, storeA, loadA, partA, cells?, splice, fillA, Post_some]
  obtain ⟨B0, B1, hT⟩ := hT
  refine pureM_run (by simp [closedL, closedV, rc, svA_closed, h.closed 0, hkc]) hT ?_
  have hl2 := (crashR_whole K hs hw (min ws.length K.length)).1
  have hsl := deep_scs B0 B1 (crashR K secs (ws.take (min ws.length K.length))) 2
  rw [hl2] at hsl
  rw [deep_agg]
  simp [rc, hsl, deep_int, deep_bool, deep_nils]
end Am.Disk
end

/- The document's disk: Rot, Read, Dump, New. -/
section
namespace Am.Disk
open Am Go Am.Ir
set_option maxRecDepth 100000

variable {x : AVal} {ws : List (Nat × List UInt8)} {secs : List (List UInt8)} {has off : Bool} {fuse : Int}

def xorR (s m : List UInt8) : List UInt8 := m.zipIdx.foldl (fun s p => s.set p.2 (s.getD p.2 0 ^^^ p.1)) s

theorem xorR_eq (s m : List UInt8) : xorR s m = rotS 0 s m := by simp [xorR, rotS]

structure RoF (f : Fr) (b : AVal) (i : Int) (j n : Nat) : Prop where
  s1 : f.get 1 = .int .i64 i
  s2 : f.get 2 = b
  s3 : f.get 3 = .ptr 0 0 0
  s6 : f.get 6 = .ptr 1 0 0
  s8 : f.get 8 = .sl 2 0 0 n 1
  s9 : f.get 9 = .int .i64 (j : Int)

theorem rotR_round {b : AVal} {m : List UInt8} (hx : Bytes b m) {O : Orc} {k j : Nat} {f : Fr} {B0 B1 : ABlock} {s : List UInt8} {y : UInt8} {i : Int} (hj : m[j]? = some y) (hs : j < s.length) (hm : m.length ≤ 256) (hf : RoF f b i j s.length) :
    Post (evC O k r04_Rot_l0 f [B0, B1, .live 0 (bcells s)]) fun e f' T => e = .normal ∧ T = [B0, B1, .live 0 (bcells (s.set j (s.getD j 0 ^^^ y)))] ∧ RoF f' b i (j + 1) s.length := by
  have hlt := (List.getElem?_eq_some_iff.1 hj).1
  have hjl : (j : Int) < (m.length : Int) := by omega
  have hwj : IntKind.i64.wrap ((j : Int) + 1) = (j : Int) + 1 := wrap64 (by omega) (by omega)
  have hix := hx.ix j y hj
  have hlen := hx.len
  have hsl : iaddrSA 1 (.sl 2 0 0 s.length 1) (.int .i64 (j : Int)) = some (.ptr 2 0 j) := sl_ix (T := []) hs
  have hgt : (bcells s)[j]? = some (.int .u8 ((s.getD j 0).toNat : Int)) := by simp [bcells, List.getD, hs]
  have hxor := xor_u8 (s.getD j 0) y
  have hsp : splice (bcells s) j [.int .u8 (((s.getD j 0) ^^^ y).toNat : Int)] = bcells (s.set j (s.getD j 0 ^^^ y)) := by
    rw [splice_one (by rw [bcells_len]; exact hs)]; simp [bcells, List.map_set]
  have hln : j + 1 ≤ (bcells s).length := by rw [bcells_len]; omega
  suffices hmid : Post (evC O k r04_Rot_l0 f [B0, B1, .live 0 (bcells s)]) (fun e f' T => e = .normal ∧ T = [B0, B1, .live 0 (bcells (s.set j (s.getD j 0 ^^^ y)))] ∧ f'.get 1 = .int .i64 i ∧ f'.get 2 = b ∧ f'.get 3 = .ptr 0 0 0 ∧ f'.get 6 = .ptr 1 0 0 ∧ f'.get 8 = .sl 2 0 0 s.length 1 ∧ f'.get 9 = .int .i64 ((j : Int) + 1)) by
    refine hmid.mono ?_
    rintro e f' T ⟨h1, h2, h3, h4, h5, h6, h7, h8⟩
    exact ⟨h1, h2, ⟨h3, h4, h5, h6, h7, by rw [h8]; simp⟩⟩
  obtain ⟨z, hz⟩ : ∃ z, s.getD j 0 = z := ⟨_, rfl⟩
  rw [hz] at hgt hxor hsp ⊢
  rw [UInt8.toNat_xor] at hsp
  have hxor' : binA .xor (.int .u8 (z.toNat : Int)) (.int .u8 (y.toNat : Int)) = some (.int .u8 ((z ^^^ y).toNat : Int)) := hxor
  have hlss : binA .lss (.int .i64 (j : Int)) (.int .i64 (m.length : Int)) = some (.bool true) := by simp [binA, intBin, hjl]
  have hadd : binA .add (.int .i64 (j : Int)) (.int .i64 1) = some (.int .i64 ((j : Int) + 1)) := by simp [binA, intBin, hwj]
  simp [r04_Rot_l0, exM, orc, orcD, evF, evC, evOps, evOper, evAny, evOp, evCall, putR, putA, Fr.ev, Fr.of, Fr.get, Fr.set, stable, junkA, junkL, resultsA, resA, same, Fr.get_set, hf.s1, hf.s2, hf.s3, hf.s6, hf.s8, hf.s9, loadA, partA, hlen, hlss, hadd, hix, hsl, hgt, hxor', storeA, cells?, hsp, hln, Post_some]

theorem xorR_len (s m : List UInt8) : (xorR s m).length = s.length := by rw [xorR_eq, rotS_len]
theorem xorR_succ (s m : List UInt8) {j : Nat} {y} (h : m[j]? = some y) : xorR s (m.take (j + 1)) = (xorR s (m.take j)).set j ((xorR s (m.take j)).getD j 0 ^^^ y) := by
  have := rotS_succ 0 s m h
  simpa only [xorR_eq, Nat.zero_add] using this

theorem rotR_loop {b : AVal} {m : List UInt8} (hx : Bytes b m) {O : Orc} {f : Fr} {B0 B1 : ABlock} {s : List UInt8} {i : Int} (hs : m.length ≤ s.length) (hm : m.length ≤ 256) (hf : RoF f b i 0 s.length) :
    Post (evC O 1000 r04_Rot_s1 f [B0, B1, .live 0 (bcells s)]) fun e f' T => e = .normal ∧ T = [B0, B1, .live 0 (bcells (xorR s m))] ∧ RoF f' b i m.length s.length := by
  obtain ⟨f', S', h1, h2⟩ := loop_post (O := O) (k := 1000) (id := 0) (b := r04_Rot_l0) (I := fun j f T => T = [B0, B1, .live 0 (bcells (xorR s (m.take j)))] ∧ RoF f b i j s.length)
    (Q := fun f' T => T = [B0, B1, .live 0 (bcells (xorR s m))] ∧ RoF f' b i m.length s.length) m.length (by omega)
    (by
      rintro j hj f T ⟨rfl, g2⟩
      obtain ⟨y, hy⟩ : ∃ y, m[j]? = some y := ⟨_, List.getElem?_eq_getElem hj⟩
      have hl := xorR_len s (m.take j)
      refine (rotR_round hx hy (by rw [hl]; omega) hm (by rw [hl]; exact g2)).mono ?_
      rintro e f' S' ⟨rfl, k1, k2⟩
      rw [hl] at k2
      exact ⟨rfl, by rw [xorR_succ s m hy]; exact k1, k2⟩)
    (by
      rintro f T ⟨rfl, g2⟩
      have hlen := hx.len
      rw [List.take_of_length_le (Nat.le_refl _)]
      suffices hmid : Post (evC O 1000 r04_Rot_l0 f [B0, B1, .live 0 (bcells (xorR s m))]) (fun e f' T => e = .exit 0 ∧ T = [B0, B1, .live 0 (bcells (xorR s m))] ∧ f'.get 1 = .int .i64 i ∧ f'.get 2 = b ∧ f'.get 3 = .ptr 0 0 0 ∧ f'.get 6 = .ptr 1 0 0 ∧ f'.get 8 = .sl 2 0 0 s.length 1 ∧ f'.get 9 = .int .i64 (m.length : Int)) by
        refine hmid.mono ?_
        rintro e f' T ⟨h1, h2, h3, h4, h5, h6, h7, h8⟩
        exact ⟨h1, h2, ⟨h3, h4, h5, h6, h7, h8⟩⟩
      simp [r04_Rot_l0, exM, orc, orcD, evF, evC, evOps, evOper, evAny, evOp, evCall, putR, putA, Fr.ev, Fr.of, Fr.get, Fr.set, stable, junkA, junkL, resultsA, resA, same, Fr.get_set, g2.s1, g2.s2, g2.s3, g2.s6, g2.s8, g2.s9, hlen, binA, intBin, Post_some])
    (f := f) (S := [B0, B1, .live 0 (bcells s)]) ⟨rfl, hf⟩
  rw [show r04_Rot_s1 = .block 0 (.loop r04_Rot_l0) from rfl, h1]
  exact Post.of rfl ⟨rfl, h2⟩

noncomputable def xRotR : Model := exM (orc []) r04_Rot 1000
noncomputable def mRotR : Model := pureM 5 xRotR

theorem rotR_arg (h : WtV x ws) (i : Int) {b : AVal} {m : Nat} (hb : closedV 0 b = true) (hl : lenA .sl b = some (.int .i64 (m : Int))) (hbad : ¬ (0 ≤ i ∧ i < (secs.length : Int)) ∨ 256 < m) (S : St) :
    mRotR [.agg (rc secs x has fuse off), .int .i64 i, b] S = some (.tup [.agg (rc secs x has fuse off), .int .i64 1], S) := by
  have hd := rc_deep h secs has fuse off
  refine pureM_run (T := [.live 0 (rc secs x has fuse off), .live 0 (rc secs x has fuse off)]) (v := .tup [.agg (rc secs x has fuse off), .int .i64 1]) (by simp [closedL, closedV, rc, svA_closed, h.closed 0, hb]) ?_ (by rw [deep_tup]; simp [hd _ 1, deep_int])
  by_cases h1 : i < 0
  · simp [xRotR, r04_Rot, exM, orc, orcD, evF, evC, evOps, evOper, evAny, evOp, evCall, putR, putA, Fr.ev, Fr.of, Fr.get, Fr.set, stable, junkA, junkL, resultsA, resA, same, cells_agg, rc, faddrA, storeA, loadA, partA, cells?, splice, binA, intBin, h1]
  · by_cases h2 : (secs.length : Int) ≤ i
    · simp [xRotR, r04_Rot, exM, orc, orcD, evF, evC, evOps, evOper, evAny, evOp, evCall, putR, putA, Fr.ev, Fr.of, Fr.get, Fr.set, stable, junkA, junkL, resultsA, resA, same, cells_agg, rc, faddrA, storeA, loadA, partA, cells?, splice, binA, intBin, svA_len, h1, h2]
    · have h3 : (256 : Int) < (m : Int) := by omega
      simp [xRotR, r04_Rot, exM, orc, orcD, evF, evC, evOps, evOper, evAny, evOp, evCall, putR, putA, Fr.ev, Fr.of, Fr.get, Fr.set, stable, junkA, junkL, resultsA, resA, same, cells_agg, rc, faddrA, storeA, loadA, partA, cells?, splice, binA, intBin, svA_len, hl, h1, h2, h3]

theorem rotR_ok (h : WtV x ws) {i : Nat} {b : AVal} {m s : List UInt8} (hb : closedV 0 b = true) (hx : Bytes b m) (hm : m.length ≤ 256) (hi : secs[i]? = some s) (hs : s.length = 256) (hl : secs.length ≤ 512) (S : St) :
    mRotR [.agg (rc secs x has fuse off), .int .i64 i, b] S = some (.tup [.agg (rc (secs.set i (xorR s m)) x has fuse off), .int .i64 0], S) := by
  have hil := (List.getElem?_eq_some_iff.1 hi).1
  have h1' : ¬ (i : Int) < 0 := by omega
  have h2' : ¬ (secs.length : Int) ≤ i := by omega
  have h3' : ¬ (256 : Int) < (m.length : Int) := by omega
  have hlen := hx.len
  have hix := svA_ix hi
  have hap : ∀ B0 B1 B2, appendA 1 16 (.sl 3 0 0 0 1) (svA secs) [B0, B1, B2, .live 0 []] = some (.sl 3 1 0 secs.length 1, [B0, B1, B2, .live 1 (scells secs)]) := fun B0 B1 B2 => by
    have e3 : secs.length * 16 ≤ 140737488355328 := by omega
    simp [appendA, svA_cells, e3]
  have hby : ∀ B0 B1 B3, bytesA (.sl 2 0 0 s.length 1) [B0, B1, .live 0 (bcells (xorR s m)), B3] = some (xorR s m) := fun B0 B1 B3 => by
    have hc : cellsOf 1 (.sl 2 0 0 s.length 1) [B0, B1, .live 0 (bcells (xorR s m)), B3] = some (s.length, bcells (xorR s m)) := by
      simp [cellsOf, bcells_len, xorR_len]
      rw [List.take_of_length_le (by simp [bcells_len, xorR_len])]
    simp only [bytesA, hc, asBytes_bcells]
  have hsl : iaddrSA 1 (.sl 3 1 0 secs.length 1) (.int .i64 (i : Int)) = some (.ptr 3 1 i) := sl_ix (T := []) hil
  have hsp := splice_sc hil (xorR s m)
  have hln : i + 1 ≤ (scells secs).length := by rw [scells_len]; omega
  have hbc : ∀ u : List UInt8, u.map (fun b => AVal.int .u8 (b.toNat : Int)) = bcells u := fun u => rfl
  have hT : ∃ B0 B1 B2, xRotR [.agg (rc secs x has fuse off), .int .i64 i, b] [] = some (.tup [.agg [.sl 3 1 0 secs.length 1, x, .bool has, .int .i64 fuse, .bool off], .int .i64 0], [B0, B1, B2, .live 1 (scells (secs.set i (xorR s m)))]) := by
    suffices hs : Post (evC (orc []) 1000 r04_Rot.body (Fr.of [.agg (rc secs x has fuse off), .int .i64 i, b]) []) (fun e f S1 => (e = .normal ∨ e = .ret) ∧ resultsA f S1 r04_Rot.results = some (.tup [.agg [.sl 3 1 0 secs.length 1, x, .bool has, .int .i64 fuse, .bool off], .int .i64 0]) ∧ ∃ B0 B1 B2, S1 = [B0, B1, B2, .live 1 (scells (secs.set i (xorR s m)))]) by
      obtain ⟨e, f, S1, g1, g2, g3, B0, B1, B2, rfl⟩ := hs.ex
      refine ⟨B0, B1, B2, ?_⟩
      unfold xRotR exM
      refine evF_post rfl rfl ?_
      exact Post.of g1 ⟨g2, g3, rfl⟩
    simp only [r04_Rot, r04_Rot_t2, Post_seq]
    simp [exM, orc, orcD, evF, evC, evOps, evOper, evAny, evOp, evCall, putR, putA, Fr.ev, Fr.of, Fr.get, Fr.set, stable, junkA, junkL, resultsA, resA, same, cells_agg, rc, faddrA, storeA, loadA, partA, cells?, splice, binA, intBin, svA_len, hlen, h1', h2', h3', hix, hbc, Post_some]
    refine (rotR_loop hx (s := s) (i := i) (by omega) hm ⟨rfl, rfl, rfl, rfl, rfl, rfl⟩).mono ?_
    rintro e f T ⟨rfl, rfl, k⟩
    simp [exM, orc, orcD, evF, evC, evOps, evOper, evAny, evOp, evCall, putR, putA, Fr.ev, Fr.of, Fr.get, Fr.set, stable, junkA, junkL, resultsA, resA, same, Fr.get_set, k.s1, k.s2, k.s3, k.s6, k.s8, fillA, hap, hby, hsl, hsp, hln, rc, faddrA, storeA, loadA, partA, cells?, Post_some]
    simpa [splice] using hsp
  obtain ⟨B0, B1, B2, hT⟩ := hT
  refine pureM_run (by simp [closedL, closedV, rc, svA_closed, h.closed 0, hb]) hT ?_
  have hds : deep [B0, B1, B2, .live 1 (scells (secs.set i (xorR s m)))] 0 3 (.sl 3 1 0 secs.length 1) = some (svA (secs.set i (xorR s m))) := by
    rw [deep_sl (cells := scells (secs.set i (xorR s m))) (cs := scells (secs.set i (xorR s m))) (Nat.zero_le _) rfl (by rw [scells_len]; simp)]
    · simp [svA]
    · rw [List.drop_zero, List.take_of_length_le (by rw [scells_len]; simp)]
      exact flats_deep _ _ _ (flat_scells _)
  rw [deep_tup]
  simp [deep_agg, rc, hds, h.deep, deep_int, deep_bool]

/-- What a sector reads as, among writes that wait. -/
def curR (s : List UInt8) (ws : List (Nat × List UInt8)) (i : Nat) : List UInt8 := (newestS ws i).getD s

structure RrF (f : Fr) (i : Nat) (s : List UInt8) (j : Nat) : Prop where
  s1 : f.get 1 = .int .i64 (i : Int)
  s2 : f.get 2 = .ptr 0 0 0
  s6 : f.get 6 = .str s
  s7 : f.get 7 = .int .i64 (j : Int)

theorem readR_loop (h : WtV x ws) {O : Orc} {f : Fr} {i : Nat} {s : List UInt8} (hb : ws.length ≤ 900) (hf : RrF f i s 0) :
    Post (evC O 1000 r04_Read_s1 f [.live 0 (rc secs x has fuse off)]) fun e f' T => e = .normal ∧ T = [.live 0 (rc secs x has fuse off)] ∧ f'.get 6 = .str (curR s ws i) := by
  obtain ⟨f', S', h1, h2⟩ := loop_post (O := O) (k := 1000) (id := 0) (b := r04_Read_l0) (I := fun j f T => T = [.live 0 (rc secs x has fuse off)] ∧ RrF f i (curR s (ws.take j) i) j)
    (Q := fun f' T => T = [.live 0 (rc secs x has fuse off)] ∧ f'.get 6 = .str (curR s ws i)) ws.length (by omega)
    (by
      rintro j hj f T ⟨rfl, hf⟩
      obtain ⟨w, hwj⟩ : ∃ w, ws[j]? = some w := ⟨_, List.getElem?_eq_getElem hj⟩
      have hjl : (j : Int) < (ws.length : Int) := by omega
      have hw1 : IntKind.i64.wrap ((j : Int) + 1) = (j : Int) + 1 := wrap64 (by omega) (by omega)
      have hix := h.ix hwj
      have hsucc := newestS_succ (i := i) hwj
      suffices hmid : Post (evC O 1000 r04_Read_l0 f [.live 0 (rc secs x has fuse off)]) (fun e f' T => e = .normal ∧ T = [.live 0 (rc secs x has fuse off)] ∧ f'.get 1 = .int .i64 (i : Int) ∧ f'.get 2 = .ptr 0 0 0 ∧ f'.get 6 = .str (if w.1 = i then w.2 else curR s (ws.take j) i) ∧ f'.get 7 = .int .i64 ((j : Int) + 1)) by
        refine hmid.mono ?_
        rintro e f' T ⟨h1, h2, h3, h4, h5, h6⟩
        refine ⟨h1, h2, ⟨h3, h4, ?_, by rw [h6]; simp⟩⟩
        rw [h5]
        simp only [curR, hsucc]
        split <;> rfl
      by_cases e : w.1 = i
      · have e' : (w.1 : Int) = (i : Int) := by omega
        simp [r04_Read_l0, exM, orc, orcD, evF, evC, evOps, evOper, evAny, evOp, evCall, putR, putA, Fr.ev, Fr.of, Fr.get, Fr.set, stable, junkA, junkL, resultsA, resA, same, Fr.get_set, hf.s1, hf.s2, hf.s6, hf.s7, rc, faddrA, loadA, partA, h.len, binA, intBin, hjl, hix, e', e, hw1, Post_some]
      · have e' : ¬ (w.1 : Int) = (i : Int) := by omega
        simp [r04_Read_l0, exM, orc, orcD, evF, evC, evOps, evOper, evAny, evOp, evCall, putR, putA, Fr.ev, Fr.of, Fr.get, Fr.set, stable, junkA, junkL, resultsA, resA, same, Fr.get_set, hf.s1, hf.s2, hf.s6, hf.s7, rc, faddrA, loadA, partA, h.len, binA, intBin, hjl, hix, e', e, hw1, Post_some])
    (by
      rintro f T ⟨rfl, hf⟩
      rw [List.take_of_length_le (Nat.le_refl _)] at hf
      simp [r04_Read_l0, exM, orc, orcD, evF, evC, evOps, evOper, evAny, evOp, evCall, putR, putA, Fr.ev, Fr.of, Fr.get, Fr.set, stable, junkA, junkL, resultsA, resA, same, Fr.get_set, hf.s1, hf.s2, hf.s6, hf.s7, rc, faddrA, loadA, partA, h.len, binA, intBin, Post_some])
    (f := f) (S := [.live 0 (rc secs x has fuse off)]) ⟨rfl, by simpa [curR, newestS] using hf⟩
  rw [show r04_Read_s1 = .block 0 (.loop r04_Read_l0) from rfl, h1]
  exact Post.of rfl ⟨rfl, h2⟩

noncomputable def xReadRef : Model := exM (orc []) r04_Read 1000
noncomputable def mReadRef : Model := pureM 5 xReadRef

theorem readRef_off (h : WtV x ws) (i : Int) (S : St) : mReadRef [.agg (rc secs x has fuse true), .int .i64 i] S = some (.tup [.nils, .int .i64 8], S) := by
  refine pureM_run (T := ?_) (v := .tup [.nils, .int .i64 8]) (by simp [closedL, closedV, rc, svA_closed, h.closed 0]) ?_ (by rw [deep_tup]; simp [deep_nils, deep_int])
  rotate_left
  · simp [xReadRef, r04_Read, exM, orc, orcD, evF, evC, evOps, evOper, evAny, evOp, evCall, putR, putA, Fr.ev, Fr.of, Fr.get, Fr.set, stable, junkA, junkL, resultsA, resA, same, cells_agg, rc, faddrA, storeA, loadA, partA, cells?, splice]
    rfl

theorem readRef_arg (h : WtV x ws) (i : Int) (hbad : ¬ (0 ≤ i ∧ i < (secs.length : Int))) (S : St) : mReadRef [.agg (rc secs x has fuse false), .int .i64 i] S = some (.tup [.nils, .int .i64 1], S) := by
  refine pureM_run (T := [.live 0 (rc secs x has fuse false)]) (v := .tup [.nils, .int .i64 1]) (by simp [closedL, closedV, rc, svA_closed, h.closed 0]) ?_ (by rw [deep_tup]; simp [deep_nils, deep_int])
  by_cases h1 : i < 0
  · simp [xReadRef, r04_Read, exM, orc, orcD, evF, evC, evOps, evOper, evAny, evOp, evCall, putR, putA, Fr.ev, Fr.of, Fr.get, Fr.set, stable, junkA, junkL, resultsA, resA, same, cells_agg, rc, faddrA, storeA, loadA, partA, cells?, splice, binA, intBin, h1]
  · have h2 : (secs.length : Int) ≤ i := by omega
    simp [xReadRef, r04_Read, exM, orc, orcD, evF, evC, evOps, evOper, evAny, evOp, evCall, putR, putA, Fr.ev, Fr.of, Fr.get, Fr.set, stable, junkA, junkL, resultsA, resA, same, cells_agg, rc, faddrA, storeA, loadA, partA, cells?, splice, binA, intBin, svA_len, h1, h2]

theorem readRef_ok (h : WtV x ws) {i : Nat} {s : List UInt8} (hi : secs[i]? = some s) (hb : ws.length ≤ 900) (S : St) :
    mReadRef [.agg (rc secs x has fuse false), .int .i64 i] S = some (.tup [.fz false (curR s ws i).length (bcells (curR s ws i)), .int .i64 0], S) := by
  have hil := (List.getElem?_eq_some_iff.1 hi).1
  have h1' : ¬ (i : Int) < 0 := by omega
  have h2' : ¬ (secs.length : Int) ≤ i := by omega
  have hix := svA_ix hi
  have hbc : ∀ u : List UInt8, u.map (fun b => AVal.int .u8 (b.toNat : Int)) = bcells u := fun u => rfl
  have hT : xReadRef [.agg (rc secs x has fuse false), .int .i64 i] [] = some (.tup [.sl 1 0 0 (curR s ws i).length 1, .int .i64 0], [.live 0 (rc secs x has fuse false), .live 0 (bcells (curR s ws i))]) := by
    unfold xReadRef exM
    refine evF_post rfl rfl ?_
    simp only [r04_Read, r04_Read_t2, Post_seq]
    simp [exM, orc, orcD, evF, evC, evOps, evOper, evAny, evOp, evCall, putR, putA, Fr.ev, Fr.of, Fr.get, Fr.set, stable, junkA, junkL, resultsA, resA, same, cells_agg, rc, faddrA, storeA, loadA, partA, cells?, splice, binA, intBin, svA_len, h1', h2', hix, Post_some]
    refine (readR_loop (has := has) (fuse := fuse) (off := false) h (s := s) (i := i) hb ⟨rfl, rfl, rfl, rfl⟩).mono ?_
    rintro e f T ⟨rfl, rfl, k⟩
    simp [exM, orc, orcD, evF, evC, evOps, evOper, evAny, evOp, evCall, putR, putA, Fr.ev, Fr.of, Fr.get, Fr.set, stable, junkA, junkL, resultsA, resA, same, Fr.get_set, k, rc, hbc, Post_some]
  refine pureM_run (by simp [closedL, closedV, rc, svA_closed, h.closed 0]) hT ?_
  have hds : deep [.live 0 (rc secs x has fuse false), .live 0 (bcells (curR s ws i))] 0 4 (.sl 1 0 0 (curR s ws i).length 1) = some (.fz false (curR s ws i).length (bcells (curR s ws i))) := by
    rw [deep_sl (cells := bcells (curR s ws i)) (cs := bcells (curR s ws i)) (Nat.zero_le _) rfl (by rw [bcells_len]; simp)]
    rw [List.drop_zero, List.take_of_length_le (by rw [bcells_len]; simp)]
    exact deep_bcells _
  rw [deep_tup]
  simp [hds, deep_int]
end Am.Disk
end

