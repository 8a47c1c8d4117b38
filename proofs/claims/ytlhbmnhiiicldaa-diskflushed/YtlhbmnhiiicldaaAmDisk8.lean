/- The disk over its heap: what is read. -/
import Derived.Test.YtlhbmnhiiicldaaAmDisk7
set_option linter.all false
namespace Am.Disk
open Am Go Am.Ir
set_option maxRecDepth 100000

variable {S : St} {p ro : Nat} {cw : AVal} {fw : List Nat} {on : List UInt8} {ws : List (Nat × List UInt8)} {lets : Int} {off : Bool}

/-- The newest write of a sector that waits. -/
def newestS (ws : List (Nat × List UInt8)) (i : Nat) : Option (List UInt8) := (ws.reverse.find? (fun w => w.1 == i)).map (·.2)

theorem newestS_succ {i j : Nat} {w} (h : ws[j]? = some w) : newestS (ws.take (j + 1)) i = if w.1 = i then some w.2 else newestS (ws.take j) i := by
  rw [take_succ h]
  simp only [newestS, List.reverse_append, List.reverse_singleton, List.singleton_append, List.find?_cons]
  by_cases e : w.1 = i
  · simp [e]
  · have : (w.1 == i) = false := by simp [e]
    simp [this, e]

def readS (on : List UInt8) (ws : List (Nat × List UInt8)) (i : Nat) : List UInt8 := match newestS ws i with
  | some u => u
  | none => (on.drop (i * 256)).take 256

/-- While it is looked for. -/
structure RdI (S T : St) (i : Nat) : Prop where
  keep : ∀ r, r < S.length → T[r]? = S[r]?
  b3 : T[S.length]? = some (.live 0 [.int .i64 (i : Int)])
  b4 : T[S.length + 1]? = some (.live 0 [.nils])
  b5 : T[S.length + 2]? = some (.live 0 [.int .i64 0])
  lp : T[S.length + 3]? = some (.loop .ready none)

/-- When it is found. -/
structure RdF (S T : St) (u : List UInt8) : Prop where
  keep : ∀ r, r < S.length → T[r]? = S[r]?
  b4 : T[S.length + 1]? = some (.live 0 [.fz false u.length (bcells u)])
  b5 : T[S.length + 2]? = some (.live 0 [.int .i64 0])
  lp : T[S.length + 3]? = some (.loop .done (some .ret))

theorem get_lt {S : St} {r : Nat} {b : ABlock} (h : S[r]? = some b) : r < S.length := (List.getElem?_eq_some_iff.1 h).1

theorem set_get {S : St} {r : Nat} (h : r < S.length) (b : ABlock) : (S.set r b)[r]? = some b := by simp [h]
theorem set_get' {S : St} {r q : Nat} (h : q ≠ r) (b : ABlock) : (S.set r b)[q]? = S[q]? := by rw [List.getElem?_set, if_neg (fun e => h e.symm)]
theorem app_get (S : St) (b : ABlock) : (S ++ [b])[S.length]? = some b := by simp

theorem fz_cells (fl : Bool) (u : List UInt8) (S : St) : cellsOf 1 (.fz fl u.length (bcells u)) S = some (u.length, bcells u) := by
  simp [cellsOf, bcells_len]

def rdOrc (O : Orc) : Prop := O.loc[2]? = some mClone

theorem read_round {O : Orc} {k : Nat} (hO : O.loc[2]? = some mClone) {f : Fr} {T : St} {i at' : Nat} {b : List UInt8} (hb : b.length ≤ 256) (h : RdI S T i)
    (h3 : f.get 3 = .ptr S.length 0 0) (h4 : f.get 4 = .ptr (S.length + 1) 0 0) (h5 : f.get 5 = .ptr (S.length + 2) 0 0) :
    ∃ T', rnd (evC O k disk_Read_a0) (evC O k disk_Read_r1) [23] f (S.length + 3) [.agg [.int .i64 (at' : Int), .fz false b.length (bcells b)]] T = some (.bool (decide (at' ≠ i)), T') ∧
      (at' ≠ i → RdI S T' i) ∧ (at' = i → RdF S T' b) := by
  have l3 := get_lt h.lp
  have ha : evC O k disk_Read_a0 (f.set 23 (.agg [.int .i64 (at' : Int), .fz false b.length (bcells b)])) T =
      some (.normal, (f.set 23 (.agg [.int .i64 (at' : Int), .fz false b.length (bcells b)])).set 6 (.ptr T.length 0 0), T ++ [.live 0 [.int .i64 (at' : Int), .fz false b.length (bcells b)]]) := by
    simp [disk_Read_a0, exM, orc, orcD, evF, evC, evOps, evOper, evAny, evOp, evCall, putR, putA, Fr.ev, Fr.of, Fr.get, Fr.set, stable, junkA, junkL, resultsA, resA, same, Fr.get_set, storeA, cells?, splice]
  obtain ⟨T1, hT1⟩ : ∃ T1 : St, T ++ [.live 0 [.int .i64 (at' : Int), .fz false b.length (bcells b)]] = T1 := ⟨_, rfl⟩
  have hlen1 : T1.length = T.length + 1 := by rw [← hT1]; simp
  have old1 : ∀ r, r < T.length → T1[r]? = T[r]? := fun r hr => by rw [← hT1, get_old hr]
  have new1 : T1[T.length]? = some (.live 0 [.int .i64 (at' : Int), .fz false b.length (bcells b)]) := by rw [← hT1]; exact app_get _ _
  rw [hT1] at ha
  have lp1 : T1[S.length + 3]? = some (.loop .ready none) := by rw [old1 _ l3]; exact h.lp
  obtain ⟨T2, hT2⟩ : ∃ T2 : St, T1.set (S.length + 3) (.loop .busy none) = T2 := ⟨_, rfl⟩
  have hlen2 : T2.length = T.length + 1 := by rw [← hT2]; simp [hlen1]
  have g2 : ∀ r, r ≠ S.length + 3 → T2[r]? = T1[r]? := fun r hr => by rw [← hT2, set_get' hr]
  have lp2 : T2[S.length + 3]? = some (.loop .busy none) := by rw [← hT2]; exact set_get (by omega) _
  have n2 : T2[T.length]? = some (.live 0 [.int .i64 (at' : Int), .fz false b.length (bcells b)]) := by rw [g2 _ (by omega)]; exact new1
  have c3 : T2[S.length]? = some (.live 0 [.int .i64 (i : Int)]) := by rw [g2 _ (by omega), old1 _ (by omega)]; exact h.b3
  have c4 : T2[S.length + 1]? = some (.live 0 [.nils]) := by rw [g2 _ (by omega), old1 _ (by omega)]; exact h.b4
  have c5 : T2[S.length + 2]? = some (.live 0 [.int .i64 0]) := by rw [g2 _ (by omega), old1 _ (by omega)]; exact h.b5
  have ck : ∀ r, r < S.length → T2[r]? = S[r]? := fun r hr => by rw [g2 _ (by omega), old1 _ (by omega)]; exact h.keep r hr
  by_cases e : at' = i
  · have e' : (at' : Int) = (i : Int) := by omega
    have hcl := mClone_ok (S := T2) (x := .fz false b.length (bcells b)) (u := b) rfl (fz_cells _ _ _) (by omega)
    have c5' : ∀ bl, (T2.set (S.length + 1) bl)[S.length + 2]? = some (.live 0 [.int .i64 0]) := fun bl => by rw [set_get' (by omega)]; exact c5
    have hb' : evC O k disk_Read_r1 ((f.set 23 (.agg [.int .i64 (at' : Int), .fz false b.length (bcells b)])).set 6 (.ptr T.length 0 0)) T2 =
        some (.ret, (((((((f.set 23 (.agg [.int .i64 (at' : Int), .fz false b.length (bcells b)])).set 6 (.ptr T.length 0 0)).set 24 (.ptr T.length 0 0)).set 25 (.int .i64 (at' : Int))).set 26 (.int .i64 (i : Int))).set 27 (.bool true)).set 28 (.ptr T.length 0 1)).set 29 (.fz false b.length (bcells b)) |>.set 30 (.fz false b.length (bcells b)),
          (T2.set (S.length + 1) (.live 0 [.fz false b.length (bcells b)])).set (S.length + 2) (.live 0 [.int .i64 0])) := by
      simp [disk_Read_r1, exM, orc, orcD, evF, evC, evOps, evOper, evAny, evOp, evCall, putR, putA, Fr.ev, Fr.of, Fr.get, Fr.set, stable, junkA, junkL, resultsA, resA, same, Fr.get_set, h3, h4, h5, faddrA, loadA, partA_none, n2, c3, c4, c5', binA, intBin, e', hO, hcl, storeA, cells?, splice]
    refine ⟨((T2.set (S.length + 1) (.live 0 [.fz false b.length (bcells b)])).set (S.length + 2) (.live 0 [.int .i64 0])).set (S.length + 3) (.loop .done (some .ret)), ?_, fun hne => absurd e hne, fun _ => ?_⟩
    · have lp3 : ((T2.set (S.length + 1) (.live 0 [.fz false b.length (bcells b)])).set (S.length + 2) (.live 0 [.int .i64 0]))[S.length + 3]? = some (.loop .busy none) := by
        rw [set_get' (by omega), set_get' (by omega)]; exact lp2
      simp only [rnd, List.length_cons, List.length_nil, if_true, h.lp, List.zip_cons_cons, List.zip_nil_left, List.foldl_cons, List.foldl_nil, ha, lp1, hT2, hb', lp3]
      simp [e]
    · refine ⟨fun r hr => ?_, ?_, ?_, ?_⟩
      · rw [set_get' (by omega), set_get' (by omega), set_get' (by omega)]; exact ck r hr
      · rw [set_get' (by omega), set_get' (by omega), set_get (by omega)]
      · rw [set_get' (by omega), set_get (by simp; omega)]
      · rw [set_get (by simp; omega)]
  · have e' : ¬ (at' : Int) = (i : Int) := by omega
    have hb' : evC O k disk_Read_r1 ((f.set 23 (.agg [.int .i64 (at' : Int), .fz false b.length (bcells b)])).set 6 (.ptr T.length 0 0)) T2 =
        some (.normal, (((((f.set 23 (.agg [.int .i64 (at' : Int), .fz false b.length (bcells b)])).set 6 (.ptr T.length 0 0)).set 24 (.ptr T.length 0 0)).set 25 (.int .i64 (at' : Int))).set 26 (.int .i64 (i : Int))).set 27 (.bool ((at' : Int) == (i : Int))), T2) := by
      simp [disk_Read_r1, exM, orc, orcD, evF, evC, evOps, evOper, evAny, evOp, evCall, putR, putA, Fr.ev, Fr.of, Fr.get, Fr.set, stable, junkA, junkL, resultsA, resA, same, Fr.get_set, h3, h4, h5, faddrA, loadA, partA_none, n2, c3, binA, intBin, e']
    refine ⟨T2.set (S.length + 3) (.loop .ready none), ?_, fun _ => ?_, fun he => absurd he e⟩
    · simp only [rnd, List.length_cons, List.length_nil, if_true, h.lp, List.zip_cons_cons, List.zip_nil_left, List.foldl_cons, List.foldl_nil, ha, lp1, hT2, hb', lp2]
      simp [e]
    · refine ⟨fun r hr => ?_, ?_, ?_, ?_, ?_⟩
      · rw [set_get' (by omega)]; exact ck r hr
      · rw [set_get' (by omega)]; exact c3
      · rw [set_get' (by omega)]; exact c4
      · rw [set_get' (by omega)]; exact c5
      · rw [set_get (by omega)]

/-- What the loop does with what comes. -/
def rdY (O : Orc) (k : Nat) (f : Fr) (n0 : Nat) : Nat → Model := fun j args S' => if j = n0 then rnd (evC O k disk_Read_a0) (evC O k disk_Read_r1) [23] f n0 args S' else none

/-- The iterator's slots. -/
structure NwF (g : Fr) (p j0 : Nat) (x : Int) : Prop where
  s0 : g.get 0 = .ptr p 0 0
  s1 : g.get 1 = .yld j0
  s4 : g.get 4 = .int .i64 x

theorem newest_loop {O : Orc} {k : Nat} (hO : O.loc[2]? = some mClone) {f : Fr} (h : DiskI S p ro cw fw on ws lets off) {i : Nat} (hw : ∀ w ∈ ws, w.2.length ≤ 256) (hwl : ws.length ≤ 900)
    (h3 : f.get 3 = .ptr S.length 0 0) (h4 : f.get 4 = .ptr (S.length + 1) 0 0) (h5 : f.get 5 = .ptr (S.length + 2) 0 0) {T : St} (hT : RdI S T i) {g : Fr} (hg : NwF g p (S.length + 3) ((ws.length : Int) - 1)) :
    Post (evC { orc [] with yld := rdY O k f (S.length + 3) } 1000 disk_newest_s1 g T) fun e g' T' => (e = .normal ∧ RdI S T' i ∧ newestS ws i = none) ∨ (e = .ret ∧ ∃ u, RdF S T' u ∧ newestS ws i = some u) := by
  have hd : ∀ T, RdI S T i → DiskI T p ro cw fw on ws lets off := fun T hT => by
    have hk : Keeps S T [] := ⟨by have := get_lt hT.lp; omega, fun r hr _ => hT.keep r hr⟩
    exact h.keep hk (by simp)
  obtain ⟨e, g', T', h1, h2, h6⟩ := iter_post (step := evC { orc [] with yld := rdY O k f (S.length + 3) } 1000 disk_newest_l0)
    (I := fun m g T => RdI S T i ∧ NwF g p (S.length + 3) ((ws.length : Int) - 1 - m) ∧ newestS ws i = newestS (ws.take (ws.length - m)) i)
    (Q := fun e g T => (e = .exit 0 ∧ RdI S T i ∧ newestS ws i = none) ∨ (e = .ret ∧ ∃ u, RdF S T u ∧ newestS ws i = some u)) ws.length
    (by
      rintro m hm g T ⟨g1, g2, g3⟩
      obtain ⟨d, hdm⟩ : ∃ d, ws.length - 1 - m = d := ⟨_, rfl⟩
      obtain ⟨w, hwm⟩ : ∃ w, ws[d]? = some w := ⟨_, List.getElem?_eq_getElem (by omega)⟩
      have hidx : ((ws.length : Int) - 1 - m) = (d : Int) := by omega
      rw [hidx] at g2
      have hDT := hd T g1
      obtain ⟨rw', vw, hq1, hq2, hq3⟩ := wait_ix hDT hwm
      obtain ⟨at', b⟩ := w
      simp only at hq3
      obtain ⟨T', k1, k2, k3⟩ := read_round (k := k) hO (f := f) (T := T) (i := i) (at' := at') (b := b) (hw _ (List.mem_of_getElem? hwm)) g1 h3 h4 h5
      have hy : rdY O k f (S.length + 3) (S.length + 3) [.agg [.int .i64 (at' : Int), .fz false b.length (bcells b)]] T = some (.bool (decide (at' ≠ i)), T') := by
        simp only [rdY, if_true]; exact k1
      have hge : binA .geq (.int .i64 (d : Int)) (.int .i64 0) = some (.bool true) := by simp [binA, intBin]
      have hsub : binA .sub (.int .i64 (d : Int)) (.int .i64 1) = some (.int .i64 ((d : Int) - 1)) := by
        simp only [binA, intBin]; rw [if_neg (by simp), if_pos trivial, wrap64 (by omega) (by omega)]
      have htk : ws.length - m = d + 1 := by omega
      have hsucc := newestS_succ (i := i) hwm
      rw [htk] at g3
      by_cases e : at' = i
      · have hd0 : decide (at' ≠ i) = false := by simp [e]
        rw [hd0] at hy
        simp [disk_newest_l0, exM, orc, orcD, evF, evC, evOps, evOper, evAny, evOp, evCall, putR, putA, Fr.ev, Fr.of, Fr.get, Fr.set, stable, junkA, junkL, resultsA, resA, same, Fr.get_set, g2.s0, g2.s1, g2.s4, hge, faddrA, loadA, partA_none, hDT.hp, hq1, hq2, hq3, hy, unA, Post_some]
        exact ⟨b, k3 e, by rw [g3, hsucc]; simp [e]⟩
      · have hd0 : decide (at' ≠ i) = true := by simp [e]
        rw [hd0] at hy
        simp [disk_newest_l0, exM, orc, orcD, evF, evC, evOps, evOper, evAny, evOp, evCall, putR, putA, Fr.ev, Fr.of, Fr.get, Fr.set, stable, junkA, junkL, resultsA, resA, same, Fr.get_set, g2.s0, g2.s1, g2.s4, hge, hsub, faddrA, loadA, partA_none, hDT.hp, hq1, hq2, hq3, hy, unA, Post_some]
        refine ⟨k2 e, ⟨?_, ?_, ?_⟩, ?_⟩
        · simp [Fr.get_set, g2.s0]
        · simp [Fr.get_set, g2.s1]
        · simp [Fr.get_set]; omega
        · rw [g3, hsucc]; simp [e]; congr 2; omega)
    (by
      rintro g T ⟨g1, g2, g3⟩
      have hge : binA .geq (.int .i64 ((ws.length : Int) - 1 - ws.length)) (.int .i64 0) = some (.bool false) := by
        simp [binA, intBin]; omega
      have h4 := g2.s4
      simp [disk_newest_l0, exM, orc, orcD, evF, evC, evOps, evOper, evAny, evOp, evCall, putR, putA, Fr.ev, Fr.of, Fr.get, Fr.set, stable, junkA, junkL, resultsA, resA, same, Fr.get_set, h4, hge, Post_some]
      exact ⟨g1, by rw [g3]; simp [newestS]⟩) (fuel := 1000) (by omega) (f := g) (S := T) ⟨hT, by simpa using hg, by simp⟩
  rw [show disk_newest_s1 = .block 0 (.loop disk_newest_l0) from rfl]
  simp only [evC, h1]
  rcases h6 with ⟨rfl, k1, k2⟩ | ⟨rfl, u, k1, k2⟩
  · simp [Post_some]; exact ⟨k1, k2⟩
  · simp [Post_some]; exact ⟨u, k1, k2⟩
end Am.Disk
