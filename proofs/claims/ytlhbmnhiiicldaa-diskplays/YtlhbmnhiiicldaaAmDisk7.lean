import Derived.Test.YtlhbmnhiiicldaaAmDisk3
import Derived.Test.YtlhbmnhiiicldaaAmBits
set_option linter.all false
/- The disk over its heap: what goes bad; what is read. -/
section
namespace Am.Disk
open Am Go Am.Ir
set_option maxRecDepth 100000

variable {S : St} {p ro : Nat} {cw : AVal} {fw : List Nat} {on : List UInt8} {ws : List (Nat × List UInt8)} {lets : Int} {off : Bool}

/-- An argument of bytes. -/
structure Bytes (x : AVal) (m : List UInt8) : Prop where
  len : lenA .sl x = some (.int .i64 (m.length : Int))
  ix : ∀ (i : Nat) y, m[i]? = some y → iaddrSA 1 x (.int .i64 (i : Int)) = some (.fq [.int .u8 (y.toNat : Int)])

def rotS (base : Nat) (on m : List UInt8) : List UInt8 := m.zipIdx.foldl (fun on p => on.set (base + p.2) (on.getD (base + p.2) 0 ^^^ p.1)) on

theorem rotS_succ (base : Nat) (on m : List UInt8) {j : Nat} {x} (h : m[j]? = some x) : rotS base on (m.take (j + 1)) = (rotS base on (m.take j)).set (base + j) ((rotS base on (m.take j)).getD (base + j) 0 ^^^ x) := by
  have hl := (List.getElem?_eq_some_iff.1 h).1
  have hlen : (m.take j).length = j := by simp; omega
  simp only [rotS, take_succ h, List.zipIdx_append, List.foldl_append, hlen, Nat.zero_add]
  rfl

theorem rotS_len (base : Nat) (on m : List UInt8) : (rotS base on m).length = on.length := by
  have : ∀ (l : List (UInt8 × Nat)) (on : List UInt8), (l.foldl (fun on p => on.set (base + p.2) (on.getD (base + p.2) 0 ^^^ p.1)) on).length = on.length := by
    intro l
    induction l with
    | nil => intro on; rfl
    | cons p l ih => intro on; rw [List.foldl_cons, ih]; simp
  exact this _ _

/-- The frame's slots that the loop reads. -/
structure RtF (f : Fr) (ro base : Nat) (x : AVal) (len j : Nat) : Prop where
  s7 : f.get 7 = .sl ro 0 base 256 1
  s26 : f.get 26 = x
  s27 : f.get 27 = .int .i64 (len : Int)
  s28 : f.get 28 = .int .i64 (j : Int)

theorem rot_round {O : Orc} {k : Nat} {f : Fr} {base : Nat} {x : AVal} {m : List UInt8} (hx : Bytes x m) (h : DiskI S p ro cw fw on ws lets off) (hb : base + 256 ≤ on.length) (hm : m.length ≤ 256) {j : Nat} {y : UInt8} (hj : m[j]? = some y) (hf : RtF f ro base x m.length j) :
    Post (evC O k disk_Rot_l0 f S) fun e f' S' => e = .normal ∧ RtF f' ro base x m.length (j + 1) ∧ DiskI S' p ro cw fw (on.set (base + j) (on.getD (base + j) 0 ^^^ y)) ws lets off ∧ Keeps S S' [ro] := by
  have hlt := (List.getElem?_eq_some_iff.1 hj).1
  have hjl : (j : Int) < (m.length : Int) := by omega
  have hj2 : (j : Int) < 256 := by omega
  have hwj : IntKind.i64.wrap ((j : Int) + 1) = (j : Int) + 1 := wrap64 (by omega) (by omega)
  have hix := hx.ix j y hj
  have hbl : base + j < on.length := by omega
  have hld : (bcells on)[base + j]? = some (.int .u8 ((on.getD (base + j) 0).toNat : Int)) := by
    simp [bcells, hbl]
  have hxor := xor_u8 (on.getD (base + j) 0) y
  have hst : splice (bcells on) (base + j) [.int .u8 ((on.getD (base + j) 0 ^^^ y).toNat : Int)] = bcells (on.set (base + j) (on.getD (base + j) 0 ^^^ y)) := by
    simp only [splice, bcells, List.map_set, List.length_singleton]
    rw [List.set_eq_take_append_cons_drop, if_pos (by simp; exact hbl)]
    simp
  have h2 := h.seto (on' := on.set (base + j) (on.getD (base + j) 0 ^^^ y)) (by simp)
  have hsl : iaddrSA 1 (.sl ro 0 base 256 1) (.int .i64 (j : Int)) = some (.ptr ro 0 (base + j)) := by simp [iaddrSA, hj2]
  have hlss : binA .lss (.int .i64 (j : Int)) (.int .i64 (m.length : Int)) = some (.bool true) := by simp [binA, intBin, hjl]
  have hadd : binA .add (.int .i64 (j : Int)) (.int .i64 1) = some (.int .i64 ((j : Int) + 1)) := by simp [binA, intBin, hwj]
  simp only [List.getD_eq_getElem?_getD] at hld hxor hst h2 ⊢
  have hlen : base + j + 1 ≤ (bcells on).length := by rw [bcells_len]; omega
  rw [UInt8.toNat_xor] at hst
  simp [disk_Rot_l0, exM, orc, orcD, evF, evC, evOps, evOper, evAny, evOp, evCall, putR, putA, Fr.ev, Fr.of, Fr.get, Fr.set, stable, junkA, junkL, resultsA, resA, same, Fr.get_set, hf.s7, hf.s26, hf.s27, hf.s28, hix, hsl, hlss, hadd, storeA, cells?, loadA, partA_none, h.ho, hld, hxor, hst, hlen, Post_some]
  refine ⟨⟨?_, ?_, ?_, ?_⟩, h2, Keeps.set S ro _⟩
  · simp [Fr.get_set, hf.s7]
  · simp [Fr.get_set, hf.s26]
  · simp [Fr.get_set, hf.s27]
  · simp [Fr.get_set]

theorem rot_loop {O : Orc} {f : Fr} {base : Nat} {x : AVal} {m : List UInt8} (hx : Bytes x m) (h : DiskI S p ro cw fw on ws lets off) (hb : base + 256 ≤ on.length) (hm : m.length ≤ 256) (hf : RtF f ro base x m.length 0) :
    Post (evC O 1000 disk_Rot_s1 f S) fun e f' S' => e = .normal ∧ DiskI S' p ro cw fw (rotS base on m) ws lets off ∧ Keeps S S' [ro] := by
  obtain ⟨f', S', h1, h2⟩ := loop_post (O := O) (k := 1000) (id := 1) (b := disk_Rot_l0) (I := fun j f T => RtF f ro base x m.length j ∧ DiskI T p ro cw fw (rotS base on (m.take j)) ws lets off ∧ Keeps S T [ro])
    (Q := fun f' S' => DiskI S' p ro cw fw (rotS base on m) ws lets off ∧ Keeps S S' [ro]) m.length (by omega)
    (by
      rintro j hj f T ⟨g1, g2, g3⟩
      obtain ⟨y, hy⟩ : ∃ y, m[j]? = some y := ⟨_, List.getElem?_eq_getElem hj⟩
      refine (rot_round hx g2 (by rw [rotS_len]; exact hb) hm hy g1).mono ?_
      rintro e f' S' ⟨rfl, k1, k2, k3⟩
      exact ⟨rfl, k1, by rw [rotS_succ base on m hy]; exact k2, g3.trans k3 (fun r hr => .inl hr)⟩)
    (by
      rintro f T ⟨g1, g2, g3⟩
      rw [List.take_of_length_le (Nat.le_refl _)] at g2
      simp [disk_Rot_l0, exM, orc, orcD, evF, evC, evOps, evOper, evAny, evOp, evCall, putR, putA, Fr.ev, Fr.of, Fr.get, Fr.set, stable, junkA, junkL, resultsA, resA, same, Fr.get_set, g1.s26, g1.s27, g1.s28, binA, intBin, Post_some]
      exact ⟨g2, g3⟩)
    (f := f) (S := S) ⟨hf, by simpa [rotS] using h, Keeps.refl S _⟩
  rw [show disk_Rot_s1 = .block 1 (.loop disk_Rot_l0) from rfl, h1]
  exact Post.of rfl ⟨rfl, h2⟩

theorem rot_arg (h : DiskI S p ro cw fw on ws lets off) {n : Nat} (hn : on.length = n * 256) (hb : n ≤ 512) (i : Int) (x : AVal) (m : Nat) (hx : lenA .sl x = some (.int .i64 m)) (hbad : ¬ (0 ≤ i ∧ i < n) ∨ 256 < m) :
    xRot [.ptr p 0 0, .int .i64 i, x] S = some (.int .i64 1, S) := by
  have hh := has_ok h hn hb i
  by_cases h1 : 0 ≤ i ∧ i < n
  · have h2 : 256 < m := by rcases hbad with h2 | h2; exact absurd h1 h2; exact h2
    have h3 : (256 : Int) < (m : Int) := by omega
    have h4 : decide (0 ≤ i ∧ i < (n : Int)) = true := by simp [h1]
    rw [h4] at hh
    simp [xRot, disk_Rot, exM, orc, orcD, evF, evC, evOps, evOper, evAny, evOp, evCall, putR, putA, Fr.ev, Fr.of, Fr.get, Fr.set, stable, junkA, junkL, resultsA, resA, same, eq2, hh, unA, hx, binA, intBin, h3]
  · have h4 : decide (0 ≤ i ∧ i < (n : Int)) = false := by simp; intro h5; have := h1; omega
    rw [h4] at hh
    simp [xRot, disk_Rot, exM, orc, orcD, evF, evC, evOps, evOper, evAny, evOp, evCall, putR, putA, Fr.ev, Fr.of, Fr.get, Fr.set, stable, junkA, junkL, resultsA, resA, same, eq2, hh, unA]

theorem rot_ok (h : DiskI S p ro cw fw on ws lets off) {n : Nat} (hn : on.length = n * 256) (hb : n ≤ 512) {i : Nat} (hi : i < n) {x : AVal} {m : List UInt8} (hx : Bytes x m) (hm : m.length ≤ 256) :
    ∃ S', xRot [.ptr p 0 0, .int .i64 i, x] S = some (.int .i64 0, S') ∧ DiskI S' p ro cw fw (rotS (i * 256) on m) ws lets off ∧ Keeps S S' [ro] := by
  have hh := has_ok h hn hb i
  have h4 : decide (0 ≤ (i : Int) ∧ (i : Int) < (n : Int)) = true := by simp; omega
  rw [h4] at hh
  have hsec := sector_ok h hn hb hi
  have h3 : ¬ (256 : Int) < (m.length : Int) := by omega
  suffices hsuf : Post (evC (orc [xHas, xSector]) 1000 disk_Rot.body (Fr.of [.ptr p 0 0, .int .i64 i, x]) S) (fun e f S' => (e = .normal ∨ e = .ret) ∧ resultsA f S' disk_Rot.results = some (.int .i64 0) ∧
      DiskI S' p ro cw fw (rotS (i * 256) on m) ws lets off ∧ Keeps S S' [ro]) by
    obtain ⟨e, f, S', g1, g2, g3, g4, g5⟩ := hsuf.ex
    exact ⟨S', evF_post rfl rfl (.of g1 ⟨g2, g3, rfl⟩), g4, g5⟩
  simp only [disk_Rot, disk_Rot_t2, Post_seq]
  simp [exM, orc, orcD, evF, evC, evOps, evOper, evAny, evOp, evCall, putR, putA, Fr.ev, Fr.of, Fr.get, Fr.set, stable, junkA, junkL, resultsA, resA, same, eq2, hh, unA, hx.len, binA, intBin, h3, hsec, Post_some]
  refine (rot_loop (O := orc [xHas, xSector]) hx h (base := i * 256) (by omega) hm ⟨rfl, rfl, rfl, rfl⟩).mono ?_
  rintro e f' S' ⟨rfl, g1, g2⟩
  simp [exM, orc, orcD, evF, evC, evOps, evOper, evAny, evOp, evCall, putR, putA, Fr.ev, Fr.of, Fr.get, Fr.set, stable, junkA, junkL, resultsA, resA, same, Fr.get_set, Post_some]
  exact ⟨g1, g2⟩
end Am.Disk
end

/- The disk over its heap: what is read. -/
section
namespace Am.Disk
open Am Go Am.Ir
set_option maxRecDepth 100000

variable {S : St} {p ro : Nat} {cw : AVal} {fw : List Nat} {on : List UInt8} {ws : List (Nat × List UInt8)} {lets : Int} {off : Bool}

/-- The newest write of a sector that waits. -/
def newestS (ws : List (Nat × List UInt8)) (i : Nat) : Option (List UInt8) := (ws.reverse.find? (fun w => w.1 == i)).map (·.2)

theorem newestS_succ {i j : Nat} {w} (h : ws[j]? = some w) : newestS (ws.take (j + 1)) i = if w.1 = i then some w.2 else newestS (ws.take j) i := by
  rw [take_succ h]
  simp only [newestS, List.reverse_append, List.reverse_singleton, List.singleton_append, List.find?_cons]
  by_cases e : w.1 = i
  · simp [e]
  · have : (w.1 == i) = false := by simp [e]
    simp [this, e]

def readS (on : List UInt8) (ws : List (Nat × List UInt8)) (i : Nat) : List UInt8 := match newestS ws i with
  | some u => u
  | none => (on.drop (i * 256)).take 256

/-- While it is looked for. -/
structure RdI (S T : St) (i : Nat) : Prop where
  keep : ∀ r, r < S.length → T[r]? = S[r]?
  b3 : T[S.length]? = some (.live 0 [.int .i64 (i : Int)])
  b4 : T[S.length + 1]? = some (.live 0 [.nils])
  b5 : T[S.length + 2]? = some (.live 0 [.int .i64 0])
  lp : T[S.length + 3]? = some (.loop .ready none)

/-- When it is found. -/
structure RdF (S T : St) (u : List UInt8) : Prop where
  keep : ∀ r, r < S.length → T[r]? = S[r]?
  b4 : T[S.length + 1]? = some (.live 0 [.fz false u.length (bcells u)])
  b5 : T[S.length + 2]? = some (.live 0 [.int .i64 0])
  lp : T[S.length + 3]? = some (.loop .done (some .ret))

theorem get_lt {S : St} {r : Nat} {b : ABlock} (h : S[r]? = some b) : r < S.length := (List.getElem?_eq_some_iff.1 h).1

theorem set_get {S : St} {r : Nat} (h : r < S.length) (b : ABlock) : (S.set r b)[r]? = some b := by simp [h]
theorem set_get' {S : St} {r q : Nat} (h : q ≠ r) (b : ABlock) : (S.set r b)[q]? = S[q]? := by rw [List.getElem?_set, if_neg (fun e => h e.symm)]
theorem app_get (S : St) (b : ABlock) : (S ++ [b])[S.length]? = some b := by simp

theorem fz_cells (fl : Bool) (u : List UInt8) (S : St) : cellsOf 1 (.fz fl u.length (bcells u)) S = some (u.length, bcells u) := by
  simp [cellsOf, bcells_len]

def rdOrc (O : Orc) : Prop := O.loc[2]? = some mClone

theorem read_round {O : Orc} {k : Nat} (hO : O.loc[2]? = some mClone) {f : Fr} {T : St} {i at' : Nat} {b : List UInt8} (hb : b.length ≤ 256) (h : RdI S T i)
    (h3 : f.get 3 = .ptr S.length 0 0) (h4 : f.get 4 = .ptr (S.length + 1) 0 0) (h5 : f.get 5 = .ptr (S.length + 2) 0 0) :
    ∃ T', rnd (evC O k disk_Read_a0) (evC O k disk_Read_r1) [23] f (S.length + 3) [.agg [.int .i64 (at' : Int), .fz false b.length (bcells b)]] T = some (.bool (decide (at' ≠ i)), T') ∧
      (at' ≠ i → RdI S T' i) ∧ (at' = i → RdF S T' b) := by
  have l3 := get_lt h.lp
  have ha : evC O k disk_Read_a0 (f.set 23 (.agg [.int .i64 (at' : Int), .fz false b.length (bcells b)])) T =
      some (.normal, (f.set 23 (.agg [.int .i64 (at' : Int), .fz false b.length (bcells b)])).set 6 (.ptr T.length 0 0), T ++ [.live 0 [.int .i64 (at' : Int), .fz false b.length (bcells b)]]) := by
    simp [disk_Read_a0, exM, orc, orcD, evF, evC, evOps, evOper, evAny, evOp, evCall, putR, putA, Fr.ev, Fr.of, Fr.get, Fr.set, stable, junkA, junkL, resultsA, resA, same, Fr.get_set, storeA, cells?, splice]
  obtain ⟨T1, hT1⟩ : ∃ T1 : St, T ++ [.live 0 [.int .i64 (at' : Int), .fz false b.length (bcells b)]] = T1 := ⟨_, rfl⟩
  have hlen1 : T1.length = T.length + 1 := by rw [← hT1]; simp
  have old1 : ∀ r, r < T.length → T1[r]? = T[r]? := fun r hr => by rw [← hT1, get_old hr]
  have new1 : T1[T.length]? = some (.live 0 [.int .i64 (at' : Int), .fz false b.length (bcells b)]) := by rw [← hT1]; exact app_get _ _
  rw [hT1] at ha
  have lp1 : T1[S.length + 3]? = some (.loop .ready none) := by rw [old1 _ l3]; exact h.lp
  obtain ⟨T2, hT2⟩ : ∃ T2 : St, T1.set (S.length + 3) (.loop .busy none) = T2 := ⟨_, rfl⟩
  have hlen2 : T2.length = T.length + 1 := by rw [← hT2]; simp [hlen1]
  have g2 : ∀ r, r ≠ S.length + 3 → T2[r]? = T1[r]? := fun r hr => by rw [← hT2, set_get' hr]
  have lp2 : T2[S.length + 3]? = some (.loop .busy none) := by rw [← hT2]; exact set_get (by omega) _
  have n2 : T2[T.length]? = some (.live 0 [.int .i64 (at' : Int), .fz false b.length (bcells b)]) := by rw [g2 _ (by omega)]; exact new1
  have c3 : T2[S.length]? = some (.live 0 [.int .i64 (i : Int)]) := by rw [g2 _ (by omega), old1 _ (by omega)]; exact h.b3
  have c4 : T2[S.length + 1]? = some (.live 0 [.nils]) := by rw [g2 _ (by omega), old1 _ (by omega)]; exact h.b4
  have c5 : T2[S.length + 2]? = some (.live 0 [.int .i64 0]) := by rw [g2 _ (by omega), old1 _ (by omega)]; exact h.b5
  have ck : ∀ r, r < S.length → T2[r]? = S[r]? := fun r hr => by rw [g2 _ (by omega), old1 _ (by omega)]; exact h.keep r hr
  by_cases e : at' = i
  · have e' : (at' : Int) = (i : Int) := by omega
    have hcl := mClone_ok (S := T2) (x := .fz false b.length (bcells b)) (u := b) rfl (fz_cells _ _ _) (by omega)
    have c5' : ∀ bl, (T2.set (S.length + 1) bl)[S.length + 2]? = some (.live 0 [.int .i64 0]) := fun bl => by rw [set_get' (by omega)]; exact c5
    have hb' : evC O k disk_Read_r1 ((f.set 23 (.agg [.int .i64 (at' : Int), .fz false b.length (bcells b)])).set 6 (.ptr T.length 0 0)) T2 =
        some (.ret, (((((((f.set 23 (.agg [.int .i64 (at' : Int), .fz false b.length (bcells b)])).set 6 (.ptr T.length 0 0)).set 24 (.ptr T.length 0 0)).set 25 (.int .i64 (at' : Int))).set 26 (.int .i64 (i : Int))).set 27 (.bool true)).set 28 (.ptr T.length 0 1)).set 29 (.fz false b.length (bcells b)) |>.set 30 (.fz false b.length (bcells b)),
          (T2.set (S.length + 1) (.live 0 [.fz false b.length (bcells b)])).set (S.length + 2) (.live 0 [.int .i64 0])) := by
      simp [disk_Read_r1, exM, orc, orcD, evF, evC, evOps, evOper, evAny, evOp, evCall, putR, putA, Fr.ev, Fr.of, Fr.get, Fr.set, stable, junkA, junkL, resultsA, resA, same, Fr.get_set, h3, h4, h5, faddrA, loadA, partA_none, n2, c3, c4, c5', binA, intBin, e', hO, hcl, storeA, cells?, splice]
    refine ⟨((T2.set (S.length + 1) (.live 0 [.fz false b.length (bcells b)])).set (S.length + 2) (.live 0 [.int .i64 0])).set (S.length + 3) (.loop .done (some .ret)), ?_, fun hne => absurd e hne, fun _ => ?_⟩
    · have lp3 : ((T2.set (S.length + 1) (.live 0 [.fz false b.length (bcells b)])).set (S.length + 2) (.live 0 [.int .i64 0]))[S.length + 3]? = some (.loop .busy none) := by
        rw [set_get' (by omega), set_get' (by omega)]; exact lp2
      simp only [rnd, List.length_cons, List.length_nil, if_true, h.lp, List.zip_cons_cons, List.zip_nil_left, List.foldl_cons, List.foldl_nil, ha, lp1, hT2, hb', lp3]
      simp [e]
    · refine ⟨fun r hr => ?_, ?_, ?_, ?_⟩
      · rw [set_get' (by omega), set_get' (by omega), set_get' (by omega)]; exact ck r hr
      · rw [set_get' (by omega), set_get' (by omega), set_get (by omega)]
      · rw [set_get' (by omega), set_get (by simp; omega)]
      · rw [set_get (by simp; omega)]
  · have e' : ¬ (at' : Int) = (i : Int) := by omega
    have hb' : evC O k disk_Read_r1 ((f.set 23 (.agg [.int .i64 (at' : Int), .fz false b.length (bcells b)])).set 6 (.ptr T.length 0 0)) T2 =
        some (.normal, (((((f.set 23 (.agg [.int .i64 (at' : Int), .fz false b.length (bcells b)])).set 6 (.ptr T.length 0 0)).set 24 (.ptr T.length 0 0)).set 25 (.int .i64 (at' : Int))).set 26 (.int .i64 (i : Int))).set 27 (.bool ((at' : Int) == (i : Int))), T2) := by
      simp [disk_Read_r1, exM, orc, orcD, evF, evC, evOps, evOper, evAny, evOp, evCall, putR, putA, Fr.ev, Fr.of, Fr.get, Fr.set, stable, junkA, junkL, resultsA, resA, same, Fr.get_set, h3, h4, h5, faddrA, loadA, partA_none, n2, c3, binA, intBin, e']
    refine ⟨T2.set (S.length + 3) (.loop .ready none), ?_, fun _ => ?_, fun he => absurd he e⟩
    · simp only [rnd, List.length_cons, List.length_nil, if_true, h.lp, List.zip_cons_cons, List.zip_nil_left, List.foldl_cons, List.foldl_nil, ha, lp1, hT2, hb', lp2]
      simp [e]
    · refine ⟨fun r hr => ?_, ?_, ?_, ?_, ?_⟩
      · rw [set_get' (by omega)]; exact ck r hr
      · rw [set_get' (by omega)]; exact c3
      · rw [set_get' (by omega)]; exact c4
      · rw [set_get' (by omega)]; exact c5
      · rw [set_get (by omega)]

/-- What the loop does with what comes. -/
def rdY (O : Orc) (k : Nat) (f : Fr) (n0 : Nat) : Nat → Model := fun j args S' => if j = n0 then rnd (evC O k disk_Read_a0) (evC O k disk_Read_r1) [23] f n0 args S' else none

/-- The iterator's slots. -/
structure NwF (g : Fr) (p j0 : Nat) (x : Int) : Prop where
  s0 : g.get 0 = .ptr p 0 0
  s1 : g.get 1 = .yld j0
  s4 : g.get 4 = .int .i64 x

theorem newest_loop {O : Orc} {k : Nat} (hO : O.loc[2]? = some mClone) {f : Fr} (h : DiskI S p ro cw fw on ws lets off) {i : Nat} (hw : ∀ w ∈ ws, w.2.length ≤ 256) (hwl : ws.length ≤ 900)
    (h3 : f.get 3 = .ptr S.length 0 0) (h4 : f.get 4 = .ptr (S.length + 1) 0 0) (h5 : f.get 5 = .ptr (S.length + 2) 0 0) {T : St} (hT : RdI S T i) {g : Fr} (hg : NwF g p (S.length + 3) ((ws.length : Int) - 1)) :
    Post (evC { orc [] with yld := rdY O k f (S.length + 3) } 1000 disk_newest_s1 g T) fun e g' T' => (e = .normal ∧ RdI S T' i ∧ newestS ws i = none) ∨ (e = .ret ∧ ∃ u, RdF S T' u ∧ newestS ws i = some u) := by
  have hd : ∀ T, RdI S T i → DiskI T p ro cw fw on ws lets off := fun T hT => by
    have hk : Keeps S T [] := ⟨by have := get_lt hT.lp; omega, fun r hr _ => hT.keep r hr⟩
    exact h.keep hk (by simp)
  obtain ⟨e, g', T', h1, h2, h6⟩ := iter_post (step := evC { orc [] with yld := rdY O k f (S.length + 3) } 1000 disk_newest_l0)
    (I := fun m g T => RdI S T i ∧ NwF g p (S.length + 3) ((ws.length : Int) - 1 - m) ∧ newestS ws i = newestS (ws.take (ws.length - m)) i)
    (Q := fun e g T => (e = .exit 0 ∧ RdI S T i ∧ newestS ws i = none) ∨ (e = .ret ∧ ∃ u, RdF S T u ∧ newestS ws i = some u)) ws.length
    (by
      rintro m hm g T ⟨g1, g2, g3⟩
      obtain ⟨d, hdm⟩ : ∃ d, ws.length - 1 - m = d := ⟨_, rfl⟩
      obtain ⟨w, hwm⟩ : ∃ w, ws[d]? = some w := ⟨_, List.getElem?_eq_getElem (by omega)⟩
      have hidx : ((ws.length : Int) - 1 - m) = (d : Int) := by omega
      rw [hidx] at g2
      have hDT := hd T g1
      obtain ⟨rw', vw, hq1, hq2, hq3⟩ := wait_ix hDT hwm
      obtain ⟨at', b⟩ := w
      simp only at hq3
      obtain ⟨T', k1, k2, k3⟩ := read_round (k := k) hO (f := f) (T := T) (i := i) (at' := at') (b := b) (hw _ (List.mem_of_getElem? hwm)) g1 h3 h4 h5
      have hy : rdY O k f (S.length + 3) (S.length + 3) [.agg [.int .i64 (at' : Int), .fz false b.length (bcells b)]] T = some (.bool (decide (at' ≠ i)), T') := by
        simp only [rdY, if_true]; exact k1
      have hge : binA .geq (.int .i64 (d : Int)) (.int .i64 0) = some (.bool true) := by simp [binA, intBin]
      have hsub : binA .sub (.int .i64 (d : Int)) (.int .i64 1) = some (.int .i64 ((d : Int) - 1)) := by
        simp only [binA, intBin]; rw [if_neg (by simp), if_pos trivial, wrap64 (by omega) (by omega)]
      have htk : ws.length - m = d + 1 := by omega
      have hsucc := newestS_succ (i := i) hwm
      rw [htk] at g3
      by_cases e : at' = i
      · have hd0 : decide (at' ≠ i) = false := by simp [e]
        rw [hd0] at hy
        simp [disk_newest_l0, exM, orc, orcD, evF, evC, evOps, evOper, evAny, evOp, evCall, putR, putA, Fr.ev, Fr.of, Fr.get, Fr.set, stable, junkA, junkL, resultsA, resA, same, Fr.get_set, g2.s0, g2.s1, g2.s4, hge, faddrA, loadA, partA_none, hDT.hp, hq1, hq2, hq3, hy, unA, Post_some]
        exact ⟨b, k3 e, by rw [g3, hsucc]; simp [e]⟩
      · have hd0 : decide (at' ≠ i) = true := by simp [e]
        rw [hd0] at hy
        simp [disk_newest_l0, exM, orc, orcD, evF, evC, evOps, evOper, evAny, evOp, evCall, putR, putA, Fr.ev, Fr.of, Fr.get, Fr.set, stable, junkA, junkL, resultsA, resA, same, Fr.get_set, g2.s0, g2.s1, g2.s4, hge, hsub, faddrA, loadA, partA_none, hDT.hp, hq1, hq2, hq3, hy, unA, Post_some]
        refine ⟨k2 e, ⟨?_, ?_, ?_⟩, ?_⟩
        · simp [Fr.get_set, g2.s0]
        · simp [Fr.get_set, g2.s1]
        · simp [Fr.get_set]; omega
        · rw [g3, hsucc]; simp [e]; congr 2; omega)
    (by
      rintro g T ⟨g1, g2, g3⟩
      have hge : binA .geq (.int .i64 ((ws.length : Int) - 1 - ws.length)) (.int .i64 0) = some (.bool false) := by
        simp [binA, intBin]; omega
      have h4 := g2.s4
      simp [disk_newest_l0, exM, orc, orcD, evF, evC, evOps, evOper, evAny, evOp, evCall, putR, putA, Fr.ev, Fr.of, Fr.get, Fr.set, stable, junkA, junkL, resultsA, resA, same, Fr.get_set, h4, hge, Post_some]
      exact ⟨g1, by rw [g3]; simp [newestS]⟩) (fuel := 1000) (by omega) (f := g) (S := T) ⟨hT, by simpa using hg, by simp⟩
  rw [show disk_newest_s1 = .block 0 (.loop disk_newest_l0) from rfl]
  simp only [evC, h1]
  rcases h6 with ⟨rfl, k1, k2⟩ | ⟨rfl, u, k1, k2⟩
  · simp [Post_some]; exact ⟨k1, k2⟩
  · simp [Post_some]; exact ⟨u, k1, k2⟩
end Am.Disk
end

/- The disk over its heap: what is read, told in place. -/
section
namespace Am.Disk
open Am Go Am.Ir
set_option maxRecDepth 100000

variable {S : St} {p ro : Nat} {cw : AVal} {fw : List Nat} {on : List UInt8} {ws : List (Nat × List UInt8)} {lets : Int} {off : Bool}

noncomputable def oRead : Orc := orcD [xHas, xSector, mClone] [] [(nNewest, iNewest)]
noncomputable def yRead : Model := exM oRead disk_Read 10
/-- 'Read', whose result nobody writes. -/
noncomputable def mRead : Model := tellM 3 yRead

theorem get_mark {f : Fr} {j t : Nat} (v : AVal) (ht : t < markBase) : Fr.get ((markBase + j, v) :: f) t = f.get t := by
  simp only [Fr.get]; rw [if_neg (by omega)]

theorem newest_run {f : Fr} (h : DiskI S p ro cw fw on ws lets off) {i : Nat} (hw : ∀ w ∈ ws, w.2.length ≤ 256) (hwl : ws.length ≤ 900)
    (h3 : f.get 3 = .ptr S.length 0 0) (h4 : f.get 4 = .ptr (S.length + 1) 0 0) (h5 : f.get 5 = .ptr (S.length + 2) 0 0) {T : St} (hT : RdI S T i) :
    ∃ T', iNewest (rdY oRead 10 f (S.length + 3)) [.ptr p 0 0, .yld (S.length + 3)] T = some (.tup [], T') ∧ ((RdI S T' i ∧ newestS ws i = none) ∨ ∃ u, RdF S T' u ∧ newestS ws i = some u) := by
  have hk : Keeps S T [] := ⟨by have := get_lt hT.lp; omega, fun r hr _ => hT.keep r hr⟩
  have hD := h.keep hk (by simp)
  have hwl' : IntKind.i64.wrap ((ws.length : Int) - 1) = (ws.length : Int) - 1 := wrap64 (by omega) (by omega)
  have hsub : binA .sub (.int .i64 (ws.length : Int)) (.int .i64 1) = some (.int .i64 ((ws.length : Int) - 1)) := by
    simp only [binA, intBin]; rw [if_neg (by simp), if_pos trivial, hwl']
  suffices hs : Post (evC { orc [] with yld := rdY oRead 10 f (S.length + 3) } 1000 disk_newest.body (Fr.of [.ptr p 0 0, .yld (S.length + 3)]) T) (fun e f S1 => (e = .normal ∨ e = .ret) ∧ resultsA f S1 disk_newest.results = some (.tup []) ∧
      ((RdI S S1 i ∧ newestS ws i = none) ∨ ∃ u, RdF S S1 u ∧ newestS ws i = some u)) by
    obtain ⟨e, g, T', g1, g2, g3, g4⟩ := hs.ex
    exact ⟨T', evF_post rfl rfl (.of g1 ⟨g2, g3, rfl⟩), g4⟩
  simp only [disk_newest, Post_seq]
  simp [exM, orc, orcD, evF, evC, evOps, evOper, evAny, evOp, evCall, putR, putA, Fr.ev, Fr.of, Fr.get, Fr.set, stable, junkA, junkL, resultsA, resA, same, faddrA, loadA, hD.hp, partA_none, hD.hw.len, hsub, Post_some]
  refine (newest_loop (O := oRead) (k := 10) rfl h hw hwl h3 h4 h5 hT ⟨rfl, rfl, rfl⟩).mono ?_
  rintro e g' T' (⟨rfl, k1, k2⟩ | ⟨rfl, u, k1, k2⟩)
  · exact ⟨.inl rfl, .inl ⟨k1, k2⟩⟩
  · exact ⟨.inr rfl, .inr ⟨u, k1, k2⟩⟩

theorem read_range {f : Fr} (h : DiskI S p ro cw fw on ws lets off) {i : Nat} (hw : ∀ w ∈ ws, w.2.length ≤ 256) (hwl : ws.length ≤ 900) (hm : marks f = [])
    (h3 : f.get 3 = .ptr S.length 0 0) (h4 : f.get 4 = .ptr (S.length + 1) 0 0) (h5 : f.get 5 = .ptr (S.length + 2) 0 0) (h22 : f.get 22 = .fn (.func nNewest) [.ptr p 0 0] []) {S3 : St} (hS3 : S3 = S ++ [.live 0 [.int .i64 (i : Int)], .live 0 [.nils], .live 0 [.int .i64 0]]) :
    Post (evC oRead 10 disk_Read_b3 f S3) fun e f' T => f' = (markBase + (S.length + 3), .junk) :: f ∧ (∀ r, r < S.length → T[r]? = S[r]?) ∧ (∃ st pe, T[S.length + 3]? = some (.loop st pe)) ∧ T[S.length + 2]? = some (.live 0 [.int .i64 0]) ∧
      ((e = .normal ∧ newestS ws i = none ∧ T[S.length]? = some (.live 0 [.int .i64 (i : Int)]) ∧ T[S.length + 1]? = some (.live 0 [.nils])) ∨
        (e = .ret ∧ ∃ u, newestS ws i = some u ∧ T[S.length + 1]? = some (.live 0 [.fz false u.length (bcells u)]))) := by
  have hl3 : S3.length = S.length + 3 := by rw [hS3]; simp
  have hT : RdI S (S3 ++ [.loop .ready none]) i := by
    subst hS3
    refine ⟨fun r hr => by rw [List.append_assoc, get_old hr], ?_, ?_, ?_, ?_⟩ <;> simp
  obtain ⟨T', k1, k2⟩ := newest_run (f := f) h hw hwl h3 h4 h5 hT
  have hit : oRead.itr nNewest = iNewest := rfl
  have hY : (fun j args S' => if j = S3.length then rnd (evC oRead 10 disk_Read_a0) (evC oRead 10 disk_Read_r1) [23] f j args S' else none) = rdY oRead 10 f (S.length + 3) := by
    funext j args S'
    simp only [rdY, hl3]
    split
    · rename_i e; rw [e]
    · rfl
  have hev : evC oRead 10 disk_Read_g2 f S3 = rngEnd f (S.length + 3) (some (.tup [], T')) := by
    simp only [disk_Read_g2, evC, Fr.ev, h22, hm]
    rw [hit, hY, hl3, List.append_nil, ← k1]; rfl
  have hb3 : evC oRead 10 disk_Read_b3 f S3 = (match evC oRead 10 disk_Read_g2 f S3 with | some (.exit id', f', S') => some (if id' = 1 then .normal else .exit id', f', S') | r => r) := rfl
  rw [hb3, hev]
  rcases k2 with ⟨c1, c2⟩ | ⟨u, c1, c2⟩
  · have hlt := get_lt c1.lp
    simp only [rngEnd, c1.lp, Post_some]
    refine ⟨by trivial, fun r hr => ?_, ⟨_, _, set_get (by omega) _⟩, ?_, .inl ⟨by trivial, c2, ?_, ?_⟩⟩
    · rw [set_get' (by omega)]; exact c1.keep r hr
    · rw [set_get' (by omega)]; exact c1.b5
    · rw [set_get' (by omega)]; exact c1.b3
    · rw [set_get' (by omega)]; exact c1.b4
  · have hlt := get_lt c1.lp
    simp only [rngEnd, c1.lp, Post_some]
    refine ⟨by trivial, fun r hr => ?_, ⟨_, _, set_get (by omega) _⟩, ?_, .inr ⟨by trivial, u, c2, ?_⟩⟩
    · rw [set_get' (by omega)]; exact c1.keep r hr
    · rw [set_get' (by omega)]; exact c1.b5
    · rw [set_get' (by omega)]; exact c1.b4

theorem prefix_of {S T : St} (hl : S.length ≤ T.length) (h : ∀ r, r < S.length → T[r]? = S[r]?) : T = S ++ T.drop S.length := by
  apply List.ext_getElem?
  intro r
  by_cases hr : r < S.length
  · rw [get_old hr, h r hr]
  · rw [List.getElem?_append_right (by omega), List.getElem?_drop]; congr 1; omega

theorem mRead_of {x : AVal} {e : Int} {i : Int} {u : List UInt8} {T : St} (h : yRead [.ptr p 0 0, .int .i64 i] S = some (.tup [x, .int .i64 e], T)) (hx : x = .fz false u.length (bcells u) ∨ x = .nils) (hl : S.length ≤ T.length) (hk : ∀ r, r < S.length → T[r]? = S[r]?) :
    mRead [.ptr p 0 0, .int .i64 i] S = some (.tup [x, .int .i64 e], S) := by
  rw [prefix_of hl hk] at h
  refine tellM_new h ?_
  have h1 : ∀ T, deep T S.length 2 x = some x := by
    intro T
    rcases hx with rfl | rfl
    · show ((bcells u).mapM (deep T S.length 1)).map (AVal.fz false u.length) = _
      rw [deep_bcells]; rfl
    · rfl
  show ([x, .int .i64 e].mapM (deep _ S.length 2)).map AVal.tup = _
  simp only [List.mapM_cons, List.mapM_nil, h1, show deep (S ++ List.drop S.length T) S.length 2 (.int .i64 e) = some (.int .i64 e) from rfl]
  rfl

theorem read_off (h : DiskI S p ro cw fw on ws lets true) (i : Int) : mRead [.ptr p 0 0, .int .i64 i] S = some (.tup [.nils, .int .i64 8], S) := by
  refine mRead_of (u := []) (T := S ++ [.live 0 [.int .i64 i], .live 0 [.nils], .live 0 [.int .i64 8]]) ?_ (.inr rfl) (by simp) (fun r hr => get_old hr)
  have hp : ∀ E : St, (S ++ E)[p]? = some (.live 0 [.sl ro 0 0 on.length 1, cw, .int .i64 lets, .bool true]) := fun E => by rw [get_old (live_lt h.hp)]; exact h.hp
  simp [yRead, oRead, disk_Read, exM, orc, orcD, evF, evC, evOps, evOper, evAny, evOp, evCall, putR, putA, Fr.ev, Fr.of, Fr.get, Fr.set, stable, junkA, junkL, resultsA, resA, same, eq2, faddrA, loadA, hp, partA_none, cells?, storeA, splice, marks, markBase, shut]

theorem read_arg (h : DiskI S p ro cw fw on ws lets false) {n : Nat} (hn : on.length = n * 256) (hb : n ≤ 512) (i : Int) (hbad : ¬ (0 ≤ i ∧ i < n)) : mRead [.ptr p 0 0, .int .i64 i] S = some (.tup [.nils, .int .i64 1], S) := by
  refine mRead_of (u := []) (T := S ++ [.live 0 [.int .i64 i], .live 0 [.nils], .live 0 [.int .i64 1]]) ?_ (.inr rfl) (by simp) (fun r hr => get_old hr)
  have hp : ∀ E : St, (S ++ E)[p]? = some (.live 0 [.sl ro 0 0 on.length 1, cw, .int .i64 lets, .bool false]) := fun E => by rw [get_old (live_lt h.hp)]; exact h.hp
  have hh : ∀ E : St, xHas [.ptr p 0 0, .int .i64 i] (S ++ E) = some (.bool false, S ++ E) := fun E => by
    have := has_ok (h.keep (Keeps.append S E) (by simp)) hn hb i
    have h4 : decide (0 ≤ i ∧ i < (n : Int)) = false := by simp; intro h5; omega
    rw [h4] at this; exact this
  simp [yRead, oRead, disk_Read, exM, orc, orcD, evF, evC, evOps, evOper, evAny, evOp, evCall, putR, putA, Fr.ev, Fr.of, Fr.get, Fr.set, stable, junkA, junkL, resultsA, resA, same, eq2, faddrA, loadA, hp, hh, unA, partA_none, cells?, storeA, splice, marks, markBase, shut]

theorem read_ok (h : DiskI S p ro cw fw on ws lets false) {n : Nat} (hn : on.length = n * 256) (hb : n ≤ 512) (hw : WsOk n ws) (hwl : ws.length ≤ 900) {i : Nat} (hi : i < n) :
    mRead [.ptr p 0 0, .int .i64 i] S = some (.tup [.fz false 256 (bcells (readS on ws i)), .int .i64 0], S) ∧ (readS on ws i).length = 256 := by
  have hp : ∀ E : St, (S ++ E)[p]? = some (.live 0 [.sl ro 0 0 on.length 1, cw, .int .i64 lets, .bool false]) := fun E => by rw [get_old (live_lt h.hp)]; exact h.hp
  have hh : ∀ E : St, xHas [.ptr p 0 0, .int .i64 i] (S ++ E) = some (.bool true, S ++ E) := fun E => by
    have := has_ok (h.keep (Keeps.append S E) (by simp)) hn hb i
    have h4 : decide (0 ≤ (i : Int) ∧ (i : Int) < (n : Int)) = true := by simp; omega
    rw [h4] at this; exact this
  have hlen : (readS on ws i).length = 256 := by
    unfold readS
    cases hx : newestS ws i with
    | none => simp; omega
    | some u =>
      simp only [newestS, Option.map_eq_some_iff] at hx
      obtain ⟨w, hw1, rfl⟩ := hx
      have := List.mem_of_find?_eq_some hw1
      exact (hw w (by simpa using this)).2
  refine ⟨?_, hlen⟩
  suffices hs : ∃ T, yRead [.ptr p 0 0, .int .i64 i] S = some (.tup [.fz false (readS on ws i).length (bcells (readS on ws i)), .int .i64 0], T) ∧ S.length ≤ T.length ∧ ∀ r, r < S.length → T[r]? = S[r]? by
    obtain ⟨T, h1, h2, h3⟩ := hs
    have := mRead_of h1 (.inl rfl) h2 h3
    rw [hlen] at this; exact this
  suffices hs : Post (evC oRead 10 disk_Read.body (Fr.of [.ptr p 0 0, .int .i64 i]) S) (fun e f S1 => (e = .normal ∨ e = .ret) ∧ ∃ T, shut (marks f) S1 = some T ∧ resultsA f T disk_Read.results = some (.tup [.fz false (readS on ws i).length (bcells (readS on ws i)), .int .i64 0]) ∧
      S.length ≤ T.length ∧ ∀ r, r < S.length → T[r]? = S[r]?) by
    obtain ⟨e, f, S1, g1, g2, T, g3, g4, g5, g6⟩ := hs.ex
    exact ⟨T, evF_postR rfl rfl (.of g1 ⟨g2, g3, g4⟩), g5, g6⟩
  simp only [disk_Read, disk_Read_t4, Post_seq]
  simp [exM, orc, orcD, evF, evC, evOps, evOper, evAny, evOp, evCall, putR, putA, Fr.ev, Fr.of, Fr.get, Fr.set, stable, junkA, junkL, resultsA, resA, same, eq2, faddrA, loadA, hp, hh, unA, partA_none, cells?, Post_some, oRead]
  refine (read_range h (fun w hm => Nat.le_of_eq (hw w hm).2) hwl rfl rfl rfl rfl rfl (i := i) rfl).mono ?_
  rintro e f' T ⟨hf', hk, ⟨st, pe, hlp⟩, hb5, hres⟩
  have mb : (100 : Nat) < markBase := by simp [markBase]
  have f0 : f'.get 0 = .ptr p 0 0 := by rw [hf', get_mark _ (by omega)]; rfl
  have f3 : f'.get 3 = .ptr S.length 0 0 := by rw [hf', get_mark _ (by omega)]; rfl
  have f4 : f'.get 4 = .ptr (S.length + 1) 0 0 := by rw [hf', get_mark _ (by omega)]; rfl
  have f5 : f'.get 5 = .ptr (S.length + 2) 0 0 := by rw [hf', get_mark _ (by omega)]; rfl
  have fm : marks f' = [S.length + 3] := by rw [hf', marks_mark]; rfl
  have hlt := get_lt hlp
  have hkT : Keeps S T [] := ⟨by omega, fun r hr _ => hk r hr⟩
  have fin : ∀ (T2 : St) (u : List UInt8), (∀ r, r < S.length → T2[r]? = S[r]?) → T2[S.length + 1]? = some (.live 0 [.fz false u.length (bcells u)]) → T2[S.length + 2]? = some (.live 0 [.int .i64 0]) → T2[S.length + 3]? = some (.loop st pe) → readS on ws i = u →
      shut [S.length + 3] T2 = some (T2.set (S.length + 3) .dead) ∧ (T2.set (S.length + 3) .dead)[S.length + 1]? = some (.live 0 [.fz false (readS on ws i).length (bcells (readS on ws i))]) ∧
      (T2.set (S.length + 3) .dead)[S.length + 2]? = some (.live 0 [.int .i64 0]) ∧ S.length ≤ (T2.set (S.length + 3) .dead).length ∧ ∀ r, r < S.length → (T2.set (S.length + 3) .dead)[r]? = S[r]? := by
    rintro T2 u g1 g2 g3 g4 rfl
    have := get_lt g4
    refine ⟨by simp [shut, g4], by rw [set_get' (by omega)]; exact g2, by rw [set_get' (by omega)]; exact g3, by simp; omega, fun r hr => by rw [set_get' (by omega)]; exact g1 r hr⟩
  rcases hres with ⟨rfl, hnone, hb3, hb4⟩ | ⟨rfl, u, hsome, hb4⟩
  · have hD := h.keep hkT (by simp)
    have hsec := sector_ok hD hn hb hi
    have hcel : cellsOf 1 (.sl ro 0 (i * 256) 256 1) T = some (256, bcells ((on.drop (i * 256)).take 256)) := by
      have h1 : i * 256 + 256 ≤ (bcells on).length := by rw [bcells_len]; omega
      simp [cellsOf, hD.ho, h1, bcells]
      rw [bcells_len] at h1; omega
    have hsl : ((on.drop (i * 256)).take 256).length = 256 := by simp; omega
    have hcl := mClone_ok (S := T) (x := .sl ro 0 (i * 256) 256 1) (u := (on.drop (i * 256)).take 256) rfl (by rw [hsl]; exact hcel) (by omega)
    rw [hsl] at hcl
    have g5 : ∀ b, (T.set (S.length + 1) b)[S.length + 2]? = some (.live 0 [.int .i64 0]) := fun b => by rw [set_get' (by omega)]; exact hb5
    obtain ⟨c1, c2, c3, c4, c5⟩ := fin ((T.set (S.length + 1) (.live 0 [.fz false 256 (bcells ((on.drop (i * 256)).take 256))])).set (S.length + 2) (.live 0 [.int .i64 0])) ((on.drop (i * 256)).take 256)
      (fun r hr => by rw [set_get' (by omega), set_get' (by omega)]; exact hk r hr) (by rw [set_get' (by omega), set_get (by omega), hsl]) (by rw [set_get (by simp; omega)]) (by rw [set_get' (by omega), set_get' (by omega)]; exact hlp) (by simp [readS, hnone])
    have fmm : ∀ v1 v2 v3 v4, marks ((((f'.set 31 v1).set 32 v2).set 33 v3).set 34 v4) = [S.length + 3] := fun v1 v2 v3 v4 => by
      rw [marks_set _ _ (by omega), marks_set _ _ (by omega), marks_set _ _ (by omega), marks_set _ _ (by omega), fm]
    simp only [if_true]
    simp [exM, orc, orcD, evF, evC, evOps, evOper, evAny, evOp, evCall, putR, putA, Fr.ev, Fr.of, Fr.get, Fr.set, stable, junkA, junkL, resultsA, resA, same, Fr.get_set, f0, f3, f4, f5, hb3, hb4, g5, loadA, partA_none, hsec, hcl, storeA, cells?, splice, Post_some, fmm, c1, c2, c3]
    exact ⟨by simpa using c4, c5⟩
  · obtain ⟨c1, c2, c3, c4, c5⟩ := fin T u hk hb4 hb5 hlp (by simp [readS, hsome])
    simp [fm, f4, f5, loadA, partA_none, c1, c2, c3]
    exact ⟨by simpa using c4, c5⟩
end Am.Disk
end

/- The acts of the disk's statements, and the sector that an act writes. -/
section
namespace Am.Disk
open Am Go Am.Ir
set_option maxRecDepth 100000

variable {S : St}

/-- Bytes as an argument. -/
def ByteV (b : AVal) (u : List UInt8) : Prop := (b = .nils ∧ u = []) ∨ b = .fz false u.length (bcells u)
def IntV (k : AVal) (K : List Int) : Prop := (k = .nils ∧ K = []) ∨ k = .fz false K.length (K.map fun n => .int .i64 n)

theorem ByteV.len {b : AVal} {u : List UInt8} (h : ByteV b u) : lenA .sl b = some (.int .i64 (u.length : Int)) := by
  rcases h with ⟨rfl, rfl⟩ | rfl <;> rfl
theorem IntV.len {b : AVal} {u : List Int} (h : IntV b u) : lenA .sl b = some (.int .i64 (u.length : Int)) := by
  rcases h with ⟨rfl, rfl⟩ | rfl <;> rfl
theorem ByteV.cells {b : AVal} {u : List UInt8} (h : ByteV b u) (S : St) : cellsOf 1 b S = some (u.length, bcells u) := by
  rcases h with ⟨rfl, rfl⟩ | rfl
  · rfl
  · exact fz_cells false u S
theorem ByteV.one {b : AVal} {u : List UInt8} (h : ByteV b u) : cells? b = some [b] := by
  rcases h with ⟨rfl, rfl⟩ | rfl <;> rfl
theorem IntV.one {b : AVal} {u : List Int} (h : IntV b u) : cells? b = some [b] := by
  rcases h with ⟨rfl, rfl⟩ | rfl <;> rfl

theorem ByteV.bytes {x : AVal} {m : List UInt8} (h : ByteV x m) : Bytes x m := by
  refine ⟨h.len, fun i y hy => ?_⟩
  have hl := (List.getElem?_eq_some_iff.1 hy).1
  rcases h with ⟨rfl, rfl⟩ | rfl
  · simp at hl
  · have h2 := ix_fz (u := m) (fl := false) rfl hl []
    have h3 : m.getD i 0 = y := by simp [hy]
    rw [h3] at h2; exact h2

theorem IntV.ints {x : AVal} {m : List Int} (h : IntV x m) : Ints x m := by
  refine ⟨h.len, fun i y hy => ?_⟩
  have hl := (List.getElem?_eq_some_iff.1 hy).1
  rcases h with ⟨rfl, rfl⟩ | rfl
  · simp at hl
  · have h1 : ((m.map fun n => AVal.int .i64 n).drop i).take 1 = [.int .i64 y] := by
      rw [List.drop_eq_getElem_cons (by simpa using hl)]
      have : m[i] = y := (List.getElem?_eq_some_iff.1 hy).2
      simp [this]
    have h2 : (i : Int) < (m.length : Int) := by omega
    simp [iaddrSA, h2, h1]

/-- An act. -/
structure ActV where
  kind : Int
  at' : Int
  b : AVal
  raw : Bool
  k : AVal
  u : List UInt8
  K : List Int
  hb : ByteV b u
  hk : IntV k K

def ActV.cells (a : ActV) : List AVal := [.int .i64 a.kind, .int .i64 a.at', a.b, .bool a.raw, a.k]

/-- Acts as an argument. -/
structure ActsV (x : AVal) (L : List ActV) : Prop where
  len : lenA .sl x = some (.int .i64 (L.length : Int))
  ix : ∀ (i : Nat) a, L[i]? = some a → iaddrSA 5 x (.int .i64 (i : Int)) = some (.fq a.cells)

noncomputable def mSmall : Model := tellM 1 (exM (orc []) disk_small 10)

def smallS (a : ActV) : Bool := decide (a.u.length ≤ 300) && decide (a.K.length ≤ 60)

theorem small_ok (a : ActV) (S : St) : mSmall [.agg a.cells] S = some (.bool (smallS a), S) := by
  refine tellM_new (T := [.live 0 a.cells]) (v := .bool (smallS a)) ?_ rfl
  by_cases h1 : a.u.length ≤ 300
  · have h1' : (a.u.length : Int) ≤ 300 := by omega
    by_cases h2 : a.K.length ≤ 60
    · have h2' : (a.K.length : Int) ≤ 60 := by omega
      simp [disk_small, exM, orc, orcD, evF, evC, evOps, evOper, evAny, evOp, evCall, putR, putA, Fr.ev, Fr.of, Fr.get, Fr.set, stable, junkA, junkL, resultsA, resA, same, cells?, ActV.cells, faddrA, loadA, partA, a.hb.len, a.hk.len, binA, intBin, smallS, h1, h2, h1', h2']
    · have h2' : ¬ (a.K.length : Int) ≤ 60 := by omega
      simp [disk_small, exM, orc, orcD, evF, evC, evOps, evOper, evAny, evOp, evCall, putR, putA, Fr.ev, Fr.of, Fr.get, Fr.set, stable, junkA, junkL, resultsA, resA, same, cells?, ActV.cells, faddrA, loadA, partA, a.hb.len, a.hk.len, binA, intBin, smallS, h1, h2, h1', h2']
  · have h1' : ¬ (a.u.length : Int) ≤ 300 := by omega
    simp [disk_small, exM, orc, orcD, evF, evC, evOps, evOper, evAny, evOp, evCall, putR, putA, Fr.ev, Fr.of, Fr.get, Fr.set, stable, junkA, junkL, resultsA, resA, same, cells?, ActV.cells, faddrA, loadA, partA, a.hb.len, a.hk.len, binA, intBin, smallS, h1, h1']

/-- The sector that an act writes. -/
def padS (raw : Bool) (u : List UInt8) : List UInt8 := if raw = true then u else u ++ List.replicate (256 - u.length) (u.getLastD 0)

structure LsI (S T : St) (cells : List AVal) (v : Nat) (b : List UInt8) : Prop where
  keep : ∀ r, r < S.length → T[r]? = S[r]?
  b0 : T[S.length]? = some (.live 0 cells)
  b1 : T[S.length + 1]? = some (.live v (bcells b))

structure LsF (f : Fr) (n0 v len : Nat) : Prop where
  s1 : f.get 1 = .ptr n0 0 0
  s3 : f.get 3 = .sl (n0 + 1) v 0 len 1

theorem last_ix {T : St} {r v : Nat} {b : List UInt8} (h : T[r]? = some (.live v (bcells b))) (hb : 0 < b.length) :
    iaddrSA 1 (.sl r v 0 b.length 1) (.int .i64 ((b.length : Int) - 1)) = some (.ptr r v (b.length - 1)) ∧ (bcells b)[b.length - 1]? = some (.int .u8 ((b.getLastD 0).toNat : Int)) := by
  have h1 : ((b.length : Int) - 1).toNat = b.length - 1 := by omega
  have h2 : (0 : Int) ≤ (b.length : Int) - 1 ∧ (b.length : Int) - 1 < (b.length : Int) := by omega
  refine ⟨by simp only [iaddrSA]; rw [if_pos ⟨by trivial, h2.1, h2.2⟩, h1]; simp, ?_⟩
  have : b.getLastD 0 = b[b.length - 1] := by
    cases b with
    | nil => simp at hb
    | cons x b => simp [List.getLastD, List.getLast_eq_getElem]
  rw [this]
  have h3 : b.length - 1 < b.length := by omega
  simp [bcells, h3]

theorem ls_round {O : Orc} {k : Nat} {f : Fr} {T : St} {a : ActV} {v : Nat} {b : List UInt8} (h : LsI S T a.cells v b) (hr : a.raw = false) (hb : b.length < 256) (hf : LsF f S.length v b.length) :
    Post (evC O k disk_lsector_l0 f T) fun e f' T' => e = .normal ∧ LsI S T' a.cells (v + 1) (b ++ [b.getLastD 0]) ∧ LsF f' S.length (v + 1) (b.length + 1) := by
  have hlt := get_lt h.b1
  have hlss : binA .lss (.int .i64 (b.length : Int)) (.int .i64 256) = some (.bool true) := by simp [binA, intBin]; omega
  have fin : ∀ (f' : Fr) (T' : St), T' = ((T ++ [ABlock.live 0 [.int .u8 ((b.getLastD 0).toNat : Int)]]).set (S.length + 1) (.live (v + 1) (bcells b ++ [.int .u8 ((b.getLastD 0).toNat : Int)]))) →
      f'.get 1 = .ptr S.length 0 0 → f'.get 3 = .sl (S.length + 1) (v + 1) 0 (b.length + 1) 1 → LsI S T' a.cells (v + 1) (b ++ [b.getLastD 0]) ∧ LsF f' S.length (v + 1) (b.length + 1) := by
    rintro f' T' rfl g1 g3
    refine ⟨⟨fun r hr => ?_, ?_, ?_⟩, ⟨g1, g3⟩⟩
    · rw [set_get' (by omega), get_old (by omega)]; exact h.keep r hr
    · rw [set_get' (by omega), get_old (by omega)]; exact h.b0
    · rw [set_get (by simp; omega), bcells_append]; rfl
  suffices hmid : Post (evC O k disk_lsector_l0 f T) (fun e f' T' => e = .normal ∧ f'.get 1 = .ptr S.length 0 0 ∧ f'.get 3 = .sl (S.length + 1) (v + 1) 0 (b.length + 1) 1 ∧
      T' = ((T ++ [ABlock.live 0 [.int .u8 ((b.getLastD 0).toNat : Int)]]).set (S.length + 1) (.live (v + 1) (bcells b ++ [.int .u8 ((b.getLastD 0).toNat : Int)])))) by
    refine hmid.mono ?_
    rintro e f' T' ⟨h1, h2, h3, h4⟩
    exact ⟨h1, fin f' T' h4 h2 h3⟩
  have htk : List.take b.length (bcells b) = bcells b := List.take_of_length_le (by rw [bcells_len]; exact Nat.le_refl _)
  have hby : b.length + 1 ≤ 140737488355328 := by omega
  have hold : (T ++ [ABlock.live 0 [AVal.int IntKind.u8 0]])[S.length + 1]? = some (.live v (bcells b)) := by rw [get_old hlt]; exact h.b1
  have hold' : ∀ c : AVal, (T ++ [ABlock.live 0 [c]])[S.length + 1]? = some (.live v (bcells b)) := fun c => by rw [get_old hlt]; exact h.b1
  by_cases h0 : b = []
  · subst h0
    have hgt : binA .gtr (.int .i64 0) (.int .i64 0) = some (.bool false) := rfl
    simp only [List.length_nil] at hf hlss htk hby
    have hlss' : binA .lss (.int .i64 0) (.int .i64 256) = some (.bool true) := rfl
    simp [disk_lsector_l0, exM, orc, orcD, evF, evC, evOps, evOper, evAny, evOp, evCall, putR, putA, Fr.ev, Fr.of, Fr.get, Fr.set, stable, junkA, junkL, resultsA, resA, same, Fr.get_set, hf.s1, hf.s3, faddrA, loadA, h.b0, partA_none, ActV.cells, hr, unA, lenA, hlss', hgt, fillA, cells?, splice, appendA, cellsOf, hold', bcells, Post_some]
  · have hpos : 0 < b.length := List.length_pos_iff.2 h0
    have hgt : binA .gtr (.int .i64 (b.length : Int)) (.int .i64 0) = some (.bool true) := by simp [binA, intBin]; omega
    have hsub : binA .sub (.int .i64 (b.length : Int)) (.int .i64 1) = some (.int .i64 ((b.length : Int) - 1)) := by
      simp only [binA, intBin]; rw [if_neg (by simp), if_pos trivial, wrap64 (by omega) (by omega)]
    obtain ⟨i1, i2⟩ := last_ix h.b1 hpos
    simp [disk_lsector_l0, exM, orc, orcD, evF, evC, evOps, evOper, evAny, evOp, evCall, putR, putA, Fr.ev, Fr.of, Fr.get, Fr.set, stable, junkA, junkL, resultsA, resA, same, Fr.get_set, hf.s1, hf.s3, faddrA, loadA, h.b0, h.b1, partA_none, ActV.cells, hr, unA, lenA, hlss, hgt, hsub, i1, i2, fillA, cells?, splice, appendA, cellsOf, hold', htk, hby, bcells_len, Post_some]

theorem pad_step (u : List UInt8) (j : Nat) : (u ++ List.replicate j (u.getLastD 0)).getLastD 0 = u.getLastD 0 := by
  cases j with
  | zero => simp
  | succ j => rw [List.replicate_succ', ← List.append_assoc]; simp

noncomputable def mLsector : Model := tellM 2 (exM (orc []) disk_lsector 1000)

theorem lsector_ok (a : ActV) (hu : a.u.length ≤ 300) (S : St) : mLsector [.agg a.cells] S = some (.fz false (padS a.raw a.u).length (bcells (padS a.raw a.u)), S) := by
  obtain ⟨m, hm⟩ : ∃ m, (if a.raw = true then 0 else 256 - a.u.length) = m := ⟨_, rfl⟩
  have hpad : padS a.raw a.u = a.u ++ List.replicate m (a.u.getLastD 0) := by
    unfold padS; rw [← hm]; split <;> simp
  obtain ⟨T0, hT0⟩ : ∃ T0 : St, (S ++ [.live 0 a.cells, .live 1 (bcells a.u)]) = T0 := ⟨_, rfl⟩
  have hI0 : LsI S T0 a.cells 1 a.u := by subst hT0; exact ⟨fun r hr => get_old hr, by simp, by simp⟩
  have hloop : ∀ f : Fr, LsF f S.length 1 a.u.length → Post (evC (orc []) 1000 disk_lsector_s1 f T0) fun e f' T => e = .normal ∧ ∃ v, LsI S T a.cells v (padS a.raw a.u) ∧ LsF f' S.length v (padS a.raw a.u).length := by
    intro f hf
    obtain ⟨f', S', h1, h2⟩ := loop_post (O := orc []) (k := 1000) (id := 0) (b := disk_lsector_l0) (I := fun j f T => LsI S T a.cells (1 + j) (a.u ++ List.replicate j (a.u.getLastD 0)) ∧ LsF f S.length (1 + j) (a.u.length + j))
      (Q := fun f' T => ∃ v, LsI S T a.cells v (padS a.raw a.u) ∧ LsF f' S.length v (padS a.raw a.u).length) m (by split at hm <;> omega)
      (by
        rintro j hj f T ⟨g1, g2⟩
        have hr : a.raw = false := by
          cases hr : a.raw with
          | false => rfl
          | true => rw [hr] at hm; simp at hm; omega
        have hlen : (a.u ++ List.replicate j (a.u.getLastD 0)).length = a.u.length + j := by simp
        rw [hr] at hm; simp at hm
        refine (ls_round g1 hr (by rw [hlen]; omega) (by rw [hlen]; exact g2)).mono ?_
        rintro e f' T' ⟨rfl, k1, k2⟩
        rw [pad_step, List.append_assoc, ← List.replicate_succ'] at k1
        rw [hlen] at k2
        exact ⟨rfl, k1, k2⟩)
      (by
        rintro f T ⟨g1, g2⟩
        rw [← hpad] at g1
        have hlen : a.u.length + m = (padS a.raw a.u).length := by rw [hpad]; simp
        rw [hlen] at g2
        cases hr : a.raw with
        | true =>
          rw [hr] at g1 g2
          suffices hmid : Post (evC (orc []) 1000 disk_lsector_l0 f T) (fun e f' T' => e = .exit 0 ∧ f'.get 1 = .ptr S.length 0 0 ∧ f'.get 3 = .sl (S.length + 1) (1 + m) 0 (padS true a.u).length 1 ∧ T' = T) by
            refine hmid.mono ?_
            rintro e f' T' ⟨h1, h2, h3, rfl⟩
            exact ⟨h1, _, g1, ⟨h2, h3⟩⟩
          simp [disk_lsector_l0, exM, orc, orcD, evF, evC, evOps, evOper, evAny, evOp, evCall, putR, putA, Fr.ev, Fr.of, Fr.get, Fr.set, stable, junkA, junkL, resultsA, resA, same, Fr.get_set, g2.s1, g2.s3, faddrA, loadA, g1.b0, partA_none, ActV.cells, hr, unA, Post_some]
        | false =>
          rw [hr] at g1 g2 hlen
          rw [hr] at hm; simp at hm
          have hlss : binA .lss (.int .i64 ((padS false a.u).length : Int)) (.int .i64 256) = some (.bool false) := by simp [binA, intBin]; omega
          suffices hmid : Post (evC (orc []) 1000 disk_lsector_l0 f T) (fun e f' T' => e = .exit 0 ∧ f'.get 1 = .ptr S.length 0 0 ∧ f'.get 3 = .sl (S.length + 1) (1 + m) 0 (padS false a.u).length 1 ∧ T' = T) by
            refine hmid.mono ?_
            rintro e f' T' ⟨h1, h2, h3, rfl⟩
            exact ⟨h1, _, g1, ⟨h2, h3⟩⟩
          simp [disk_lsector_l0, exM, orc, orcD, evF, evC, evOps, evOper, evAny, evOp, evCall, putR, putA, Fr.ev, Fr.of, Fr.get, Fr.set, stable, junkA, junkL, resultsA, resA, same, Fr.get_set, g2.s1, g2.s3, faddrA, loadA, g1.b0, partA_none, ActV.cells, hr, unA, lenA, hlss, Post_some])
      (f := f) (S := T0) ⟨by simpa using hI0, by simpa using hf⟩
    rw [show disk_lsector_s1 = .block 0 (.loop disk_lsector_l0) from rfl, h1]
    exact Post.of rfl ⟨rfl, h2⟩
  suffices hs : Post (evC (orc []) 1000 disk_lsector.body (Fr.of [.agg a.cells]) S) (fun e f S1 => (e = .normal ∨ e = .ret) ∧ ∃ v, resultsA f S1 disk_lsector.results = some (.sl (S.length + 1) v 0 (padS a.raw a.u).length 1) ∧ LsI S S1 a.cells v (padS a.raw a.u)) by
    obtain ⟨e, f, S1, g1, g2, v, g3, g4⟩ := hs.ex
    have hx : exM (orc []) disk_lsector 1000 [.agg a.cells] S = some (.sl (S.length + 1) v 0 (padS a.raw a.u).length 1, S1) := evF_post rfl rfl (Post.of g1 ⟨g2, g3, rfl⟩)
    have hpre := prefix_of (S := S) (T := S1) (by have := get_lt g4.b1; omega) g4.keep
    rw [hpre] at hx
    refine tellM_new hx ?_
    rw [← hpre]
    refine deep_sl (cells := bcells (padS a.raw a.u)) (by omega) g4.b1 (by simp [bcells_len]) ?_
    rw [List.drop_zero, Nat.mul_one, List.take_of_length_le (by simp [bcells_len])]
    exact deep_bcells _
  have hT0' : ∀ c : List AVal, c = a.cells → (S ++ [ABlock.live 0 c, .live 1 (bcells a.u)]) = T0 := by rintro c rfl; exact hT0
  have hcl := a.hb.cells (S ++ [.live 0 a.cells, .live 0 []])
  have hby : a.u.length ≤ 140737488355328 := by omega
  have hap : appendA 1 1 (.sl (S.length + 1) 0 0 0 1) a.b (S ++ [.live 0 a.cells, .live 0 []]) = some (.sl (S.length + 1) 1 0 a.u.length 1, T0) := by
    rw [← hT0]; simp [appendA, hcl, hby]
  simp only [disk_lsector, disk_lsector_t2, Post_seq]
  have hcs : cells? (.agg a.cells) = some a.cells := rfl
  have hb0 : ∀ E : St, (S ++ ABlock.live 0 a.cells :: E)[S.length]? = some (.live 0 a.cells) := fun E => by simp
  have hc2 : a.cells[2]? = some a.b := rfl
  simp [exM, orc, orcD, evF, evC, evOps, evOper, evAny, evOp, evCall, putR, putA, Fr.ev, Fr.of, Fr.get, Fr.set, stable, junkA, junkL, resultsA, resA, same, hcs, fillA, faddrA, loadA, hb0, hc2, partA_none, hap, Post_some]
  refine (hloop _ ⟨by simp [Fr.get], by simp [Fr.get]⟩).mono ?_
  rintro e f' T ⟨rfl, v, k1, k2⟩
  simp [exM, orc, orcD, evF, evC, evOps, evOper, evAny, evOp, evCall, putR, putA, Fr.ev, Fr.of, Fr.get, Fr.set, stable, junkA, junkL, resultsA, resA, same, Fr.get_set, k2.s3, Post_some]
  exact k1
end Am.Disk
end

/- The fuse. -/
section
namespace Am.Disk
open Am Go Am.Ir
set_option maxRecDepth 100000

variable {S : St} {p ro : Nat} {cw : AVal} {fw : List Nat} {on : List UInt8} {ws : List (Nat × List UInt8)} {lets : Int} {off : Bool}

/-- 256 noughts. -/
def zero256 : List UInt8 := List.replicate 256 0
theorem zero256_len : zero256.length = 256 := List.length_replicate

theorem mk256 (S : St) : mkA 1 1 [.int .u8 0] (.int .i64 256) (.int .i64 256) S = some (.sl S.length 0 0 256 1, S ++ [.live 0 (bcells zero256)]) := by
  have h := bcells_rep 256
  simp only [mkA, List.length_singleton]
  rw [if_pos (by decide)]
  rw [show (256 : Int).toNat = 256 from rfl, h]; rfl

/-- Where the writes stand. -/
structure FuI (S : St) (p ro : Nat) (on : List UInt8) (L j : Nat) : Prop where
  ex : ∃ cw fw ws, DiskI S p ro cw fw on ws ((L - j : Nat) : Int) (decide (L < j)) ∧ ws.length = min j L ∧ WsOk 512 ws

theorem fuse_step {L j : Nat} (hon : on.length = 512 * 256) (hL : L ≤ 9223372036854775807) (hj : j < 31) (h : FuI S p ro on L j) :
    ∃ S', yWrite [.ptr p 0 0, .int .i64 (j : Int), .sl S.length 0 0 256 1] (S ++ [.live 0 (bcells zero256)]) = some (.int .i64 (if j < L then 0 else 8), S') ∧ FuI S' p ro on L (j + 1) := by
  obtain ⟨cw, fw, ws, h1, h2, h3⟩ := h.ex
  generalize hS1 : S ++ [.live 0 (bcells zero256)] = S1
  have hk : Keeps S S1 [] := by rw [← hS1]; exact Keeps.append S _
  have g1 := h1.keep hk (by simp)
  have hlt := h1.lt
  have hx : S1[S.length]? = some (.live 0 (bcells zero256)) := by rw [← hS1]; exact app_get _ _
  by_cases c1 : L < j
  · rw [show decide (L < j) = true from decide_eq_true c1] at g1
    refine ⟨S1, by rw [write_off g1, if_neg (by omega)], ⟨cw, fw, ws, ?_, by omega, h3⟩⟩
    rw [show decide (L < j + 1) = true from decide_eq_true (by omega), show L - (j + 1) = L - j by omega]; exact g1
  · rw [show decide (L < j) = false from decide_eq_false c1] at g1
    by_cases c2 : j = L
    · have h0 : ((L - j : Nat) : Int) = 0 := by omega
      rw [h0] at g1
      refine ⟨_, by rw [write_fuse g1 hon (by omega) j (by omega) _ rfl, if_neg (by omega)], ⟨cw, fw, ws, ?_, by omega, h3⟩⟩
      have := g1.setp 0 true
      rw [show decide (L < j + 1) = true from decide_eq_true (by omega), show L - (j + 1) = 0 by omega]; exact this
    · have hu : ∀ S' : St, (∀ r, r ≠ p → S'[r]? = S1[r]?) → cellsOf 1 (.sl S.length 0 0 256 1) S' = some (zero256.length, bcells zero256) := by
        intro S' hS'
        have hp := hlt p (by simp)
        have := hS' S.length (by omega)
        rw [hx] at this
        have hl : (bcells zero256).length = 256 := by rw [bcells_len, zero256_len]
        simp only [cellsOf, this]
        rw [if_pos (by rw [hl]; decide), zero256_len, List.drop_zero, List.take_of_length_le (by rw [hl]; exact Nat.le_refl _)]
      obtain ⟨S', cw', fw', k1, k2, k3, k4⟩ := write_ok g1 hon (by omega) j (by omega) (x := .sl S.length 0 0 256 1) (u := zero256) rfl hu rfl zero256_len (by omega) (by omega) (by omega)
      refine ⟨S', by rw [k1, if_pos (by omega)], ⟨cw', fw', ws ++ [(j, zero256)], ?_, by simp; omega, ?_⟩⟩
      · have e1 : letsN ((L - j : Nat) : Int) = ((L - (j + 1) : Nat) : Int) := by unfold letsN; rw [if_pos (by omega)]; omega
        rw [e1] at k2
        rw [show decide (L < j + 1) = false from decide_eq_false (by omega)]; exact k2
      · intro w hw
        rcases List.mem_append.1 hw with hw | hw
        · exact h3 w hw
        · simp at hw; subst hw; exact ⟨by omega, zero256_len⟩

noncomputable def oFuse : Orc := orc [xNew, xFuse, yWrite, mRead, xWaits, xCrash, mAlive, yDump]

structure FuF (f : Fr) (p L k j : Nat) (fv : Int) : Prop where
  s0 : f.get 0 = .int .i64 fv
  s5 : f.get 5 = .ptr p 0 0
  s7 : f.get 7 = .int .i64 (k : Int)
  s8 : f.get 8 = .int .i64 ((min j L : Nat) : Int)
  s9 : f.get 9 = .int .i64 (j : Int)

theorem fuse_loop {L k : Nat} {fv : Int} (hon : on.length = 512 * 256) (hL : L ≤ 9223372036854775807) (hk : k ≤ 31) {f : Fr} (h : FuI S p ro on L 0) (hf : FuF f p L k 0 fv) :
    Post (evC oFuse 1000 DiskFuse_s1 f S) fun e f' S' => e = .normal ∧ FuF f' p L k k fv ∧ FuI S' p ro on L k := by
  obtain ⟨f', S', h1, h2⟩ := loop_post (O := oFuse) (k := 1000) (id := 0) (b := DiskFuse_l0) (I := fun j f T => FuF f p L k j fv ∧ FuI T p ro on L j) (Q := fun f' S' => FuF f' p L k k fv ∧ FuI S' p ro on L k) k (by omega)
    (by
      rintro j hj f T ⟨g1, g2⟩
      obtain ⟨S', k1, k2⟩ := fuse_step hon hL (by omega) g2
      have hlss : binA .lss (.int .i64 (j : Int)) (.int .i64 (k : Int)) = some (.bool true) := by simp [binA, intBin]; omega
      have hadd : binA .add (.int .i64 (j : Int)) (.int .i64 1) = some (.int .i64 ((j : Int) + 1)) := by
        simp only [binA, intBin]; rw [if_neg (by simp), if_pos trivial, wrap64 (by omega) (by omega)]
      have hmk := mk256 T
      by_cases c : j < L
      · rw [if_pos c] at k1
        have hm : min j L = j := by omega
        have h8 := g1.s8; rw [hm] at h8
        have heq : binA .eql (.int .i64 0) (.int .i64 0) = some (.bool true) := rfl
        simp [DiskFuse_l0, exM, orc, orcD, evF, evC, evOps, evOper, evAny, evOp, evCall, putR, putA, Fr.ev, Fr.of, Fr.get, Fr.set, stable, junkA, junkL, resultsA, resA, same, Fr.get_set, g1.s5, g1.s7, h8, g1.s9, hlss, hadd, hmk, oFuse, k1, heq, Post_some]
        refine ⟨⟨?_, ?_, ?_, ?_, ?_⟩, k2⟩
        · simp [Fr.get_set, g1.s0]
        · simp [Fr.get_set, g1.s5]
        · simp [Fr.get_set, g1.s7]
        · simp [Fr.get_set]; omega
        · simp [Fr.get_set]
      · rw [if_neg c] at k1
        have hm : min (j + 1) L = min j L := by omega
        have heq : binA .eql (.int .i64 8) (.int .i64 0) = some (.bool false) := rfl
        simp [DiskFuse_l0, exM, orc, orcD, evF, evC, evOps, evOper, evAny, evOp, evCall, putR, putA, Fr.ev, Fr.of, Fr.get, Fr.set, stable, junkA, junkL, resultsA, resA, same, Fr.get_set, g1.s5, g1.s7, g1.s9, hlss, hadd, hmk, oFuse, k1, heq, Post_some]
        refine ⟨⟨?_, ?_, ?_, ?_, ?_⟩, k2⟩
        · simp [Fr.get_set, g1.s0]
        · simp [Fr.get_set, g1.s5]
        · simp [Fr.get_set, g1.s7]
        · simp [Fr.get_set, g1.s8]; omega
        · simp [Fr.get_set])
    (by
      rintro f T ⟨g1, g2⟩
      have hlss : binA .lss (.int .i64 (k : Int)) (.int .i64 (k : Int)) = some (.bool false) := by simp [binA, intBin]
      simp [DiskFuse_l0, exM, orc, orcD, evF, evC, evOps, evOper, evAny, evOp, evCall, putR, putA, Fr.ev, Fr.of, Fr.get, Fr.set, stable, junkA, junkL, resultsA, resA, same, Fr.get_set, g1.s7, g1.s9, hlss, Post_some]
      refine ⟨⟨?_, ?_, ?_, ?_, ?_⟩, g2⟩ <;> simp [Fr.get_set, g1.s0, g1.s5, g1.s7, g1.s8, g1.s9])
    (f := f) (S := S) ⟨hf, h⟩
  rw [show DiskFuse_s1 = .block 0 (.loop DiskFuse_l0) from rfl, h1]
  exact Post.of rfl ⟨rfl, h2⟩

theorem ints_nil : Ints .nils [] := ⟨rfl, fun i y h => by simp at h⟩

set_option maxHeartbeats 800000 in
theorem diskFuse (fv n : Int) (hf : fv ≤ 9223372036854775807) : ∃ T, evF oFuse 1000 DiskFuse [.int .i64 fv, .int .i64 n] [] = some (.bool true, T) := by
  obtain ⟨L, hLd⟩ : ∃ L : Nat, (max fv 0).toNat = L := ⟨_, rfl⟩
  have hL : max fv 0 = (L : Int) := by omega
  have hLm : L ≤ 9223372036854775807 := by omega
  obtain ⟨k, hk1, hk2⟩ := and_low n 31 (by omega)
  obtain ⟨S1, n1, n2, n3, n4, n5⟩ := new_ok' 512 (by omega) (by omega) []
  obtain ⟨on, hon0⟩ : ∃ on, zeros (512 * 256) = on := ⟨_, rfl⟩
  have hon : on.length = 512 * 256 := by rw [← hon0]; exact zeros_len _
  rw [hon0] at n4 n5
  clear hon0
  rw [show ((512 : Nat) : Int) = 512 from rfl] at n1
  rw [show ((31 : Nat) : Int) = 31 from rfl] at hk1
  simp only [List.length_nil, Nat.zero_add] at n1 n2 n4 n5
  have hD : DiskI S1 1 0 .nils [] on [] (-1) false := ⟨n4, n5, .inl ⟨rfl, rfl, rfl⟩, by simp⟩
  have hfu := fuse_ok hD fv
  have hD1 := hD.setp (max fv 0) false
  obtain ⟨S2, hS2⟩ : ∃ S2 : St, S1.set 1 (.live 0 [.sl 0 0 0 on.length 1, .nils, .int .i64 (max fv 0), .bool false]) = S2 := ⟨_, rfl⟩
  rw [hS2] at hfu hD1
  have hI : FuI S2 1 0 on L 0 := ⟨.nils, [], [], by rw [hL] at hD1; rw [show decide (L < 0) = false from decide_eq_false (by omega), show L - 0 = L from rfl]; exact hD1, (Nat.zero_min L).symm, fun w hw => by simp at hw⟩
  refine (evF_postX (O := oFuse) (k := 1000) (F := DiskFuse) (v := .bool true) (R := fun _ => True) rfl rfl ?_).imp fun _ h => h.1
  have hloc : oFuse.loc = [xNew, xFuse, yWrite, mRead, xWaits, xCrash, mAlive, yDump] := rfl
  simp only [DiskFuse, DiskFuse_t2, Post_seq]
  simp [exM, orc, orcD, evF, evC, evOps, evOper, evAny, evOp, evCall, putR, putA, Fr.ev, Fr.of, Fr.get, Fr.set, stable, junkA, junkL, resultsA, resA, same, hloc, n1, hfu, eq2, hk1, Post_some, show binA .neq (.int .i64 0) (.int .i64 0) = some (.bool false) from rfl]
  refine (fuse_loop (L := L) (k := k) (fv := fv) hon hLm hk2 hI ⟨rfl, rfl, rfl, by simp [Fr.get], rfl⟩).mono ?_
  rintro e f' T ⟨rfl, hF, hT⟩
  obtain ⟨cw, fw, ws, h1, h2, h3⟩ := hT.ex
  have hwt := waits_ok h1
  rw [h2] at hwt
  have hmn : min (k : Int) (max fv 0) = ((min k L : Nat) : Int) := by omega
  obtain ⟨T2, c1, c2, c3⟩ := crash_ok h1 ints_nil hon (by omega) h3 (by omega)
  have hlen : (crashS [] on ws).length = 512 * 256 := by
    have := crashS_len [] hon h3 ws.length
    rw [List.take_of_length_le (Nat.le_refl _)] at this; omega
  obtain ⟨r1, r2⟩ := read_ok c2 hlen (by omega) (fun w hw => by simp at hw) (by simp) (i := 0) (by omega)
  have hw2 := waits_ok c2
  have hd2 := dump_ok c2 (by omega)
  rw [show ((0 : Nat) : Int) = 0 from rfl] at r1
  simp only [List.length_nil, hlen] at hw2 hd2
  rw [show ((0 : Nat) : Int) = 0 from rfl] at hw2
  have hne : ∀ x : Int, binA .neq (.int .i64 x) (.int .i64 x) = some (.bool false) := fun x => by simp [binA, intBin]
  have hgt : binA .gtr (.int .i64 (k : Int)) (.int .i64 (L : Int)) = some (.bool (decide (L < k))) := by simp [binA, intBin]
  have hrd : ∃ x g, mRead [.ptr 1 0 0, .int .i64 0] T = some (.tup [x, .int .i64 g], T) ∧ binA .eql (.int .i64 g) (.int .i64 8) = some (.bool (decide (L < k))) := by
    by_cases c : L < k
    · rw [show decide (L < k) = true from decide_eq_true c] at h1 ⊢
      exact ⟨_, _, read_off h1 0, rfl⟩
    · rw [show decide (L < k) = false from decide_eq_false c] at h1 ⊢
      obtain ⟨q1, q2⟩ := read_ok h1 hon (by omega) h3 (by omega) (i := 0) (by omega)
      exact ⟨_, _, q1, rfl⟩
  obtain ⟨x, g, hr, hg⟩ := hrd
  rw [hL] at hmn
  simp [exM, orc, orcD, evF, evC, evOps, evOper, evAny, evOp, evCall, putR, putA, Fr.ev, Fr.of, Fr.get, Fr.set, stable, junkA, junkL, resultsA, resA, same, hloc, Fr.get_set, hF.s0, hF.s5, hF.s7, hF.s8, hr, hL, hmn, hne, hwt, hg, hgt, eq2, c1, r1, hw2, hd2, mAlive_eq, lenA, Post_some, show binA .eql (.int .i64 0) (.int .i64 0) = some (.bool true) from rfl,
    show binA .eql (.int .i64 256) (.int .i64 256) = some (.bool true) from rfl, show binA .eql (.int .i64 131072) (.int .i64 131072) = some (.bool true) from rfl]
end Am.Disk
end

/- What was flushed stays. -/
section
namespace Am.Disk
open Am Go Am.Ir
set_option maxRecDepth 100000

variable {S : St} {p ro : Nat} {cw : AVal} {fw : List Nat} {on : List UInt8} {ws : List (Nat × List UInt8)} {lets : Int} {off : Bool}

/-- A sector of what is on the disk. -/
def sec (on : List UInt8) (i : Nat) : List UInt8 := (on.drop (i * 256)).take 256

theorem sec_lay_ne {on b : List UInt8} {i j : Nat} (hij : i ≠ j) (hb : b.length ≤ 256) (hi : i * 256 + b.length ≤ on.length) : sec (lay on i b) j = sec on j := by
  apply List.ext_getElem?
  intro k
  simp only [sec, lay, List.getElem?_take, List.getElem?_drop]
  split
  · rename_i hk
    rw [List.append_assoc, List.getElem?_append]
    have hl : (on.take (i * 256)).length = i * 256 := by simp; omega
    rw [hl]
    split
    · rename_i h; rw [List.getElem?_take, if_pos h]
    · rename_i h
      rw [List.getElem?_append]
      split
      · rename_i h2; omega
      · rename_i h2
        rw [List.getElem?_drop]; congr 1; omega
  · rfl

theorem sec_lay_same {on b : List UInt8} {i : Nat} (hb : b.length = 256) (hi : (i + 1) * 256 ≤ on.length) : sec (lay on i b) i = b := by
  have hl : (on.take (i * 256)).length = i * 256 := by simp; omega
  simp only [sec, lay, List.append_assoc]
  rw [List.drop_append_of_le_length (by omega), List.drop_of_length_le (by omega), List.nil_append, List.take_append_of_le_length (by omega), List.take_of_length_le (by omega)]

theorem sec_flush {n : Nat} {at' : Nat} (hn : on.length = n * 256) (hw : WsOk n ws) (hne : ∀ w ∈ ws, w.1 ≠ at') : sec (flushS on ws) at' = sec on at' := by
  induction ws generalizing on with
  | nil => rfl
  | cons w ws ih =>
    obtain ⟨h1, h2⟩ := hw w (by simp)
    have hl := lay_len on w.1 w.2 (by omega)
    show sec (flushS (lay on w.1 w.2) ws) at' = _
    rw [ih (by omega) (fun x hx => hw x (by simp [hx])) (fun x hx => hne x (by simp [hx])), sec_lay_ne (hne w (by simp)) (by omega) (by omega)]

theorem sec_crash {n : Nat} {at' : Nat} (K : List Int) (hn : on.length = n * 256) (hw : WsOk n ws) (hne : ∀ w ∈ ws, w.1 ≠ at') : ∀ j, sec (crashS K on (ws.take j)) at' = sec on at' := by
  intro j
  induction j with
  | zero => simp [crashS]
  | succ j ih =>
    cases h : ws[j]? with
    | none =>
      have hl := List.getElem?_eq_none_iff.1 h
      rw [List.take_of_length_le (by omega)]
      rw [List.take_of_length_le hl] at ih; exact ih
    | some w =>
      rw [crashS_succ K on ws h, ← ih]
      obtain ⟨h1, h2⟩ := hw w (List.mem_of_getElem? h)
      have hc := crashS_len K hn hw j
      exact sec_lay_ne (hne w (List.mem_of_getElem? h)) (by simp; omega) (by rw [hc, hn]; simp; omega)

/-- Where the disk stands: what was flushed is there. -/
structure FlI (S : St) (p ro at' : Nat) (b : List UInt8) (m : Nat) : Prop where
  ex : ∃ cw fw on ws, DiskI S p ro cw fw on ws (-1) false ∧ on.length = 16 * 256 ∧ WsOk 16 ws ∧ (∀ w ∈ ws, w.1 ≠ at') ∧ sec on at' = b ∧ ws.length ≤ m

theorem DiskI.ext (h : DiskI S p ro cw fw on ws lets off) (E : St) : DiskI (S ++ E) p ro cw fw on ws lets off := h.keep (Keeps.append S E) (by simp)

/-- What lies behind the disk's blocks stays. -/
theorem behind {S' T : St} {K : List Nat} (h : ∀ r ∈ K, r < S.length) (hk : Keeps T S' K) : ∀ r, S.length ≤ r → r < T.length → S'[r]? = T[r]? :=
  fun r h1 h2 => hk.2 r h2 (fun hm => by have := h r hm; omega)

theorem fl_write {at' m : Nat} {b : List UInt8} (h : FlI S p ro at' b m) (hm : m ≤ 800) (i : Int) (hi : i ≠ (at' : Int)) (fl : Bool) (u : List UInt8) (hul : u.length ≤ 1000) (E : St) :
    ∃ S' e, yWrite [.ptr p 0 0, .int .i64 i, .fz fl u.length (bcells u)] (S ++ E) = some (.int .i64 e, S') ∧ FlI S' p ro at' b (m + 1) ∧ ∀ r, S.length ≤ r → r < (S ++ E).length → S'[r]? = (S ++ E)[r]? := by
  obtain ⟨cw, fw, on, ws, h1, h2, h3, h4, h5, h6⟩ := h.ex
  have hlt := h1.lt
  replace h1 := h1.ext E
  by_cases hg : (0 ≤ i ∧ i < (16 : Nat)) ∧ u.length = 256
  · obtain ⟨⟨g1, g2⟩, g3⟩ := hg
    obtain ⟨i', rfl⟩ : ∃ i' : Nat, i = i' := ⟨i.toNat, by omega⟩
    obtain ⟨S', cw', fw', k1, k2, k3, k4⟩ := write_ok h1 h2 (by omega) i' (by omega) (x := .fz fl u.length (bcells u)) (u := u) rfl (fun S' _ => fz_cells fl u S') (by rw [g3]; rfl) g3 (by omega) (by omega) (by omega)
    refine ⟨S', 0, k1, ⟨cw', fw', on, ws ++ [(i', u)], k2, h2, ?_, ?_, h5, by simp; omega⟩, behind (fun r hr => hlt r (by simp only [List.mem_cons] at hr ⊢; rcases hr with h | h; exact .inl h; exact .inr (.inr h))) k3⟩
    · intro w hw
      rcases List.mem_append.1 hw with hw | hw
      · exact h3 w hw
      · simp at hw; subst hw; exact ⟨by omega, g3⟩
    · intro w hw
      rcases List.mem_append.1 hw with hw | hw
      · exact h4 w hw
      · simp at hw; subst hw; simp; omega
  · refine ⟨S ++ E, 1, write_arg h1 h2 (by omega) i _ u.length rfl ?_, ⟨cw, fw, on, ws, h1, h2, h3, h4, h5, by omega⟩, fun _ _ _ => rfl⟩
    by_cases g : 0 ≤ i ∧ i < (16 : Nat)
    · exact .inr (fun e => hg ⟨g, e⟩)
    · exact .inl g

theorem fl_flush {at' m : Nat} {b : List UInt8} (h : FlI S p ro at' b m) (hm : m ≤ 800) (E : St) : ∃ S', xFlush [.ptr p 0 0] (S ++ E) = some (.int .i64 0, S') ∧ FlI S' p ro at' b m ∧ ∀ r, S.length ≤ r → r < (S ++ E).length → S'[r]? = (S ++ E)[r]? := by
  obtain ⟨cw, fw, on, ws, h1, h2, h3, h4, h5, h6⟩ := h.ex
  have hlt := h1.lt
  replace h1 := h1.ext E
  obtain ⟨S', k1, k2, k3⟩ := flush_ok h1 h2 (by omega) h3 (by omega) (by omega) (by omega)
  exact ⟨S', k1, ⟨_, _, _, _, k2, by rw [flushS_len h2 h3]; exact h2, fun w hw => by simp at hw, fun w hw => by simp at hw, by rw [sec_flush h2 h3 h4]; exact h5, by simp⟩, behind (fun r hr => hlt r (by simp only [List.mem_cons, List.not_mem_nil, or_false] at hr ⊢; rcases hr with h | h; exact .inl h; exact .inr (.inl h))) k3⟩

theorem fl_crash {at' m : Nat} {b : List UInt8} (h : FlI S p ro at' b m) (hm : m ≤ 800) {x : AVal} {K : List Int} (hx : Ints x K) (E : St) : ∃ S', xCrash [.ptr p 0 0, x] (S ++ E) = some (.tup [], S') ∧ FlI S' p ro at' b m ∧ ∀ r, S.length ≤ r → r < (S ++ E).length → S'[r]? = (S ++ E)[r]? := by
  obtain ⟨cw, fw, on, ws, h1, h2, h3, h4, h5, h6⟩ := h.ex
  have hlt := h1.lt
  replace h1 := h1.ext E
  obtain ⟨S', k1, k2, k3⟩ := crash_ok h1 hx h2 (by omega) h3 (by omega)
  have hl := crashS_len K h2 h3 ws.length
  have hs := sec_crash K h2 h3 h4 ws.length
  rw [List.take_of_length_le (Nat.le_refl _)] at hl hs
  exact ⟨S', k1, ⟨_, _, _, _, k2, by rw [hl]; exact h2, fun w hw => by simp at hw, fun w hw => by simp at hw, by rw [hs]; exact h5, by simp⟩, behind (fun r hr => hlt r (by simp only [List.mem_cons, List.not_mem_nil, or_false] at hr ⊢; rcases hr with h | h; exact .inl h; exact .inr (.inl h))) k3⟩

theorem fl_read {at' m : Nat} {b : List UInt8} (h : FlI S p ro at' b m) (hm : m ≤ 800) (hat : at' < 16) : mRead [.ptr p 0 0, .int .i64 at'] S = some (.tup [.fz false 256 (bcells b), .int .i64 0], S) := by
  obtain ⟨cw, fw, on, ws, h1, h2, h3, h4, h5, h6⟩ := h.ex
  obtain ⟨r1, _⟩ := read_ok h1 h2 (by omega) h3 (by omega) hat
  have : readS on ws at' = b := by
    unfold readS
    have hn : newestS ws at' = none := by
      simp only [newestS, Option.map_eq_none_iff, List.find?_eq_none]
      intro w hw
      have := h4 w (by simpa using hw)
      simp [this]
    rw [hn]; exact h5
  rw [this] at r1; exact r1

/-- The start: written, and flushed. -/
theorem fl_start (h : DiskI S p ro .nils [] on [] (-1) false) (hn : on.length = 16 * 256) {at' : Nat} (hat : at' < 16) (fl : Bool) {b : List UInt8} (hb : b.length = 256) :
    ∃ S1 S2, yWrite [.ptr p 0 0, .int .i64 at', .fz fl 256 (bcells b)] S = some (.int .i64 0, S1) ∧ xFlush [.ptr p 0 0] S1 = some (.int .i64 0, S2) ∧ FlI S2 p ro at' b 0 := by
  obtain ⟨S1, cw', fw', k1, k2, k3, k4⟩ := write_ok h hn (by omega) at' hat (x := .fz fl 256 (bcells b)) (u := b) rfl (fun S' _ => by have := fz_cells fl b S'; rw [hb] at this ⊢; exact this) rfl hb (by omega) (by omega) (by simp)
  have hw : WsOk 16 ([] ++ [(at', b)]) := by intro w hw; simp at hw; subst hw; exact ⟨hat, hb⟩
  obtain ⟨S2, f1, f2, f3⟩ := flush_ok k2 hn (by omega) hw (by simp) (by decide) (by decide)
  refine ⟨S1, S2, k1, f1, ⟨_, _, _, _, f2, ?_, fun w hw => by simp at hw, fun w hw => by simp at hw, ?_, by simp⟩⟩
  · rw [flushS_len hn hw]; exact hn
  · exact sec_lay_same hb (by omega)
end Am.Disk
end

