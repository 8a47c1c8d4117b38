/- The disk over its heap: what goes bad; what is read. -/
import Derived.Test.YtlhbmnhiiicldaaAmDisk6
import Derived.Test.YtlhbmnhiiicldaaAmBits
set_option linter.all false
namespace Am.Disk
open Am Go Am.Ir
set_option maxRecDepth 100000

variable {S : St} {p ro : Nat} {cw : AVal} {fw : List Nat} {on : List UInt8} {ws : List (Nat × List UInt8)} {lets : Int} {off : Bool}

/-- An argument of bytes. -/
structure Bytes (x : AVal) (m : List UInt8) : Prop where
  len : lenA .sl x = some (.int .i64 (m.length : Int))
  ix : ∀ (i : Nat) y, m[i]? = some y → iaddrSA 1 x (.int .i64 (i : Int)) = some (.fq [.int .u8 (y.toNat : Int)])

def rotS (base : Nat) (on m : List UInt8) : List UInt8 := m.zipIdx.foldl (fun on p => on.set (base + p.2) (on.getD (base + p.2) 0 ^^^ p.1)) on

theorem rotS_succ (base : Nat) (on m : List UInt8) {j : Nat} {x} (h : m[j]? = some x) : rotS base on (m.take (j + 1)) = (rotS base on (m.take j)).set (base + j) ((rotS base on (m.take j)).getD (base + j) 0 ^^^ x) := by
  have hl := (List.getElem?_eq_some_iff.1 h).1
  have hlen : (m.take j).length = j := by simp; omega
  simp only [rotS, take_succ h, List.zipIdx_append, List.foldl_append, hlen, Nat.zero_add]
  rfl

theorem rotS_len (base : Nat) (on m : List UInt8) : (rotS base on m).length = on.length := by
  have : ∀ (l : List (UInt8 × Nat)) (on : List UInt8), (l.foldl (fun on p => on.set (base + p.2) (on.getD (base + p.2) 0 ^^^ p.1)) on).length = on.length := by
    intro l
    induction l with
    | nil => intro on; rfl
    | cons p l ih => intro on; rw [List.foldl_cons, ih]; simp
  exact this _ _

/-- The frame's slots that the loop reads. -/
structure RtF (f : Fr) (ro base : Nat) (x : AVal) (len j : Nat) : Prop where
  s7 : f.get 7 = .sl ro 0 base 256 1
  s26 : f.get 26 = x
  s27 : f.get 27 = .int .i64 (len : Int)
  s28 : f.get 28 = .int .i64 (j : Int)

theorem rot_round {O : Orc} {k : Nat} {f : Fr} {base : Nat} {x : AVal} {m : List UInt8} (hx : Bytes x m) (h : DiskI S p ro cw fw on ws lets off) (hb : base + 256 ≤ on.length) (hm : m.length ≤ 256) {j : Nat} {y : UInt8} (hj : m[j]? = some y) (hf : RtF f ro base x m.length j) :
    Post (evC O k disk_Rot_l0 f S) fun e f' S' => e = .normal ∧ RtF f' ro base x m.length (j + 1) ∧ DiskI S' p ro cw fw (on.set (base + j) (on.getD (base + j) 0 ^^^ y)) ws lets off ∧ Keeps S S' [ro] := by
  have hlt := (List.getElem?_eq_some_iff.1 hj).1
  have hjl : (j : Int) < (m.length : Int) := by omega
  have hj2 : (j : Int) < 256 := by omega
  have hwj : IntKind.i64.wrap ((j : Int) + 1) = (j : Int) + 1 := wrap64 (by omega) (by omega)
  have hix := hx.ix j y hj
  have hbl : base + j < on.length := by omega
  have hld : (bcells on)[base + j]? = some (.int .u8 ((on.getD (base + j) 0).toNat : Int)) := by
    simp [bcells, hbl]
  have hxor := xor_u8 (on.getD (base + j) 0) y
  have hst : splice (bcells on) (base + j) [.int .u8 ((on.getD (base + j) 0 ^^^ y).toNat : Int)] = bcells (on.set (base + j) (on.getD (base + j) 0 ^^^ y)) := by
    simp only [splice, bcells, List.map_set, List.length_singleton]
    rw [List.set_eq_take_append_cons_drop, if_pos (by simp; exact hbl)]
    simp
  have h2 := h.seto (on' := on.set (base + j) (on.getD (base + j) 0 ^^^ y)) (by simp)
  have hsl : iaddrSA 1 (.sl ro 0 base 256 1) (.int .i64 (j : Int)) = some (.ptr ro 0 (base + j)) := by simp [iaddrSA, hj2]
  have hlss : binA .lss (.int .i64 (j : Int)) (.int .i64 (m.length : Int)) = some (.bool true) := by simp [binA, intBin, hjl]
  have hadd : binA .add (.int .i64 (j : Int)) (.int .i64 1) = some (.int .i64 ((j : Int) + 1)) := by simp [binA, intBin, hwj]
  simp only [List.getD_eq_getElem?_getD] at hld hxor hst h2 ⊢
  have hlen : base + j + 1 ≤ (bcells on).length := by rw [bcells_len]; omega
  rw [UInt8.toNat_xor] at hst
  simp [disk_Rot_l0, exM, orc, orcD, evF, evC, evOps, evOper, evAny, evOp, evCall, putR, putA, Fr.ev, Fr.of, Fr.get, Fr.set, stable, junkA, junkL, resultsA, resA, same, Fr.get_set, hf.s7, hf.s26, hf.s27, hf.s28, hix, hsl, hlss, hadd, storeA, cells?, loadA, partA_none, h.ho, hld, hxor, hst, hlen, Post_some]
  refine ⟨⟨?_, ?_, ?_, ?_⟩, h2, Keeps.set S ro _⟩
  · simp [Fr.get_set, hf.s7]
  · simp [Fr.get_set, hf.s26]
  · simp [Fr.get_set, hf.s27]
  · simp [Fr.get_set]

theorem rot_loop {O : Orc} {f : Fr} {base : Nat} {x : AVal} {m : List UInt8} (hx : Bytes x m) (h : DiskI S p ro cw fw on ws lets off) (hb : base + 256 ≤ on.length) (hm : m.length ≤ 256) (hf : RtF f ro base x m.length 0) :
    Post (evC O 1000 disk_Rot_s1 f S) fun e f' S' => e = .normal ∧ DiskI S' p ro cw fw (rotS base on m) ws lets off ∧ Keeps S S' [ro] := by
  obtain ⟨f', S', h1, h2⟩ := loop_post (O := O) (k := 1000) (id := 1) (b := disk_Rot_l0) (I := fun j f T => RtF f ro base x m.length j ∧ DiskI T p ro cw fw (rotS base on (m.take j)) ws lets off ∧ Keeps S T [ro])
    (Q := fun f' S' => DiskI S' p ro cw fw (rotS base on m) ws lets off ∧ Keeps S S' [ro]) m.length (by omega)
    (by
      rintro j hj f T ⟨g1, g2, g3⟩
      obtain ⟨y, hy⟩ : ∃ y, m[j]? = some y := ⟨_, List.getElem?_eq_getElem hj⟩
      refine (rot_round hx g2 (by rw [rotS_len]; exact hb) hm hy g1).mono ?_
      rintro e f' S' ⟨rfl, k1, k2, k3⟩
      exact ⟨rfl, k1, by rw [rotS_succ base on m hy]; exact k2, g3.trans k3 (fun r hr => .inl hr)⟩)
    (by
      rintro f T ⟨g1, g2, g3⟩
      rw [List.take_of_length_le (Nat.le_refl _)] at g2
      simp [disk_Rot_l0, exM, orc, orcD, evF, evC, evOps, evOper, evAny, evOp, evCall, putR, putA, Fr.ev, Fr.of, Fr.get, Fr.set, stable, junkA, junkL, resultsA, resA, same, Fr.get_set, g1.s26, g1.s27, g1.s28, binA, intBin, Post_some]
      exact ⟨g2, g3⟩)
    (f := f) (S := S) ⟨hf, by simpa [rotS] using h, Keeps.refl S _⟩
  rw [show disk_Rot_s1 = .block 1 (.loop disk_Rot_l0) from rfl, h1]
  exact Post.of rfl ⟨rfl, h2⟩

theorem rot_arg (h : DiskI S p ro cw fw on ws lets off) {n : Nat} (hn : on.length = n * 256) (hb : n ≤ 512) (i : Int) (x : AVal) (m : Nat) (hx : lenA .sl x = some (.int .i64 m)) (hbad : ¬ (0 ≤ i ∧ i < n) ∨ 256 < m) :
    xRot [.ptr p 0 0, .int .i64 i, x] S = some (.int .i64 1, S) := by
  have hh := has_ok h hn hb i
  by_cases h1 : 0 ≤ i ∧ i < n
  · have h2 : 256 < m := by rcases hbad with h2 | h2; exact absurd h1 h2; exact h2
    have h3 : (256 : Int) < (m : Int) := by omega
    have h4 : decide (0 ≤ i ∧ i < (n : Int)) = true := by simp [h1]
    rw [h4] at hh
    simp [xRot, disk_Rot, exM, orc, orcD, evF, evC, evOps, evOper, evAny, evOp, evCall, putR, putA, Fr.ev, Fr.of, Fr.get, Fr.set, stable, junkA, junkL, resultsA, resA, same, eq2, hh, unA, hx, binA, intBin, h3]
  · have h4 : decide (0 ≤ i ∧ i < (n : Int)) = false := by simp; intro h5; have := h1; omega
    rw [h4] at hh
    simp [xRot, disk_Rot, exM, orc, orcD, evF, evC, evOps, evOper, evAny, evOp, evCall, putR, putA, Fr.ev, Fr.of, Fr.get, Fr.set, stable, junkA, junkL, resultsA, resA, same, eq2, hh, unA]

theorem rot_ok (h : DiskI S p ro cw fw on ws lets off) {n : Nat} (hn : on.length = n * 256) (hb : n ≤ 512) {i : Nat} (hi : i < n) {x : AVal} {m : List UInt8} (hx : Bytes x m) (hm : m.length ≤ 256) :
    ∃ S', xRot [.ptr p 0 0, .int .i64 i, x] S = some (.int .i64 0, S') ∧ DiskI S' p ro cw fw (rotS (i * 256) on m) ws lets off ∧ Keeps S S' [ro] := by
  have hh := has_ok h hn hb i
  have h4 : decide (0 ≤ (i : Int) ∧ (i : Int) < (n : Int)) = true := by simp; omega
  rw [h4] at hh
  have hsec := sector_ok h hn hb hi
  have h3 : ¬ (256 : Int) < (m.length : Int) := by omega
  suffices hsuf : Post (evC (orc [xHas, xSector]) 1000 disk_Rot.body (Fr.of [.ptr p 0 0, .int .i64 i, x]) S) (fun e f S' => (e = .normal ∨ e = .ret) ∧ resultsA f S' disk_Rot.results = some (.int .i64 0) ∧
      DiskI S' p ro cw fw (rotS (i * 256) on m) ws lets off ∧ Keeps S S' [ro]) by
    obtain ⟨e, f, S', g1, g2, g3, g4, g5⟩ := hsuf.ex
    exact ⟨S', evF_post rfl rfl (.of g1 ⟨g2, g3, rfl⟩), g4, g5⟩
  simp only [disk_Rot, disk_Rot_t2, Post_seq]
  simp [exM, orc, orcD, evF, evC, evOps, evOper, evAny, evOp, evCall, putR, putA, Fr.ev, Fr.of, Fr.get, Fr.set, stable, junkA, junkL, resultsA, resA, same, eq2, hh, unA, hx.len, binA, intBin, h3, hsec, Post_some]
  refine (rot_loop (O := orc [xHas, xSector]) hx h (base := i * 256) (by omega) hm ⟨rfl, rfl, rfl, rfl⟩).mono ?_
  rintro e f' S' ⟨rfl, g1, g2⟩
  simp [exM, orc, orcD, evF, evC, evOps, evOper, evAny, evOp, evCall, putR, putA, Fr.ev, Fr.of, Fr.get, Fr.set, stable, junkA, junkL, resultsA, resA, same, Fr.get_set, Post_some]
  exact ⟨g1, g2⟩
end Am.Disk
