/- The acts of the disk's statements, and the sector that an act writes. -/
import Derived.Test.YtlhbmnhiiicldaaAmDisk9
set_option linter.all false
namespace Am.Disk
open Am Go Am.Ir
set_option maxRecDepth 100000

variable {S : St}

/-- Bytes as an argument. -/
def ByteV (b : AVal) (u : List UInt8) : Prop := (b = .nils ∧ u = []) ∨ b = .fz false u.length (bcells u)
def IntV (k : AVal) (K : List Int) : Prop := (k = .nils ∧ K = []) ∨ k = .fz false K.length (K.map fun n => .int .i64 n)

theorem ByteV.len {b : AVal} {u : List UInt8} (h : ByteV b u) : lenA .sl b = some (.int .i64 (u.length : Int)) := by
  rcases h with ⟨rfl, rfl⟩ | rfl <;> rfl
theorem IntV.len {b : AVal} {u : List Int} (h : IntV b u) : lenA .sl b = some (.int .i64 (u.length : Int)) := by
  rcases h with ⟨rfl, rfl⟩ | rfl <;> rfl
theorem ByteV.cells {b : AVal} {u : List UInt8} (h : ByteV b u) (S : St) : cellsOf 1 b S = some (u.length, bcells u) := by
  rcases h with ⟨rfl, rfl⟩ | rfl
  · rfl
  · exact fz_cells false u S
theorem ByteV.one {b : AVal} {u : List UInt8} (h : ByteV b u) : cells? b = some [b] := by
  rcases h with ⟨rfl, rfl⟩ | rfl <;> rfl
theorem IntV.one {b : AVal} {u : List Int} (h : IntV b u) : cells? b = some [b] := by
  rcases h with ⟨rfl, rfl⟩ | rfl <;> rfl

theorem ByteV.bytes {x : AVal} {m : List UInt8} (h : ByteV x m) : Bytes x m := by
  refine ⟨h.len, fun i y hy => ?_⟩
  have hl := (List.getElem?_eq_some_iff.1 hy).1
  rcases h with ⟨rfl, rfl⟩ | rfl
  · simp at hl
  · have h2 := ix_fz (u := m) (fl := false) rfl hl []
    have h3 : m.getD i 0 = y := by simp [hy]
    rw [h3] at h2; exact h2

theorem IntV.ints {x : AVal} {m : List Int} (h : IntV x m) : Ints x m := by
  refine ⟨h.len, fun i y hy => ?_⟩
  have hl := (List.getElem?_eq_some_iff.1 hy).1
  rcases h with ⟨rfl, rfl⟩ | rfl
  · simp at hl
  · have h1 : ((m.map fun n => AVal.int .i64 n).drop i).take 1 = [.int .i64 y] := by
      rw [List.drop_eq_getElem_cons (by simpa using hl)]
      have : m[i] = y := (List.getElem?_eq_some_iff.1 hy).2
      simp [this]
    have h2 : (i : Int) < (m.length : Int) := by omega
    simp [iaddrSA, h2, h1]

/-- An act. -/
structure ActV where
  kind : Int
  at' : Int
  b : AVal
  raw : Bool
  k : AVal
  u : List UInt8
  K : List Int
  hb : ByteV b u
  hk : IntV k K

def ActV.cells (a : ActV) : List AVal := [.int .i64 a.kind, .int .i64 a.at', a.b, .bool a.raw, a.k]

/-- Acts as an argument. -/
structure ActsV (x : AVal) (L : List ActV) : Prop where
  len : lenA .sl x = some (.int .i64 (L.length : Int))
  ix : ∀ (i : Nat) a, L[i]? = some a → iaddrSA 5 x (.int .i64 (i : Int)) = some (.fq a.cells)

noncomputable def mSmall : Model := tellM 1 (exM (orc []) disk_small 10)

def smallS (a : ActV) : Bool := decide (a.u.length ≤ 300) && decide (a.K.length ≤ 60)

theorem small_ok (a : ActV) (S : St) : mSmall [.agg a.cells] S = some (.bool (smallS a), S) := by
  refine tellM_new (T := [.live 0 a.cells]) (v := .bool (smallS a)) ?_ rfl
  by_cases h1 : a.u.length ≤ 300
  · have h1' : (a.u.length : Int) ≤ 300 := by omega
    by_cases h2 : a.K.length ≤ 60
    · have h2' : (a.K.length : Int) ≤ 60 := by omega
      simp [disk_small, exM, orc, orcD, evF, evC, evOps, evOper, evAny, evOp, evCall, putR, putA, Fr.ev, Fr.of, Fr.get, Fr.set, stable, junkA, junkL, resultsA, resA, same, cells?, ActV.cells, faddrA, loadA, partA, a.hb.len, a.hk.len, binA, intBin, smallS, h1, h2, h1', h2']
    · have h2' : ¬ (a.K.length : Int) ≤ 60 := by omega
      simp [disk_small, exM, orc, orcD, evF, evC, evOps, evOper, evAny, evOp, evCall, putR, putA, Fr.ev, Fr.of, Fr.get, Fr.set, stable, junkA, junkL, resultsA, resA, same, cells?, ActV.cells, faddrA, loadA, partA, a.hb.len, a.hk.len, binA, intBin, smallS, h1, h2, h1', h2']
  · have h1' : ¬ (a.u.length : Int) ≤ 300 := by omega
    simp [disk_small, exM, orc, orcD, evF, evC, evOps, evOper, evAny, evOp, evCall, putR, putA, Fr.ev, Fr.of, Fr.get, Fr.set, stable, junkA, junkL, resultsA, resA, same, cells?, ActV.cells, faddrA, loadA, partA, a.hb.len, a.hk.len, binA, intBin, smallS, h1, h1']

/-- The sector that an act writes. -/
def padS (raw : Bool) (u : List UInt8) : List UInt8 := if raw = true then u else u ++ List.replicate (256 - u.length) (u.getLastD 0)

structure LsI (S T : St) (cells : List AVal) (v : Nat) (b : List UInt8) : Prop where
  keep : ∀ r, r < S.length → T[r]? = S[r]?
  b0 : T[S.length]? = some (.live 0 cells)
  b1 : T[S.length + 1]? = some (.live v (bcells b))

structure LsF (f : Fr) (n0 v len : Nat) : Prop where
  s1 : f.get 1 = .ptr n0 0 0
  s3 : f.get 3 = .sl (n0 + 1) v 0 len 1

theorem last_ix {T : St} {r v : Nat} {b : List UInt8} (h : T[r]? = some (.live v (bcells b))) (hb : 0 < b.length) :
    iaddrSA 1 (.sl r v 0 b.length 1) (.int .i64 ((b.length : Int) - 1)) = some (.ptr r v (b.length - 1)) ∧ (bcells b)[b.length - 1]? = some (.int .u8 ((b.getLastD 0).toNat : Int)) := by
  have h1 : ((b.length : Int) - 1).toNat = b.length - 1 := by omega
  have h2 : (0 : Int) ≤ (b.length : Int) - 1 ∧ (b.length : Int) - 1 < (b.length : Int) := by omega
  refine ⟨by simp only [iaddrSA]; rw [if_pos ⟨by trivial, h2.1, h2.2⟩, h1]; simp, ?_⟩
  have : b.getLastD 0 = b[b.length - 1] := by
    cases b with
    | nil => simp at hb
    | cons x b => simp [List.getLastD, List.getLast_eq_getElem]
  rw [this]
  have h3 : b.length - 1 < b.length := by omega
  simp [bcells, h3]

theorem ls_round {O : Orc} {k : Nat} {f : Fr} {T : St} {a : ActV} {v : Nat} {b : List UInt8} (h : LsI S T a.cells v b) (hr : a.raw = false) (hb : b.length < 256) (hf : LsF f S.length v b.length) :
    Post (evC O k disk_lsector_l0 f T) fun e f' T' => e = .normal ∧ LsI S T' a.cells (v + 1) (b ++ [b.getLastD 0]) ∧ LsF f' S.length (v + 1) (b.length + 1) := by
  have hlt := get_lt h.b1
  have hlss : binA .lss (.int .i64 (b.length : Int)) (.int .i64 256) = some (.bool true) := by simp [binA, intBin]; omega
  have fin : ∀ (f' : Fr) (T' : St), T' = ((T ++ [ABlock.live 0 [.int .u8 ((b.getLastD 0).toNat : Int)]]).set (S.length + 1) (.live (v + 1) (bcells b ++ [.int .u8 ((b.getLastD 0).toNat : Int)]))) →
      f'.get 1 = .ptr S.length 0 0 → f'.get 3 = .sl (S.length + 1) (v + 1) 0 (b.length + 1) 1 → LsI S T' a.cells (v + 1) (b ++ [b.getLastD 0]) ∧ LsF f' S.length (v + 1) (b.length + 1) := by
    rintro f' T' rfl g1 g3
    refine ⟨⟨fun r hr => ?_, ?_, ?_⟩, ⟨g1, g3⟩⟩
    · rw [set_get' (by omega), get_old (by omega)]; exact h.keep r hr
    · rw [set_get' (by omega), get_old (by omega)]; exact h.b0
    · rw [set_get (by simp; omega), bcells_append]; rfl
  suffices hmid : Post (evC O k disk_lsector_l0 f T) (fun e f' T' => e = .normal ∧ f'.get 1 = .ptr S.length 0 0 ∧ f'.get 3 = .sl (S.length + 1) (v + 1) 0 (b.length + 1) 1 ∧
      T' = ((T ++ [ABlock.live 0 [.int .u8 ((b.getLastD 0).toNat : Int)]]).set (S.length + 1) (.live (v + 1) (bcells b ++ [.int .u8 ((b.getLastD 0).toNat : Int)])))) by
    refine hmid.mono ?_
    rintro e f' T' ⟨h1, h2, h3, h4⟩
    exact ⟨h1, fin f' T' h4 h2 h3⟩
  have htk : List.take b.length (bcells b) = bcells b := List.take_of_length_le (by rw [bcells_len]; exact Nat.le_refl _)
  have hby : b.length + 1 ≤ 140737488355328 := by omega
  have hold : (T ++ [ABlock.live 0 [AVal.int IntKind.u8 0]])[S.length + 1]? = some (.live v (bcells b)) := by rw [get_old hlt]; exact h.b1
  have hold' : ∀ c : AVal, (T ++ [ABlock.live 0 [c]])[S.length + 1]? = some (.live v (bcells b)) := fun c => by rw [get_old hlt]; exact h.b1
  by_cases h0 : b = []
  · subst h0
    have hgt : binA .gtr (.int .i64 0) (.int .i64 0) = some (.bool false) := rfl
    simp only [List.length_nil] at hf hlss htk hby
    have hlss' : binA .lss (.int .i64 0) (.int .i64 256) = some (.bool true) := rfl
    simp [disk_lsector_l0, exM, orc, orcD, evF, evC, evOps, evOper, evAny, evOp, evCall, putR, putA, Fr.ev, Fr.of, Fr.get, Fr.set, stable, junkA, junkL, resultsA, resA, same, Fr.get_set, hf.s1, hf.s3, faddrA, loadA, h.b0, partA_none, ActV.cells, hr, unA, lenA, hlss', hgt, fillA, cells?, splice, appendA, cellsOf, hold', bcells, Post_some]
  · have hpos : 0 < b.length := List.length_pos_iff.2 h0
    have hgt : binA .gtr (.int .i64 (b.length : Int)) (.int .i64 0) = some (.bool true) := by simp [binA, intBin]; omega
    have hsub : binA .sub (.int .i64 (b.length : Int)) (.int .i64 1) = some (.int .i64 ((b.length : Int) - 1)) := by
      simp only [binA, intBin]; rw [if_neg (by simp), if_pos trivial, wrap64 (by omega) (by omega)]
    obtain ⟨i1, i2⟩ := last_ix h.b1 hpos
    simp [disk_lsector_l0, exM, orc, orcD, evF, evC, evOps, evOper, evAny, evOp, evCall, putR, putA, Fr.ev, Fr.of, Fr.get, Fr.set, stable, junkA, junkL, resultsA, resA, same, Fr.get_set, hf.s1, hf.s3, faddrA, loadA, h.b0, h.b1, partA_none, ActV.cells, hr, unA, lenA, hlss, hgt, hsub, i1, i2, fillA, cells?, splice, appendA, cellsOf, hold', htk, hby, bcells_len, Post_some]

theorem pad_step (u : List UInt8) (j : Nat) : (u ++ List.replicate j (u.getLastD 0)).getLastD 0 = u.getLastD 0 := by
  cases j with
  | zero => simp
  | succ j => rw [List.replicate_succ', ← List.append_assoc]; simp

noncomputable def mLsector : Model := tellM 2 (exM (orc []) disk_lsector 1000)

theorem lsector_ok (a : ActV) (hu : a.u.length ≤ 300) (S : St) : mLsector [.agg a.cells] S = some (.fz false (padS a.raw a.u).length (bcells (padS a.raw a.u)), S) := by
  obtain ⟨m, hm⟩ : ∃ m, (if a.raw = true then 0 else 256 - a.u.length) = m := ⟨_, rfl⟩
  have hpad : padS a.raw a.u = a.u ++ List.replicate m (a.u.getLastD 0) := by
    unfold padS; rw [← hm]; split <;> simp
  obtain ⟨T0, hT0⟩ : ∃ T0 : St, (S ++ [.live 0 a.cells, .live 1 (bcells a.u)]) = T0 := ⟨_, rfl⟩
  have hI0 : LsI S T0 a.cells 1 a.u := by subst hT0; exact ⟨fun r hr => get_old hr, by simp, by simp⟩
  have hloop : ∀ f : Fr, LsF f S.length 1 a.u.length → Post (evC (orc []) 1000 disk_lsector_s1 f T0) fun e f' T => e = .normal ∧ ∃ v, LsI S T a.cells v (padS a.raw a.u) ∧ LsF f' S.length v (padS a.raw a.u).length := by
    intro f hf
    obtain ⟨f', S', h1, h2⟩ := loop_post (O := orc []) (k := 1000) (id := 0) (b := disk_lsector_l0) (I := fun j f T => LsI S T a.cells (1 + j) (a.u ++ List.replicate j (a.u.getLastD 0)) ∧ LsF f S.length (1 + j) (a.u.length + j))
      (Q := fun f' T => ∃ v, LsI S T a.cells v (padS a.raw a.u) ∧ LsF f' S.length v (padS a.raw a.u).length) m (by split at hm <;> omega)
      (by
        rintro j hj f T ⟨g1, g2⟩
        have hr : a.raw = false := by
          cases hr : a.raw with
          | false => rfl
          | true => rw [hr] at hm; simp at hm; omega
        have hlen : (a.u ++ List.replicate j (a.u.getLastD 0)).length = a.u.length + j := by simp
        rw [hr] at hm; simp at hm
        refine (ls_round g1 hr (by rw [hlen]; omega) (by rw [hlen]; exact g2)).mono ?_
        rintro e f' T' ⟨rfl, k1, k2⟩
        rw [pad_step, List.append_assoc, ← List.replicate_succ'] at k1
        rw [hlen] at k2
        exact ⟨rfl, k1, k2⟩)
      (by
        rintro f T ⟨g1, g2⟩
        rw [← hpad] at g1
        have hlen : a.u.length + m = (padS a.raw a.u).length := by rw [hpad]; simp
        rw [hlen] at g2
        cases hr : a.raw with
        | true =>
          rw [hr] at g1 g2
          suffices hmid : Post (evC (orc []) 1000 disk_lsector_l0 f T) (fun e f' T' => e = .exit 0 ∧ f'.get 1 = .ptr S.length 0 0 ∧ f'.get 3 = .sl (S.length + 1) (1 + m) 0 (padS true a.u).length 1 ∧ T' = T) by
            refine hmid.mono ?_
            rintro e f' T' ⟨h1, h2, h3, rfl⟩
            exact ⟨h1, _, g1, ⟨h2, h3⟩⟩
          simp [disk_lsector_l0, exM, orc, orcD, evF, evC, evOps, evOper, evAny, evOp, evCall, putR, putA, Fr.ev, Fr.of, Fr.get, Fr.set, stable, junkA, junkL, resultsA, resA, same, Fr.get_set, g2.s1, g2.s3, faddrA, loadA, g1.b0, partA_none, ActV.cells, hr, unA, Post_some]
        | false =>
          rw [hr] at g1 g2 hlen
          rw [hr] at hm; simp at hm
          have hlss : binA .lss (.int .i64 ((padS false a.u).length : Int)) (.int .i64 256) = some (.bool false) := by simp [binA, intBin]; omega
          suffices hmid : Post (evC (orc []) 1000 disk_lsector_l0 f T) (fun e f' T' => e = .exit 0 ∧ f'.get 1 = .ptr S.length 0 0 ∧ f'.get 3 = .sl (S.length + 1) (1 + m) 0 (padS false a.u).length 1 ∧ T' = T) by
            refine hmid.mono ?_
            rintro e f' T' ⟨h1, h2, h3, rfl⟩
            exact ⟨h1, _, g1, ⟨h2, h3⟩⟩
          simp [disk_lsector_l0, exM, orc, orcD, evF, evC, evOps, evOper, evAny, evOp, evCall, putR, putA, Fr.ev, Fr.of, Fr.get, Fr.set, stable, junkA, junkL, resultsA, resA, same, Fr.get_set, g2.s1, g2.s3, faddrA, loadA, g1.b0, partA_none, ActV.cells, hr, unA, lenA, hlss, Post_some])
      (f := f) (S := T0) ⟨by simpa using hI0, by simpa using hf⟩
    rw [show disk_lsector_s1 = .block 0 (.loop disk_lsector_l0) from rfl, h1]
    exact Post.of rfl ⟨rfl, h2⟩
  suffices hs : Post (evC (orc []) 1000 disk_lsector.body (Fr.of [.agg a.cells]) S) (fun e f S1 => (e = .normal ∨ e = .ret) ∧ ∃ v, resultsA f S1 disk_lsector.results = some (.sl (S.length + 1) v 0 (padS a.raw a.u).length 1) ∧ LsI S S1 a.cells v (padS a.raw a.u)) by
    obtain ⟨e, f, S1, g1, g2, v, g3, g4⟩ := hs.ex
    have hx : exM (orc []) disk_lsector 1000 [.agg a.cells] S = some (.sl (S.length + 1) v 0 (padS a.raw a.u).length 1, S1) := evF_post rfl rfl (Post.of g1 ⟨g2, g3, rfl⟩)
    have hpre := prefix_of (S := S) (T := S1) (by have := get_lt g4.b1; omega) g4.keep
    rw [hpre] at hx
    refine tellM_new hx ?_
    rw [← hpre]
    refine deep_sl (cells := bcells (padS a.raw a.u)) (by omega) g4.b1 (by simp [bcells_len]) ?_
    rw [List.drop_zero, Nat.mul_one, List.take_of_length_le (by simp [bcells_len])]
    exact deep_bcells _
  have hT0' : ∀ c : List AVal, c = a.cells → (S ++ [ABlock.live 0 c, .live 1 (bcells a.u)]) = T0 := by rintro c rfl; exact hT0
  have hcl := a.hb.cells (S ++ [.live 0 a.cells, .live 0 []])
  have hby : a.u.length ≤ 140737488355328 := by omega
  have hap : appendA 1 1 (.sl (S.length + 1) 0 0 0 1) a.b (S ++ [.live 0 a.cells, .live 0 []]) = some (.sl (S.length + 1) 1 0 a.u.length 1, T0) := by
    rw [← hT0]; simp [appendA, hcl, hby]
  simp only [disk_lsector, disk_lsector_t2, Post_seq]
  have hcs : cells? (.agg a.cells) = some a.cells := rfl
  have hb0 : ∀ E : St, (S ++ ABlock.live 0 a.cells :: E)[S.length]? = some (.live 0 a.cells) := fun E => by simp
  have hc2 : a.cells[2]? = some a.b := rfl
  simp [exM, orc, orcD, evF, evC, evOps, evOper, evAny, evOp, evCall, putR, putA, Fr.ev, Fr.of, Fr.get, Fr.set, stable, junkA, junkL, resultsA, resA, same, hcs, fillA, faddrA, loadA, hb0, hc2, partA_none, hap, Post_some]
  refine (hloop _ ⟨by simp [Fr.get], by simp [Fr.get]⟩).mono ?_
  rintro e f' T ⟨rfl, v, k1, k2⟩
  simp [exM, orc, orcD, evF, evC, evOps, evOper, evAny, evOp, evCall, putR, putA, Fr.ev, Fr.of, Fr.get, Fr.set, stable, junkA, junkL, resultsA, resA, same, Fr.get_set, k2.s3, Post_some]
  exact k1
end Am.Disk
