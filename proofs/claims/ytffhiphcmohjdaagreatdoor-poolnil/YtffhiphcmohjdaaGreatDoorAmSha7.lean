import Derived.Test.YtffhiphcmohjdaaGreatDoorAmSha1
set_option linter.all false
/- SHA-256: a block is taken. -/
section
namespace Am.Sha
open Am Go Am.Ir
set_option maxRecDepth 100000

def V8.list (v : V8) : List UInt32 := [v.a, v.b, v.c, v.d, v.e, v.f, v.g, v.o]
def V8.plus (v w : V8) : V8 := ⟨v.a + w.a, v.b + w.b, v.c + w.c, v.d + w.d, v.e + w.e, v.f + w.f, v.g + w.g, v.o + w.o⟩

/-- The cells of a hash. -/
def hcells (v : V8) (b : List UInt8) (held : Int) (long : UInt64) : List AVal := ucells v.list ++ (bcells b ++ [.int .i64 held, .int .u64 (long.toNat : Int)])

theorem hcells_len (v : V8) (b : List UInt8) (held : Int) (long : UInt64) : (hcells v b held long).length = 10 + b.length := by
  simp [hcells, ucells_len, V8.list, bcells_len]; omega

/-- The state with so many of its numbers made more. -/
def plusN (v w : V8) (j : Nat) : List UInt32 := (v.plus w).list.take j ++ v.list.drop j

theorem plusN_succ (v w : V8) {j : Nat} (hj : j < 8) : ∃ x y, v.list[j]? = some x ∧ w.list[j]? = some y ∧ (plusN v w j)[j]? = some x ∧ (plusN v w j).set j (x + y) = plusN v w (j + 1) := by
  obtain ⟨a, b, c, d, e, f, g, o⟩ := v
  obtain ⟨a', b', c', d', e', f', g', o'⟩ := w
  rcases j with _ | _ | _ | _ | _ | _ | _ | _ | j
  all_goals first | exact ⟨_, _, rfl, rfl, rfl, rfl⟩ | omega

theorem plusN_len (v w : V8) {j : Nat} (hj : j ≤ 8) : (plusN v w j).length = 8 := by
  simp [plusN, V8.list, V8.plus]; omega

structure EnF (f : Fr) (r : Nat) (w : V8) (j : Nat) : Prop where
  s0 : f.get 0 = .ptr r 0 0
  s134 : f.get 134 = .agg (ucells w.list)
  s135 : f.get 135 = .int .i64 (j : Int)

theorem end_round {O : Orc} {k : Nat} {f : Fr} {T : St} {r j : Nat} {v w : V8} {R : List AVal} (hj : j < 8) (hr : T[r]? = some (.live 0 (ucells (plusN v w j) ++ R))) (hf : EnF f r w j) :
    Post (evC O k sha_Hash_take_l2 f T) fun e f' T' => e = .normal ∧ T' = T.set r (.live 0 (ucells (plusN v w (j + 1)) ++ R)) ∧ EnF f' r w (j + 1) := by
  obtain ⟨x, y, p1, p2, p3, p4⟩ := plusN_succ v w hj
  have hl := plusN_len v w (j := j) (by omega)
  have hlss : binA .lss (.int .i64 (j : Int)) (.int .i64 8) = some (.bool true) := by simp [binA, intBin]; omega
  have hadd : binA .add (.int .i64 (j : Int)) (.int .i64 1) = some (.int .i64 ((j : Int) + 1)) := by
    have h1 : IntKind.i64.wrap ((j : Int) + 1) = (j : Int) + 1 := wrap64 (by omega) (by omega)
    simp [binA, intBin, h1]
  have ia : iaddrAA 1 8 (.ptr r 0 0) (.int .i64 (j : Int)) = some (.ptr r 0 j) := by
    have h0 : (0 : Int) ≤ (j : Int) ∧ (j : Int) < (8 : Nat) := by omega
    simp only [iaddrAA]
    rw [if_pos h0, Int.toNat_natCast, Nat.zero_add, Nat.mul_one]
  have hg : (ucells (plusN v w j) ++ R)[j]? = some (u32 x) := by
    rw [List.getElem?_append_left (by rw [ucells_len]; omega)]; exact ucells_get p3
  have hy := ucells_get p2
  have hxy := add_u32 x y
  have hst : storeA 1 (.ptr r 0 j) (u32 (x + y)) T = some (T.set r (.live 0 (ucells (plusN v w (j + 1)) ++ R))) := by
    have hsp : splice (ucells (plusN v w j) ++ R) j [u32 (x + y)] = ucells (plusN v w (j + 1)) ++ R := by
      have : splice (ucells (plusN v w j) ++ R) j [u32 (x + y)] = (ucells (plusN v w j) ++ R).set j (u32 (x + y)) := by
        rw [List.set_eq_take_append_cons_drop, if_pos (by simp [ucells_len]; omega)]; simp [splice]
      rw [this, List.set_append_left _ _ (by rw [ucells_len]; omega), ← p4]
      simp [ucells, List.map_set]
    have hln : j + 1 ≤ (ucells (plusN v w j) ++ R).length := by simp [ucells_len]; omega
    have hc1 : cells? (u32 (x + y)) = some [u32 (x + y)] := rfl
    simp only [storeA, hc1, hr, hsp]
    rw [if_pos ⟨by trivial, rfl, hln⟩]
  have hj8 : (j : Int) < 8 := by omega
  generalize T.set r (.live 0 (ucells (plusN v w (j + 1)) ++ R)) = T' at *
  obtain ⟨s0, s134, s135⟩ := hf
  suffices hmid : Post (evC O k sha_Hash_take_l2 f T) (fun e f' T1 => e = .normal ∧ T1 = T' ∧ f'.get 0 = .ptr r 0 0 ∧ f'.get 134 = .agg (ucells w.list) ∧ f'.get 135 = .int .i64 ((j : Int) + 1)) by
    refine hmid.mono ?_
    rintro e f' T1 ⟨h1, h2, h3, h4, h5⟩
    exact ⟨h1, h2, ⟨h3, h4, by rw [h5]; simp⟩⟩
  simp [sha_Hash_take_l2, exM, orc, orcD, evF, evC, evOps, evOper, evAny, evOp, evCall, putR, putA, Fr.ev, Fr.of, Fr.get, Fr.set, stable, junkA, junkL, resultsA, resA, same, Fr.get_set, s0, s134, s135, hlss, hadd, ia, hg, hy, hxy, hst, hj8, hr, faddrA, loadA, partA_none, Post_some]

theorem end_loop {O : Orc} {f : Fr} {T : St} {r : Nat} {v w : V8} {R : List AVal} (hr : T[r]? = some (.live 0 (ucells v.list ++ R))) (hf : EnF f r w 0) :
    Post (evC O 1000 sha_Hash_take_s3 f T) fun e f' T' => e = .normal ∧ T'[r]? = some (.live 0 (ucells (v.plus w).list ++ R)) ∧ Keeps T T' [r] ∧ f'.get 0 = .ptr r 0 0 := by
  have h8 : plusN v w 8 = (v.plus w).list := rfl
  obtain ⟨f', S', h1, h2⟩ := loop_post (O := O) (k := 1000) (id := 2) (b := sha_Hash_take_l2)
    (I := fun j f T' => EnF f r w j ∧ Keeps T T' [r] ∧ T'[r]? = some (.live 0 (ucells (plusN v w j) ++ R)))
    (Q := fun f' T' => T'[r]? = some (.live 0 (ucells (v.plus w).list ++ R)) ∧ Keeps T T' [r] ∧ f'.get 0 = .ptr r 0 0) 8 (by omega)
    (by
      rintro j hj f T1 ⟨g1, g2, g3⟩
      refine (end_round hj g3 g1).mono ?_
      rintro e f' T2 ⟨rfl, rfl, k1⟩
      have hlt := (List.getElem?_eq_some_iff.1 g3).1
      exact ⟨rfl, k1, g2.trans (Keeps.set ..) (fun r hr => .inl hr), by simp [hlt]⟩)
    (by
      rintro f T1 ⟨⟨s0, s134, s135⟩, g2, g3⟩
      rw [h8] at g3
      have s135' : f.get 135 = .int .i64 8 := s135
      have hlss : binA .lss (.int .i64 8) (.int .i64 8) = some (.bool false) := rfl
      simp [sha_Hash_take_l2, exM, orc, orcD, evF, evC, evOps, evOper, evAny, evOp, evCall, putR, putA, Fr.ev, Fr.of, Fr.get, Fr.set, stable, junkA, junkL, resultsA, resA, same, Fr.get_set, s0, s134, s135', hlss, Post_some]
      exact ⟨g3, g2⟩)
    (f := f) (S := T) ⟨hf, Keeps.refl T _, hr⟩
  rw [show sha_Hash_take_s3 = .block 2 (.loop sha_Hash_take_l2) from rfl, h1]
  exact Post.of rfl ⟨rfl, h2⟩
end Am.Sha
end

/- SHA-256: a block is taken, whole. -/
section
namespace Am.Sha
open Am Go Am.Ir
set_option maxRecDepth 100000

noncomputable def xTake : Model := exM oTake sha_Hash_take 1000

/-- The state behind a block. -/
def takeS (v : V8) (b : List UInt8) : V8 := v.plus (vseq (loadS b 64) v 64)

theorem hcells_state (v : V8) (b : List UInt8) (held : Int) (long : UInt64) :
    (hcells v b held long)[0]? = some (u32 v.a) ∧ (hcells v b held long)[1]? = some (u32 v.b) ∧ (hcells v b held long)[2]? = some (u32 v.c) ∧ (hcells v b held long)[3]? = some (u32 v.d) ∧
    (hcells v b held long)[4]? = some (u32 v.e) ∧ (hcells v b held long)[5]? = some (u32 v.f) ∧ (hcells v b held long)[6]? = some (u32 v.g) ∧ (hcells v b held long)[7]? = some (u32 v.o) :=
  ⟨rfl, rfl, rfl, rfl, rfl, rfl, rfl, rfl⟩

theorem hcells_block (v : V8) {b : List UInt8} (hb : b.length = 64) (held : Int) (long : UInt64) : partA (some 64) 8 (hcells v b held long) = some (.agg (bcells b)) := by
  have hl := hcells_len v b held long
  simp only [partA]
  rw [if_pos (by omega)]
  have h8 : (ucells v.list).length = 8 := rfl
  have : (hcells v b held long).drop 8 = bcells b ++ [.int .i64 held, .int .u64 (long.toNat : Int)] := by
    rw [hcells, ← h8, List.drop_left]
  rw [this, List.take_append_of_le_length (by rw [bcells_len]; omega), List.take_of_length_le (by rw [bcells_len]; omega)]

theorem hcells_held (v : V8) {b : List UInt8} (hb : b.length = 64) (held held' : Int) (long : UInt64) : splice (hcells v b held long) 72 [.int .i64 held'] = hcells v b held' long := by
  have h8 : (ucells v.list).length = 8 := rfl
  have e : ∀ h, hcells v b h long = (ucells v.list ++ bcells b) ++ [.int .i64 h, .int .u64 (long.toNat : Int)] := fun h => by simp [hcells]
  have h72 : (ucells v.list ++ bcells b).length = 72 := by rw [List.length_append, h8, bcells_len, hb]
  rw [e, e, splice, ← h72, List.take_left, List.length_singleton, List.drop_length_add_append]
  simp

theorem get_lt' {S : St} {r : Nat} {b : ABlock} (h : S[r]? = some b) : r < S.length := (List.getElem?_eq_some_iff.1 h).1

theorem take_ok {S : St} {r : Nat} {v : V8} {b : List UInt8} {held : Int} {long : UInt64} (hb : b.length = 64) (hr : S[r]? = some (.live 0 (hcells v b held long))) :
    ∃ T, xTake [.ptr r 0 0] S = some (.tup [], T) ∧ T[r]? = some (.live 0 (hcells (takeS v b) b 0 long)) ∧ Keeps S T [r] := by
  have hrl := (List.getElem?_eq_some_iff.1 hr).1
  have hld := load_ok hb
  have hll := loadS_len b 64
  obtain ⟨w, hw⟩ : ∃ w, loadS b 64 = w := ⟨_, rfl⟩
  have htk : takeS v b = v.plus (vseq w v 64) := by rw [takeS, hw]
  rw [hw] at hld hll
  have hblk := hcells_block v hb held long
  obtain ⟨q0, q1, q2, q3, q4, q5, q6, q7⟩ := hcells_state v b held long
  -- the blocks of the wheel and the steps
  obtain ⟨S1, hS1⟩ : ∃ S1 : St, S ++ [.live 0 (ucells w), .live 0 (ucells steps)] = S1 := ⟨_, rfl⟩
  have h1r : S1[r]? = some (.live 0 (hcells v b held long)) := by rw [← hS1, get_old hrl]; exact hr
  have h1w : S1[S.length]? = some (.live 0 (ucells w)) := by rw [← hS1]; simp
  have h1k : S1[S.length + 1]? = some (.live 0 (ucells steps)) := by rw [← hS1]; simp
  have hk1 : Keeps S S1 [] := by rw [← hS1]; exact Keeps.append ..
  have hs1 : ∀ z1 z2 : List AVal, z1.length = 16 → storeA 16 (.ptr S.length 0 0) (.agg (ucells w)) (S ++ [.live 0 z1, .live 0 z2]) = some (S ++ [.live 0 (ucells w), .live 0 z2]) := fun z1 z2 hz => by
    have hsp : splice z1 0 (ucells w) = ucells w := by simp [splice, ucells_len, hll, hz]
    have hg : (S ++ [ABlock.live 0 z1, .live 0 z2])[S.length]? = some (.live 0 z1) := by simp
    simp [storeA, cells_agg, ucells_len, hll, hsp, hz]
  have hs2 : ∀ z2 : List AVal, z2.length = 64 → storeA 64 (.ptr (S.length + 1) 0 0) (.agg (ucells steps)) (S ++ [.live 0 (ucells w), .live 0 z2]) = some S1 := fun z2 hz => by
    have hsp : splice z2 0 (ucells steps) = ucells steps := by simp [splice, ucells_len, steps_len, hz]
    have hg : (S ++ [ABlock.live 0 (ucells w), .live 0 z2])[S.length + 1]? = some (.live 0 z2) := by simp
    simp [storeA, cells_agg, ucells_len, steps_len, hsp, hz, ← hS1, List.set_append]
  suffices hs : Post (evC oTake 1000 sha_Hash_take.body (Fr.of [.ptr r 0 0]) S) (fun e f T => (e = .normal ∨ e = .ret) ∧ resultsA f T sha_Hash_take.results = some (.tup []) ∧ T[r]? = some (.live 0 (hcells (takeS v b) b 0 long)) ∧ Keeps S T [r]) by
    obtain ⟨e, f, T, g1, g2, g3, g4⟩ := hs.ex
    refine ⟨T, ?_, g4⟩
    unfold xTake exM
    refine evF_post rfl rfl ?_
    exact Post.of g1 ⟨g2, g3, rfl⟩
  simp only [sha_Hash_take, sha_Hash_take_t5, sha_Hash_take_t4, Post_seq]
  have hpk : ∀ i, partA none i (hcells v b held long) = (hcells v b held long)[i]? := fun _ => rfl
  simp [exM, orc, orcD, evF, evC, evOps, evOper, evAny, evOp, evCall, putR, putA, Fr.ev, Fr.of, Fr.get, Fr.set, stable, junkA, junkL, resultsA, resA, same, oTake, faddrA, loadA, hr, hblk, hld, steps_ok, hs1, hs2, iaddrAA, h1r, hpk, q0, q1, q2, q3, q4, q5, q6, q7, Post_some]
  refine (take_loop (h := .ptr r 0 0) (rw' := S.length) (rk := S.length + 1) (v := v) hll (by omega) h1k h1w ⟨rfl, rfl, rfl, rfl, rfl, rfl, rfl, rfl, rfl, rfl, rfl, rfl⟩).mono ?_
  rintro e f' T1 ⟨rfl, d, hk⟩
  have hk1l := hk1.1
  have t1r : T1[r]? = some (.live 0 (ucells v.list ++ (bcells b ++ [.int .i64 held, .int .u64 (long.toNat : Int)]))) := by rw [hk.2 r (by omega) (by simp; omega)]; exact h1r
  obtain ⟨V, hV⟩ : ∃ V, vseq w v 64 = V := ⟨_, rfl⟩
  rw [hV] at d htk
  have hcu : ∀ x : UInt32, cells? (u32 x) = some [u32 x] := fun _ => rfl
  simp [exM, orc, orcD, evF, evC, evOps, evOper, evAny, evOp, evCall, putR, putA, Fr.ev, Fr.of, Fr.get, Fr.set, stable, junkA, junkL, resultsA, resA, same, Fr.get_set, d.s0, d.s4, d.s5, d.s6, d.s7, d.s8, d.s9, d.s10, d.s11, fillA, hcu, splice, Post_some]
  refine (end_loop (v := v) (w := V) t1r ⟨by simp [Fr.get_set, d.s0], by simp [Fr.get_set]; rfl, by simp [Fr.get_set]⟩).mono ?_
  rintro e f2 T2 ⟨rfl, m1, m2, m3⟩
  rw [← htk] at m1
  have m1' : T2[r]? = some (.live 0 (hcells (takeS v b) b held long)) := m1
  have hln := hcells_len (takeS v b) b held long
  have hhe := hcells_held (takeS v b) hb held 0 long
  have hln' : 73 ≤ (hcells (takeS v b) b held long).length := by omega
  have hT2l := get_lt' m1'
  simp [exM, orc, orcD, evF, evC, evOps, evOper, evAny, evOp, evCall, putR, putA, Fr.ev, Fr.of, Fr.get, Fr.set, stable, junkA, junkL, resultsA, resA, same, Fr.get_set, m3, storeA, cells?, m1', hhe, hln', Post_some]
  refine ⟨by simp [hT2l], ?_⟩
  have m2l := m2.1
  have hkl := hk.1
  have hSl : S1.length = S.length + 2 := by rw [← hS1]; simp
  refine ⟨by simp; omega, fun q hq hn => ?_⟩
  simp only [List.mem_singleton] at hn
  rw [List.getElem?_set_ne (fun e => hn e.symm), m2.2 q (by omega) (by simp; omega), hk.2 q (by omega) (by simp; omega), hk1.2 q hq (by simp)]
end Am.Sha
end

/- Bytes that can be read; SHA-256: what is written. -/
section
namespace Am.Sha
open Am Go Am.Ir
set_option maxRecDepth 100000

/-- Bytes that can be read here. -/
structure Rd (S : St) (x : AVal) (u : List UInt8) : Prop where
  sl : (∃ r v o l, x = .sl r v o l 1) ∨ (∃ b l c, x = .fz b l c) ∨ x = .nils
  cells : cellsOf 1 x S = some (u.length, bcells u)

theorem Rd.len {S : St} {x : AVal} {u : List UInt8} (h : Rd S x u) : lenA .sl x = some (.int .i64 (u.length : Int)) := by
  have hc := h.cells
  rcases h.sl with ⟨r, v, o, l, rfl⟩ | ⟨b, l, c, rfl⟩ | rfl
  · simp only [cellsOf] at hc
    split at hc
    · split at hc
      · simp only [Option.some.injEq, Prod.mk.injEq] at hc; rw [← hc.1]; rfl
      · simp at hc
    · simp at hc
  · simp only [cellsOf] at hc
    split at hc
    · simp only [Option.some.injEq, Prod.mk.injEq] at hc; rw [← hc.1]; rfl
    · simp at hc
  · simp only [cellsOf, Option.some.injEq, Prod.mk.injEq] at hc; rw [← hc.1]; rfl

theorem bcells_drop (u : List UInt8) (n : Nat) : (bcells u).drop n = bcells (u.drop n) := by simp [bcells]
theorem bcells_take' (u : List UInt8) (n : Nat) : (bcells u).take n = bcells (u.take n) := by simp [bcells]

theorem Rd.from {S : St} {x : AVal} {u : List UInt8} (h : Rd S x u) {n : Nat} (hn : n ≤ u.length) : ∃ x', slcSA 1 x (some (.int .i64 (n : Int))) none = some x' ∧ Rd S x' (u.drop n) := by
  have hc := h.cells
  have hb : bounds u.length (some (.int .i64 (n : Int))) none = some (n, u.length) := by
    simp [bounds]; omega
  rcases h.sl with ⟨r, v, o, l, rfl⟩ | ⟨b, l, c, rfl⟩ | rfl
  · simp only [cellsOf] at hc
    split at hc
    · rename_i v' cs hS
      split at hc
      · rename_i hcond
        simp only [Option.some.injEq, Prod.mk.injEq] at hc
        obtain ⟨rfl, hcs⟩ := hc
        refine ⟨.sl r v (o + n * 1) (u.length - n) 1, by simp [slcSA, hb], ⟨.inl ⟨_, _, _, _, rfl⟩, ?_⟩⟩
        simp only [cellsOf, hS]
        rw [if_pos ⟨hcond.1, by trivial, by omega⟩, ← bcells_drop, ← hcs, List.length_drop, List.drop_take, List.drop_drop]
        simp only [Nat.mul_one]
      · simp at hc
    · simp at hc
  · simp only [cellsOf] at hc
    split at hc
    · rename_i hcond
      simp only [Option.some.injEq, Prod.mk.injEq] at hc
      obtain ⟨rfl, rfl⟩ := hc
      refine ⟨.fz (b && decide (u.length = u.length)) (u.length - n) (((bcells u).drop (n * 1)).take ((u.length - n) * 1)), by simp only [slcSA, hb]; rw [if_pos hcond], ⟨.inr (.inl ⟨_, _, _, rfl⟩), ?_⟩⟩
      have ht : List.take (u.length - n) (bcells (u.drop n)) = bcells (u.drop n) := List.take_of_length_le (by rw [bcells_len]; simp)
      simp [cellsOf, bcells_drop, ht, bcells_len]
    · simp at hc
  · simp only [cellsOf, Option.some.injEq, Prod.mk.injEq] at hc
    have hu : u = [] := List.length_eq_zero_iff.1 hc.1.symm
    subst hu
    have hn0 : n = 0 := by simpa using hn
    subst hn0
    exact ⟨.nils, rfl, ⟨.inr (.inr rfl), rfl⟩⟩
end Am.Sha
end

/- SHA-256: what is written. -/
section
namespace Am.Sha
open Am Go Am.Ir
set_option maxRecDepth 100000

def start8 : V8 := ⟨1779033703, 3144134277, 1013904242, 2773480762, 1359893119, 2600822924, 528734635, 1541459225⟩

/-- A block of bytes. -/
def blk (M : List UInt8) (i : Nat) : List UInt8 := (M.drop (i * 64)).take 64

/-- The state behind so many blocks. -/
def stateN (M : List UInt8) : Nat → V8
  | 0 => start8
  | i + 1 => takeS (stateN M i) (blk M i)

theorem blk_append {M u : List UInt8} {i : Nat} (h : (i + 1) * 64 ≤ M.length) : blk (M ++ u) i = blk M i := by
  simp only [blk]
  rw [List.drop_append_of_le_length (by omega), List.take_append_of_le_length (by simp; omega)]

theorem stateN_append {M u : List UInt8} : ∀ {i : Nat}, i * 64 ≤ M.length → stateN (M ++ u) i = stateN M i
  | 0, _ => rfl
  | i + 1, h => by
    simp only [stateN]
    rw [stateN_append (i := i) (by omega), blk_append h]

/-- A hash that has taken some bytes, and says how many. -/
structure HashI (S : St) (r : Nat) (M : List UInt8) (L : UInt64) : Prop where
  ex : ∃ b, b.length = 64 ∧ S[r]? = some (.live 0 (hcells (stateN M (M.length / 64)) b ((M.length % 64 : Nat) : Int) L)) ∧ b.take (M.length % 64) = M.drop (M.length / 64 * 64)

theorem HashI.keep {S S' : St} {r : Nat} {M : List UInt8} {L : UInt64} {K : List Nat} (h : HashI S r M L) (hk : Keeps S S' K) (hn : r ∉ K) : HashI S' r M L := by
  obtain ⟨b, h1, h2, h3⟩ := h.ex
  exact ⟨b, h1, hk.get h2 hn, h3⟩
end Am.Sha
end

/- SHA-256: a part is written. -/
section
namespace Am.Sha
open Am Go Am.Ir
set_option maxRecDepth 100000

/-- Bytes that can be read here, and stay so whatever turns in one block. -/
def RdX (S : St) (r : Nat) (x : AVal) (u : List UInt8) : Prop := ∀ S', Keeps S S' [r] → Rd S' x u

theorem RdX.keep {S T : St} {r : Nat} {x : AVal} {u : List UInt8} (h : RdX S r x u) (hk : Keeps S T [r]) : RdX T r x u := fun S' h' => h S' (hk.trans h' (fun q hq => .inl hq))
theorem RdX.rd {S : St} {r : Nat} {x : AVal} {u : List UInt8} (h : RdX S r x u) : Rd S x u := h S (Keeps.refl S _)

/-- The block with bytes laid into it. -/
def laid (b : List UInt8) (o : Nat) (u : List UInt8) : List UInt8 := b.take o ++ u ++ b.drop (o + u.length)

theorem laid_len {b u : List UInt8} {o : Nat} (h : o + u.length ≤ b.length) : (laid b o u).length = b.length := by simp [laid]; omega

theorem hcells_laid (v : V8) {b u : List UInt8} (hb : b.length = 64) {o : Nat} (ho : o + u.length ≤ 64) (held : Int) (L : UInt64) : splice (hcells v b held L) (8 + o) (bcells u) = hcells v (laid b o u) held L := by
  have h8 : (ucells v.list).length = 8 := rfl
  simp only [splice, hcells, laid, bcells_append, bcells_len]
  rw [← h8, List.take_length_add_append, Nat.add_assoc, List.drop_length_add_append, List.take_append_of_le_length (by rw [bcells_len]; omega), List.drop_append_of_le_length (by rw [bcells_len]; omega), bcells_take', bcells_drop]
  simp only [List.append_assoc]
end Am.Sha
end

/- SHA-256: a part is written, over the code. -/
section
namespace Am.Sha
open Am Go Am.Ir
set_option maxRecDepth 100000

noncomputable def oWrite : Orc := orc [xTake]

/-- The block's end is a slice. -/
theorem block_slice {S : St} {r : Nat} {v : V8} {b : List UInt8} {L : UInt64} {o : Nat} (hb : b.length = 64) (ho : o ≤ 64) (hr : S[r]? = some (.live 0 (hcells v b (o : Int) L))) :
    slcAA 1 64 (.ptr r 0 8) (some (.int .i64 (o : Int))) none S = some (.sl r 0 (8 + o) (64 - o) 1) := by
  have hl := hcells_len v b (o : Int) L
  have hbd : bounds 64 (some (.int .i64 (o : Int))) none = some (o, 64) := by simp [bounds]; omega
  simp only [slcAA, hbd, hr]
  rw [if_pos ⟨by trivial, by omega⟩, Nat.mul_one]
end Am.Sha
end

