import Derived.Test.YtffhiphcmohjdaaGreatDoorAmSha13
set_option linter.all false
/- SHA-256: one hash of many, whole. -/
section
namespace Am.Sha
open Am Go Am.Ir
set_option maxRecDepth 100000

theorem tree_one {m : Model} {S : St} {x : AVal} {hs : List (List UInt8)} (hx : Hs S x hs) (h1 : hs.length = 1) (d : Nat) :
    ∃ T, exM (orc [xLen, m, mAll]) sha_Tree 10 [x] S = some (.agg (bcells (treeD (d + 1) hs)), T) ∧ Keeps S T [] := by
  have hlen := hx.len
  obtain ⟨u, rfl⟩ := List.length_eq_one_iff.1 h1
  have hu := hx.each u (by simp)
  have ht : treeD (d + 1) [u] = u := by simp [treeD]
  rw [ht]
  obtain ⟨p, hp, hl⟩ := hx.one (i := 0) (u := u) rfl
  obtain ⟨Z, hZ⟩ : ∃ Z : List AVal, List.replicate 32 (AVal.int .u8 0) = Z := ⟨_, rfl⟩
  have hZl : Z.length = 32 := by rw [← hZ]; simp
  have hZ' := hZ
  simp only [List.replicate_succ, List.replicate_zero] at hZ'
  obtain ⟨S1, hS1⟩ : ∃ S1 : St, S ++ [.live 0 Z] = S1 := ⟨_, rfl⟩
  have hk1 : Keeps S S1 [] := by rw [← hS1]; exact Keeps.append ..
  have hz1 : S1[S.length]? = some (.live 0 Z) := by rw [← hS1]; simp
  have hst := store32 hZl hu hz1
  have hld := load32 hu (get_lt' hz1)
  have hl1 := hl S1 hk1
  refine ⟨S1.set S.length (.live 0 (bcells u)), ?_, ⟨by rw [← hS1]; simp, fun i hi _ => by rw [List.getElem?_set_ne (by omega), ← hS1, get_old hi]⟩⟩
  have hp' : iaddrSA 32 x (.int .i64 0) = some p := hp
  have hlen' : lenA .sl x = some (.int .i64 1) := hlen
  have e0 : binA .eql (.int .i64 1) (.int .i64 0) = some (.bool false) := rfl
  have e1 : binA .eql (.int .i64 1) (.int .i64 1) = some (.bool true) := rfl
  simp [exM, sha_Tree, exM, orc, orcD, evF, evC, evOps, evOper, evAny, evOp, evCall, putR, putA, Fr.ev, Fr.of, Fr.get, Fr.set, stable, junkA, junkL, resultsA, resA, same, hZ', hS1, hlen', e0, e1, hp', hl1, hst, hld]

theorem tree_ok : ∀ (d : Nat) {S : St} {x : AVal} {hs : List (List UInt8)}, Hs S x hs → hs.length ≤ 2 ^ d → hs.length ≤ 16 → 0 < hs.length → treeM (d + 1) [x] S = some (.agg (bcells (treeD (d + 1) hs)), S)
  | 0, S, x, hs, hx, hd, _, h0 => by
    obtain ⟨T, h1, h2⟩ := tree_one (m := treeM 0) hx (by omega) 0
    exact tellM_keeps h1 h2 (deep_agg_bytes ..)
  | d + 1, S, x, hs, hx, hd, h16, h0 => by
    by_cases h1 : hs.length = 1
    · obtain ⟨T, h1, h2⟩ := tree_one (m := treeM (d + 1)) hx h1 (d + 1)
      exact tellM_keeps h1 h2 (deep_agg_bytes ..)
    · obtain ⟨T, h1, h2⟩ := tree_raw (d := d) (fun {S x hs} hx hd h16 h0 => tree_ok d hx hd h16 h0) hx (by omega) hd h16
      exact tellM_keeps h1 h2 (deep_agg_bytes ..)
end Am.Sha
end

/- SHA-256, as the document has it: turn, numbers, padding. -/
section
namespace Am
open Go

/-- Bytes are added to a slice that has its block for itself. -/
theorem MsgI.app {T : St} {m y : AVal} {M w : List UInt8} {r : Nat} (h : MsgI T m M r) (hy : cellsOf 1 y T = some (w.length, bcells w)) (hl : M.length + w.length ≤ 140737488355328) :
    ∃ m' T', appendA 1 1 m y T = some (m', T') ∧ MsgI T' m' (M ++ w) r ∧ Keeps T T' [r] := by
  obtain ⟨v, rfl, h2⟩ := h
  have hlt := live_lt h2
  refine ⟨.sl r (v + 1) 0 (M.length + w.length) 1, T.set r (.live (v + 1) (bcells (M ++ w))), ?_, ⟨v + 1, by rw [List.length_append], by simp [hlt]⟩, Keeps.set ..⟩
  simp only [appendA, hy, h2]
  rw [if_pos ⟨by trivial, by trivial, by rw [bcells_len]; omega, by omega⟩, Nat.mul_one, List.drop_zero, List.take_of_length_le (by rw [bcells_len]; omega), bcells_append]

theorem MsgI.rd {S : St} {m : AVal} {M : List UInt8} {r : Nat} (h : MsgI S m M r) : Am.Sha.Rd S m M := by
  obtain ⟨v, rfl, h2⟩ := h
  exact ⟨.inl ⟨_, _, _, _, rfl⟩, MsgI.cells ⟨v, rfl, h2⟩⟩

theorem byte_cells {T : St} {q : Nat} {b : UInt8} (h : T[q]? = some (.live 0 [.int .u8 (b.toNat : Int)])) : cellsOf 1 (.sl q 0 0 1 1) T = some (([b] : List UInt8).length, bcells [b]) := by
  simp [cellsOf, h, bcells]

/-- A byte is added. -/
theorem MsgI.app1 {T : St} {m : AVal} {M : List UInt8} {r : Nat} (h : MsgI T m M r) (b : UInt8) (hl : M.length + 1 ≤ 140737488355328) :
    ∃ m' T', appendA 1 1 m (.sl T.length 0 0 1 1) (T ++ [.live 0 [.int .u8 (b.toNat : Int)]]) = some (m', T') ∧ MsgI T' m' (M ++ [b]) r ∧ Keeps T T' [r] := by
  have hlt := h.lt
  have hk : Keeps T (T ++ [.live 0 [.int .u8 (b.toNat : Int)]]) [] := Keeps.append ..
  obtain ⟨m', T', h1, h2, h3⟩ := (h.keep hk (by simp)).app (w := [b]) (byte_cells (q := T.length) (b := b) (by simp)) hl
  have h3l := h3.1
  exact ⟨m', T', h1, h2, ⟨Nat.le_trans hk.1 h3.1, fun q hq hn => by rw [h3.2 q (by simp; omega) hn, hk.2 q hq (by simp)]⟩⟩

theorem Keeps.empty {S T : St} {r : Nat} (h : Keeps S T [r]) (hr : S.length ≤ r) : Keeps S T [] := ⟨h.1, fun i hi _ => h.2 i hi (by simp; omega)⟩
theorem Keeps.after {S T U : St} {r : Nat} (h : Keeps S T []) (h' : Keeps T U [r]) (hr : S.length ≤ r) : Keeps S U [] :=
  ⟨Nat.le_trans h.1 h'.1, fun i hi _ => by
    have := h.1
    rw [h'.2 i (by omega) (by simp; omega), h.2 i hi (by simp)]⟩
theorem Keeps.after0 {S T U : St} (h : Keeps S T []) (h' : Keeps T U []) : Keeps S U [] := h.trans h' (fun _ hq => .inl hq)
end Am
namespace Am.Sha
open Am Go Am.Ir
set_option maxRecDepth 100000

noncomputable def xTurn : Model := exM (orc []) r02_turn 10

theorem turn_ok {n : Nat} (hn : n < 32) (hn0 : 0 < n) (x : UInt32) (S : St) : xTurn [u32 x, .int .u64 (n : Int)] S = some (u32 (rr n x), S) := by
  have h1 := shr_u32 x .u64 n hn
  have h2 := shl_u32 x .u64 (32 - n) (by omega)
  have h3 := or_u32 (x >>> UInt32.ofNat n) (x <<< UInt32.ofNat (32 - n))
  have hs : binA .sub (.int .u64 32) (.int .u64 (n : Int)) = some (.int .u64 ((32 - n : Nat) : Int)) := by
    have : IntKind.u64.wrap (32 - (n : Int)) = ((32 - n : Nat) : Int) := by rw [conv_u64 (by omega) (by omega)]; omega
    simp [binA, intBin, this]
  have he : rr n x = x >>> UInt32.ofNat n ||| x <<< UInt32.ofNat (32 - n) := UInt32.or_comm _ _
  rw [he]
  generalize ((32 - n : Nat) : Int) = z at *
  generalize (n : Int) = nn at *
  generalize x >>> UInt32.ofNat n ||| x <<< UInt32.ofNat (32 - n) = y at *
  generalize x >>> UInt32.ofNat n = y1 at *
  generalize x <<< UInt32.ofNat (32 - n) = y2 at *
  generalize u32 x = xx at *
  simp [xTurn, exM, r02_turn, exM, orc, orcD, evF, evC, evOps, evOper, evAny, evOp, evCall, putR, putA, Fr.ev, Fr.of, Fr.get, Fr.set, stable, junkA, junkL, resultsA, resA, same, h1, h2, h3, hs]

noncomputable def mStart : Model := pureM 2 (exM (orc []) r02_start 10)
noncomputable def mSteps2 : Model := pureM 2 (exM (orc []) r02_steps 10)

theorem start_ok (S : St) : mStart [] S = some (.agg (ucells start), S) := by
  have h : ∃ T, exM (orc []) r02_start 10 [] [] = some (.agg (ucells start), T) := ⟨_, by rfl⟩
  obtain ⟨T, hT⟩ := h
  refine pureM_run rfl hT ?_
  rw [deep_agg, flats_deep _ _ _ (flat_ucells _)]; rfl

theorem steps2_ok (S : St) : mSteps2 [] S = some (.fz false 64 (ucells steps), S) := by
  have h : exM (orc []) r02_steps 10 [] [] = some (.sl 0 0 0 64 1, [.live 0 (ucells steps)]) := by rfl
  refine pureM_run rfl h ?_
  refine deep_sl (cells := ucells steps) (by omega) rfl (by rw [ucells_len, steps_len]; omega) ?_
  rw [List.drop_zero, List.take_of_length_le (by rw [ucells_len, steps_len]; omega)]
  exact flats_deep _ _ _ (flat_ucells _)

structure PdF (f : Fr) (m x : AVal) : Prop where
  s0 : f.get 0 = x
  s3 : f.get 3 = m

theorem pad_l0_round {O : Orc} {k : Nat} {f : Fr} {T : St} {m x : AVal} {M : List UInt8} {r : Nat} (h : MsgI T m M r) (h56 : M.length % 64 ≠ 56) (hl : M.length < 1000000000) (hf : PdF f m x) :
    Post (evC O k r02_padded_l0 f T) fun e f' T' => e = .normal ∧ ∃ m', PdF f' m' x ∧ MsgI T' m' (M ++ [0]) r ∧ Keeps T T' [r] := by
  obtain ⟨m', T', t1, t2, t3⟩ := h.app1 0 (by omega)
  obtain ⟨s0, s3⟩ := hf
  have hlen := h.lenA
  have hrem : binA .rem (.int .i64 (M.length : Int)) (.int .i64 64) = some (.int .i64 ((M.length % 64 : Nat) : Int)) := by rw [rem_i (by omega) (by omega)]; rfl
  have hne : binA .neq (.int .i64 ((M.length % 64 : Nat) : Int)) (.int .i64 56) = some (.bool true) := neq_t (by omega)
  have t1' : appendA 1 1 m (.sl T.length 0 0 1 1) (T ++ [.live 0 [.int .u8 0]]) = some (m', T') := t1
  suffices hmid : Post (evC O k r02_padded_l0 f T) (fun e f' T1 => e = .normal ∧ T1 = T' ∧ f'.get 0 = x ∧ f'.get 3 = m') by
    refine hmid.mono ?_
    rintro e f' T1 ⟨h1, rfl, h2, h3⟩
    exact ⟨h1, m', ⟨h2, h3⟩, t2, t3⟩
  generalize ((M.length % 64 : Nat) : Int) = z at *
  generalize (M.length : Int) = zz at *
  simp [r02_padded_l0, exM, orc, orcD, evF, evC, evOps, evOper, evAny, evOp, evCall, putR, putA, Fr.ev, Fr.of, Fr.get, Fr.set, stable, junkA, junkL, resultsA, resA, same, Fr.get_set, s0, s3, hlen, hrem, hne, fillA, cells?, splice, t1', Post_some]

theorem pad_l0 {O : Orc} {f : Fr} {T : St} {m x : AVal} {M : List UInt8} {r : Nat} (h : MsgI T m (M ++ [128]) r) (hl : M.length < 900000000) (hf : PdF f m x) :
    Post (evC O 1000 r02_padded_s1 f T) fun e f' T' => e = .normal ∧ ∃ m', PdF f' m' x ∧ MsgI T' m' (M ++ [128] ++ List.replicate (noughts M.length) 0) r ∧ Keeps T T' [r] := by
  obtain ⟨f', T', h1, h2⟩ := loop_post (O := O) (k := 1000) (id := 0) (b := r02_padded_l0)
    (I := fun j f T' => ∃ m', PdF f m' x ∧ MsgI T' m' (M ++ [128] ++ List.replicate j 0) r ∧ Keeps T T' [r])
    (Q := fun f T' => ∃ m', PdF f m' x ∧ MsgI T' m' (M ++ [128] ++ List.replicate (noughts M.length) 0) r ∧ Keeps T T' [r])
    (noughts M.length) (by have : noughts M.length < 64 := Nat.mod_lt _ (by omega); omega)
    (by
      rintro j hj f T1 ⟨m1, g1, g2, g3⟩
      have hn : noughts M.length < 64 := Nat.mod_lt _ (by omega)
      refine (pad_l0_round g2 (by simp only [noughts] at hj; simp; omega) (by simp; omega) g1).mono ?_
      rintro e f' T2 ⟨rfl, m2, k1, k2, k3⟩
      refine ⟨rfl, m2, k1, ?_, g3.trans k3 (fun q hq => .inl hq)⟩
      rw [List.append_assoc] at k2
      rw [List.replicate_succ']; exact k2)
    (by
      rintro f T1 ⟨m1, g1, g2, g3⟩
      obtain ⟨s0, s3⟩ := g1
      have hlen := g2.lenA
      have h56 : ((M ++ [128] ++ List.replicate (noughts M.length) 0).length) % 64 = 56 := by simp only [noughts]; simp; omega
      have hrem : binA .rem (.int .i64 ((M ++ [128] ++ List.replicate (noughts M.length) 0).length : Int)) (.int .i64 64) = some (.int .i64 56) := by
        rw [rem_i (by omega) (by omega)]; congr 2; omega
      have hne : binA .neq (.int .i64 56) (.int .i64 56) = some (.bool false) := rfl
      suffices hmid : Post (evC O 1000 r02_padded_l0 f T1) (fun e f' T2 => e = .exit 0 ∧ T2 = T1 ∧ f'.get 0 = x ∧ f'.get 3 = m1) by
        refine hmid.mono ?_
        rintro e f' T2 ⟨h1, rfl, h2, h3⟩
        exact ⟨h1, m1, ⟨h2, h3⟩, g2, g3⟩
      generalize ((M ++ [128] ++ List.replicate (noughts M.length) 0).length : Int) = zz at *
      simp [r02_padded_l0, exM, orc, orcD, evF, evC, evOps, evOper, evAny, evOp, evCall, putR, putA, Fr.ev, Fr.of, Fr.get, Fr.set, stable, junkA, junkL, resultsA, resA, same, Fr.get_set, s0, s3, hlen, hrem, hne, Post_some])
    (f := f) (S := T) ⟨m, hf, by simpa using h, Keeps.refl T _⟩
  rw [show r02_padded_s1 = .block 0 (.loop r02_padded_l0) from rfl, h1]
  exact Post.of rfl ⟨rfl, h2⟩

theorem shr_be2 {n j : Nat} (hj : j < 8) : binA .mul (.int .i64 8) (.int .i64 (7 - (j : Int))) = some (.int .i64 (56 - 8 * (j : Int))) ∧ IntKind.u64.wrap (56 - 8 * (j : Int)) = 56 - 8 * (j : Int) ∧
    binA .shr (.int .u64 (n : Int)) (.int .u64 (56 - 8 * (j : Int))) = some (.int .u64 ((n / 2 ^ (56 - 8 * j) : Nat) : Int)) := by
  refine ⟨by rw [mul_i (by omega) (by omega)]; congr 2; omega, conv_u64 (by omega) (by omega), ?_⟩
  have e : (56 - 8 * (j : Int)) = ((56 - 8 * j : Nat) : Int) := by omega
  rw [e]
  simp only [binA, shiftA]
  rw [if_pos (by simp), if_neg (by omega), Int.toNat_natCast, Nat.min_eq_left (by simp [IntKind.bits]; omega)]
  congr 2
  rw [Int.fdiv_eq_ediv_of_nonneg _ (Int.pow_nonneg (by omega))]
  simp

theorem pad_l2_round {O : Orc} {k : Nat} {f : Fr} {T : St} {m x : AVal} {M : List UInt8} {r n j : Nat} (hj : j < 8) (h : MsgI T m M r) (hl : M.length < 1000000000) (hf : PdF f m x) (h4 : f.get 4 = .int .u64 (n : Int)) (h5 : f.get 5 = .int .i64 (7 - (j : Int))) :
    Post (evC O k r02_padded_l2 f T) fun e f' T' => e = .normal ∧ ∃ m', PdF f' m' x ∧ f'.get 4 = .int .u64 (n : Int) ∧ f'.get 5 = .int .i64 (7 - ((j + 1 : Nat) : Int)) ∧ MsgI T' m' (M ++ [be n j]) r ∧ Keeps T T' [r] := by
  obtain ⟨m', T', t1, t2, t3⟩ := h.app1 (be n j) (by omega)
  obtain ⟨s0, s3⟩ := hf
  obtain ⟨a1, a2, a3⟩ := shr_be2 (n := n) hj
  have a4 := conv_be n j
  have hge : binA .geq (.int .i64 (7 - (j : Int))) (.int .i64 0) = some (.bool true) := geq_t (by omega)
  have hsb : binA .sub (.int .i64 (7 - (j : Int))) (.int .i64 1) = some (.int .i64 (7 - ((j + 1 : Nat) : Int))) := by rw [sub_i (by omega) (by omega)]; congr 2; omega
  suffices hmid : Post (evC O k r02_padded_l2 f T) (fun e f' T1 => e = .normal ∧ T1 = T' ∧ f'.get 0 = x ∧ f'.get 3 = m' ∧ f'.get 4 = .int .u64 (n : Int) ∧ f'.get 5 = .int .i64 (7 - ((j + 1 : Nat) : Int))) by
    refine hmid.mono ?_
    rintro e f' T1 ⟨h1, rfl, h2, h3, h4, h5⟩
    exact ⟨h1, m', ⟨h2, h3⟩, h4, h5, t2, t3⟩
  generalize ((n / 2 ^ (56 - 8 * j) : Nat) : Int) = w at *
  generalize (56 - 8 * (j : Int)) = w2 at *
  generalize (7 - ((j + 1 : Nat) : Int)) = w3 at *
  generalize (7 - (j : Int)) = w4 at *
  generalize (n : Int) = nn at *
  simp [r02_padded_l2, exM, orc, orcD, evF, evC, evOps, evOper, evAny, evOp, evCall, putR, putA, Fr.ev, Fr.of, Fr.get, Fr.set, stable, junkA, junkL, resultsA, resA, same, Fr.get_set, s0, s3, h4, h5, a1, a2, a3, a4, hge, hsb, fillA, cells?, splice, t1, Post_some]

theorem pad_l2 {O : Orc} {f : Fr} {T : St} {m x : AVal} {M : List UInt8} {r n : Nat} (h : MsgI T m M r) (hl : M.length < 900000000) (hf : PdF f m x) (h4 : f.get 4 = .int .u64 (n : Int)) (h5 : f.get 5 = .int .i64 7) :
    Post (evC O 1000 r02_padded_s3 f T) fun e f' T' => e = .normal ∧ ∃ m', PdF f' m' x ∧ MsgI T' m' (M ++ bes n 8) r ∧ Keeps T T' [r] := by
  obtain ⟨f', T', h1, h2⟩ := loop_post (O := O) (k := 1000) (id := 2) (b := r02_padded_l2)
    (I := fun j f T' => ∃ m', PdF f m' x ∧ f.get 4 = .int .u64 (n : Int) ∧ f.get 5 = .int .i64 (7 - (j : Int)) ∧ MsgI T' m' (M ++ bes n j) r ∧ Keeps T T' [r])
    (Q := fun f T' => ∃ m', PdF f m' x ∧ MsgI T' m' (M ++ bes n 8) r ∧ Keeps T T' [r]) 8 (by omega)
    (by
      rintro j hj f T1 ⟨m1, g1, g4, g5, g2, g3⟩
      refine (pad_l2_round hj g2 (by simp [bes]; omega) g1 g4 g5).mono ?_
      rintro e f' T2 ⟨rfl, m2, k1, k4, k5, k2, k3⟩
      refine ⟨rfl, m2, k1, k4, k5, ?_, g3.trans k3 (fun q hq => .inl hq)⟩
      rw [List.append_assoc, ← bes_succ] at k2
      exact k2)
    (by
      rintro f T1 ⟨m1, ⟨s0, s3⟩, g4, g5, g2, g3⟩
      have g5' : f.get 5 = .int .i64 (-1) := g5
      have hge : binA .geq (.int .i64 (-1)) (.int .i64 0) = some (.bool false) := rfl
      suffices hmid : Post (evC O 1000 r02_padded_l2 f T1) (fun e f' T2 => e = .exit 2 ∧ T2 = T1 ∧ f'.get 0 = x ∧ f'.get 3 = m1) by
        refine hmid.mono ?_
        rintro e f' T2 ⟨h1, rfl, h2, h3⟩
        exact ⟨h1, m1, ⟨h2, h3⟩, g2, g3⟩
      simp [r02_padded_l2, exM, orc, orcD, evF, evC, evOps, evOper, evAny, evOp, evCall, putR, putA, Fr.ev, Fr.of, Fr.get, Fr.set, stable, junkA, junkL, resultsA, resA, same, Fr.get_set, s0, s3, g5', hge, Post_some])
    (f := f) (S := T) ⟨m, hf, h4, h5, by simpa [bes] using h, Keeps.refl T _⟩
  rw [show r02_padded_s3 = .block 2 (.loop r02_padded_l2) from rfl, h1]
  exact Post.of rfl ⟨rfl, h2⟩

noncomputable def mPadded : Model := tellM 2 (exM (orc []) r02_padded 1000)

theorem Rd.keep0 {S : St} {x : AVal} {u : List UInt8} (h : Rd S x u) (hk : ∀ r v o l, x = .sl r v o l 1 → S[r]? ≠ none) {T : St} (hT : Keeps S T []) : Rd T x u := by
  refine ⟨h.sl, ?_⟩
  have hc := h.cells
  rcases h.sl with ⟨r, v, o, l, rfl⟩ | ⟨b, l, c, rfl⟩ | rfl
  · cases hr : S[r]? with
    | none => exact absurd hr (hk r v o l rfl)
    | some b =>
      have hlt := get_lt' hr
      have := hT.2 r hlt (by simp)
      simp only [cellsOf] at hc ⊢
      rw [this]; exact hc
  · exact hc
  · exact hc

theorem Rd.keep {S : St} {x : AVal} {u : List UInt8} (h : Rd S x u) {T : St} (hT : Keeps S T []) : Rd T x u :=
  h.keep0 (fun r v o l e => by
    subst e
    have hc := h.cells
    intro hn
    simp [cellsOf, hn] at hc) hT

theorem padded_ok {S : St} {x : AVal} {u : List UInt8} (hx : Rd S x u) (hl : u.length < 800000000) : mPadded [x] S = some (.fz false (pad u).length (bcells (pad u)), S) := by
  suffices hs : Post (evC (orc []) 1000 r02_padded.body (Fr.of [x]) S) (fun e f T => (e = .normal ∨ e = .ret) ∧ ∃ m, resultsA f T r02_padded.results = some m ∧ MsgI T m (pad u) S.length ∧ Keeps S T []) by
    obtain ⟨e, f, T, g1, g2, m, g3, g4, g5⟩ := hs.ex
    obtain ⟨v, rfl, g6⟩ := g4
    obtain ⟨X, rfl⟩ := g5.split
    refine tellM_new (v := .sl S.length v 0 (pad u).length 1) (T := X) (evF_post rfl rfl (Post.of g1 ⟨g2, g3, rfl⟩)) ?_
    refine deep_sl (Nat.le_refl _) g6 (by rw [bcells_len]; omega) ?_
    rw [List.drop_zero, List.take_of_length_le (by rw [bcells_len]; omega), deep_bcells]
  have hlen := hx.len
  obtain ⟨S1, hS1⟩ : ∃ S1 : St, S ++ [.live 0 []] = S1 := ⟨_, rfl⟩
  have hk1 : Keeps S S1 [] := by rw [← hS1]; exact Keeps.append ..
  have h1 : MsgI S1 (.sl S.length 0 0 0 1) [] S.length := ⟨0, rfl, by rw [← hS1]; simp [bcells]⟩
  obtain ⟨m2, S2, a1, a2, a3⟩ := h1.app (hx.keep hk1).cells (by simp; omega)
  rw [List.nil_append] at a2
  obtain ⟨m3, S3, b1, b2, b3⟩ := a2.app1 128 (by omega)
  have b1' : appendA 1 1 m2 (.sl S2.length 0 0 1 1) (S2 ++ [.live 0 [.int .u8 128]]) = some (m3, S3) := b1
  have hk3 : Keeps S S3 [] := (hk1.after a3 (by omega)).after b3 (by omega)
  simp only [r02_padded, r02_padded_t5, r02_padded_t4, Post_seq]
  simp [exM, orc, orcD, evF, evC, evOps, evOper, evAny, evOp, evCall, putR, putA, Fr.ev, Fr.of, Fr.get, Fr.set, stable, junkA, junkL, resultsA, resA, same, fillA, cells?, splice, hS1, a1, b1', Fr.get_set, Post_some]
  refine (pad_l0 (x := x) (r := S.length) b2 (by omega) ⟨rfl, rfl⟩).mono ?_
  rintro e f2 T2 ⟨rfl, m4, ⟨s0, s3⟩, d1, d2⟩
  have hk4 := hk3.after d2 (by omega)
  have hcv : IntKind.u64.wrap (u.length : Int) = (u.length : Int) := conv_u64 (by omega) (by omega)
  have hmul := mul8 u (by omega)
  simp only [if_pos]
  simp [exM, orc, orcD, evF, evC, evOps, evOper, evAny, evOp, evCall, putR, putA, Fr.ev, Fr.of, Fr.get, Fr.set, stable, junkA, junkL, resultsA, resA, same, Fr.get_set, s0, s3, hlen, hcv, hmul, Post_some]
  refine (pad_l2 (x := x) (r := S.length) (n := u.length * 8) d1 (by simp [noughts]; omega) ⟨by simp [Fr.get_set, s0], by simp [Fr.get_set, s3]⟩ (by simp [Fr.get_set]) (by simp [Fr.get_set])).mono ?_
  rintro e f3 T3 ⟨rfl, m5, ⟨s0', s3'⟩, e1, e2⟩
  simp only [if_pos]
  simp [exM, orc, orcD, evF, evC, evOps, evOper, evAny, evOp, evCall, putR, putA, Fr.ev, Fr.of, Fr.get, Fr.set, stable, junkA, junkL, resultsA, resA, same, Fr.get_set, s3', Post_some]
  refine ⟨?_, hk4.after e2 (by omega)⟩
  simpa [pad] using e1
end Am.Sha
end

/- SHA-256, as the document has it: a block's numbers, the law. -/
section
namespace Am.Sha
open Am Go Am.Ir
set_option maxRecDepth 100000

theorem join4 (a b c d : UInt32) : ((((0 : UInt32) <<< UInt32.ofNat 8 ||| a) <<< UInt32.ofNat 8 ||| b) <<< UInt32.ofNat 8 ||| c) <<< UInt32.ofNat 8 ||| d = a <<< UInt32.ofNat 24 ||| b <<< UInt32.ofNat 16 ||| c <<< UInt32.ofNat 8 ||| d := by
  apply bit_eq
  intro i hi
  have e8 : ∀ x : UInt32, (x <<< UInt32.ofNat 8).toBitVec = x.toBitVec <<< 8 := fun x => rfl
  have e16 : ∀ x : UInt32, (x <<< UInt32.ofNat 16).toBitVec = x.toBitVec <<< 16 := fun x => rfl
  have e24 : ∀ x : UInt32, (x <<< UInt32.ofNat 24).toBitVec = x.toBitVec <<< 24 := fun x => rfl
  have e0 : (0 : UInt32).toBitVec = 0#32 := rfl
  simp only [UInt32.toBitVec_or, e8, e16, e24, e0, BitVec.getLsbD_or, BitVec.getLsbD_shiftLeft, BitVec.getLsbD_zero, hi, decide_true, Bool.true_and, Bool.and_false, Bool.false_or]
  by_cases h1 : i < 8
  · simp [h1, show i < 16 by omega, show i < 24 by omega]
  · by_cases h2 : i < 16
    · simp [h1, h2, show i - 8 < 8 by omega, show i < 24 by omega, show i - 8 < 32 by omega]
    · by_cases h3 : i < 24
      · simp [h1, h2, h3, show ¬ i - 8 < 8 by omega, show i - 8 - 8 < 8 by omega, show i - 8 < 32 by omega, show i - 8 - 8 < 32 by omega, show i - 16 = i - 8 - 8 by omega]
      · simp [h1, h2, h3, show ¬ i - 8 < 8 by omega, show ¬ i - 8 - 8 < 8 by omega, show i - 8 < 32 by omega, show i - 8 - 8 < 32 by omega, show i - 8 - 8 - 8 < 32 by omega, show i - 16 = i - 8 - 8 by omega, show i - 24 = i - 8 - 8 - 8 by omega]

/-- A word of a block. -/
def byte32 (b : List UInt8) (i : Nat) : UInt32 := (b.getD i 0).toUInt32
def word (b : List UInt8) (t : Nat) : UInt32 := byte32 b (4 * t) <<< UInt32.ofNat 24 ||| byte32 b (4 * t + 1) <<< UInt32.ofNat 16 ||| byte32 b (4 * t + 2) <<< UInt32.ofNat 8 ||| byte32 b (4 * t + 3)

theorem loadS_other {b : List UInt8} {j t : Nat} (hj : j < b.length) (h : j / 4 ≠ t) : (loadS b (j + 1))[t]? = (loadS b j)[t]? := by
  rw [loadS_succ b (List.getElem?_eq_getElem hj), put, List.getElem?_set_ne h]

theorem loadS_same {b : List UInt8} {j t : Nat} (hj : j < b.length) (h : j / 4 = t) (ht : t < 16) {y : UInt32} (hy : (loadS b j)[t]? = some y) : (loadS b (j + 1))[t]? = some (y <<< UInt32.ofNat 8 ||| byte32 b j) := by
  have e : (b.getD j 0) = b[j] := by simp [List.getD, hj]
  have e2 : (loadS b j).getD t 0 = y := by simp only [List.getD, hy, Option.getD_some]
  rw [loadS_succ b (List.getElem?_eq_getElem hj), put, h, List.getElem?_set_self (by rw [loadS_len]; exact ht), byte32, e, e2]

theorem loadS_before {b : List UInt8} {t : Nat} (ht : t < 16) : ∀ j, j ≤ 4 * t → j ≤ b.length → (loadS b j)[t]? = some 0
  | 0, _, _ => by
    have : loadS b 0 = zero16 := rfl
    rw [this, zero16, List.getElem?_replicate, if_pos ht]
  | j + 1, h, hl => by rw [loadS_other (by omega) (by omega)]; exact loadS_before ht j (by omega) (by omega)

theorem loadS_behind {b : List UInt8} {t : Nat} : ∀ d, 4 * t + 4 + d ≤ b.length → (loadS b (4 * t + 4 + d))[t]? = (loadS b (4 * t + 4))[t]?
  | 0, _ => rfl
  | d + 1, h => by rw [← Nat.add_assoc, loadS_other (by omega) (by omega)]; exact loadS_behind d (by omega)

theorem load_word {b : List UInt8} (hb : b.length = 64) {t : Nat} (ht : t < 16) : (loadS b 64)[t]? = some (word b t) := by
  have h0 := loadS_before (b := b) ht (4 * t) (Nat.le_refl _) (by omega)
  have h1 := loadS_same (b := b) (j := 4 * t) (t := t) (by omega) (by omega) ht h0
  have h2 := loadS_same (b := b) (j := 4 * t + 1) (t := t) (by omega) (by omega) ht h1
  have h3 := loadS_same (b := b) (j := 4 * t + 2) (t := t) (by omega) (by omega) ht h2
  have h4 := loadS_same (b := b) (j := 4 * t + 3) (t := t) (by omega) (by omega) ht h3
  have h5 := loadS_behind (b := b) (t := t) (60 - 4 * t) (by omega)
  rw [show 4 * t + 4 + (60 - 4 * t) = 64 by omega, h4, join4] at h5
  exact h5

/-- The numbers so far, and noughts. -/
def wnow (w : List UInt32) (j : Nat) : List UInt32 := (wseq w 48).take j ++ List.replicate (64 - j) 0

theorem wnow_len {w : List UInt32} (hw : w.length = 16) {j : Nat} (hj : j ≤ 64) : (wnow w j).length = 64 := by
  have : (wseq w 48).length = 64 := by rw [wseq_len, hw]
  simp [wnow]; omega
theorem wnow_get {w : List UInt32} (hw : w.length = 16) {i j : Nat} (hi : i < j) (hj : j ≤ 64) : (wnow w j)[i]? = (wseq w 48)[i]? := by
  have : (wseq w 48).length = 64 := by rw [wseq_len, hw]
  rw [wnow, List.getElem?_append_left (by simp; omega), List.getElem?_take, if_pos hi]
theorem wnow_set {w : List UInt32} (hw : w.length = 16) {j : Nat} {x : UInt32} (hj : j < 64) (hx : (wseq w 48)[j]? = some x) : (wnow w j).set j x = wnow w (j + 1) := by
  have h64 : (wseq w 48).length = 64 := by rw [wseq_len, hw]
  have hl : ((wseq w 48).take j).length = j := by simp; omega
  rw [wnow, List.set_append_right _ _ (by omega), hl, Nat.sub_self, show 64 - j = (64 - (j + 1)) + 1 by omega, List.replicate_succ, List.set_cons_zero, wnow, List.take_add_one, hx]
  simp
theorem wnow_end {w : List UInt32} (hw : w.length = 16) : wnow w 64 = wseq w 48 := by
  have : (wseq w 48).length = 64 := by rw [wseq_len, hw]
  simp [wnow, List.take_of_length_le (show (wseq w 48).length ≤ 64 by omega)]

/-- A byte can be read. -/
theorem Rd.ix {S : St} {x : AVal} {u : List UInt8} (h : Rd S x u) {i : Nat} (hi : i < u.length) : ∃ p, iaddrSA 1 x (.int .i64 (i : Int)) = some p ∧ ∀ {T : St}, Rd T x u → loadA none p T = some (.int .u8 ((u.getD i 0).toNat : Int)) := by
  have hg : (bcells u)[i]? = some (.int .u8 ((u.getD i 0).toNat : Int)) := by simp [bcells, List.getD, List.getElem?_eq_getElem hi]
  have hi' : (i : Int) < (u.length : Int) := by omega
  have hc := h.cells
  rcases h.sl with ⟨r, v, o, l, rfl⟩ | ⟨b, l, c, rfl⟩ | rfl
  · have hl : l = u.length := by
      simp only [cellsOf] at hc
      split at hc
      · split at hc
        · simp only [Option.some.injEq, Prod.mk.injEq] at hc; exact hc.1
        · simp at hc
      · simp at hc
    subst hl
    refine ⟨.ptr r v (o + i), by rw [iaS (by omega) hi']; simp, fun {T} hT => ?_⟩
    have hc' := hT.cells
    simp only [cellsOf] at hc'
    split at hc'
    · rename_i v' cs hS
      split at hc'
      · rename_i hcond
        simp only [Option.some.injEq, Prod.mk.injEq] at hc'
        obtain ⟨rfl, _, _⟩ := hcond
        rw [load_c hS]
        have := hc'.2
        rw [← this, List.getElem?_take, if_pos (by omega), List.getElem?_drop] at hg
        exact hg
      · simp at hc'
    · simp at hc'
  · simp only [cellsOf] at hc
    split at hc
    · rename_i hcond
      simp only [Option.some.injEq, Prod.mk.injEq] at hc
      obtain ⟨rfl, rfl⟩ := hc
      refine ⟨.fq [.int .u8 ((u.getD i 0).toNat : Int)], ?_, fun _ => rfl⟩
      exact ix_fz rfl hi []
    · simp at hc
  · simp only [cellsOf, Option.some.injEq, Prod.mk.injEq] at hc
    omega
end Am.Sha
end

/- SHA-256 over plain numbers: blocks, and the whole. -/
section
namespace Am.Sha
open Am Go Am.Ir
set_option maxRecDepth 100000

def fwords : List Nat → List Nat
  | a :: b :: c :: d :: r => force (Nat.add (Nat.mul (Nat.add (Nat.mul (Nat.add (Nat.mul a 256) b) 256) c) 256) d) fun w => w :: fwords r
  | _ => []

def faddL : List Nat → List Nat → List Nat
  | x :: l, y :: m => force (Nat.mod (Nat.add x y) 4294967296) fun z => z :: faddL l m
  | _, _ => []

def fsteps : List Nat := [1116352408, 1899447441, 3049323471, 3921009573, 961987163, 1508970993, 2453635748, 2870763221, 3624381080, 310598401, 607225278, 1426881987, 1925078388, 2162078206, 2614888103, 3248222580, 3835390401, 4022224774, 264347078, 604807628, 770255983, 1249150122, 1555081692, 1996064986, 2554220882, 2821834349, 2952996808, 3210313671, 3336571891, 3584528711, 113926993, 338241895, 666307205, 773529912, 1294757372, 1396182291, 1695183700, 1986661051, 2177026350, 2456956037, 2730485921, 2820302411, 3259730800, 3345764771, 3516065817, 3600352804, 4094571909, 275423344, 430227734, 506948616, 659060556, 883997877, 958139571, 1322822218, 1537002063, 1747873779, 1955562222, 2024104815, 2227730452, 2361852424, 2428436474, 2756734187, 3204031479, 3329325298]

noncomputable def fcomp (s b : List Nat) : List Nat :=
  match s, fwords b with
  | [a, b, c, d, e, f, g, o], [w0, w1, w2, w3, w4, w5, w6, w7, w8, w9, wa, wb, wc, wd, we, wf] => faddL [a, b, c, d, e, f, g, o] (fgo fsteps a b c d e f g o w0 w1 w2 w3 w4 w5 w6 w7 w8 w9 wa wb wc wd we wf)
  | _, _ => []

noncomputable def fblocks : Nat → List Nat → List Nat → List Nat
  | 0, s, _ => s
  | n + 1, s, P => fblocks n (fcomp s (P.take 64)) (P.drop 64)

def fbytes : List Nat → List UInt8
  | [] => []
  | x :: l => UInt8.ofNat (Nat.div x 16777216) :: UInt8.ofNat (Nat.div x 65536) :: UInt8.ofNat (Nat.div x 256) :: UInt8.ofNat (Nat.div x 1) :: fbytes l

def fstart : List Nat := [1779033703, 3144134277, 1013904242, 2773480762, 1359893119, 2600822924, 528734635, 1541459225]

noncomputable def fsha (M : List UInt8) : List UInt8 := fbytes (fblocks ((pad M).length / 64) fstart ((pad M).map UInt8.toNat))

theorem or_byte (x : UInt32) (b : UInt8) (hx : x.toNat < 16777216) : (x <<< UInt32.ofNat 8 ||| b.toUInt32).toNat = x.toNat * 256 + b.toNat := by
  have hb : b.toNat < 2 ^ 8 := b.toNat_lt
  rw [UInt32.toNat_or, UInt32.toNat_shiftLeft]
  have h8 : (UInt32.ofNat 8).toNat % 32 = 8 := rfl
  have hbb : b.toUInt32.toNat = b.toNat := by simp
  rw [h8, hbb, Nat.mod_eq_of_lt (by rw [Nat.shiftLeft_eq]; omega), ← Nat.shiftLeft_add_eq_or_of_lt hb, Nat.shiftLeft_eq]

theorem word_nat (b : List UInt8) (t : Nat) : (word b t).toNat = (((b.getD (4 * t) 0).toNat * 256 + (b.getD (4 * t + 1) 0).toNat) * 256 + (b.getD (4 * t + 2) 0).toNat) * 256 + (b.getD (4 * t + 3) 0).toNat := by
  have h0 := (b.getD (4 * t) 0).toNat_lt
  have h1 := (b.getD (4 * t + 1) 0).toNat_lt
  have h2 := (b.getD (4 * t + 2) 0).toNat_lt
  have e0 : ((0 : UInt32) <<< UInt32.ofNat 8 ||| (b.getD (4 * t) 0).toUInt32).toNat = (b.getD (4 * t) 0).toNat := by
    rw [or_byte _ _ (by simp)]; simp
  rw [word, ← join4]
  simp only [byte32]
  have e1 := or_byte ((0 : UInt32) <<< UInt32.ofNat 8 ||| (b.getD (4 * t) 0).toUInt32) (b.getD (4 * t + 1) 0) (by omega)
  have e2 := or_byte (((0 : UInt32) <<< UInt32.ofNat 8 ||| (b.getD (4 * t) 0).toUInt32) <<< UInt32.ofNat 8 ||| (b.getD (4 * t + 1) 0).toUInt32) (b.getD (4 * t + 2) 0) (by omega)
  rw [or_byte _ _ (by omega), e2, e1, e0]

theorem fwords_eq : ∀ (n : Nat) (b : List UInt8), b.length = 4 * n → fwords (b.map UInt8.toNat) = (List.range n).map fun t => (word b t).toNat
  | 0, b, h => by
    have : b = [] := List.length_eq_zero_iff.1 (by omega)
    subst this; rfl
  | n + 1, b, h => by
    match b, h with
    | a :: b :: c :: d :: r, h =>
      have hr : r.length = 4 * n := by simp at h; omega
      rw [List.map_cons, List.map_cons, List.map_cons, List.map_cons, fwords, force_eq, fwords_eq n r hr, List.range_succ_eq_map, List.map_cons, List.map_map]
      congr 1
      rw [word_nat]; rfl
    | [], h => simp at h
    | [_], h => simp at h; omega
    | [_, _], h => simp at h; omega
    | [_, _, _], h => simp at h; omega

theorem loadS_words {b : List UInt8} (hb : b.length = 64) : loadS b 64 = (List.range 16).map (word b) := by
  apply List.ext_getElem?
  intro i
  by_cases hi : i < 16
  · rw [load_word hb hi]; simp [hi]
  · rw [List.getElem?_eq_none (by rw [loadS_len]; omega), List.getElem?_eq_none (by simp; omega)]

theorem fsteps_eq : fsteps = steps.map UInt32.toNat := rfl

theorem fcomp_eq {b : List UInt8} (hb : b.length = 64) (v : V8) : fcomp (v.list.map UInt32.toNat) (b.map UInt8.toNat) = (takeS v b).list.map UInt32.toNat := by
  have hw := fwords_eq 16 b (by omega)
  have hl := loadS_words hb
  obtain ⟨a, b', c, d, e, f, g, o⟩ := v
  have h16 : ∀ {α : Type} (F : Nat → α), (List.range 16).map F = [F 0, F 1, F 2, F 3, F 4, F 5, F 6, F 7, F 8, F 9, F 10, F 11, F 12, F 13, F 14, F 15] := fun F => rfl
  rw [h16] at hw hl
  have hu := ugo_eq (w := loadS b 64) (loadS_len b 64) ⟨a, b', c, d, e, f, g, o⟩ 64 0 rfl
  rw [show win (loadS b 64) 0 = loadS b 64 from rfl, show vseq (loadS b 64) ⟨a, b', c, d, e, f, g, o⟩ 0 = ⟨a, b', c, d, e, f, g, o⟩ from rfl, List.drop_zero] at hu
  have hgo := fgo_eq steps a b' c d e f g o (word b 0) (word b 1) (word b 2) (word b 3) (word b 4) (word b 5) (word b 6) (word b 7) (word b 8) (word b 9) (word b 10) (word b 11) (word b 12) (word b 13) (word b 14) (word b 15)
  rw [← hl, hu, ← fsteps_eq] at hgo
  have hsl : (V8.list ⟨a, b', c, d, e, f, g, o⟩).map UInt32.toNat = [a.toNat, b'.toNat, c.toNat, d.toNat, e.toNat, f.toNat, g.toNat, o.toNat] := rfl
  rw [hsl]
  unfold fcomp
  simp only [hw, hgo]
  have ht : takeS ⟨a, b', c, d, e, f, g, o⟩ b = V8.plus ⟨a, b', c, d, e, f, g, o⟩ (vseq (loadS b 64) ⟨a, b', c, d, e, f, g, o⟩ 64) := rfl
  rw [ht]
  generalize vseq (loadS b 64) ⟨a, b', c, d, e, f, g, o⟩ 64 = V
  obtain ⟨a2, b2, c2, d2, e2, f2, g2, o2⟩ := V
  simp only [V8.list, V8.plus, List.map_cons, List.map_nil, faddL, force_eq, add_lit]
  rfl

theorem fblocks_eq (P : List UInt8) : ∀ (n i : Nat), (i + n) * 64 ≤ P.length → fblocks n ((stateN P i).list.map UInt32.toNat) ((P.drop (i * 64)).map UInt8.toNat) = (stateN P (i + n)).list.map UInt32.toNat
  | 0, i, _ => rfl
  | n + 1, i, h => by
    rw [fblocks, ← List.map_take, ← List.map_drop, List.drop_drop]
    have hb : ((P.drop (i * 64)).take 64).length = 64 := by simp; omega
    rw [fcomp_eq hb]
    have := fblocks_eq P n (i + 1) (by omega)
    rw [show i + (n + 1) = i + 1 + n by omega, ← this, show (i + 1) * 64 = i * 64 + 64 by omega]
    rfl

theorem fbytes_eq (v : V8) : fbytes (v.list.map UInt32.toNat) = digest v := by
  obtain ⟨a, b, c, d, e, f, g, o⟩ := v
  rfl

theorem fsha_eq (M : List UInt8) : fsha M = sha M := by
  have h := fblocks_eq (pad M) ((pad M).length / 64) 0 (by omega)
  rw [Nat.zero_mul, List.drop_zero, Nat.zero_add] at h
  rw [fsha, sha, shaN, ← fbytes_eq, ← h]
  rfl
end Am.Sha
end

