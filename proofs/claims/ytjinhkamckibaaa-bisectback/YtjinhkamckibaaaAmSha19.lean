import Derived.Test.YtjinhkamckibaaaAmSha13
set_option linter.all false
/- SHA-256, as the document has it: turn, numbers, padding. -/
section
namespace Am
open Go

/-- Bytes are added to a slice that has its block for itself. -/
theorem MsgI.app {T : St} {m y : AVal} {M w : List UInt8} {r : Nat} (h : MsgI T m M r) (hy : cellsOf 1 y T = some (w.length, bcells w)) (hl : M.length + w.length ≤ 140737488355328) :
    ∃ m' T', appendA 1 1 m y T = some (m', T') ∧ MsgI T' m' (M ++ w) r ∧ Keeps T T' [r] := by
  obtain ⟨v, rfl, h2⟩ := h
  have hlt := live_lt h2
  refine ⟨.sl r (v + 1) 0 (M.length + w.length) 1, T.set r (.live (v + 1) (bcells (M ++ w))), ?_, ⟨v + 1, by rw [List.length_append], by simp [hlt]⟩, Keeps.set ..⟩
  simp only [appendA, hy, h2]
  rw [if_pos ⟨by trivial, by trivial, by rw [bcells_len]; omega, by omega⟩, Nat.mul_one, List.drop_zero, List.take_of_length_le (by rw [bcells_len]; omega), bcells_append]

theorem MsgI.rd {S : St} {m : AVal} {M : List UInt8} {r : Nat} (h : MsgI S m M r) : Am.Sha.Rd S m M := by
  obtain ⟨v, rfl, h2⟩ := h
  exact ⟨.inl ⟨_, _, _, _, rfl⟩, MsgI.cells ⟨v, rfl, h2⟩⟩

theorem byte_cells {T : St} {q : Nat} {b : UInt8} (h : T[q]? = some (.live 0 [.int .u8 (b.toNat : Int)])) : cellsOf 1 (.sl q 0 0 1 1) T = some (([b] : List UInt8).length, bcells [b]) := by
  simp [cellsOf, h, bcells]

/-- A byte is added. -/
theorem MsgI.app1 {T : St} {m : AVal} {M : List UInt8} {r : Nat} (h : MsgI T m M r) (b : UInt8) (hl : M.length + 1 ≤ 140737488355328) :
    ∃ m' T', appendA 1 1 m (.sl T.length 0 0 1 1) (T ++ [.live 0 [.int .u8 (b.toNat : Int)]]) = some (m', T') ∧ MsgI T' m' (M ++ [b]) r ∧ Keeps T T' [r] := by
  have hlt := h.lt
  have hk : Keeps T (T ++ [.live 0 [.int .u8 (b.toNat : Int)]]) [] := Keeps.append ..
  obtain ⟨m', T', h1, h2, h3⟩ := (h.keep hk (by simp)).app (w := [b]) (byte_cells (q := T.length) (b := b) (by simp)) hl
  have h3l := h3.1
  exact ⟨m', T', h1, h2, ⟨Nat.le_trans hk.1 h3.1, fun q hq hn => by rw [h3.2 q (by simp; omega) hn, hk.2 q hq (by simp)]⟩⟩

theorem Keeps.empty {S T : St} {r : Nat} (h : Keeps S T [r]) (hr : S.length ≤ r) : Keeps S T [] := ⟨h.1, fun i hi _ => h.2 i hi (by simp; omega)⟩
theorem Keeps.after {S T U : St} {r : Nat} (h : Keeps S T []) (h' : Keeps T U [r]) (hr : S.length ≤ r) : Keeps S U [] :=
  ⟨Nat.le_trans h.1 h'.1, fun i hi _ => by
    have := h.1
    rw [h'.2 i (by omega) (by simp; omega), h.2 i hi (by simp)]⟩
theorem Keeps.after0 {S T U : St} (h : Keeps S T []) (h' : Keeps T U []) : Keeps S U [] := h.trans h' (fun _ hq => .inl hq)
end Am
namespace Am.Sha
open Am Go Am.Ir
set_option maxRecDepth 100000

noncomputable def xTurn : Model := exM (orc []) r02_turn 10

theorem turn_ok {n : Nat} (hn : n < 32) (hn0 : 0 < n) (x : UInt32) (S : St) : xTurn [u32 x, .int .u64 (n : Int)] S = some (u32 (rr n x), S) := by
  have h1 := shr_u32 x .u64 n hn
  have h2 := shl_u32 x .u64 (32 - n) (by omega)
  have h3 := or_u32 (x >>> UInt32.ofNat n) (x <<< UInt32.ofNat (32 - n))
  have hs : binA .sub (.int .u64 32) (.int .u64 (n : Int)) = some (.int .u64 ((32 - n : Nat) : Int)) := by
    have : IntKind.u64.wrap (32 - (n : Int)) = ((32 - n : Nat) : Int) := by rw [conv_u64 (by omega) (by omega)]; omega
    simp [binA, intBin, this]
  have he : rr n x = x >>> UInt32.ofNat n ||| x <<< UInt32.ofNat (32 - n) := UInt32.or_comm _ _
  rw [he]
  generalize ((32 - n : Nat) : Int) = z at *
  generalize (n : Int) = nn at *
  generalize x >>> UInt32.ofNat n ||| x <<< UInt32.ofNat (32 - n) = y at *
  generalize x >>> UInt32.ofNat n = y1 at *
  generalize x <<< UInt32.ofNat (32 - n) = y2 at *
  generalize u32 x = xx at *
  simp [xTurn, exM, r02_turn, exM, orc, orcD, evF, evC, evOps, evOper, evAny, evOp, evCall, putR, putA, Fr.ev, Fr.of, Fr.get, Fr.set, stable, junkA, junkL, resultsA, resA, same, h1, h2, h3, hs]

noncomputable def mStart : Model := pureM 2 (exM (orc []) r02_start 10)
noncomputable def mSteps2 : Model := pureM 2 (exM (orc []) r02_steps 10)

theorem start_ok (S : St) : mStart [] S = some (.agg (ucells start), S) := by
  have h : ∃ T, exM (orc []) r02_start 10 [] [] = some (.agg (ucells start), T) := ⟨_, by rfl⟩
  obtain ⟨T, hT⟩ := h
  refine pureM_run rfl hT ?_
  rw [deep_agg, flats_deep _ _ _ (flat_ucells _)]; rfl

theorem steps2_ok (S : St) : mSteps2 [] S = some (.fz false 64 (ucells steps), S) := by
  have h : exM (orc []) r02_steps 10 [] [] = some (.sl 0 0 0 64 1, [.live 0 (ucells steps)]) := by rfl
  refine pureM_run rfl h ?_
  refine deep_sl (cells := ucells steps) (by omega) rfl (by rw [ucells_len, steps_len]; omega) ?_
  rw [List.drop_zero, List.take_of_length_le (by rw [ucells_len, steps_len]; omega)]
  exact flats_deep _ _ _ (flat_ucells _)

structure PdF (f : Fr) (m x : AVal) : Prop where
  s0 : f.get 0 = x
  s3 : f.get 3 = m

theorem pad_l0_round {O : Orc} {k : Nat} {f : Fr} {T : St} {m x : AVal} {M : List UInt8} {r : Nat} (h : MsgI T m M r) (h56 : M.length % 64 ≠ 56) (hl : M.length < 1000000000) (hf : PdF f m x) :
    Post (evC O k r02_padded_l0 f T) fun e f' T' => e = .normal ∧ ∃ m', PdF f' m' x ∧ MsgI T' m' (M ++ [0]) r ∧ Keeps T T' [r] := by
  obtain ⟨m', T', t1, t2, t3⟩ := h.app1 0 (by omega)
  obtain ⟨s0, s3⟩ := hf
  have hlen := h.lenA
  have hrem : binA .rem (.int .i64 (M.length : Int)) (.int .i64 64) = some (.int .i64 ((M.length % 64 : Nat) : Int)) := by rw [rem_i (by omega) (by omega)]; rfl
  have hne : binA .neq (.int .i64 ((M.length % 64 : Nat) : Int)) (.int .i64 56) = some (.bool true) := neq_t (by omega)
  have t1' : appendA 1 1 m (.sl T.length 0 0 1 1) (T ++ [.live 0 [.int .u8 0]]) = some (m', T') := t1
  suffices hmid : Post (evC O k r02_padded_l0 f T) (fun e f' T1 => e = .normal ∧ T1 = T' ∧ f'.get 0 = x ∧ f'.get 3 = m') by
    refine hmid.mono ?_
    rintro e f' T1 ⟨h1, rfl, h2, h3⟩
    exact ⟨h1, m', ⟨h2, h3⟩, t2, t3⟩
  generalize ((M.length % 64 : Nat) : Int) = z at *
  generalize (M.length : Int) = zz at *
  simp [r02_padded_l0, exM, orc, orcD, evF, evC, evOps, evOper, evAny, evOp, evCall, putR, putA, Fr.ev, Fr.of, Fr.get, Fr.set, stable, junkA, junkL, resultsA, resA, same, Fr.get_set, s0, s3, hlen, hrem, hne, fillA, cells?, splice, t1', Post_some]

theorem pad_l0 {O : Orc} {f : Fr} {T : St} {m x : AVal} {M : List UInt8} {r : Nat} (h : MsgI T m (M ++ [128]) r) (hl : M.length < 900000000) (hf : PdF f m x) :
    Post (evC O 1000 r02_padded_s1 f T) fun e f' T' => e = .normal ∧ ∃ m', PdF f' m' x ∧ MsgI T' m' (M ++ [128] ++ List.replicate (noughts M.length) 0) r ∧ Keeps T T' [r] := by
  obtain ⟨f', T', h1, h2⟩ := loop_post (O := O) (k := 1000) (id := 0) (b := r02_padded_l0)
    (I := fun j f T' => ∃ m', PdF f m' x ∧ MsgI T' m' (M ++ [128] ++ List.replicate j 0) r ∧ Keeps T T' [r])
    (Q := fun f T' => ∃ m', PdF f m' x ∧ MsgI T' m' (M ++ [128] ++ List.replicate (noughts M.length) 0) r ∧ Keeps T T' [r])
    (noughts M.length) (by have : noughts M.length < 64 := Nat.mod_lt _ (by omega); omega)
    (by
      rintro j hj f T1 ⟨m1, g1, g2, g3⟩
      have hn : noughts M.length < 64 := Nat.mod_lt _ (by omega)
      refine (pad_l0_round g2 (by simp only [noughts] at hj; simp; omega) (by simp; omega) g1).mono ?_
      rintro e f' T2 ⟨rfl, m2, k1, k2, k3⟩
      refine ⟨rfl, m2, k1, ?_, g3.trans k3 (fun q hq => .inl hq)⟩
      rw [List.append_assoc] at k2
      rw [List.replicate_succ']; exact k2)
    (by
      rintro f T1 ⟨m1, g1, g2, g3⟩
      obtain ⟨s0, s3⟩ := g1
      have hlen := g2.lenA
      have h56 : ((M ++ [128] ++ List.replicate (noughts M.length) 0).length) % 64 = 56 := by simp only [noughts]; simp; omega
      have hrem : binA .rem (.int .i64 ((M ++ [128] ++ List.replicate (noughts M.length) 0).length : Int)) (.int .i64 64) = some (.int .i64 56) := by
        rw [rem_i (by omega) (by omega)]; congr 2; omega
      have hne : binA .neq (.int .i64 56) (.int .i64 56) = some (.bool false) := rfl
      suffices hmid : Post (evC O 1000 r02_padded_l0 f T1) (fun e f' T2 => e = .exit 0 ∧ T2 = T1 ∧ f'.get 0 = x ∧ f'.get 3 = m1) by
        refine hmid.mono ?_
        rintro e f' T2 ⟨h1, rfl, h2, h3⟩
        exact ⟨h1, m1, ⟨h2, h3⟩, g2, g3⟩
      generalize ((M ++ [128] ++ List.replicate (noughts M.length) 0).length : Int) = zz at *
      simp [r02_padded_l0, exM, orc, orcD, evF, evC, evOps, evOper, evAny, evOp, evCall, putR, putA, Fr.ev, Fr.of, Fr.get, Fr.set, stable, junkA, junkL, resultsA, resA, same, Fr.get_set, s0, s3, hlen, hrem, hne, Post_some])
    (f := f) (S := T) ⟨m, hf, by simpa using h, Keeps.refl T _⟩
  rw [show r02_padded_s1 = .block 0 (.loop r02_padded_l0) from rfl, h1]
  exact Post.of rfl ⟨rfl, h2⟩

theorem shr_be2 {n j : Nat} (hj : j < 8) : binA .mul (.int .i64 8) (.int .i64 (7 - (j : Int))) = some (.int .i64 (56 - 8 * (j : Int))) ∧ IntKind.u64.wrap (56 - 8 * (j : Int)) = 56 - 8 * (j : Int) ∧
    binA .shr (.int .u64 (n : Int)) (.int .u64 (56 - 8 * (j : Int))) = some (.int .u64 ((n / 2 ^ (56 - 8 * j) : Nat) : Int)) := by
  refine ⟨by rw [mul_i (by omega) (by omega)]; congr 2; omega, conv_u64 (by omega) (by omega), ?_⟩
  have e : (56 - 8 * (j : Int)) = ((56 - 8 * j : Nat) : Int) := by omega
  rw [e]
  simp only [binA, shiftA]
  rw [if_pos (by simp), if_neg (by omega), Int.toNat_natCast, Nat.min_eq_left (by simp [IntKind.bits]; omega)]
  congr 2
  rw [Int.fdiv_eq_ediv_of_nonneg _ (Int.pow_nonneg (by omega))]
  simp

theorem pad_l2_round {O : Orc} {k : Nat} {f : Fr} {T : St} {m x : AVal} {M : List UInt8} {r n j : Nat} (hj : j < 8) (h : MsgI T m M r) (hl : M.length < 1000000000) (hf : PdF f m x) (h4 : f.get 4 = .int .u64 (n : Int)) (h5 : f.get 5 = .int .i64 (7 - (j : Int))) :
    Post (evC O k r02_padded_l2 f T) fun e f' T' => e = .normal ∧ ∃ m', PdF f' m' x ∧ f'.get 4 = .int .u64 (n : Int) ∧ f'.get 5 = .int .i64 (7 - ((j + 1 : Nat) : Int)) ∧ MsgI T' m' (M ++ [be n j]) r ∧ Keeps T T' [r] := by
  obtain ⟨m', T', t1, t2, t3⟩ := h.app1 (be n j) (by omega)
  obtain ⟨s0, s3⟩ := hf
  obtain ⟨a1, a2, a3⟩ := shr_be2 (n := n) hj
  have a4 := conv_be n j
  have hge : binA .geq (.int .i64 (7 - (j : Int))) (.int .i64 0) = some (.bool true) := geq_t (by omega)
  have hsb : binA .sub (.int .i64 (7 - (j : Int))) (.int .i64 1) = some (.int .i64 (7 - ((j + 1 : Nat) : Int))) := by rw [sub_i (by omega) (by omega)]; congr 2; omega
  suffices hmid : Post (evC O k r02_padded_l2 f T) (fun e f' T1 => e = .normal ∧ T1 = T' ∧ f'.get 0 = x ∧ f'.get 3 = m' ∧ f'.get 4 = .int .u64 (n : Int) ∧ f'.get 5 = .int .i64 (7 - ((j + 1 : Nat) : Int))) by
    refine hmid.mono ?_
    rintro e f' T1 ⟨h1, rfl, h2, h3, h4, h5⟩
    exact ⟨h1, m', ⟨h2, h3⟩, h4, h5, t2, t3⟩
  generalize ((n / 2 ^ (56 - 8 * j) : Nat) : Int) = w at *
  generalize (56 - 8 * (j : Int)) = w2 at *
  generalize (7 - ((j + 1 : Nat) : Int)) = w3 at *
  generalize (7 - (j : Int)) = w4 at *
  generalize (n : Int) = nn at *
  simp [r02_padded_l2, exM, orc, orcD, evF, evC, evOps, evOper, evAny, evOp, evCall, putR, putA, Fr.ev, Fr.of, Fr.get, Fr.set, stable, junkA, junkL, resultsA, resA, same, Fr.get_set, s0, s3, h4, h5, a1, a2, a3, a4, hge, hsb, fillA, cells?, splice, t1, Post_some]

theorem pad_l2 {O : Orc} {f : Fr} {T : St} {m x : AVal} {M : List UInt8} {r n : Nat} (h : MsgI T m M r) (hl : M.length < 900000000) (hf : PdF f m x) (h4 : f.get 4 = .int .u64 (n : Int)) (h5 : f.get 5 = .int .i64 7) :
    Post (evC O 1000 r02_padded_s3 f T) fun e f' T' => e = .normal ∧ ∃ m', PdF f' m' x ∧ MsgI T' m' (M ++ bes n 8) r ∧ Keeps T T' [r] := by
  obtain ⟨f', T', h1, h2⟩ := loop_post (O := O) (k := 1000) (id := 2) (b := r02_padded_l2)
    (I := fun j f T' => ∃ m', PdF f m' x ∧ f.get 4 = .int .u64 (n : Int) ∧ f.get 5 = .int .i64 (7 - (j : Int)) ∧ MsgI T' m' (M ++ bes n j) r ∧ Keeps T T' [r])
    (Q := fun f T' => ∃ m', PdF f m' x ∧ MsgI T' m' (M ++ bes n 8) r ∧ Keeps T T' [r]) 8 (by omega)
    (by
      rintro j hj f T1 ⟨m1, g1, g4, g5, g2, g3⟩
      refine (pad_l2_round hj g2 (by simp [bes]; omega) g1 g4 g5).mono ?_
      rintro e f' T2 ⟨rfl, m2, k1, k4, k5, k2, k3⟩
      refine ⟨rfl, m2, k1, k4, k5, ?_, g3.trans k3 (fun q hq => .inl hq)⟩
      rw [List.append_assoc, ← bes_succ] at k2
      exact k2)
    (by
      rintro f T1 ⟨m1, ⟨s0, s3⟩, g4, g5, g2, g3⟩
      have g5' : f.get 5 = .int .i64 (-1) := g5
      have hge : binA .geq (.int .i64 (-1)) (.int .i64 0) = some (.bool false) := rfl
      suffices hmid : Post (evC O 1000 r02_padded_l2 f T1) (fun e f' T2 => e = .exit 2 ∧ T2 = T1 ∧ f'.get 0 = x ∧ f'.get 3 = m1) by
        refine hmid.mono ?_
        rintro e f' T2 ⟨h1, rfl, h2, h3⟩
        exact ⟨h1, m1, ⟨h2, h3⟩, g2, g3⟩
      simp [r02_padded_l2, exM, orc, orcD, evF, evC, evOps, evOper, evAny, evOp, evCall, putR, putA, Fr.ev, Fr.of, Fr.get, Fr.set, stable, junkA, junkL, resultsA, resA, same, Fr.get_set, s0, s3, g5', hge, Post_some])
    (f := f) (S := T) ⟨m, hf, h4, h5, by simpa [bes] using h, Keeps.refl T _⟩
  rw [show r02_padded_s3 = .block 2 (.loop r02_padded_l2) from rfl, h1]
  exact Post.of rfl ⟨rfl, h2⟩

noncomputable def mPadded : Model := tellM 2 (exM (orc []) r02_padded 1000)

theorem Rd.keep0 {S : St} {x : AVal} {u : List UInt8} (h : Rd S x u) (hk : ∀ r v o l, x = .sl r v o l 1 → S[r]? ≠ none) {T : St} (hT : Keeps S T []) : Rd T x u := by
  refine ⟨h.sl, ?_⟩
  have hc := h.cells
  rcases h.sl with ⟨r, v, o, l, rfl⟩ | ⟨b, l, c, rfl⟩ | rfl
  · cases hr : S[r]? with
    | none => exact absurd hr (hk r v o l rfl)
    | some b =>
      have hlt := get_lt' hr
      have := hT.2 r hlt (by simp)
      simp only [cellsOf] at hc ⊢
      rw [this]; exact hc
  · exact hc
  · exact hc

theorem Rd.keep {S : St} {x : AVal} {u : List UInt8} (h : Rd S x u) {T : St} (hT : Keeps S T []) : Rd T x u :=
  h.keep0 (fun r v o l e => by
    subst e
    have hc := h.cells
    intro hn
    simp [cellsOf, hn] at hc) hT

theorem padded_ok {S : St} {x : AVal} {u : List UInt8} (hx : Rd S x u) (hl : u.length < 800000000) : mPadded [x] S = some (.fz false (pad u).length (bcells (pad u)), S) := by
  suffices hs : Post (evC (orc []) 1000 r02_padded.body (Fr.of [x]) S) (fun e f T => (e = .normal ∨ e = .ret) ∧ ∃ m, resultsA f T r02_padded.results = some m ∧ MsgI T m (pad u) S.length ∧ Keeps S T []) by
    obtain ⟨e, f, T, g1, g2, m, g3, g4, g5⟩ := hs.ex
    obtain ⟨v, rfl, g6⟩ := g4
    obtain ⟨X, rfl⟩ := g5.split
    refine tellM_new (v := .sl S.length v 0 (pad u).length 1) (T := X) (evF_post rfl rfl (Post.of g1 ⟨g2, g3, rfl⟩)) ?_
    refine deep_sl (Nat.le_refl _) g6 (by rw [bcells_len]; omega) ?_
    rw [List.drop_zero, List.take_of_length_le (by rw [bcells_len]; omega), deep_bcells]
  have hlen := hx.len
  obtain ⟨S1, hS1⟩ : ∃ S1 : St, S ++ [.live 0 []] = S1 := ⟨_, rfl⟩
  have hk1 : Keeps S S1 [] := by rw [← hS1]; exact Keeps.append ..
  have h1 : MsgI S1 (.sl S.length 0 0 0 1) [] S.length := ⟨0, rfl, by rw [← hS1]; simp [bcells]⟩
  obtain ⟨m2, S2, a1, a2, a3⟩ := h1.app (hx.keep hk1).cells (by simp; omega)
  rw [List.nil_append] at a2
  obtain ⟨m3, S3, b1, b2, b3⟩ := a2.app1 128 (by omega)
  have b1' : appendA 1 1 m2 (.sl S2.length 0 0 1 1) (S2 ++ [.live 0 [.int .u8 128]]) = some (m3, S3) := b1
  have hk3 : Keeps S S3 [] := (hk1.after a3 (by omega)).after b3 (by omega)
  simp only [r02_padded, r02_padded_t5, r02_padded_t4, Post_seq]
  simp [exM, orc, orcD, evF, evC, evOps, evOper, evAny, evOp, evCall, putR, putA, Fr.ev, Fr.of, Fr.get, Fr.set, stable, junkA, junkL, resultsA, resA, same, fillA, cells?, splice, hS1, a1, b1', Fr.get_set, Post_some]
  refine (pad_l0 (x := x) (r := S.length) b2 (by omega) ⟨rfl, rfl⟩).mono ?_
  rintro e f2 T2 ⟨rfl, m4, ⟨s0, s3⟩, d1, d2⟩
  have hk4 := hk3.after d2 (by omega)
  have hcv : IntKind.u64.wrap (u.length : Int) = (u.length : Int) := conv_u64 (by omega) (by omega)
  have hmul := mul8 u (by omega)
  simp only [if_pos]
  simp [exM, orc, orcD, evF, evC, evOps, evOper, evAny, evOp, evCall, putR, putA, Fr.ev, Fr.of, Fr.get, Fr.set, stable, junkA, junkL, resultsA, resA, same, Fr.get_set, s0, s3, hlen, hcv, hmul, Post_some]
  refine (pad_l2 (x := x) (r := S.length) (n := u.length * 8) d1 (by simp [noughts]; omega) ⟨by simp [Fr.get_set, s0], by simp [Fr.get_set, s3]⟩ (by simp [Fr.get_set]) (by simp [Fr.get_set])).mono ?_
  rintro e f3 T3 ⟨rfl, m5, ⟨s0', s3'⟩, e1, e2⟩
  simp only [if_pos]
  simp [exM, orc, orcD, evF, evC, evOps, evOper, evAny, evOp, evCall, putR, putA, Fr.ev, Fr.of, Fr.get, Fr.set, stable, junkA, junkL, resultsA, resA, same, Fr.get_set, s3', Post_some]
  refine ⟨?_, hk4.after e2 (by omega)⟩
  simpa [pad] using e1
end Am.Sha
end

/- SHA-256, as the document has it: a block's numbers, the law. -/
section
namespace Am.Sha
open Am Go Am.Ir
set_option maxRecDepth 100000

theorem join4 (a b c d : UInt32) : ((((0 : UInt32) <<< UInt32.ofNat 8 ||| a) <<< UInt32.ofNat 8 ||| b) <<< UInt32.ofNat 8 ||| c) <<< UInt32.ofNat 8 ||| d = a <<< UInt32.ofNat 24 ||| b <<< UInt32.ofNat 16 ||| c <<< UInt32.ofNat 8 ||| d := by
  apply bit_eq
  intro i hi
  have e8 : ∀ x : UInt32, (x <<< UInt32.ofNat 8).toBitVec = x.toBitVec <<< 8 := fun x => rfl
  have e16 : ∀ x : UInt32, (x <<< UInt32.ofNat 16).toBitVec = x.toBitVec <<< 16 := fun x => rfl
  have e24 : ∀ x : UInt32, (x <<< UInt32.ofNat 24).toBitVec = x.toBitVec <<< 24 := fun x => rfl
  have e0 : (0 : UInt32).toBitVec = 0#32 := rfl
  simp only [UInt32.toBitVec_or, e8, e16, e24, e0, BitVec.getLsbD_or, BitVec.getLsbD_shiftLeft, BitVec.getLsbD_zero, hi, decide_true, Bool.true_and, Bool.and_false, Bool.false_or]
  by_cases h1 : i < 8
  · simp [h1, show i < 16 by omega, show i < 24 by omega]
  · by_cases h2 : i < 16
    · simp [h1, h2, show i - 8 < 8 by omega, show i < 24 by omega, show i - 8 < 32 by omega]
    · by_cases h3 : i < 24
      · simp [h1, h2, h3, show ¬ i - 8 < 8 by omega, show i - 8 - 8 < 8 by omega, show i - 8 < 32 by omega, show i - 8 - 8 < 32 by omega, show i - 16 = i - 8 - 8 by omega]
      · simp [h1, h2, h3, show ¬ i - 8 < 8 by omega, show ¬ i - 8 - 8 < 8 by omega, show i - 8 < 32 by omega, show i - 8 - 8 < 32 by omega, show i - 8 - 8 - 8 < 32 by omega, show i - 16 = i - 8 - 8 by omega, show i - 24 = i - 8 - 8 - 8 by omega]

/-- A word of a block. -/
def byte32 (b : List UInt8) (i : Nat) : UInt32 := (b.getD i 0).toUInt32
def word (b : List UInt8) (t : Nat) : UInt32 := byte32 b (4 * t) <<< UInt32.ofNat 24 ||| byte32 b (4 * t + 1) <<< UInt32.ofNat 16 ||| byte32 b (4 * t + 2) <<< UInt32.ofNat 8 ||| byte32 b (4 * t + 3)

theorem loadS_other {b : List UInt8} {j t : Nat} (hj : j < b.length) (h : j / 4 ≠ t) : (loadS b (j + 1))[t]? = (loadS b j)[t]? := by
  rw [loadS_succ b (List.getElem?_eq_getElem hj), put, List.getElem?_set_ne h]

theorem loadS_same {b : List UInt8} {j t : Nat} (hj : j < b.length) (h : j / 4 = t) (ht : t < 16) {y : UInt32} (hy : (loadS b j)[t]? = some y) : (loadS b (j + 1))[t]? = some (y <<< UInt32.ofNat 8 ||| byte32 b j) := by
  have e : (b.getD j 0) = b[j] := by simp [List.getD, hj]
  have e2 : (loadS b j).getD t 0 = y := by simp only [List.getD, hy, Option.getD_some]
  rw [loadS_succ b (List.getElem?_eq_getElem hj), put, h, List.getElem?_set_self (by rw [loadS_len]; exact ht), byte32, e, e2]

theorem loadS_before {b : List UInt8} {t : Nat} (ht : t < 16) : ∀ j, j ≤ 4 * t → j ≤ b.length → (loadS b j)[t]? = some 0
  | 0, _, _ => by
    have : loadS b 0 = zero16 := rfl
    rw [this, zero16, List.getElem?_replicate, if_pos ht]
  | j + 1, h, hl => by rw [loadS_other (by omega) (by omega)]; exact loadS_before ht j (by omega) (by omega)

theorem loadS_behind {b : List UInt8} {t : Nat} : ∀ d, 4 * t + 4 + d ≤ b.length → (loadS b (4 * t + 4 + d))[t]? = (loadS b (4 * t + 4))[t]?
  | 0, _ => rfl
  | d + 1, h => by rw [← Nat.add_assoc, loadS_other (by omega) (by omega)]; exact loadS_behind d (by omega)

theorem load_word {b : List UInt8} (hb : b.length = 64) {t : Nat} (ht : t < 16) : (loadS b 64)[t]? = some (word b t) := by
  have h0 := loadS_before (b := b) ht (4 * t) (Nat.le_refl _) (by omega)
  have h1 := loadS_same (b := b) (j := 4 * t) (t := t) (by omega) (by omega) ht h0
  have h2 := loadS_same (b := b) (j := 4 * t + 1) (t := t) (by omega) (by omega) ht h1
  have h3 := loadS_same (b := b) (j := 4 * t + 2) (t := t) (by omega) (by omega) ht h2
  have h4 := loadS_same (b := b) (j := 4 * t + 3) (t := t) (by omega) (by omega) ht h3
  have h5 := loadS_behind (b := b) (t := t) (60 - 4 * t) (by omega)
  rw [show 4 * t + 4 + (60 - 4 * t) = 64 by omega, h4, join4] at h5
  exact h5

/-- The numbers so far, and noughts. -/
def wnow (w : List UInt32) (j : Nat) : List UInt32 := (wseq w 48).take j ++ List.replicate (64 - j) 0

theorem wnow_len {w : List UInt32} (hw : w.length = 16) {j : Nat} (hj : j ≤ 64) : (wnow w j).length = 64 := by
  have : (wseq w 48).length = 64 := by rw [wseq_len, hw]
  simp [wnow]; omega
theorem wnow_get {w : List UInt32} (hw : w.length = 16) {i j : Nat} (hi : i < j) (hj : j ≤ 64) : (wnow w j)[i]? = (wseq w 48)[i]? := by
  have : (wseq w 48).length = 64 := by rw [wseq_len, hw]
  rw [wnow, List.getElem?_append_left (by simp; omega), List.getElem?_take, if_pos hi]
theorem wnow_set {w : List UInt32} (hw : w.length = 16) {j : Nat} {x : UInt32} (hj : j < 64) (hx : (wseq w 48)[j]? = some x) : (wnow w j).set j x = wnow w (j + 1) := by
  have h64 : (wseq w 48).length = 64 := by rw [wseq_len, hw]
  have hl : ((wseq w 48).take j).length = j := by simp; omega
  rw [wnow, List.set_append_right _ _ (by omega), hl, Nat.sub_self, show 64 - j = (64 - (j + 1)) + 1 by omega, List.replicate_succ, List.set_cons_zero, wnow, List.take_add_one, hx]
  simp
theorem wnow_end {w : List UInt32} (hw : w.length = 16) : wnow w 64 = wseq w 48 := by
  have : (wseq w 48).length = 64 := by rw [wseq_len, hw]
  simp [wnow, List.take_of_length_le (show (wseq w 48).length ≤ 64 by omega)]

/-- A byte can be read. -/
theorem Rd.ix {S : St} {x : AVal} {u : List UInt8} (h : Rd S x u) {i : Nat} (hi : i < u.length) : ∃ p, iaddrSA 1 x (.int .i64 (i : Int)) = some p ∧ ∀ {T : St}, Rd T x u → loadA none p T = some (.int .u8 ((u.getD i 0).toNat : Int)) := by
  have hg : (bcells u)[i]? = some (.int .u8 ((u.getD i 0).toNat : Int)) := by simp [bcells, List.getD, List.getElem?_eq_getElem hi]
  have hi' : (i : Int) < (u.length : Int) := by omega
  have hc := h.cells
  rcases h.sl with ⟨r, v, o, l, rfl⟩ | ⟨b, l, c, rfl⟩ | rfl
  · have hl : l = u.length := by
      simp only [cellsOf] at hc
      split at hc
      · split at hc
        · simp only [Option.some.injEq, Prod.mk.injEq] at hc; exact hc.1
        · simp at hc
      · simp at hc
    subst hl
    refine ⟨.ptr r v (o + i), by rw [iaS (by omega) hi']; simp, fun {T} hT => ?_⟩
    have hc' := hT.cells
    simp only [cellsOf] at hc'
    split at hc'
    · rename_i v' cs hS
      split at hc'
      · rename_i hcond
        simp only [Option.some.injEq, Prod.mk.injEq] at hc'
        obtain ⟨rfl, _, _⟩ := hcond
        rw [load_c hS]
        have := hc'.2
        rw [← this, List.getElem?_take, if_pos (by omega), List.getElem?_drop] at hg
        exact hg
      · simp at hc'
    · simp at hc'
  · simp only [cellsOf] at hc
    split at hc
    · rename_i hcond
      simp only [Option.some.injEq, Prod.mk.injEq] at hc
      obtain ⟨rfl, rfl⟩ := hc
      refine ⟨.fq [.int .u8 ((u.getD i 0).toNat : Int)], ?_, fun _ => rfl⟩
      exact ix_fz rfl hi []
    · simp at hc
  · simp only [cellsOf, Option.some.injEq, Prod.mk.injEq] at hc
    omega
end Am.Sha
end

/- SHA-256, as the document has it: a block's numbers, over the code. -/
section
namespace Am.Sha
open Am Go Am.Ir
set_option maxRecDepth 100000

noncomputable def oBlock : Orc := orc [xTurn]

structure BlF (f : Fr) (x k : AVal) (q3 q6 rw' : Nat) (t : Nat) : Prop where
  s1 : f.get 1 = x
  s2 : f.get 2 = k
  s3 : f.get 3 = .ptr q3 0 0
  s6 : f.get 6 = .ptr q6 0 0
  s7 : f.get 7 = .sl rw' 0 0 64 1
  s8 : f.get 8 = .int .i64 (t : Int)

theorem conv_b32 (b : List UInt8) (i : Nat) : AVal.int .u32 (IntKind.u32.wrap ((b.getD i 0).toNat : Int)) = u32 (byte32 b i) := by
  have := (b.getD i 0).toNat_lt
  rw [wrapU32 (by omega)]; rfl

theorem ix_w {rw' i : Nat} (hi : i < 64) : iaddrSA 1 (.sl rw' 0 0 64 1) (.int .i64 (i : Int)) = some (.ptr rw' 0 i) := by
  rw [iaS (by omega) (by omega)]; simp

theorem store_w {T : St} {rw' t : Nat} {w : List UInt32} {y : UInt32} (hw : w.length = 16) (ht : t < 64) (hr : T[rw']? = some (.live 0 (ucells (wnow w t)))) (hy : (wseq w 48)[t]? = some y) :
    storeA 1 (.ptr rw' 0 t) (u32 y) T = some (T.set rw' (.live 0 (ucells (wnow w (t + 1))))) := by
  have hl := wnow_len hw (j := t) (by omega)
  have hst := ucells_set (wnow w t) t y (by omega)
  have hc : cells? (u32 y) = some [u32 y] := rfl
  simp only [storeA, hc, hr, hst, wnow_set hw ht hy]
  rw [if_pos ⟨by trivial, rfl, by rw [ucells_len]; omega⟩]

theorem low_round {k : Nat} {f : Fr} {T : St} {x kk : AVal} {q3 q6 rw' t : Nat} {b : List UInt8} {w : List UInt32} (hb : b.length = 64) (hw : loadS b 64 = w) (ht : t < 16) (hx : Rd T x b) (hr : T[rw']? = some (.live 0 (ucells (wnow w t)))) (hf : BlF f x kk q3 q6 rw' t) :
    Post (evC oBlock k r02_block_l0 f T) fun e f' T' => e = .normal ∧ BlF f' x kk q3 q6 rw' (t + 1) ∧ T' = T.set rw' (.live 0 (ucells (wnow w (t + 1)))) := by
  have hwl : w.length = 16 := by rw [← hw]; exact loadS_len b 64
  have hword := load_word hb ht
  rw [hw] at hword
  have hseq : (wseq w 48)[t]? = some (word b t) := by
    have := wseq_get w 0 t (by omega) 48
    rw [Nat.zero_add] at this
    rw [this]; exact hword
  obtain ⟨p0, i0, l0⟩ := hx.ix (i := 4 * t) (by omega)
  obtain ⟨p1, i1, l1⟩ := hx.ix (i := 4 * t + 1) (by omega)
  obtain ⟨p2, i2, l2⟩ := hx.ix (i := 4 * t + 2) (by omega)
  obtain ⟨p3, i3, l3⟩ := hx.ix (i := 4 * t + 3) (by omega)
  replace l0 := l0 hx
  replace l1 := l1 hx
  replace l2 := l2 hx
  replace l3 := l3 hx
  have hlss : binA .lss (.int .i64 (t : Int)) (.int .i64 64) = some (.bool true) := lss_t (by omega)
  have hl16 : binA .lss (.int .i64 (t : Int)) (.int .i64 16) = some (.bool true) := lss_t (by omega)
  have hadd : binA .add (.int .i64 (t : Int)) (.int .i64 1) = some (.int .i64 ((t + 1 : Nat) : Int)) := by rw [add_i (by omega) (by omega)]; rfl
  have hm : binA .mul (.int .i64 4) (.int .i64 (t : Int)) = some (.int .i64 ((4 * t : Nat) : Int)) := mul_is (by omega) (by omega) (by omega)
  have ha1 : binA .add (.int .i64 ((4 * t : Nat) : Int)) (.int .i64 1) = some (.int .i64 ((4 * t + 1 : Nat) : Int)) := by rw [add_i (by omega) (by omega)]; rfl
  have ha2 : binA .add (.int .i64 ((4 * t : Nat) : Int)) (.int .i64 2) = some (.int .i64 ((4 * t + 2 : Nat) : Int)) := by rw [add_i (by omega) (by omega)]; rfl
  have ha3 : binA .add (.int .i64 ((4 * t : Nat) : Int)) (.int .i64 3) = some (.int .i64 ((4 * t + 3 : Nat) : Int)) := by rw [add_i (by omega) (by omega)]; rfl
  have c0 := conv_b32 b (4 * t)
  have c1 := conv_b32 b (4 * t + 1)
  have c2 := conv_b32 b (4 * t + 2)
  have c3 := conv_b32 b (4 * t + 3)
  have h24 : binA .shl (u32 (byte32 b (4 * t))) (.int .u64 24) = _ := shl_u32 _ .u64 24 (by omega)
  have h16 : binA .shl (u32 (byte32 b (4 * t + 1))) (.int .u64 16) = _ := shl_u32 _ .u64 16 (by omega)
  have h8 : binA .shl (u32 (byte32 b (4 * t + 2))) (.int .u64 8) = _ := shl_u32 _ .u64 8 (by omega)
  have o1 := or_u32 (byte32 b (4 * t) <<< UInt32.ofNat 24) (byte32 b (4 * t + 1) <<< UInt32.ofNat 16)
  have o2 := or_u32 (byte32 b (4 * t) <<< UInt32.ofNat 24 ||| byte32 b (4 * t + 1) <<< UInt32.ofNat 16) (byte32 b (4 * t + 2) <<< UInt32.ofNat 8)
  have o3 : binA .or (u32 (byte32 b (4 * t) <<< UInt32.ofNat 24 ||| byte32 b (4 * t + 1) <<< UInt32.ofNat 16 ||| byte32 b (4 * t + 2) <<< UInt32.ofNat 8)) (u32 (byte32 b (4 * t + 3))) = some (u32 (word b t)) := or_u32 _ _
  have iw := ix_w (rw' := rw') (i := t) (by omega)
  have hst := store_w hwl (by omega) hr hseq
  generalize T.set rw' (.live 0 (ucells (wnow w (t + 1)))) = T1 at *
  generalize ((4 * t + 1 : Nat) : Int) = z1 at *
  generalize ((4 * t + 2 : Nat) : Int) = z2 at *
  generalize ((4 * t + 3 : Nat) : Int) = z3 at *
  generalize ((4 * t : Nat) : Int) = z0 at *
  generalize u32 (byte32 b (4 * t) <<< UInt32.ofNat 24 ||| byte32 b (4 * t + 1) <<< UInt32.ofNat 16 ||| byte32 b (4 * t + 2) <<< UInt32.ofNat 8) = y1 at *
  generalize u32 (byte32 b (4 * t) <<< UInt32.ofNat 24 ||| byte32 b (4 * t + 1) <<< UInt32.ofNat 16) = y2 at *
  generalize u32 (byte32 b (4 * t) <<< UInt32.ofNat 24) = y3 at *
  generalize u32 (byte32 b (4 * t + 1) <<< UInt32.ofNat 16) = y4 at *
  generalize u32 (byte32 b (4 * t + 2) <<< UInt32.ofNat 8) = y5 at *
  generalize ((b.getD (4 * t) 0).toNat : Int) = w0 at *
  generalize ((b.getD (4 * t + 1) 0).toNat : Int) = w1 at *
  generalize ((b.getD (4 * t + 2) 0).toNat : Int) = w2 at *
  generalize ((b.getD (4 * t + 3) 0).toNat : Int) = w3 at *
  generalize u32 (byte32 b (4 * t)) = v0 at *
  generalize u32 (byte32 b (4 * t + 1)) = v1 at *
  generalize u32 (byte32 b (4 * t + 2)) = v2 at *
  generalize u32 (byte32 b (4 * t + 3)) = v3 at *
  generalize u32 (word b t) = v4 at *
  obtain ⟨s1, s2, s3, s6, s7, s8⟩ := hf
  suffices hmid : Post (evC oBlock k r02_block_l0 f T) (fun e f' T' => e = .normal ∧ T' = T1 ∧ f'.get 1 = x ∧ f'.get 2 = kk ∧ f'.get 3 = .ptr q3 0 0 ∧ f'.get 6 = .ptr q6 0 0 ∧ f'.get 7 = .sl rw' 0 0 64 1 ∧ f'.get 8 = .int .i64 ((t + 1 : Nat) : Int)) by
    refine hmid.mono ?_
    rintro e f' T' ⟨h1, h0, k1, k2, k3, k6, k7, k8⟩
    exact ⟨h1, ⟨k1, k2, k3, k6, k7, k8⟩, h0⟩
  generalize ((t + 1 : Nat) : Int) = tt1 at *
  generalize (t : Int) = tt at *
  simp [r02_block_l0, exM, orc, orcD, evF, evC, evOps, evOper, evAny, evOp, evCall, putR, putA, Fr.ev, Fr.of, Fr.get, Fr.set, stable, junkA, junkL, resultsA, resA, same, oBlock, Fr.get_set, s1, s2, s3, s6, s7, s8, hlss, hl16, hadd, hm, ha1, ha2, ha3, i0, i1, i2, i3, l0, l1, l2, l3, c0, c1, c2, c3, h24, h16, h8, o1, o2, o3, iw, hst, Post_some]

theorem t7 (x : UInt32) (S : St) : xTurn [u32 x, .int .u64 7] S = some (u32 (rr 7 x), S) := turn_ok (n := 7) (by omega) (by omega) x S
theorem t18 (x : UInt32) (S : St) : xTurn [u32 x, .int .u64 18] S = some (u32 (rr 18 x), S) := turn_ok (n := 18) (by omega) (by omega) x S
theorem t17 (x : UInt32) (S : St) : xTurn [u32 x, .int .u64 17] S = some (u32 (rr 17 x), S) := turn_ok (n := 17) (by omega) (by omega) x S
theorem t19 (x : UInt32) (S : St) : xTurn [u32 x, .int .u64 19] S = some (u32 (rr 19 x), S) := turn_ok (n := 19) (by omega) (by omega) x S

theorem high_round {k : Nat} {f : Fr} {T : St} {x kk : AVal} {q3 q6 rw' t : Nat} {w : List UInt32} (hw : w.length = 16) (ht : 16 ≤ t) (ht2 : t < 64) (hr : T[rw']? = some (.live 0 (ucells (wnow w t)))) (hf : BlF f x kk q3 q6 rw' t) :
    Post (evC oBlock k r02_block_l0 f T) fun e f' T' => e = .normal ∧ BlF f' x kk q3 q6 rw' (t + 1) ∧ T' = T.set rw' (.live 0 (ucells (wnow w (t + 1)))) := by
  have h64 : (wseq w 48).length = 64 := by rw [wseq_len, hw]
  have ge : ∀ m, m < 64 → ∃ x, (wseq w 48)[m]? = some x := fun m hm => ⟨_, List.getElem?_eq_getElem (by omega)⟩
  obtain ⟨x16, g16⟩ := ge (t - 16) (by omega)
  obtain ⟨x15, g15⟩ := ge (t - 15) (by omega)
  obtain ⟨x7, g7⟩ := ge (t - 7) (by omega)
  obtain ⟨x2, g2⟩ := ge (t - 2) (by omega)
  have hW := W_next hw ht ht2 g16 g15 g7 g2
  have hcomm : x16 + (low x15 + x7 + high x2) = high x2 + x7 + low x15 + x16 := by
    rw [UInt32.add_comm, UInt32.add_comm (low x15) x7, UInt32.add_comm (x7 + low x15) (high x2), ← UInt32.add_assoc]
  rw [hcomm] at hW
  have ld : ∀ {i : Nat} {y : UInt32}, i < t → (wseq w 48)[i]? = some y → loadA none (.ptr rw' 0 i) T = some (u32 y) := fun hi hy => by
    rw [load_c hr]; exact ucells_get (by rw [wnow_get hw hi (by omega)]; exact hy)
  have l16 := ld (i := t - 16) (by omega) g16
  have l15 := ld (i := t - 15) (by omega) g15
  have l7 := ld (i := t - 7) (by omega) g7
  have l2 := ld (i := t - 2) (by omega) g2
  have i16 := ix_w (rw' := rw') (i := t - 16) (by omega)
  have i15 := ix_w (rw' := rw') (i := t - 15) (by omega)
  have i7 := ix_w (rw' := rw') (i := t - 7) (by omega)
  have i2 := ix_w (rw' := rw') (i := t - 2) (by omega)
  have iw := ix_w (rw' := rw') (i := t) (by omega)
  have sb : ∀ (m : Nat) (z : Int), m ≤ 16 → z = (m : Int) → binA .sub (.int .i64 (t : Int)) (.int .i64 z) = some (.int .i64 ((t - m : Nat) : Int)) := fun m z hm hz => sub_is (by omega) (by omega) (by omega)
  have b16 := sb 16 16 (by omega) rfl
  have b15 := sb 15 15 (by omega) rfl
  have b7 := sb 7 7 (by omega) rfl
  have b2 := sb 2 2 (by omega) rfl
  have hlss : binA .lss (.int .i64 (t : Int)) (.int .i64 64) = some (.bool true) := lss_t (by omega)
  have hl16 : binA .lss (.int .i64 (t : Int)) (.int .i64 16) = some (.bool false) := lss_f (by omega)
  have hadd : binA .add (.int .i64 (t : Int)) (.int .i64 1) = some (.int .i64 ((t + 1 : Nat) : Int)) := by rw [add_i (by omega) (by omega)]; rfl
  have s3' : binA .shr (u32 x15) (.int .u64 3) = some (u32 (x15 >>> UInt32.ofNat 3)) := shr_u32 x15 .u64 3 (by omega)
  have s10' : binA .shr (u32 x2) (.int .u64 10) = some (u32 (x2 >>> UInt32.ofNat 10)) := shr_u32 x2 .u64 10 (by omega)
  have e1 := xor_u32 (rr 7 x15) (rr 18 x15)
  have e2 : binA .xor (u32 (rr 7 x15 ^^^ rr 18 x15)) (u32 (x15 >>> UInt32.ofNat 3)) = some (u32 (low x15)) := xor_u32 (rr 7 x15 ^^^ rr 18 x15) (x15 >>> UInt32.ofNat 3)
  have e3 := xor_u32 (rr 17 x2) (rr 19 x2)
  have e4 : binA .xor (u32 (rr 17 x2 ^^^ rr 19 x2)) (u32 (x2 >>> UInt32.ofNat 10)) = some (u32 (high x2)) := xor_u32 (rr 17 x2 ^^^ rr 19 x2) (x2 >>> UInt32.ofNat 10)
  have a1 := add_u32 (high x2) x7
  have a2 := add_u32 (high x2 + x7) (low x15)
  have a3 := add_u32 (high x2 + x7 + low x15) x16
  have hst := store_w hw ht2 hr hW
  have q7 := fun S => t7 x15 S
  have q18 := fun S => t18 x15 S
  have q17 := fun S => t17 x2 S
  have q19 := fun S => t19 x2 S
  generalize T.set rw' (.live 0 (ucells (wnow w (t + 1)))) = T1 at *
  generalize u32 (high x2 + x7 + low x15 + x16) = y1 at *
  generalize u32 (high x2 + x7 + low x15) = y2 at *
  generalize u32 (high x2 + x7) = y3 at *
  generalize u32 (high x2) = y4 at *
  generalize u32 (low x15) = y5 at *
  generalize u32 (rr 7 x15 ^^^ rr 18 x15) = y6 at *
  generalize u32 (rr 17 x2 ^^^ rr 19 x2) = y7 at *
  generalize u32 (rr 7 x15) = y8 at *
  generalize u32 (rr 18 x15) = y9 at *
  generalize u32 (rr 17 x2) = y10 at *
  generalize u32 (rr 19 x2) = y11 at *
  generalize u32 (x15 >>> UInt32.ofNat 3) = y12 at *
  generalize u32 (x2 >>> UInt32.ofNat 10) = y13 at *
  generalize u32 x2 = y14 at *
  generalize u32 x7 = y15 at *
  generalize u32 x15 = y16 at *
  generalize u32 x16 = y17 at *
  generalize ((t - 16 : Nat) : Int) = m16 at *
  generalize ((t - 15 : Nat) : Int) = m15 at *
  generalize ((t - 7 : Nat) : Int) = m7 at *
  generalize ((t - 2 : Nat) : Int) = m2 at *
  obtain ⟨s1, s2, s3, s6, s7, s8⟩ := hf
  suffices hmid : Post (evC oBlock k r02_block_l0 f T) (fun e f' T' => e = .normal ∧ T' = T1 ∧ f'.get 1 = x ∧ f'.get 2 = kk ∧ f'.get 3 = .ptr q3 0 0 ∧ f'.get 6 = .ptr q6 0 0 ∧ f'.get 7 = .sl rw' 0 0 64 1 ∧ f'.get 8 = .int .i64 ((t + 1 : Nat) : Int)) by
    refine hmid.mono ?_
    rintro e f' T' ⟨h1, h0, k1, k2, k3, k6, k7, k8⟩
    exact ⟨h1, ⟨k1, k2, k3, k6, k7, k8⟩, h0⟩
  generalize ((t + 1 : Nat) : Int) = tt1 at *
  generalize (t : Int) = tt at *
  simp [r02_block_l0, exM, orc, orcD, evF, evC, evOps, evOper, evAny, evOp, evCall, putR, putA, Fr.ev, Fr.of, Fr.get, Fr.set, stable, junkA, junkL, resultsA, resA, same, oBlock, Fr.get_set, s1, s2, s3, s6, s7, s8, hlss, hl16, hadd, b16, b15, b7, b2, i16, i15, i7, i2, iw, l16, l15, l7, l2, s3', s10', e1, e2, e3, e4, a1, a2, a3, hst, q7, q18, q17, q19, trL, sameRead, sameVal, beqV_refl, Post_some]

theorem l0_loop {f : Fr} {T : St} {x kk : AVal} {q3 q6 rw' : Nat} {b : List UInt8} {w : List UInt32} (hb : b.length = 64) (hw : loadS b 64 = w) (hx : ∀ T', Keeps T T' [rw'] → Rd T' x b) (hr : T[rw']? = some (.live 0 (ucells (wnow w 0)))) (hf : BlF f x kk q3 q6 rw' 0) :
    Post (evC oBlock 1000 r02_block_s1 f T) fun e f' T' => e = .normal ∧ BlF f' x kk q3 q6 rw' 64 ∧ T'[rw']? = some (.live 0 (ucells (wseq w 48))) ∧ Keeps T T' [rw'] := by
  have hwl : w.length = 16 := by rw [← hw]; exact loadS_len b 64
  obtain ⟨f', T', h1, h2⟩ := loop_post (O := oBlock) (k := 1000) (id := 0) (b := r02_block_l0)
    (I := fun t f T' => BlF f x kk q3 q6 rw' t ∧ T'[rw']? = some (.live 0 (ucells (wnow w t))) ∧ Keeps T T' [rw'])
    (Q := fun f T' => BlF f x kk q3 q6 rw' 64 ∧ T'[rw']? = some (.live 0 (ucells (wseq w 48))) ∧ Keeps T T' [rw']) 64 (by omega)
    (by
      rintro t ht f T1 ⟨g1, g2, g3⟩
      have hlt := get_lt' g2
      by_cases h16 : t < 16
      · refine (low_round hb hw h16 (hx _ g3) g2 g1).mono ?_
        rintro e f' T2 ⟨rfl, k1, rfl⟩
        exact ⟨rfl, k1, by simp [hlt], g3.trans (Keeps.set ..) (fun q hq => .inl hq)⟩
      · refine (high_round hwl (by omega) ht g2 g1).mono ?_
        rintro e f' T2 ⟨rfl, k1, rfl⟩
        exact ⟨rfl, k1, by simp [hlt], g3.trans (Keeps.set ..) (fun q hq => .inl hq)⟩)
    (by
      rintro f T1 ⟨⟨s1, s2, s3, s6, s7, s8⟩, g2, g3⟩
      rw [wnow_end hwl] at g2
      have s8' : f.get 8 = .int .i64 64 := s8
      have hlss : binA .lss (.int .i64 64) (.int .i64 64) = some (.bool false) := rfl
      suffices hmid : Post (evC oBlock 1000 r02_block_l0 f T1) (fun e f' T2 => e = .exit 0 ∧ T2 = T1 ∧ f'.get 1 = x ∧ f'.get 2 = kk ∧ f'.get 3 = .ptr q3 0 0 ∧ f'.get 6 = .ptr q6 0 0 ∧ f'.get 7 = .sl rw' 0 0 64 1 ∧ f'.get 8 = .int .i64 64) by
        refine hmid.mono ?_
        rintro e f' T2 ⟨h1, rfl, k1, k2, k3, k6, k7, k8⟩
        exact ⟨h1, ⟨k1, k2, k3, k6, k7, k8⟩, g2, g3⟩
      simp [r02_block_l0, exM, orc, orcD, evF, evC, evOps, evOper, evAny, evOp, evCall, putR, putA, Fr.ev, Fr.of, Fr.get, Fr.set, stable, junkA, junkL, resultsA, resA, same, oBlock, Fr.get_set, s1, s2, s3, s6, s7, s8', hlss, Post_some])
    (f := f) (S := T) ⟨hf, hr, Keeps.refl T _⟩
  rw [show r02_block_s1 = .block 0 (.loop r02_block_l0) from rfl, h1]
  exact Post.of rfl ⟨rfl, h2⟩
end Am.Sha
end

/- SHA-256, as the document has it: a block's rounds. -/
section
namespace Am.Sha
open Am Go Am.Ir
set_option maxRecDepth 100000

structure RdF (f : Fr) (q3 q6 rw' r : Nat) (t : Nat) : Prop where
  s2 : f.get 2 = .fz false 64 (ucells steps)
  s3 : f.get 3 = .ptr q3 0 0
  s6 : f.get 6 = .ptr q6 0 0
  s7 : f.get 7 = .sl rw' 0 0 64 1
  s11 : f.get 11 = .ptr r 0 0
  s12 : f.get 12 = .int .i64 (t : Int)

theorem ix_k {t : Nat} (ht : t < 64) {K : UInt32} (hK : steps[t]? = some K) : iaddrSA 1 (.fz false 64 (ucells steps)) (.int .i64 (t : Int)) = some (.fq [u32 K]) := by
  have h1 : ((ucells steps).drop t).take 1 = [u32 K] := by
    have hl : t < (ucells steps).length := by rw [ucells_len, steps_len]; exact ht
    rw [List.drop_eq_getElem_cons hl]
    have := ucells_get hK
    rw [List.getElem?_eq_getElem hl] at this
    rw [Option.some.inj this]; rfl
  have hl : (ucells steps).length = 64 := by rw [ucells_len, steps_len]
  have h2 : (t : Int) < 64 := by omega
  simp [iaddrSA, hl, h2, h1]

theorem u6 (x : UInt32) (S : St) : xTurn [u32 x, .int .u64 6] S = some (u32 (rr 6 x), S) := turn_ok (n := 6) (by omega) (by omega) x S
theorem u11 (x : UInt32) (S : St) : xTurn [u32 x, .int .u64 11] S = some (u32 (rr 11 x), S) := turn_ok (n := 11) (by omega) (by omega) x S
theorem u25 (x : UInt32) (S : St) : xTurn [u32 x, .int .u64 25] S = some (u32 (rr 25 x), S) := turn_ok (n := 25) (by omega) (by omega) x S
theorem u2 (x : UInt32) (S : St) : xTurn [u32 x, .int .u64 2] S = some (u32 (rr 2 x), S) := turn_ok (n := 2) (by omega) (by omega) x S
theorem u13 (x : UInt32) (S : St) : xTurn [u32 x, .int .u64 13] S = some (u32 (rr 13 x), S) := turn_ok (n := 13) (by omega) (by omega) x S
theorem u22 (x : UInt32) (S : St) : xTurn [u32 x, .int .u64 22] S = some (u32 (rr 22 x), S) := turn_ok (n := 22) (by omega) (by omega) x S

theorem cells_u32 (x : UInt32) : cells? (u32 x) = some [u32 x] := rfl

theorem ref_round {k : Nat} {f : Fr} {T : St} {q3 q6 rw' r t : Nat} {v : V8} {w K : UInt32} {W : List UInt32} (ht : t < 64) (hK : steps[t]? = some K) (hW : W[t]? = some w) (hw : T[rw']? = some (.live 0 (ucells W))) (hr : T[r]? = some (.live 0 (ucells v.list))) (hf : RdF f q3 q6 rw' r t) :
    Post (evC oBlock k r02_block_l2 f T) fun e f' T' => e = .normal ∧ RdF f' q3 q6 rw' r (t + 1) ∧ T' = T.set r (.live 0 (ucells (turn v K w).list)) := by
  obtain ⟨a, b, c, d, e, f0, g, o⟩ := v
  have hlss : binA .lss (.int .i64 (t : Int)) (.int .i64 64) = some (.bool true) := lss_t (by omega)
  have hadd : binA .add (.int .i64 (t : Int)) (.int .i64 1) = some (.int .i64 ((t + 1 : Nat) : Int)) := add_is (by omega) (by omega) (by omega)
  have ik := ix_k ht hK
  have iw := ix_w (rw' := rw') ht
  have lw : loadA none (.ptr rw' 0 t) T = some (u32 w) := by rw [load_c hw]; exact ucells_get hW
  have hcs : ucells (V8.list ⟨a, b, c, d, e, f0, g, o⟩) = [u32 a, u32 b, u32 c, u32 d, u32 e, u32 f0, u32 g, u32 o] := rfl
  rw [hcs] at hr
  have l0 : loadA none (.ptr r 0 0) T = some (u32 a) := by rw [load_c hr]; rfl
  have l1 : loadA none (.ptr r 0 1) T = some (u32 b) := by rw [load_c hr]; rfl
  have l2 : loadA none (.ptr r 0 2) T = some (u32 c) := by rw [load_c hr]; rfl
  have l3 : loadA none (.ptr r 0 3) T = some (u32 d) := by rw [load_c hr]; rfl
  have l4 : loadA none (.ptr r 0 4) T = some (u32 e) := by rw [load_c hr]; rfl
  have l5 : loadA none (.ptr r 0 5) T = some (u32 f0) := by rw [load_c hr]; rfl
  have l6 : loadA none (.ptr r 0 6) T = some (u32 g) := by rw [load_c hr]; rfl
  have l7 : loadA none (.ptr r 0 7) T = some (u32 o) := by rw [load_c hr]; rfl
  have hff : binA .xor (u32 e) (.int .u32 4294967295) = some (u32 (e ^^^ 4294967295)) := xor_u32 e 4294967295
  obtain ⟨ne, hne⟩ : ∃ ne, e ^^^ 4294967295 = ne := ⟨_, rfl⟩
  rw [hne] at hff
  have h1 : o + (rr 6 e ^^^ rr 11 e ^^^ rr 25 e) + ((e &&& f0) ^^^ (ne &&& g)) + K + w = one ⟨a, b, c, d, e, f0, g, o⟩ K w := by rw [← hne, choice_ref]; rfl
  have h2 : (rr 2 a ^^^ rr 13 a ^^^ rr 22 a) + ((a &&& b) ^^^ (a &&& c) ^^^ (b &&& c)) = two ⟨a, b, c, d, e, f0, g, o⟩ := by rw [most_ref]; rfl
  have hturn : ucells (turn ⟨a, b, c, d, e, f0, g, o⟩ K w).list = [u32 (one ⟨a, b, c, d, e, f0, g, o⟩ K w + two ⟨a, b, c, d, e, f0, g, o⟩), u32 a, u32 b, u32 c, u32 (d + one ⟨a, b, c, d, e, f0, g, o⟩ K w), u32 e, u32 f0, u32 g] := rfl
  rw [hturn]
  have hstA : ∀ cs : List AVal, cs.length = 8 → storeA 8 (.ptr r 0 0) (.agg cs) T = some (T.set r (.live 0 cs)) := fun cs hl => by
    have hsp : splice [u32 a, u32 b, u32 c, u32 d, u32 e, u32 f0, u32 g, u32 o] 0 cs = cs := by simp [splice, hl]
    simp only [storeA, cells_agg, hr, hsp]
    rw [if_pos ⟨by trivial, hl, by simp⟩]
  obtain ⟨s2, s3, s6, s7, s11, s12⟩ := hf
  obtain ⟨X1, hX1⟩ : ∃ X1, one ⟨a, b, c, d, e, f0, g, o⟩ K w = X1 := ⟨_, rfl⟩
  obtain ⟨X2, hX2⟩ : ∃ X2, two ⟨a, b, c, d, e, f0, g, o⟩ = X2 := ⟨_, rfl⟩
  rw [hX1, hX2]
  rw [hX1] at h1; rw [hX2] at h2
  clear hX1 hX2 hturn hcs
  suffices hmid : Post (evC oBlock k r02_block_l2 f T) (fun e' f' T' => e' = .normal ∧ T' = T.set r (.live 0 [u32 (X1 + X2), u32 a, u32 b, u32 c, u32 (d + X1), u32 e, u32 f0, u32 g]) ∧ f'.get 2 = .fz false 64 (ucells steps) ∧ f'.get 3 = .ptr q3 0 0 ∧ f'.get 6 = .ptr q6 0 0 ∧ f'.get 7 = .sl rw' 0 0 64 1 ∧ f'.get 11 = .ptr r 0 0 ∧ f'.get 12 = .int .i64 ((t + 1 : Nat) : Int)) by
    refine hmid.mono ?_
    rintro e' f' T' ⟨h1, h0, k2, k3, k6, k7, k11, k12⟩
    exact ⟨h1, ⟨k2, k3, k6, k7, k11, k12⟩, h0⟩
  generalize ucells steps = us at *
  generalize ((t + 1 : Nat) : Int) = tt1 at *
  generalize (t : Int) = tt at *
  simp [r02_block_l2, exM, orc, orcD, evF, evC, evOps, evOper, evAny, evOp, evCall, putR, putA, Fr.ev, Fr.of, Fr.get, Fr.set, stable, junkA, junkL, resultsA, resA, same, oBlock, Fr.get_set, s2, s3, s6, s7, s11, s12, hlss, hadd, ik, iw, lw, iaddrAA, l0, l1, l2, l3, l4, l5, l6, l7, load_fq, u6, u11, u25, u2, u13, u22, xor_u32, and_u32, add_u32, hff, h1, h2, fillA, cells_u32, splice, hstA, trL, sameRead, sameVal, beqV_refl, Post_some]
end Am.Sha
end

/- SHA-256, as the document has it: a block. -/
section
namespace Am.Sha
open Am Go Am.Ir
set_option maxRecDepth 100000

theorem ref_rounds {f : Fr} {T : St} {q3 q6 rw' r : Nat} {v : V8} {w : List UInt32} (hwl : w.length = 16) (hne : rw' ≠ r) (hw : T[rw']? = some (.live 0 (ucells (wseq w 48)))) (hr : T[r]? = some (.live 0 (ucells v.list))) (hf : RdF f q3 q6 rw' r 0) :
    Post (evC oBlock 1000 r02_block_s3 f T) fun e f' T' => e = .normal ∧ f'.get 3 = .ptr q3 0 0 ∧ f'.get 6 = .ptr q6 0 0 ∧ f'.get 11 = .ptr r 0 0 ∧ T'[r]? = some (.live 0 (ucells (vseq w v 64).list)) ∧ Keeps T T' [r] := by
  have h64 : (wseq w 48).length = 64 := by rw [wseq_len, hwl]
  obtain ⟨f', T', h1, h2⟩ := loop_post (O := oBlock) (k := 1000) (id := 2) (b := r02_block_l2)
    (I := fun t f T' => RdF f q3 q6 rw' r t ∧ T'[r]? = some (.live 0 (ucells (vseq w v t).list)) ∧ Keeps T T' [r])
    (Q := fun f' T' => f'.get 3 = .ptr q3 0 0 ∧ f'.get 6 = .ptr q6 0 0 ∧ f'.get 11 = .ptr r 0 0 ∧ T'[r]? = some (.live 0 (ucells (vseq w v 64).list)) ∧ Keeps T T' [r]) 64 (by omega)
    (by
      rintro t ht f T1 ⟨g1, g2, g3⟩
      have hlt := get_lt' g2
      obtain ⟨K, hK⟩ : ∃ K, steps[t]? = some K := ⟨_, List.getElem?_eq_getElem (by rw [steps_len]; exact ht)⟩
      obtain ⟨x, hx⟩ : ∃ x, (wseq w 48)[t]? = some x := ⟨_, List.getElem?_eq_getElem (by omega)⟩
      refine (ref_round ht hK hx (g3.get hw (by simpa using hne)) g2 g1).mono ?_
      rintro e f' T2 ⟨rfl, k1, rfl⟩
      have e1 : steps.getD t 0 = K := by simp only [List.getD, hK, Option.getD_some]
      have e2 : (wseq w 48).getD t 0 = x := by simp only [List.getD, hx, Option.getD_some]
      refine ⟨rfl, k1, ?_, g3.trans (Keeps.set ..) (fun q hq => .inl hq)⟩
      rw [List.getElem?_set_self hlt]
      simp only [vseq, e1, e2])
    (by
      rintro f T1 ⟨⟨s2, s3, s6, s7, s11, s12⟩, g2, g3⟩
      obtain ⟨V, hV⟩ : ∃ V, vseq w v 64 = V := ⟨_, rfl⟩
      rw [hV] at g2
      have s12' : f.get 12 = .int .i64 64 := s12
      have hlss : binA .lss (.int .i64 64) (.int .i64 64) = some (.bool false) := rfl
      rw [hV]
      simp [r02_block_l2, exM, orc, orcD, evF, evC, evOps, evOper, evAny, evOp, evCall, putR, putA, Fr.ev, Fr.of, Fr.get, Fr.set, stable, junkA, junkL, resultsA, resA, same, oBlock, Fr.get_set, s3, s6, s11, s12', hlss, Post_some]
      exact ⟨g2, g3⟩)
    (f := f) (S := T) ⟨hf, hr, Keeps.refl T _⟩
  rw [show r02_block_s3 = .block 2 (.loop r02_block_l2) from rfl, h1]
  exact Post.of rfl ⟨rfl, h2⟩

structure PlF (f : Fr) (q3 q6 r : Nat) (j : Nat) : Prop where
  s3 : f.get 3 = .ptr q3 0 0
  s6 : f.get 6 = .ptr q6 0 0
  s11 : f.get 11 = .ptr r 0 0
  s17 : f.get 17 = .int .i64 (j : Int)

theorem ref_plus {k : Nat} {f : Fr} {T : St} {q3 q6 r j : Nat} {v w : V8} (hj : j < 8) (h3 : T[q3]? = some (.live 0 (ucells v.list))) (hr : T[r]? = some (.live 0 (ucells (plusN w v j)))) (hf : PlF f q3 q6 r j) :
    Post (evC oBlock k r02_block_l4 f T) fun e f' T' => e = .normal ∧ PlF f' q3 q6 r (j + 1) ∧ T' = T.set r (.live 0 (ucells (plusN w v (j + 1)))) := by
  obtain ⟨x, y, p1, p2, p3, p4⟩ := plusN_succ w v hj
  have hl := plusN_len w v (j := j) (by omega)
  have hlss : binA .lss (.int .i64 (j : Int)) (.int .i64 8) = some (.bool true) := lss_t (by omega)
  have hadd : binA .add (.int .i64 (j : Int)) (.int .i64 1) = some (.int .i64 ((j + 1 : Nat) : Int)) := add_is (by omega) (by omega) (by omega)
  have ia : ∀ r, iaddrAA 1 8 (.ptr r 0 0) (.int .i64 (j : Int)) = some (.ptr r 0 j) := fun r => by rw [iaA (by omega) (by omega)]; simp
  have la : loadA none (.ptr r 0 j) T = some (u32 x) := by rw [load_c hr]; exact ucells_get p3
  have lb : loadA none (.ptr q3 0 j) T = some (u32 y) := by rw [load_c h3]; exact ucells_get p2
  have hxy := add_u32 x y
  have hst : storeA 1 (.ptr r 0 j) (u32 (x + y)) T = some (T.set r (.live 0 (ucells (plusN w v (j + 1))))) := by
    simp only [storeA, cells_u32, hr, ucells_set _ _ _ (show j < (plusN w v j).length by omega), p4]
    rw [if_pos ⟨by trivial, rfl, by rw [ucells_len]; omega⟩]
  obtain ⟨s3, s6, s11, s17⟩ := hf
  suffices hmid : Post (evC oBlock k r02_block_l4 f T) (fun e' f' T' => e' = .normal ∧ T' = T.set r (.live 0 (ucells (plusN w v (j + 1)))) ∧ f'.get 3 = .ptr q3 0 0 ∧ f'.get 6 = .ptr q6 0 0 ∧ f'.get 11 = .ptr r 0 0 ∧ f'.get 17 = .int .i64 ((j + 1 : Nat) : Int)) by
    refine hmid.mono ?_
    rintro e' f' T' ⟨h1, h0, k3, k6, k11, k17⟩
    exact ⟨h1, ⟨k3, k6, k11, k17⟩, h0⟩
  generalize T.set r (.live 0 (ucells (plusN w v (j + 1)))) = T1 at *
  generalize ((j + 1 : Nat) : Int) = jj1 at *
  generalize (j : Int) = jj at *
  simp [r02_block_l4, exM, orc, orcD, evF, evC, evOps, evOper, evAny, evOp, evCall, putR, putA, Fr.ev, Fr.of, Fr.get, Fr.set, stable, junkA, junkL, resultsA, resA, same, oBlock, Fr.get_set, s3, s6, s11, s17, hlss, hadd, ia, la, lb, hxy, hst, Post_some]

theorem ref_pluses {f : Fr} {T : St} {q3 q6 r : Nat} {v w : V8} (hne : q3 ≠ r) (h3 : T[q3]? = some (.live 0 (ucells v.list))) (hr : T[r]? = some (.live 0 (ucells w.list))) (hf : PlF f q3 q6 r 0) :
    Post (evC oBlock 1000 r02_block_s5 f T) fun e f' T' => e = .normal ∧ f'.get 6 = .ptr q6 0 0 ∧ f'.get 11 = .ptr r 0 0 ∧ T'[r]? = some (.live 0 (ucells (v.plus w).list)) ∧ Keeps T T' [r] := by
  have h8 : plusN w v 8 = (v.plus w).list := by
    have : plusN w v 8 = (w.plus v).list := rfl
    rw [this]
    simp only [V8.plus, V8.list, UInt32.add_comm]
  obtain ⟨f', T', h1, h2⟩ := loop_post (O := oBlock) (k := 1000) (id := 4) (b := r02_block_l4)
    (I := fun j f T' => PlF f q3 q6 r j ∧ T'[r]? = some (.live 0 (ucells (plusN w v j))) ∧ Keeps T T' [r])
    (Q := fun f' T' => f'.get 6 = .ptr q6 0 0 ∧ f'.get 11 = .ptr r 0 0 ∧ T'[r]? = some (.live 0 (ucells (v.plus w).list)) ∧ Keeps T T' [r]) 8 (by omega)
    (by
      rintro j hj f T1 ⟨g1, g2, g3⟩
      have hlt := get_lt' g2
      refine (ref_plus hj (g3.get h3 (by simpa using hne)) g2 g1).mono ?_
      rintro e f' T2 ⟨rfl, k1, rfl⟩
      exact ⟨rfl, k1, by rw [List.getElem?_set_self hlt], g3.trans (Keeps.set ..) (fun q hq => .inl hq)⟩)
    (by
      rintro f T1 ⟨⟨s3, s6, s11, s17⟩, g2, g3⟩
      rw [h8] at g2
      have s17' : f.get 17 = .int .i64 8 := s17
      have hlss : binA .lss (.int .i64 8) (.int .i64 8) = some (.bool false) := rfl
      simp [r02_block_l4, exM, orc, orcD, evF, evC, evOps, evOper, evAny, evOp, evCall, putR, putA, Fr.ev, Fr.of, Fr.get, Fr.set, stable, junkA, junkL, resultsA, resA, same, oBlock, Fr.get_set, s3, s6, s11, s17', hlss, Post_some]
      exact ⟨g2, g3⟩)
    (f := f) (S := T) ⟨hf, hr, Keeps.refl T _⟩
  rw [show r02_block_s5 = .block 4 (.loop r02_block_l4) from rfl, h1]
  exact Post.of rfl ⟨rfl, h2⟩

noncomputable def mBlock : Model := tellM 2 (exM oBlock r02_block 1000)

theorem part8 {l : List UInt32} (hl : l.length = 8) : partA (some 8) 0 (ucells l) = some (.agg (ucells l)) := by
  simp only [partA]
  rw [if_pos (by rw [ucells_len]; omega), List.drop_zero, List.take_of_length_le (by rw [ucells_len]; omega)]
theorem store8 {S : St} {q : Nat} {z : List AVal} {l : List UInt32} (hz : z.length = 8) (hl : l.length = 8) (hq : S[q]? = some (.live 0 z)) : storeA 8 (.ptr q 0 0) (.agg (ucells l)) S = some (S.set q (.live 0 (ucells l))) := by
  have hsp : splice z 0 (ucells l) = ucells l := by simp [splice, ucells_len, hz, hl]
  simp only [storeA, cells_agg, hq, hsp]
  rw [if_pos ⟨by trivial, by rw [ucells_len]; omega, by omega⟩]
theorem load8 {S : St} {q : Nat} {l : List UInt32} (hl : l.length = 8) (hq : S[q]? = some (.live 0 (ucells l))) : loadA (some 8) (.ptr q 0 0) S = some (.agg (ucells l)) := by
  simp only [loadA, hq, part8 hl]
  rw [if_pos (by trivial)]

theorem block_ok {S : St} {x : AVal} {v : V8} {b : List UInt8} (hb : b.length = 64) (hx : Rd S x b) : mBlock [.agg (ucells v.list), x, .fz false 64 (ucells steps)] S = some (.agg (ucells (takeS v b).list), S) := by
  suffices hs : Post (evC oBlock 1000 r02_block.body (Fr.of [.agg (ucells v.list), x, .fz false 64 (ucells steps)]) S) (fun e f T => (e = .normal ∨ e = .ret) ∧ resultsA f T r02_block.results = some (.agg (ucells (takeS v b).list)) ∧ Keeps S T []) by
    obtain ⟨e, f, T, g1, g2, g3, g4⟩ := hs.ex
    refine tellM_keeps (evF_post rfl rfl (Post.of g1 ⟨g2, g3, rfl⟩)) g4 ?_
    rw [deep_agg, flats_deep _ _ _ (flat_ucells _)]; rfl
  obtain ⟨w, hw⟩ : ∃ w, loadS b 64 = w := ⟨_, rfl⟩
  have hwl : w.length = 16 := by rw [← hw]; exact loadS_len b 64
  have hz64 : List.replicate 64 (AVal.int .u32 0) = ucells (wnow w 0) := by
    simp only [wnow, List.take_zero, List.nil_append, Nat.sub_zero, ucells, List.map_replicate]
    rfl
  have hvl : v.list.length = 8 := rfl
  obtain ⟨Z, hZ⟩ : ∃ Z : List AVal, List.replicate 8 (AVal.int .u32 0) = Z := ⟨_, rfl⟩
  have hZl : Z.length = 8 := by rw [← hZ]; simp
  have hZ' := hZ
  simp only [List.replicate_succ, List.replicate_zero] at hZ'
  have hmk : ∀ T : St, mkA 1 4 [.int .u32 0] (.int .i64 64) (.int .i64 64) T = some (.sl T.length 0 0 64 1, T ++ [.live 0 (ucells (wnow w 0))]) := fun T => by
    rw [← hz64]; rfl
  obtain ⟨W0, hW0⟩ : ∃ W0, ucells (wnow w 0) = W0 := ⟨_, rfl⟩
  obtain ⟨V0, hV0⟩ : ∃ V0, ucells v.list = V0 := ⟨_, rfl⟩
  obtain ⟨S1, hS1⟩ : ∃ S1 : St, S ++ [.live 0 V0, .live 0 Z, .live 0 W0] = S1 := ⟨_, rfl⟩
  have hS1l : S1.length = S.length + 3 := by rw [← hS1]; simp
  have hk1 : Keeps S S1 [] := by rw [← hS1]; exact Keeps.append ..
  have h1v : S1[S.length]? = some (.live 0 (ucells v.list)) := by rw [← hS1, hV0]; simp
  have h1z : S1[S.length + 1]? = some (.live 0 Z) := by rw [← hS1]; simp
  have h1w : S1[S.length + 2]? = some (.live 0 (ucells (wnow w 0))) := by rw [← hS1, hW0]; simp
  simp only [r02_block, r02_block_t8, r02_block_t7, r02_block_t6, Post_seq]
  simp [exM, orc, orcD, evF, evC, evOps, evOper, evAny, evOp, evCall, putR, putA, Fr.ev, Fr.of, Fr.get, Fr.set, stable, junkA, junkL, resultsA, resA, same, cells_agg, hZ', hmk, hW0, hV0, hS1, Fr.get_set, Post_some]
  refine (l0_loop (x := x) (kk := .fz false 64 (ucells steps)) (q3 := S.length) (q6 := S.length + 1) (rw' := S.length + 2) hb hw (fun T' hT => hx.keep (hk1.after hT (by omega))) h1w ⟨rfl, rfl, rfl, rfl, rfl, rfl⟩).mono ?_
  rintro e f2 T2 ⟨rfl, d1, d2, d3⟩
  obtain ⟨s1, s2, s3, s6, s7, s8⟩ := d1
  have h2v : T2[S.length]? = some (.live 0 (ucells v.list)) := d3.get h1v (by simp)
  have h2z : T2[S.length + 1]? = some (.live 0 Z) := d3.get h1z (by simp)
  have hld := load8 hvl h2v
  have d3l := d3.1
  have hst3 : storeA 8 (.ptr T2.length 0 0) (.agg (ucells v.list)) (T2 ++ [.live 0 Z]) = some (T2 ++ [.live 0 (ucells v.list)]) := by
    rw [store8 hZl hvl (by simp)]; simp [List.set_append]
  simp [exM, orc, orcD, evF, evC, evOps, evOper, evAny, evOp, evCall, putR, putA, Fr.ev, Fr.of, Fr.get, Fr.set, stable, junkA, junkL, resultsA, resA, same, Fr.get_set, s3, hld, hZ', hst3, Post_some]
  have hkT : Keeps T2 (T2 ++ [.live 0 (ucells v.list)]) [] := Keeps.append ..
  refine (ref_rounds (q3 := S.length) (q6 := S.length + 1) (rw' := S.length + 2) (r := T2.length) (v := v) hwl (by omega) (hkT.get d2 (by simp)) (by simp) ⟨by simp [Fr.get_set, s2], by simp [Fr.get_set, s3], by simp [Fr.get_set, s6], by simp [Fr.get_set, s7], by simp [Fr.get_set], by simp [Fr.get_set]⟩).mono ?_
  rintro e f3 T3 ⟨rfl, e3, e6, e11, e4, e5⟩
  have h3v : T3[S.length]? = some (.live 0 (ucells v.list)) := e5.get (hkT.get h2v (by simp)) (by simp; omega)
  have h3z : T3[S.length + 1]? = some (.live 0 Z) := e5.get (hkT.get h2z (by simp)) (by simp; omega)
  simp [exM, orc, orcD, evF, evC, evOps, evOper, evAny, evOp, evCall, putR, putA, Fr.ev, Fr.of, Fr.get, Fr.set, stable, junkA, junkL, resultsA, resA, same, Fr.get_set, e3, e6, e11, Post_some]
  refine (ref_pluses (q3 := S.length) (q6 := S.length + 1) (r := T2.length) (v := v) (by omega) h3v e4 ⟨by simp [Fr.get_set, e3], by simp [Fr.get_set, e6], by simp [Fr.get_set, e11], by simp [Fr.get_set]⟩).mono ?_
  rintro e f4 T4 ⟨rfl, i6, i11, i4, i5⟩
  have htk : takeS v b = v.plus (vseq w v 64) := by rw [takeS, hw]
  rw [← htk] at i4
  have h4z : T4[S.length + 1]? = some (.live 0 Z) := i5.get h3z (by simp; omega)
  have hl8 : (takeS v b).list.length = 8 := rfl
  have hld4 := load8 hl8 i4
  have hst4 := store8 hZl hl8 h4z
  have hlt := get_lt' h4z
  have hld5 := load8 (S := T4.set (S.length + 1) (.live 0 (ucells (takeS v b).list))) (q := S.length + 1) hl8 (by simp [hlt])
  simp [exM, orc, orcD, evF, evC, evOps, evOper, evAny, evOp, evCall, putR, putA, Fr.ev, Fr.of, Fr.get, Fr.set, stable, junkA, junkL, resultsA, resA, same, Fr.get_set, i6, i11, hld4, hst4, hld5, Post_some]
  have hk3 : Keeps S T3 [] := ((hk1.after d3 (by omega)).after0 hkT).after e5 (by omega)
  have hk4 : Keeps S T4 [] := hk3.after i5 (by omega)
  exact hk4.after (Keeps.set ..) (by omega)
end Am.Sha
end

/- SHA-256, as the document has it: the sum. -/
section
namespace Am.Sha
open Am Go Am.Ir
set_option maxRecDepth 100000

noncomputable def oSum2 : Orc := orc [mStart, mSteps2, mPadded, mBlock]

theorem slc_blk {P : List UInt8} {j : Nat} (hj : (j + 1) * 64 ≤ P.length) : slcSA 1 (.fz false P.length (bcells P)) (some (.int .i64 ((64 * j : Nat) : Int))) (some (.int .i64 ((64 * j + 64 : Nat) : Int))) = some (.fz false 64 (bcells (blk P j))) := by
  simp only [slcSA]
  rw [bounds_lh (by omega) (by omega) (by omega)]
  simp only [Int.toNat_natCast, bcells_len, Nat.mul_one, if_true, Bool.false_and]
  rw [show 64 * j + 64 - 64 * j = 64 by omega, bcells_drop, bcells_take', blk, Nat.mul_comm j 64]

theorem blk_len {P : List UInt8} {j : Nat} (hj : (j + 1) * 64 ≤ P.length) : (blk P j).length = 64 := by
  simp [blk]; omega

theorem rd_fz (T : St) {n : Nat} {u : List UInt8} (hn : u.length = n) (b : Bool) : Rd T (.fz b n (bcells u)) u := by
  subst hn
  exact ⟨.inr (.inl ⟨_, _, _, rfl⟩), by simp [cellsOf, bcells_len]⟩

structure S2F (f : Fr) (q r : Nat) (P : List UInt8) (j : Nat) : Prop where
  s2 : f.get 2 = .ptr q 0 0
  s3 : f.get 3 = .ptr r 0 0
  s4 : f.get 4 = .fz false 64 (ucells steps)
  s5 : f.get 5 = .fz false P.length (bcells P)
  s6 : f.get 6 = .int .i64 ((64 * j : Nat) : Int)

theorem sum2_round {k : Nat} {f : Fr} {T : St} {q r j : Nat} {P : List UInt8} (hPl : P.length < 1000000000) (hj : (j + 1) * 64 ≤ P.length) (hr : T[r]? = some (.live 0 (ucells (stateN P j).list))) (hf : S2F f q r P j) :
    Post (evC oSum2 k r02_Sum_l0 f T) fun e f' T' => e = .normal ∧ S2F f' q r P (j + 1) ∧ T' = T.set r (.live 0 (ucells (stateN P (j + 1)).list)) := by
  have hl8 : ∀ v : V8, v.list.length = 8 := fun _ => rfl
  have hld := load8 (hl8 _) hr
  have hst := store8 (l := (stateN P (j + 1)).list) (by rw [ucells_len]; rfl) (hl8 _) hr
  have hsl := slc_blk hj
  have hbk := block_ok (S := T) (v := stateN P j) (blk_len hj) (rd_fz T (blk_len hj) false)
  have hlss : binA .lss (.int .i64 ((64 * j : Nat) : Int)) (.int .i64 (P.length : Int)) = some (.bool true) := lss_t (by omega)
  have hadd : binA .add (.int .i64 ((64 * j : Nat) : Int)) (.int .i64 64) = some (.int .i64 ((64 * j + 64 : Nat) : Int)) := add_is (by omega) (by omega) (by omega)
  have hlen : lenA .sl (.fz false P.length (bcells P)) = some (.int .i64 (P.length : Int)) := rfl
  obtain ⟨s2, s3, s4, s5, s6⟩ := hf
  have hbk' : mBlock [.agg (ucells (stateN P j).list), .fz false 64 (bcells (blk P j)), .fz false 64 (ucells steps)] T = some (.agg (ucells (stateN P (j + 1)).list), T) := hbk
  suffices hmid : Post (evC oSum2 k r02_Sum_l0 f T) (fun e' f' T' => e' = .normal ∧ T' = T.set r (.live 0 (ucells (stateN P (j + 1)).list)) ∧ f'.get 2 = .ptr q 0 0 ∧ f'.get 3 = .ptr r 0 0 ∧ f'.get 4 = .fz false 64 (ucells steps) ∧ f'.get 5 = .fz false P.length (bcells P) ∧ f'.get 6 = .int .i64 ((64 * j + 64 : Nat) : Int)) by
    refine hmid.mono ?_
    rintro e' f' T' ⟨h1, h0, k2, k3, k4, k5, k6⟩
    exact ⟨h1, ⟨k2, k3, k4, k5, by rw [k6, show 64 * (j + 1) = 64 * j + 64 by omega]⟩, h0⟩
  generalize AVal.fz false P.length (bcells P) = Pv at *
  generalize AVal.fz false 64 (bcells (blk P j)) = Bv at *
  generalize AVal.fz false 64 (ucells steps) = Kv at *
  generalize ((64 * j + 64 : Nat) : Int) = z1 at *
  generalize ((64 * j : Nat) : Int) = z0 at *
  generalize (P.length : Int) = z2 at *
  simp [r02_Sum_l0, exM, orc, orcD, evF, evC, evOps, evOper, evAny, evOp, evCall, putR, putA, Fr.ev, Fr.of, Fr.get, Fr.set, stable, junkA, junkL, resultsA, resA, same, oSum2, Fr.get_set, s2, s3, s4, s5, s6, hlss, hadd, hlen, hld, hsl, hbk', hst, Post_some]

theorem sum2_loop {f : Fr} {T : St} {q r n : Nat} {P : List UInt8} (hPl : P.length < 5000000) (hn : P.length = n * 64) (hr : T[r]? = some (.live 0 (ucells start8.list))) (hf : S2F f q r P 0) :
    Post (evC oSum2 100000 r02_Sum_s1 f T) fun e f' T' => e = .normal ∧ f'.get 2 = .ptr q 0 0 ∧ f'.get 3 = .ptr r 0 0 ∧ T'[r]? = some (.live 0 (ucells (stateN P n).list)) ∧ Keeps T T' [r] := by
  obtain ⟨f', T', h1, h2⟩ := loop_post (O := oSum2) (k := 100000) (id := 0) (b := r02_Sum_l0)
    (I := fun j f T' => S2F f q r P j ∧ T'[r]? = some (.live 0 (ucells (stateN P j).list)) ∧ Keeps T T' [r])
    (Q := fun f' T' => f'.get 2 = .ptr q 0 0 ∧ f'.get 3 = .ptr r 0 0 ∧ T'[r]? = some (.live 0 (ucells (stateN P n).list)) ∧ Keeps T T' [r]) n (by omega)
    (by
      rintro j hj f T1 ⟨g1, g2, g3⟩
      have hlt := get_lt' g2
      refine (sum2_round (by omega) (by omega) g2 g1).mono ?_
      rintro e f' T2 ⟨rfl, k1, rfl⟩
      exact ⟨rfl, k1, by rw [List.getElem?_set_self hlt], g3.trans (Keeps.set ..) (fun q hq => .inl hq)⟩)
    (by
      rintro f T1 ⟨⟨s2, s3, s4, s5, s6⟩, g2, g3⟩
      have hlen : lenA .sl (.fz false P.length (bcells P)) = some (.int .i64 (P.length : Int)) := rfl
      have hlss : binA .lss (.int .i64 ((64 * n : Nat) : Int)) (.int .i64 (P.length : Int)) = some (.bool false) := lss_f (by omega)
      generalize AVal.fz false P.length (bcells P) = Pv at *
      generalize ((64 * n : Nat) : Int) = z0 at *
      generalize (P.length : Int) = z2 at *
      simp [r02_Sum_l0, exM, orc, orcD, evF, evC, evOps, evOper, evAny, evOp, evCall, putR, putA, Fr.ev, Fr.of, Fr.get, Fr.set, stable, junkA, junkL, resultsA, resA, same, oSum2, Fr.get_set, s2, s3, s5, s6, hlen, hlss, Post_some]
      exact ⟨g2, g3⟩)
    (f := f) (S := T) ⟨hf, hr, Keeps.refl T _⟩
  rw [show r02_Sum_s1 = .block 0 (.loop r02_Sum_l0) from rfl, h1]
  exact Post.of rfl ⟨rfl, h2⟩

structure D2F (f : Fr) (q r o : Nat) (j : Nat) : Prop where
  s2 : f.get 2 = .ptr q 0 0
  s3 : f.get 3 = .ptr r 0 0
  s7 : f.get 7 = .ptr o 0 0
  s8 : f.get 8 = .int .i64 (j : Int)

theorem dig2_round {k : Nat} {f : Fr} {S : St} {q r o j : Nat} {v : V8} (hj : j < 32) (hr : S[r]? = some (.live 0 (ucells v.list))) (ho : S[o]? = some (.live 0 (bcells (digs v j)))) (hf : D2F f q r o j) :
    Post (evC oSum2 k r02_Sum_l2 f S) fun e f' T => e = .normal ∧ D2F f' q r o (j + 1) ∧ T = S.set o (.live 0 (bcells (digs v (j + 1)))) := by
  obtain ⟨s2, s3, s7, s8⟩ := hf
  have hlss : binA .lss (.int .i64 (j : Int)) (.int .i64 32) = some (.bool true) := lss_t (by omega)
  have hq : binA .quo (.int .i64 (j : Int)) (.int .i64 4) = some (.int .i64 ((j / 4 : Nat) : Int)) := by rw [quo_i (by omega) (by omega) (by omega)]; rfl
  have hr4 : binA .rem (.int .i64 (j : Int)) (.int .i64 4) = some (.int .i64 ((j % 4 : Nat) : Int)) := by rw [rem_i (by omega) (by omega)]; rfl
  have hm8 : binA .mul (.int .i64 8) (.int .i64 ((j % 4 : Nat) : Int)) = some (.int .i64 (8 * ((j % 4 : Nat) : Int))) := mul_i (by omega) (by omega)
  have hs8 : binA .sub (.int .i64 24) (.int .i64 (8 * ((j % 4 : Nat) : Int))) = some (.int .i64 (24 - 8 * ((j % 4 : Nat) : Int))) := sub_i (by omega) (by omega)
  have hcu : IntKind.u64.wrap (24 - 8 * ((j % 4 : Nat) : Int)) = 24 - 8 * ((j % 4 : Nat) : Int) := conv_u64 (by omega) (by omega)
  have hia : iaddrAA 1 8 (.ptr r 0 0) (.int .i64 ((j / 4 : Nat) : Int)) = some (.ptr r 0 (j / 4)) := by rw [iaA (by omega) (by omega), Int.toNat_natCast]; simp
  have hio : iaddrAA 1 32 (.ptr o 0 0) (.int .i64 (j : Int)) = some (.ptr o 0 j) := by rw [iaA (by omega) (by omega), Int.toNat_natCast]; simp
  have hvl : v.list.length = 8 := rfl
  have hld : loadA none (.ptr r 0 (j / 4)) S = some (u32 (v.list.getD (j / 4) 0)) := by
    rw [load_c hr]; exact ucells_get (by simp [List.getD, List.getElem?_eq_getElem (show j / 4 < v.list.length by omega)])
  have hsh0 := shr_dig (v.list.getD (j / 4) 0) (m := j % 4) (by omega)
  have hsh : binA .shr (u32 (v.list.getD (j / 4) 0)) (.int .u64 (24 - 8 * ((j % 4 : Nat) : Int))) = some (.int .u32 (((v.list.getD (j / 4) 0).toNat / 2 ^ (24 - 8 * (j % 4)) : Nat) : Int)) := hsh0
  have hcv := conv_dig (v.list.getD (j / 4) 0).toNat (24 - 8 * (j % 4))
  have had : binA .add (.int .i64 (j : Int)) (.int .i64 1) = some (.int .i64 ((j + 1 : Nat) : Int)) := add_is (by omega) (by omega) (by omega)
  have hdl := digs_len v (j := j) (by omega)
  have hst : storeA 1 (.ptr o 0 j) (.int .u8 ((dig v j).toNat : Int)) S = some (S.set o (.live 0 (bcells (digs v (j + 1))))) := by
    simp only [storeA, cells?, ho, bcells_set (digs v j) j (dig v j) (by omega), digs_set v hj]
    rw [if_pos ⟨by trivial, rfl, by rw [bcells_len]; omega⟩]
  have hcv' : IntKind.u8.wrap ((((v.list.getD (j / 4) 0).toNat / 2 ^ (24 - 8 * (j % 4)) : Nat) : Int)) = ((dig v j).toNat : Int) := hcv
  generalize (((v.list.getD (j / 4) 0).toNat / 2 ^ (24 - 8 * (j % 4)) : Nat) : Int) = w at *
  generalize u32 (v.list.getD (j / 4) 0) = xx at *
  generalize (24 - 8 * ((j % 4 : Nat) : Int)) = sh at *
  generalize ((j / 4 : Nat) : Int) = jq at *
  generalize ((j % 4 : Nat) : Int) = jr at *
  generalize S.set o (.live 0 (bcells (digs v (j + 1)))) = T at *
  suffices hmid : Post (evC oSum2 k r02_Sum_l2 f S) (fun e f' T' => e = .normal ∧ T' = T ∧ f'.get 2 = .ptr q 0 0 ∧ f'.get 3 = .ptr r 0 0 ∧ f'.get 7 = .ptr o 0 0 ∧ f'.get 8 = .int .i64 ((j + 1 : Nat) : Int)) by
    refine hmid.mono ?_
    rintro e f' T' ⟨h1, h0, h2, h3, h4, h5⟩
    exact ⟨h1, ⟨h2, h3, h4, h5⟩, h0⟩
  generalize ((j + 1 : Nat) : Int) = jj1 at *
  generalize (j : Int) = jj at *
  simp [r02_Sum_l2, exM, orc, orcD, evF, evC, evOps, evOper, evAny, evOp, evCall, putR, putA, Fr.ev, Fr.of, Fr.get, Fr.set, stable, junkA, junkL, resultsA, resA, same, oSum2, Fr.get_set, s2, s3, s7, s8, hlss, hq, hr4, hm8, hs8, hcu, hia, hio, hld, hsh, hcv', had, hst, Post_some]

theorem dig2_loop {f : Fr} {S : St} {q r o : Nat} {v : V8} (hne : o ≠ r) (hr : S[r]? = some (.live 0 (ucells v.list))) (ho : S[o]? = some (.live 0 (bcells (digs v 0)))) (hf : D2F f q r o 0) :
    Post (evC oSum2 100000 r02_Sum_s3 f S) fun e f' T => e = .normal ∧ f'.get 2 = .ptr q 0 0 ∧ f'.get 7 = .ptr o 0 0 ∧ T[o]? = some (.live 0 (bcells (digest v))) ∧ Keeps S T [o] := by
  obtain ⟨f', T, h1, h2⟩ := loop_post (O := oSum2) (k := 100000) (id := 2) (b := r02_Sum_l2)
    (I := fun j f T => D2F f q r o j ∧ T[o]? = some (.live 0 (bcells (digs v j))) ∧ Keeps S T [o])
    (Q := fun f T => f.get 2 = .ptr q 0 0 ∧ f.get 7 = .ptr o 0 0 ∧ T[o]? = some (.live 0 (bcells (digest v))) ∧ Keeps S T [o]) 32 (by omega)
    (by
      rintro j hj f T ⟨g1, g2, g3⟩
      refine (dig2_round hj (g3.get hr (by simpa using hne.symm)) g2 g1).mono ?_
      rintro e f' T' ⟨rfl, k1, rfl⟩
      have hlt := get_lt' g2
      exact ⟨rfl, k1, by rw [List.getElem?_set_self hlt], g3.trans (Keeps.set ..) (fun q hq => .inl hq)⟩)
    (by
      rintro f T ⟨⟨s2, s3, s7, s8⟩, g2, g3⟩
      rw [digs_end] at g2
      have s8' : f.get 8 = .int .i64 32 := s8
      have hlss : binA .lss (.int .i64 32) (.int .i64 32) = some (.bool false) := rfl
      simp [r02_Sum_l2, exM, orc, orcD, evF, evC, evOps, evOper, evAny, evOp, evCall, putR, putA, Fr.ev, Fr.of, Fr.get, Fr.set, stable, junkA, junkL, resultsA, resA, same, oSum2, Fr.get_set, s2, s3, s7, s8', hlss, Post_some]
      exact ⟨g2, g3⟩)
    (f := f) (S := S) ⟨hf, ho, Keeps.refl S _⟩
  rw [show r02_Sum_s3 = .block 2 (.loop r02_Sum_l2) from rfl, h1]
  exact Post.of rfl ⟨rfl, h2⟩

noncomputable def mSum2 : Model := tellM 2 (exM oSum2 r02_Sum 100000)

theorem load32' {S : St} {q : Nat} {u : List UInt8} (hu : u.length = 32) (hq : S[q]? = some (.live 0 (bcells u))) : loadA (some 32) (.ptr q 0 0) S = some (.agg (bcells u)) := by
  simp only [loadA, hq, part32 hu]
  rw [if_pos (by trivial)]

theorem sum2_ok {S : St} {x : AVal} {u : List UInt8} (hx : Rd S x u) (hl : u.length < 1000000) : mSum2 [x] S = some (.agg (bcells (sha u)), S) := by
  suffices hs : Post (evC oSum2 100000 r02_Sum.body (Fr.of [x]) S) (fun e f T => (e = .normal ∨ e = .ret) ∧ resultsA f T r02_Sum.results = some (.agg (bcells (sha u))) ∧ Keeps S T []) by
    obtain ⟨e, f, T, g1, g2, g3, g4⟩ := hs.ex
    exact tellM_keeps (evF_post rfl rfl (Post.of g1 ⟨g2, g3, rfl⟩)) g4 (deep_agg_bytes ..)
  obtain ⟨Z, hZ⟩ : ∃ Z : List AVal, List.replicate 32 (AVal.int .u8 0) = Z := ⟨_, rfl⟩
  have hZl : Z.length = 32 := by rw [← hZ]; simp
  have hZ' := hZ
  simp only [List.replicate_succ, List.replicate_zero] at hZ'
  obtain ⟨P, hP⟩ : ∃ P, pad u = P := ⟨_, rfl⟩
  have hpl : P.length < 2000000 := by
    rw [← hP]; simp only [pad, List.length_append, List.length_replicate, bes, List.length_map, List.length_range, List.length_singleton, noughts]; omega
  have hp64 := pad_len u
  rw [hP] at hp64
  obtain ⟨S1, hS1⟩ : ∃ S1 : St, S ++ [.live 0 Z, .live 0 (ucells start)] = S1 := ⟨_, rfl⟩
  have hk1 : Keeps S S1 [] := by rw [← hS1]; exact Keeps.append ..
  have hS1l : S1.length = S.length + 2 := by rw [← hS1]; simp
  have hpd := padded_ok (hx.keep hk1) (by omega)
  rw [hP] at hpd
  have h1z : S1[S.length]? = some (.live 0 Z) := by rw [← hS1]; simp
  have h1h : S1[S.length + 1]? = some (.live 0 (ucells start8.list)) := by rw [← hS1]; simp; rfl
  have hst1 : ∀ y : List AVal, y.length = 8 → storeA 8 (.ptr (S.length + 1) 0 0) (.agg (ucells start)) (S ++ [.live 0 Z, .live 0 y]) = some S1 := fun y hy => by
    rw [store8 hy rfl (by simp)]; simp [List.set_append, ← hS1]
  simp only [r02_Sum, r02_Sum_t5, r02_Sum_t4, Post_seq]
  generalize hus : ucells start = us at *
  simp [exM, orc, orcD, evF, evC, evOps, evOper, evAny, evOp, evCall, putR, putA, Fr.ev, Fr.of, Fr.get, Fr.set, stable, junkA, junkL, resultsA, resA, same, oSum2, hZ', start_ok, hus, hst1, steps2_ok, hpd, Fr.get_set, Post_some]
  refine (sum2_loop (q := S.length) (r := S.length + 1) (n := P.length / 64) (by omega) (by omega) h1h ⟨rfl, rfl, rfl, rfl, rfl⟩).mono ?_
  rintro e f2 T2 ⟨rfl, d2, d3, d4, d5⟩
  have h2z : T2[S.length]? = some (.live 0 Z) := d5.get h1z (by simp)
  have hk2 : Keeps S T2 [] := hk1.after d5 (by omega)
  have hst2 : storeA 32 (.ptr T2.length 0 0) (.agg Z) (T2 ++ [.live 0 Z]) = some (T2 ++ [.live 0 Z]) := by
    have hsp : splice Z 0 Z = Z := by simp [splice]
    simp [storeA, cells_agg, hZl, hsp]
  have hfill : fillA Z [] = some Z := rfl
  simp [exM, orc, orcD, evF, evC, evOps, evOper, evAny, evOp, evCall, putR, putA, Fr.ev, Fr.of, Fr.get, Fr.set, stable, junkA, junkL, resultsA, resA, same, Fr.get_set, hZ', hfill, hst2, Post_some]
  have hkz : Keeps T2 (T2 ++ [.live 0 Z]) [] := Keeps.append ..
  have hsha : digest (stateN P (P.length / 64)) = sha u := by rw [sha, shaN, hP]
  refine (dig2_loop (q := S.length) (r := S.length + 1) (o := T2.length) (v := stateN P (P.length / 64)) (by have := get_lt' d4; omega) (hkz.get d4 (by simp)) (by rw [← zero32, hZ]; simp) ⟨by simp [Fr.get_set, d2], by simp [Fr.get_set, d3], by simp [Fr.get_set], by simp [Fr.get_set]⟩).mono ?_
  rintro e f4 T4 ⟨rfl, j2, j7, j8, j9⟩
  rw [hsha] at j8
  have hlt2 := get_lt' h2z
  have h4z : T4[S.length]? = some (.live 0 Z) := j9.get (hkz.get h2z (by simp)) (by simp; omega)
  have hld := load32' (sha_len u) j8
  have hst := store32 hZl (sha_len u) h4z
  have hld2 := load32 (sha_len u) (get_lt' h4z)
  simp [exM, orc, orcD, evF, evC, evOps, evOper, evAny, evOp, evCall, putR, putA, Fr.ev, Fr.of, Fr.get, Fr.set, stable, junkA, junkL, resultsA, resA, same, Fr.get_set, j2, j7, hld, hst, hld2, Post_some]
  exact ((hk2.after0 hkz).after j9 (by have := hk2.1; omega)).after (Keeps.set ..) (Nat.le_refl _)
end Am.Sha
end

