import Derived.Test.YtffhiphcmohjdaaGreatDoorAmSha7
import Derived.Test.YtffhiphcmohjdaaGreatDoorAmAr
import Derived.KernelRfl
set_option linter.all false
/- SHA-256: a part is written, round by round. -/
section
namespace Am.Sha
open Am Go Am.Ir
set_option maxRecDepth 100000

theorem laid_take {b u : List UInt8} {o : Nat} (ho : o ≤ b.length) : (laid b o u).take (o + u.length) = b.take o ++ u := by
  simp only [laid]
  rw [List.take_append_of_le_length (by simp; omega), List.take_of_length_le (by simp; omega)]

theorem part_low {M b u : List UInt8} (hb : b.length = 64) (ht : b.take (M.length % 64) = M.drop (M.length / 64 * 64)) (hlt : M.length % 64 + u.length < 64) :
    (M ++ u).length / 64 = M.length / 64 ∧ (M ++ u).length % 64 = M.length % 64 + u.length ∧ (laid b (M.length % 64) u).take ((M ++ u).length % 64) = (M ++ u).drop ((M ++ u).length / 64 * 64) ∧
    stateN (M ++ u) ((M ++ u).length / 64) = stateN M (M.length / 64) := by
  have h1 : (M ++ u).length / 64 = M.length / 64 := by rw [List.length_append]; omega
  have h2 : (M ++ u).length % 64 = M.length % 64 + u.length := by rw [List.length_append]; omega
  refine ⟨h1, h2, ?_, ?_⟩
  · rw [h1, h2, laid_take (by omega), ht, List.drop_append_of_le_length (by omega)]
  · rw [h1, stateN_append (by omega)]

theorem part_full {M b u : List UInt8} (hb : b.length = 64) (ht : b.take (M.length % 64) = M.drop (M.length / 64 * 64)) (he : M.length % 64 + u.length = 64) :
    (M ++ u).length / 64 = M.length / 64 + 1 ∧ (M ++ u).length % 64 = 0 ∧ (M ++ u).drop ((M ++ u).length / 64 * 64) = [] ∧
    stateN (M ++ u) ((M ++ u).length / 64) = takeS (stateN M (M.length / 64)) (laid b (M.length % 64) u) := by
  have h1 : (M ++ u).length / 64 = M.length / 64 + 1 := by rw [List.length_append]; omega
  have h2 : (M ++ u).length % 64 = 0 := by rw [List.length_append]; omega
  refine ⟨h1, h2, ?_, ?_⟩
  · rw [h1]; apply List.drop_of_length_le; rw [List.length_append]; omega
  · rw [h1, stateN, stateN_append (by omega)]
    congr 1
    have hl := laid_take (b := b) (u := u) (o := M.length % 64) (by omega)
    rw [he, List.take_of_length_le (by rw [laid_len (by omega)]; omega)] at hl
    rw [hl, ht, blk, List.drop_append_of_le_length (by omega), List.take_of_length_le (by simp; omega)]

/-- The slots of Write's loop. -/
structure WrF (f : Fr) (r : Nat) (x : AVal) : Prop where
  s0 : f.get 0 = .ptr r 0 0
  s1 : f.get 1 = x

theorem hcells_heldget (v : V8) {b : List UInt8} (hb : b.length = 64) (held : Int) (L : UInt64) : (hcells v b held L)[72]? = some (.int .i64 held) := by
  have h8 : (ucells v.list).length = 8 := rfl
  simp only [hcells]
  rw [List.getElem?_append_right (by omega), h8, List.getElem?_append_right (by rw [bcells_len]; omega), bcells_len, hb]; rfl

theorem hcells_longget (v : V8) {b : List UInt8} (hb : b.length = 64) (held : Int) (L : UInt64) : (hcells v b held L)[73]? = some (.int .u64 (L.toNat : Int)) := by
  have h8 : (ucells v.list).length = 8 := rfl
  simp only [hcells]
  rw [List.getElem?_append_right (by omega), h8, List.getElem?_append_right (by rw [bcells_len]; omega), bcells_len, hb]; rfl

theorem hcells_long (v : V8) {b : List UInt8} (hb : b.length = 64) (held : Int) (L L' : UInt64) : splice (hcells v b held L) 73 [.int .u64 (L'.toNat : Int)] = hcells v b held L' := by
  have h8 : (ucells v.list).length = 8 := rfl
  have e : ∀ L : UInt64, hcells v b held L = (ucells v.list ++ bcells b ++ [.int .i64 held]) ++ [.int .u64 (L.toNat : Int)] := fun h => by simp [hcells]
  have h72 : (ucells v.list ++ bcells b ++ [AVal.int .i64 held]).length = 73 := by rw [List.length_append, List.length_append, h8, bcells_len, hb]; rfl
  rw [e, e, splice, ← h72, List.take_left, List.length_singleton, List.drop_length_add_append]
  simp

theorem write_round {k : Nat} {f : Fr} {S : St} {r : Nat} {M u : List UInt8} {L : UInt64} {x : AVal} (hu : u ≠ []) (hul : u.length ≤ 1000000000000) (hh : HashI S r M L) (hx : RdX S r x u) (hf : WrF f r x) :
    Post (evC oWrite k sha_Hash_Write_l0 f S) fun e f' T => e = .normal ∧ ∃ n x', 0 < n ∧ n ≤ u.length ∧ HashI T r (M ++ u.take n) L ∧ RdX T r x' (u.drop n) ∧ WrF f' r x' ∧ Keeps S T [r] := by
  obtain ⟨b, hb, hr, ht⟩ := hh.ex
  have hpos : 0 < u.length := List.length_pos_iff.2 hu
  have hm : M.length % 64 < 64 := Nat.mod_lt _ (by omega)
  obtain ⟨m, hmm⟩ : ∃ m, M.length % 64 = m := ⟨_, rfl⟩
  obtain ⟨v, hv⟩ : ∃ v, stateN M (M.length / 64) = v := ⟨_, rfl⟩
  rw [hmm, hv] at hr
  rw [hmm] at hm
  obtain ⟨n, hn⟩ : ∃ n, min u.length (64 - m) = n := ⟨_, rfl⟩
  have hn1 : 0 < n ∧ n ≤ u.length ∧ m + n ≤ 64 := by omega
  have hlen := hx.rd.len
  have hxs : ∀ {T : St}, Keeps S T [r] → cellsOf 1 x T = some (u.length, bcells u) := fun hk => (hx _ hk).cells
  have hsl := block_slice hb (by omega) hr
  have hld := laid_len (b := b) (u := u.take n) (o := m) (by rw [List.length_take]; omega)
  have hrl := get_lt' hr
  have hcl := hcells_len v b (m : Int) L
  -- the copy
  have hT1 : copyA 1 (.sl r 0 (8 + m) (64 - m) 1) x S = some (.int .i64 (n : Int), S.set r (.live 0 (hcells v (laid b m (u.take n)) (m : Int) L))) := by
    have hsp : splice (hcells v b (m : Int) L) (8 + m) (bcells (u.take n)) = hcells v (laid b m (u.take n)) (m : Int) L := hcells_laid v hb (by rw [List.length_take]; omega) _ _
    simp only [copyA, hxs (Keeps.refl S _), hr]
    rw [if_pos ⟨by trivial, by trivial, by omega⟩, Nat.mul_one, hn, bcells_take', hsp]
  obtain ⟨S1, hS1⟩ : ∃ S1 : St, S.set r (.live 0 (hcells v (laid b m (u.take n)) (m : Int) L)) = S1 := ⟨_, rfl⟩
  rw [hS1] at hT1
  have h1r : S1[r]? = some (.live 0 (hcells v (laid b m (u.take n)) (m : Int) L)) := by rw [← hS1]; simp [hrl]
  have hk1 : Keeps S S1 [r] := by rw [← hS1]; exact Keeps.set ..
  have hb1 : (laid b m (u.take n)).length = 64 := by omega
  -- held
  obtain ⟨S2, hS2⟩ : ∃ S2 : St, S1.set r (.live 0 (hcells v (laid b m (u.take n)) ((m + n : Nat) : Int) L)) = S2 := ⟨_, rfl⟩
  have h1l := get_lt' h1r
  have h2r : S2[r]? = some (.live 0 (hcells v (laid b m (u.take n)) ((m + n : Nat) : Int) L)) := by rw [← hS2]; simp [h1l]
  have hk2 : Keeps S S2 [r] := hk1.trans (by rw [← hS2]; exact Keeps.set ..) (fun q hq => .inl hq)
  have hst : storeA 1 (.ptr r 0 72) (.int .i64 ((m : Int) + (n : Int))) S1 = some S2 := by
    have hhe := hcells_held v hb1 (m : Int) ((m + n : Nat) : Int) L
    have hc1 := hcells_len v (laid b m (u.take n)) (m : Int) L
    have e : ((m : Int) + (n : Int)) = ((m + n : Nat) : Int) := by omega
    rw [e]
    simp only [storeA, cells?, h1r, hhe]
    rw [if_pos ⟨by trivial, rfl, by omega⟩, hS2]
  have g0 := hcells_heldget v hb (m : Int) L
  have g1 := hcells_heldget v hb1 (m : Int) L
  have g2 := hcells_heldget v hb1 ((m + n : Nat) : Int) L
  obtain ⟨x', hx1, _⟩ := hx.rd.from hn1.2.1
  have hx2 : RdX S r x' (u.drop n) := fun T hk => by
    obtain ⟨x2, e1, e2⟩ := (hx T hk).from hn1.2.1
    rw [hx1] at e1; cases e1; exact e2
  have hutl : (u.take n).length = n := by rw [List.length_take]; omega
  obtain ⟨s0, s1⟩ := hf
  by_cases hfull : m + n = 64
  · obtain ⟨T, t1, t2, t3⟩ := take_ok hb1 h2r
    obtain ⟨p1, p2, p3, p4⟩ := part_full (u := u.take n) hb ht (by rw [hmm, hutl]; exact hfull)
    rw [hmm, hv] at p4
    have hk3 : Keeps S T [r] := hk2.trans t3 (fun q hq => .inl hq)
    suffices hmid : Post (evC oWrite k sha_Hash_Write_l0 f S) (fun e f' T' => e = .normal ∧ T' = T ∧ f'.get 0 = .ptr r 0 0 ∧ f'.get 1 = x') by
      refine hmid.mono ?_
      rintro e f' T' ⟨h1, rfl, h3, h4⟩
      refine ⟨h1, n, x', hn1.1, hn1.2.1, ⟨laid b m (u.take n), hb1, ?_, ?_⟩, hx2.keep hk3, ⟨h3, h4⟩, hk3⟩
      · rw [p4, p2]; exact t2
      · rw [p2, p3]; rfl
    have hf2 : ((m : Int) + (n : Int)) = 64 := by omega
    have hf3 : ((m + n : Nat) : Int) = 64 := by omega
    rw [hf2] at hst
    have ha : binA .add (.int .i64 (m : Int)) (.int .i64 (n : Int)) = some (.int .i64 64) := by rw [add_i (by omega) (by omega), hf2]
    have hq : binA .eql (.int .i64 64) (.int .i64 64) = some (.bool true) := rfl
    have hgt : binA .gtr (.int .i64 (u.length : Int)) (.int .i64 0) = some (.bool true) := gtr_t (by omega)
    have l0 := load_c (o := 72) hr
    have l1 := load_c (o := 72) h1r
    have l2 := load_c (o := 72) h2r
    rw [g0] at l0; rw [g1] at l1; rw [g2, hf3] at l2
    simp [sha_Hash_Write_l0, exM, orc, orcD, evF, evC, evOps, evOper, evAny, evOp, evCall, putR, putA, Fr.ev, Fr.of, Fr.get, Fr.set, stable, junkA, junkL, resultsA, resA, same, oWrite, Fr.get_set, s0, s1, hlen, hgt, faddrA, hsl, hT1, l0, l1, l2, ha, hst, hx1, hq, t1, Post_some]
  · obtain ⟨p1, p2, p3, p4⟩ := part_low (u := u.take n) hb ht (by rw [hmm, hutl]; omega)
    rw [hv] at p4
    suffices hmid : Post (evC oWrite k sha_Hash_Write_l0 f S) (fun e f' T' => e = .normal ∧ T' = S2 ∧ f'.get 0 = .ptr r 0 0 ∧ f'.get 1 = x') by
      refine hmid.mono ?_
      rintro e f' T' ⟨h1, rfl, h3, h4⟩
      refine ⟨h1, n, x', hn1.1, hn1.2.1, ⟨laid b m (u.take n), hb1, ?_, ?_⟩, hx2.keep hk2, ⟨h3, h4⟩, hk2⟩
      · rw [p4, p2, hmm, hutl]; exact h2r
      · rw [hmm] at p3; exact p3
    have ha : binA .add (.int .i64 (m : Int)) (.int .i64 (n : Int)) = some (.int .i64 ((m : Int) + (n : Int))) := add_i (by omega) (by omega)
    have hq : binA .eql (.int .i64 ((m + n : Nat) : Int)) (.int .i64 64) = some (.bool false) := eql_f (by omega)
    have hgt : binA .gtr (.int .i64 (u.length : Int)) (.int .i64 0) = some (.bool true) := gtr_t (by omega)
    have l0 := load_c (o := 72) hr
    have l1 := load_c (o := 72) h1r
    have l2 := load_c (o := 72) h2r
    rw [g0] at l0; rw [g1] at l1; rw [g2] at l2
    generalize ((m + n : Nat) : Int) = z at *
    simp [sha_Hash_Write_l0, exM, orc, orcD, evF, evC, evOps, evOper, evAny, evOp, evCall, putR, putA, Fr.ev, Fr.of, Fr.get, Fr.set, stable, junkA, junkL, resultsA, resA, same, oWrite, Fr.get_set, s0, s1, hlen, hgt, faddrA, hsl, hT1, l0, l1, l2, ha, hst, hx1, hq, Post_some]

theorem write_loop {f : Fr} {S : St} {r : Nat} {M u : List UInt8} {L : UInt64} {x : AVal} (hul : u.length < 100000) (hh : HashI S r M L) (hx : RdX S r x u) (hf : WrF f r x) :
    Post (evC oWrite 100000 sha_Hash_Write_s1 f S) fun e f' T => e = .normal ∧ HashI T r (M ++ u) L ∧ Keeps S T [r] ∧ f'.get 0 = .ptr r 0 0 := by
  have key := iter_post (step := evC oWrite 100000 sha_Hash_Write_l0) (fuel := 100000)
    (I := fun j f T => ∃ i x', j ≤ i ∧ i ≤ u.length ∧ HashI T r (M ++ u.take i) L ∧ RdX T r x' (u.drop i) ∧ WrF f r x' ∧ Keeps S T [r])
    (Q := fun e f T => e = .exit 0 ∧ HashI T r (M ++ u) L ∧ Keeps S T [r] ∧ f.get 0 = .ptr r 0 0) u.length
    (fun j hj f T ⟨i, x', hij, hiu, h1, h2, h3, h4⟩ => by
      by_cases he : i = u.length
      · subst he
        rw [List.take_length] at h1
        have hlen := h2.rd.len
        rw [List.drop_length] at hlen
        obtain ⟨s0, s1⟩ := h3
        simp [sha_Hash_Write_l0, exM, orc, orcD, evF, evC, evOps, evOper, evAny, evOp, evCall, putR, putA, Fr.ev, Fr.of, Fr.get, Fr.set, stable, junkA, junkL, resultsA, resA, same, oWrite, Fr.get_set, s0, s1, hlen, binA, intBin, Post_some]
        exact ⟨h1, h4⟩
      · refine (write_round (by simp; omega) (by simp; omega) h1 h2 h3).mono ?_
        rintro e f' T' ⟨rfl, n, x2, hn1, hn2, k1, k2, k3, k4⟩
        refine .inl ⟨rfl, i + n, x2, by omega, by simp at hn2; omega, ?_, ?_, k3, h4.trans k4 (fun q hq => .inl hq)⟩
        · rw [List.append_assoc, List.take_add] at *; exact k1
        · rw [List.drop_drop] at k2; exact k2)
    (fun f T ⟨i, x', hij, hiu, h1, h2, h3, h4⟩ => by
      have he : i = u.length := by omega
      subst he
      rw [List.take_length] at h1
      have hlen := h2.rd.len
      rw [List.drop_length] at hlen
      obtain ⟨s0, s1⟩ := h3
      simp [sha_Hash_Write_l0, exM, orc, orcD, evF, evC, evOps, evOper, evAny, evOp, evCall, putR, putA, Fr.ev, Fr.of, Fr.get, Fr.set, stable, junkA, junkL, resultsA, resA, same, oWrite, Fr.get_set, s0, s1, hlen, binA, intBin, Post_some]
      exact ⟨h1, h4⟩)
    hul (f := f) (S := S) ⟨0, x, by omega, by omega, by simpa using hh, by simpa using hx, hf, Keeps.refl S _⟩
  obtain ⟨e, f', T, k1, _, rfl, k2⟩ := key
  rw [show sha_Hash_Write_s1 = .block 0 (.loop sha_Hash_Write_l0) from rfl]
  refine Post.block (Post.of (by simpa only [evC] using k1) ?_)
  simpa using k2

noncomputable def xWrite : Model := exM oWrite sha_Hash_Write 100000

theorem add_u64n (L : UInt64) (n : Nat) : binA .add (.int .u64 (L.toNat : Int)) (.int .u64 (n : Int)) = some (.int .u64 ((L + UInt64.ofNat n).toNat : Int)) := by
  simp only [binA, intBin]
  rw [if_neg (by simp), if_pos trivial]
  have h : IntKind.u64.wrap ((L.toNat : Int) + (n : Int)) = ((L + UInt64.ofNat n).toNat : Int) := by
    rw [UInt64.toNat_add]
    simp [IntKind.wrap, IntKind.bits, IntKind.signed]
  rw [h]

theorem write_ok {S : St} {r : Nat} {M u : List UInt8} {L : UInt64} {x : AVal} (hul : u.length < 100000) (hh : HashI S r M L) (hx : RdX S r x u) :
    ∃ T, xWrite [.ptr r 0 0, x] S = some (.tup [], T) ∧ HashI T r (M ++ u) (L + UInt64.ofNat u.length) ∧ Keeps S T [r] := by
  suffices hs : Post (evC oWrite 100000 sha_Hash_Write.body (Fr.of [.ptr r 0 0, x]) S) (fun e f T => (e = .normal ∨ e = .ret) ∧ resultsA f T sha_Hash_Write.results = some (.tup []) ∧ HashI T r (M ++ u) (L + UInt64.ofNat u.length) ∧ Keeps S T [r]) by
    obtain ⟨e, f, T, g1, g2, g3, g4⟩ := hs.ex
    refine ⟨T, ?_, g4⟩
    unfold xWrite exM
    refine evF_post rfl rfl ?_
    exact Post.of g1 ⟨g2, g3, rfl⟩
  obtain ⟨b, hb, hr, ht⟩ := hh.ex
  have hlen := hx.rd.len
  obtain ⟨v, hv⟩ : ∃ v, stateN M (M.length / 64) = v := ⟨_, rfl⟩
  obtain ⟨mh, hmh⟩ : ∃ mh : Int, ((M.length % 64 : Nat) : Int) = mh := ⟨_, rfl⟩
  rw [hv, hmh] at hr
  have l0 := load_c (o := 73) hr
  rw [hcells_longget v hb] at l0
  have hcl := hcells_len v b mh L
  have hst : storeA 1 (.ptr r 0 73) (.int .u64 ((L + UInt64.ofNat u.length).toNat : Int)) S = some (S.set r (.live 0 (hcells v b mh (L + UInt64.ofNat u.length)))) := by
    simp only [storeA, cells?, hr, hcells_long v hb]
    rw [if_pos ⟨by trivial, rfl, by omega⟩]
  have had := add_u64n L u.length
  have hcv : IntKind.u64.wrap (u.length : Int) = (u.length : Int) := wrapU64 (by omega)
  have hrl := get_lt' hr
  obtain ⟨S1, hS1⟩ : ∃ S1 : St, S.set r (.live 0 (hcells v b mh (L + UInt64.ofNat u.length))) = S1 := ⟨_, rfl⟩
  have h1r : S1[r]? = some (.live 0 (hcells v b mh (L + UInt64.ofNat u.length))) := by rw [← hS1]; simp [hrl]
  have hk1 : Keeps S S1 [r] := by rw [← hS1]; exact Keeps.set ..
  rw [hS1] at hst
  have hh1 : HashI S1 r M (L + UInt64.ofNat u.length) := ⟨b, hb, by rw [hv, hmh]; exact h1r, ht⟩
  simp only [sha_Hash_Write, Post_seq]
  generalize L + UInt64.ofNat u.length = L' at *
  simp [exM, orc, orcD, evF, evC, evOps, evOper, evAny, evOp, evCall, putR, putA, Fr.ev, Fr.of, Fr.get, Fr.set, stable, junkA, junkL, resultsA, resA, same, hlen, faddrA, l0, hcv, had, hst, eq2, Post_some]
  refine (write_loop hul hh1 (hx.keep hk1) ⟨rfl, rfl⟩).mono ?_
  rintro e f' T ⟨rfl, k1, k2, k3⟩
  refine ⟨.inl rfl, k1, hk1.trans k2 (fun q hq => .inl hq)⟩
end Am.Sha
end

/- SHA-256: the sum, the padding. -/
section
namespace Am.Sha
open Am Go Am.Ir
set_option maxRecDepth 100000

theorem rdx_new {S : St} {r q : Nat} {u : List UInt8} (hq : q ≠ r) (hS : S[q]? = some (.live 0 (bcells u))) : RdX S r (.sl q 0 0 u.length 1) u := fun S' hk => by
  have h := hk.get hS (by simpa using hq)
  refine ⟨.inl ⟨_, _, _, _, rfl⟩, ?_⟩
  simp only [cellsOf, h]
  rw [if_pos ⟨by trivial, by trivial, by rw [bcells_len]; omega⟩]
  simp only [Nat.mul_one, List.drop_zero]
  rw [List.take_of_length_le (by rw [bcells_len]; omega)]

theorem HashI.lt {S : St} {r : Nat} {M : List UInt8} {L : UInt64} (h : HashI S r M L) : r < S.length := by
  obtain ⟨b, _, h2, _⟩ := h.ex; exact get_lt' h2

/-- A byte is written. -/
theorem write1 {S : St} {r : Nat} {M : List UInt8} {L : UInt64} (hh : HashI S r M L) (b : UInt8) :
    ∃ T L', xWrite [.ptr r 0 0, .sl S.length 0 0 1 1] (S ++ [.live 0 [.int .u8 (b.toNat : Int)]]) = some (.tup [], T) ∧ HashI T r (M ++ [b]) L' ∧ Keeps S T [r] := by
  have hlt := hh.lt
  have hk : Keeps S (S ++ [.live 0 [.int .u8 (b.toNat : Int)]]) [] := Keeps.append ..
  obtain ⟨T, h1, h2, h3⟩ := write_ok (u := [b]) (x := .sl S.length 0 0 1 1) (by simp) (hh.keep hk (by simp)) (rdx_new (q := S.length) (u := [b]) (by omega) (by simp [bcells]))
  have h3l := h3.1
  exact ⟨T, _, h1, h2, ⟨Nat.le_trans hk.1 h3.1, fun q hq hn => by rw [h3.2 q (by simp; omega) hn, hk.2 q hq (by simp)]⟩⟩

theorem HashI.held {S : St} {r : Nat} {M : List UInt8} {L : UInt64} (h : HashI S r M L) : loadA none (.ptr r 0 72) S = some (.int .i64 ((M.length % 64 : Nat) : Int)) := by
  obtain ⟨b, h1, h2, _⟩ := h.ex
  rw [load_c h2, hcells_heldget _ h1]

theorem HashI.long {S : St} {r : Nat} {M : List UInt8} {L : UInt64} (h : HashI S r M L) : loadA none (.ptr r 0 73) S = some (.int .u64 (L.toNat : Int)) := by
  obtain ⟨b, h1, h2, _⟩ := h.ex
  rw [load_c h2, hcells_longget _ h1]

/-- How many noughts are laid behind. -/
def noughts (m : Nat) : Nat := (119 - m % 64) % 64

noncomputable def oSum : Orc := orc [xWrite]

structure SmF (f : Fr) (q r : Nat) (many : Int) : Prop where
  s2 : f.get 2 = .ptr q 0 0
  s3 : f.get 3 = .ptr r 0 0
  s4 : f.get 4 = .int .u64 many

theorem sum_l0_round {k : Nat} {f : Fr} {S : St} {q r : Nat} {M : List UInt8} {L : UInt64} {many : Int} (hh : HashI S r M L) (h56 : M.length % 64 ≠ 56) (hf : SmF f q r many) :
    Post (evC oSum k sha_Hash_Sum_l0 f S) fun e f' T => e = .normal ∧ SmF f' q r many ∧ (∃ L', HashI T r (M ++ [0]) L') ∧ Keeps S T [r] := by
  obtain ⟨T, L', t1, t2, t3⟩ := write1 hh 0
  obtain ⟨s2, s3, s4⟩ := hf
  have hl := hh.held
  have hq : binA .neq (.int .i64 ((M.length % 64 : Nat) : Int)) (.int .i64 56) = some (.bool true) := neq_t (by omega)
  have t1' : xWrite [.ptr r 0 0, .sl S.length 0 0 1 1] (S ++ [.live 0 [.int .u8 0]]) = some (.tup [], T) := t1
  generalize ((M.length % 64 : Nat) : Int) = z at *
  suffices hmid : Post (evC oSum k sha_Hash_Sum_l0 f S) (fun e f' T' => e = .normal ∧ T' = T ∧ f'.get 2 = .ptr q 0 0 ∧ f'.get 3 = .ptr r 0 0 ∧ f'.get 4 = .int .u64 many) by
    refine hmid.mono ?_
    rintro e f' T' ⟨h1, rfl, h2, h3, h4⟩
    exact ⟨h1, ⟨h2, h3, h4⟩, ⟨L', t2⟩, t3⟩
  simp [sha_Hash_Sum_l0, exM, orc, orcD, evF, evC, evOps, evOper, evAny, evOp, evCall, putR, putA, Fr.ev, Fr.of, Fr.get, Fr.set, stable, junkA, junkL, resultsA, resA, same, oSum, Fr.get_set, s2, s3, s4, faddrA, hl, hq, fillA, cells?, splice, t1', Post_some]

theorem sum_l0_end {k : Nat} {f : Fr} {S : St} {q r : Nat} {M : List UInt8} {L : UInt64} {many : Int} (hh : HashI S r M L) (h56 : M.length % 64 = 56) (hf : SmF f q r many) :
    Post (evC oSum k sha_Hash_Sum_l0 f S) fun e f' T => e = .exit 0 ∧ SmF f' q r many ∧ T = S := by
  obtain ⟨s2, s3, s4⟩ := hf
  have hl := hh.held
  rw [h56] at hl
  have hl' : loadA none (.ptr r 0 72) S = some (.int .i64 56) := hl
  have hq : binA .neq (.int .i64 56) (.int .i64 56) = some (.bool false) := rfl
  suffices hmid : Post (evC oSum k sha_Hash_Sum_l0 f S) (fun e f' T' => e = .exit 0 ∧ T' = S ∧ f'.get 2 = .ptr q 0 0 ∧ f'.get 3 = .ptr r 0 0 ∧ f'.get 4 = .int .u64 many) by
    refine hmid.mono ?_
    rintro e f' T' ⟨h1, h0, h2, h3, h4⟩
    exact ⟨h1, ⟨h2, h3, h4⟩, h0⟩
  simp [sha_Hash_Sum_l0, exM, orc, orcD, evF, evC, evOps, evOper, evAny, evOp, evCall, putR, putA, Fr.ev, Fr.of, Fr.get, Fr.set, stable, junkA, junkL, resultsA, resA, same, oSum, Fr.get_set, s2, s3, s4, faddrA, hl', hq, Post_some]

theorem sum_l0 {f : Fr} {S : St} {q r : Nat} {M : List UInt8} {L : UInt64} {many : Int} (hh : HashI S r (M ++ [128]) L) (hf : SmF f q r many) :
    Post (evC oSum 100000 sha_Hash_Sum_s1 f S) fun e f' T => e = .normal ∧ SmF f' q r many ∧ (∃ L', HashI T r (M ++ [128] ++ List.replicate (noughts M.length) 0) L') ∧ Keeps S T [r] := by
  obtain ⟨f', T, h1, h2⟩ := loop_post (O := oSum) (k := 100000) (id := 0) (b := sha_Hash_Sum_l0)
    (I := fun j f T => SmF f q r many ∧ (∃ L', HashI T r (M ++ [128] ++ List.replicate j 0) L') ∧ Keeps S T [r])
    (Q := fun f T => SmF f q r many ∧ (∃ L', HashI T r (M ++ [128] ++ List.replicate (noughts M.length) 0) L') ∧ Keeps S T [r])
    (noughts M.length) (by have : noughts M.length < 64 := Nat.mod_lt _ (by omega); omega)
    (by
      rintro j hj f T ⟨g1, ⟨L', g2⟩, g3⟩
      refine (sum_l0_round g2 (by simp only [noughts] at hj; simp; omega) g1).mono ?_
      rintro e f' T' ⟨rfl, k1, ⟨L2, k2⟩, k3⟩
      refine ⟨rfl, k1, ⟨L2, ?_⟩, g3.trans k3 (fun q hq => .inl hq)⟩
      rw [List.append_assoc] at k2
      rw [List.replicate_succ']; exact k2)
    (by
      rintro f T ⟨g1, ⟨L', g2⟩, g3⟩
      refine (sum_l0_end g2 (by simp only [noughts]; simp; omega) g1).mono ?_
      rintro e f' T' ⟨rfl, k1, rfl⟩
      exact ⟨rfl, k1, ⟨L', g2⟩, g3⟩)
    (f := f) (S := S) ⟨hf, ⟨L, by simpa using hh⟩, Keeps.refl S _⟩
  rw [show sha_Hash_Sum_s1 = .block 0 (.loop sha_Hash_Sum_l0) from rfl, h1]
  exact Post.of rfl ⟨rfl, h2⟩

/-- A byte of how many bits. -/
def be (n : Nat) (j : Nat) : UInt8 := UInt8.ofNat (n / 2 ^ (56 - 8 * j))
def bes (n : Nat) (j : Nat) : List UInt8 := (List.range j).map (be n)

theorem bes_succ (n j : Nat) : bes n (j + 1) = bes n j ++ [be n j] := by simp [bes, List.range_succ]

theorem shr_be {n j : Nat} (hj : j < 8) : binA .shr (.int .u64 (n : Int)) (.int .i64 (56 - 8 * (j : Int))) = some (.int .u64 ((n / 2 ^ (56 - 8 * j) : Nat) : Int)) := by
  have e : (56 - 8 * (j : Int)) = ((56 - 8 * j : Nat) : Int) := by omega
  rw [e]
  simp only [binA, shiftA]
  rw [if_pos (by simp), if_neg (by omega), Int.toNat_natCast, Nat.min_eq_left (by simp [IntKind.bits]; omega)]
  congr 2
  rw [Int.fdiv_eq_ediv_of_nonneg _ (Int.pow_nonneg (by omega))]
  simp

theorem conv_be (n j : Nat) : IntKind.u8.wrap ((n / 2 ^ (56 - 8 * j) : Nat) : Int) = ((be n j).toNat : Int) := by
  simp [be, IntKind.wrap, IntKind.bits, IntKind.signed]

theorem sum_l2_round {k : Nat} {f : Fr} {S : St} {q r j n : Nat} {M : List UInt8} {L : UInt64} (hj : j < 8) (hh : HashI S r M L) (hf : SmF f q r (n : Int)) (h5 : f.get 5 = .int .i64 (56 - 8 * (j : Int))) :
    Post (evC oSum k sha_Hash_Sum_l2 f S) fun e f' T => e = .normal ∧ SmF f' q r (n : Int) ∧ f'.get 5 = .int .i64 (56 - 8 * ((j + 1 : Nat) : Int)) ∧ (∃ L', HashI T r (M ++ [be n j]) L') ∧ Keeps S T [r] := by
  obtain ⟨T, L', t1, t2, t3⟩ := write1 hh (be n j)
  obtain ⟨s2, s3, s4⟩ := hf
  have h1 := shr_be (n := n) hj
  have h2 := conv_be n j
  have hge : binA .geq (.int .i64 (56 - 8 * (j : Int))) (.int .i64 0) = some (.bool true) := geq_t (by omega)
  have hsb : binA .sub (.int .i64 (56 - 8 * (j : Int))) (.int .i64 8) = some (.int .i64 (56 - 8 * (j : Int) - 8)) := sub_i (by omega) (by omega)
  have e : (56 - 8 * ((j + 1 : Nat) : Int)) = 56 - 8 * (j : Int) - 8 := by omega
  rw [e]
  generalize (56 - 8 * (j : Int)) = z at *
  generalize ((n / 2 ^ (56 - 8 * j) : Nat) : Int) = w at *
  generalize (n : Int) = nn at *
  suffices hmid : Post (evC oSum k sha_Hash_Sum_l2 f S) (fun e f' T' => e = .normal ∧ T' = T ∧ f'.get 2 = .ptr q 0 0 ∧ f'.get 3 = .ptr r 0 0 ∧ f'.get 4 = .int .u64 nn ∧ f'.get 5 = .int .i64 (z - 8)) by
    refine hmid.mono ?_
    rintro e f' T' ⟨h1, rfl, h2, h3, h4, h5⟩
    exact ⟨h1, ⟨h2, h3, h4⟩, h5, ⟨L', t2⟩, t3⟩
  simp [sha_Hash_Sum_l2, exM, orc, orcD, evF, evC, evOps, evOper, evAny, evOp, evCall, putR, putA, Fr.ev, Fr.of, Fr.get, Fr.set, stable, junkA, junkL, resultsA, resA, same, oSum, Fr.get_set, s2, s3, s4, h5, hge, h1, h2, hsb, fillA, cells?, splice, t1, Post_some]

theorem sum_l2 {f : Fr} {S : St} {q r n : Nat} {M : List UInt8} {L : UInt64} (hh : HashI S r M L) (hf : SmF f q r (n : Int)) (h5 : f.get 5 = .int .i64 56) :
    Post (evC oSum 100000 sha_Hash_Sum_s3 f S) fun e f' T => e = .normal ∧ SmF f' q r (n : Int) ∧ (∃ L', HashI T r (M ++ bes n 8) L') ∧ Keeps S T [r] := by
  obtain ⟨f', T, h1, h2⟩ := loop_post (O := oSum) (k := 100000) (id := 2) (b := sha_Hash_Sum_l2)
    (I := fun j f T => SmF f q r (n : Int) ∧ f.get 5 = .int .i64 (56 - 8 * (j : Int)) ∧ (∃ L', HashI T r (M ++ bes n j) L') ∧ Keeps S T [r])
    (Q := fun f T => SmF f q r (n : Int) ∧ (∃ L', HashI T r (M ++ bes n 8) L') ∧ Keeps S T [r]) 8 (by omega)
    (by
      rintro j hj f T ⟨g1, g5, ⟨L', g2⟩, g3⟩
      refine (sum_l2_round hj g2 g1 g5).mono ?_
      rintro e f' T' ⟨rfl, k1, k5, ⟨L2, k2⟩, k3⟩
      refine ⟨rfl, k1, k5, ⟨L2, ?_⟩, g3.trans k3 (fun q hq => .inl hq)⟩
      rw [List.append_assoc, ← bes_succ] at k2
      exact k2)
    (by
      rintro f T ⟨⟨s2, s3, s4⟩, g5, g2, g3⟩
      have g5' : f.get 5 = .int .i64 (-8) := g5
      have hge : binA .geq (.int .i64 (-8)) (.int .i64 0) = some (.bool false) := rfl
      suffices hmid : Post (evC oSum 100000 sha_Hash_Sum_l2 f T) (fun e f' T' => e = .exit 2 ∧ T' = T ∧ f'.get 2 = .ptr q 0 0 ∧ f'.get 3 = .ptr r 0 0 ∧ f'.get 4 = .int .u64 (n : Int)) by
        refine hmid.mono ?_
        rintro e f' T' ⟨h1, rfl, h2, h3, h4⟩
        exact ⟨h1, ⟨h2, h3, h4⟩, g2, g3⟩
      simp [sha_Hash_Sum_l2, exM, orc, orcD, evF, evC, evOps, evOper, evAny, evOp, evCall, putR, putA, Fr.ev, Fr.of, Fr.get, Fr.set, stable, junkA, junkL, resultsA, resA, same, oSum, Fr.get_set, s2, s3, s4, g5', hge, Post_some])
    (f := f) (S := S) ⟨hf, h5, ⟨L, by simpa [bes] using hh⟩, Keeps.refl S _⟩
  rw [show sha_Hash_Sum_s3 = .block 2 (.loop sha_Hash_Sum_l2) from rfl, h1]
  exact Post.of rfl ⟨rfl, h2⟩

/-- A byte of the hash. -/
def dig (v : V8) (i : Nat) : UInt8 := UInt8.ofNat ((v.list.getD (i / 4) 0).toNat / 2 ^ (24 - 8 * (i % 4)))
def digest (v : V8) : List UInt8 := (List.range 32).map (dig v)
theorem digest_len (v : V8) : (digest v).length = 32 := by simp [digest]

/-- What is hashed. -/
def pad (M : List UInt8) : List UInt8 := M ++ [128] ++ List.replicate (noughts M.length) 0 ++ bes (M.length * 8) 8
def shaN (M : List UInt8) : V8 := stateN (pad M) ((pad M).length / 64)
def sha (M : List UInt8) : List UInt8 := digest (shaN M)
theorem sha_len (M : List UInt8) : (sha M).length = 32 := digest_len _

theorem pad_len (M : List UInt8) : (pad M).length % 64 = 0 := by
  simp only [pad, List.length_append, List.length_replicate, bes, List.length_map, List.length_range, List.length_singleton, noughts]
  omega
end Am.Sha
end

/- SHA-256 over plain numbers, as the kernel reckons fast. -/
section
namespace Am.Sha
open Am Go Am.Ir
set_option maxRecDepth 100000

/-- A number that is reckoned ahead of what is done with it. -/
def force {α : Type} (n : Nat) (f : Nat → α) : α := Nat.rec (motive := fun _ => α) (f 0) (fun k _ => f (Nat.succ k)) n
theorem force_eq {α : Type} (n : Nat) (f : Nat → α) : force n f = f n := by cases n <;> rfl

def rot3 (i j k x : Nat) : Nat := Nat.mod (Nat.xor (Nat.xor (Nat.shiftRight (Nat.mul x 4294967297) i) (Nat.shiftRight (Nat.mul x 4294967297) j)) (Nat.shiftRight (Nat.mul x 4294967297) k)) 4294967296
def rots (i j k x : Nat) : Nat := Nat.xor (Nat.mod (Nat.xor (Nat.shiftRight (Nat.mul x 4294967297) i) (Nat.shiftRight (Nat.mul x 4294967297) j)) 4294967296) (Nat.shiftRight x k)

/-- All rounds, over a window of sixteen numbers. -/
noncomputable def fgo (ks : List Nat) : Nat → Nat → Nat → Nat → Nat → Nat → Nat → Nat → Nat → Nat → Nat → Nat → Nat → Nat → Nat → Nat → Nat → Nat → Nat → Nat → Nat → Nat → Nat → Nat → List Nat :=
  List.rec (motive := fun _ => Nat → Nat → Nat → Nat → Nat → Nat → Nat → Nat → Nat → Nat → Nat → Nat → Nat → Nat → Nat → Nat → Nat → Nat → Nat → Nat → Nat → Nat → Nat → Nat → List Nat)
    (fun a b c d e f g o _ _ _ _ _ _ _ _ _ _ _ _ _ _ _ _ => [a, b, c, d, e, f, g, o])
    (fun k _ ih a b c d e f g o w0 w1 w2 w3 w4 w5 w6 w7 w8 w9 wa wb wc wd we wf =>
      force (Nat.add (Nat.add (Nat.add (Nat.add o (rot3 6 11 25 e)) (Nat.xor g (Nat.land e (Nat.xor f g)))) k) w0) fun t1 =>
      force (Nat.mod (Nat.add t1 (Nat.add (rot3 2 13 22 a) (Nat.lor (Nat.land a b) (Nat.land c (Nat.lor a b))))) 4294967296) fun a' =>
      force (Nat.mod (Nat.add d t1) 4294967296) fun e' =>
      force (Nat.mod (Nat.add w0 (Nat.add (Nat.add (rots 7 18 3 w1) w9) (rots 17 19 10 we))) 4294967296) fun w' =>
      ih a' a b c e' e f g w1 w2 w3 w4 w5 w6 w7 w8 w9 wa wb wc wd we wf w')
    ks

theorem fgo_nil (a b c d e f g o w0 w1 w2 w3 w4 w5 w6 w7 w8 w9 wa wb wc wd we wf : Nat) : fgo [] a b c d e f g o w0 w1 w2 w3 w4 w5 w6 w7 w8 w9 wa wb wc wd we wf = [a, b, c, d, e, f, g, o] := rfl
theorem fgo_cons (k : Nat) (ks : List Nat) (a b c d e f g o w0 w1 w2 w3 w4 w5 w6 w7 w8 w9 wa wb wc wd we wf : Nat) : fgo (k :: ks) a b c d e f g o w0 w1 w2 w3 w4 w5 w6 w7 w8 w9 wa wb wc wd we wf =
    fgo ks ((o + rot3 6 11 25 e + (g ^^^ (e &&& (f ^^^ g))) + k + w0 + (rot3 2 13 22 a + ((a &&& b) ||| (c &&& (a ||| b))))) % 4294967296) a b c
      ((d + (o + rot3 6 11 25 e + (g ^^^ (e &&& (f ^^^ g))) + k + w0)) % 4294967296) e f g
      w1 w2 w3 w4 w5 w6 w7 w8 w9 wa wb wc wd we wf ((w0 + (rots 7 18 3 w1 + w9 + rots 17 19 10 we)) % 4294967296) := by
  simp only [fgo, force_eq]
  rfl

theorem shl_bv (x : UInt32) {n : Nat} (hn : n < 32) : (x <<< UInt32.ofNat n).toBitVec = x.toBitVec <<< n := by
  apply BitVec.eq_of_toNat_eq
  have h : (UInt32.ofNat n).toNat % 32 = n := by simp; omega
  rw [BitVec.toNat_shiftLeft]
  show (x <<< UInt32.ofNat n).toNat = _
  rw [UInt32.toNat_shiftLeft, h]; rfl
theorem shr_bv (x : UInt32) {n : Nat} (hn : n < 32) : (x >>> UInt32.ofNat n).toBitVec = x.toBitVec >>> n := by
  apply BitVec.eq_of_toNat_eq
  have h : (UInt32.ofNat n).toNat % 32 = n := by simp; omega
  rw [BitVec.toNat_ushiftRight]
  show (x >>> UInt32.ofNat n).toNat = _
  rw [UInt32.toNat_shiftRight, h]; rfl

theorem rr_bit {n : Nat} (hn : n < 32) (hn0 : 0 < n) (x : UInt32) {i : Nat} (hi : i < 32) : (rr n x).toBitVec.getLsbD i = ((x.toNat * 4294967297) >>> n).testBit i := by
  have e1 : (x <<< UInt32.ofNat (32 - n)).toBitVec = x.toBitVec <<< (32 - n) := shl_bv x (by omega)
  have e2 : (x >>> UInt32.ofNat n).toBitVec = x.toBitVec >>> n := shr_bv x hn
  have hx : x.toNat < 2 ^ 32 := x.toNat_lt
  have e3 : x.toNat * 4294967297 = 2 ^ 32 * x.toNat + x.toNat := by omega
  have e4 : ∀ j, x.toBitVec.getLsbD j = x.toNat.testBit j := fun j => rfl
  simp only [rr, UInt32.toBitVec_or, e1, e2, BitVec.getLsbD_or, BitVec.getLsbD_shiftLeft, BitVec.getLsbD_ushiftRight, hi, decide_true, Bool.true_and, Nat.testBit_shiftRight, e4]
  rw [e3, Nat.testBit_two_pow_mul_add _ hx]
  by_cases h : n + i < 32
  · rw [if_pos h]
    have : i < 32 - n := by omega
    simp [this]
  · rw [if_neg h]
    have h2 : ¬ i < 32 - n := by omega
    have h3 : x.toNat.testBit (n + i) = false := Nat.testBit_lt_two_pow (Nat.lt_of_lt_of_le hx (Nat.pow_le_pow_right (by omega) (by omega)))
    simp [h2, h3, show i - (32 - n) = n + i - 32 by omega]

theorem bits_eq {a b : Nat} (ha : a < 4294967296) (hb : b < 4294967296) (h : ∀ i, i < 32 → a.testBit i = b.testBit i) : a = b := by
  apply Nat.eq_of_testBit_eq
  intro i
  by_cases hi : i < 32
  · exact h i hi
  · rw [Nat.testBit_lt_two_pow (Nat.lt_of_lt_of_le (show a < 2 ^ 32 from ha) (Nat.pow_le_pow_right (by omega) (by omega))), Nat.testBit_lt_two_pow (Nat.lt_of_lt_of_le (show b < 2 ^ 32 from hb) (Nat.pow_le_pow_right (by omega) (by omega)))]

theorem toNat_bit (x : UInt32) (i : Nat) : x.toNat.testBit i = x.toBitVec.getLsbD i := rfl

theorem rot3_eq {i j k : Nat} (hi : i < 32) (hj : j < 32) (hk : k < 32) (hi0 : 0 < i) (hj0 : 0 < j) (hk0 : 0 < k) (x : UInt32) : rot3 i j k x.toNat = (rr i x ^^^ rr j x ^^^ rr k x).toNat := by
  apply bits_eq (Nat.mod_lt _ (by omega)) (UInt32.toNat_lt _)
  intro b hb
  rw [toNat_bit]
  simp only [UInt32.toBitVec_xor, BitVec.getLsbD_xor, rr_bit hi hi0 x hb, rr_bit hj hj0 x hb, rr_bit hk hk0 x hb]
  show Nat.testBit ((((x.toNat * 4294967297) >>> i ^^^ (x.toNat * 4294967297) >>> j) ^^^ (x.toNat * 4294967297) >>> k) % 2 ^ 32) b = _
  rw [Nat.testBit_mod_two_pow]
  simp only [hb, decide_true, Bool.true_and, Nat.testBit_xor]

theorem rots_eq {i j k : Nat} (hi : i < 32) (hj : j < 32) (hk : k < 32) (hi0 : 0 < i) (hj0 : 0 < j) (x : UInt32) : rots i j k x.toNat = (rr i x ^^^ rr j x ^^^ x >>> UInt32.ofNat k).toNat := by
  have hx : x.toNat < 4294967296 := x.toNat_lt
  have hs : x.toNat >>> k < 4294967296 := Nat.lt_of_le_of_lt (Nat.shiftRight_le _ _) hx
  apply bits_eq _ (UInt32.toNat_lt _)
  · intro b hb
    rw [toNat_bit]
    have e2 : (x >>> UInt32.ofNat k).toBitVec = x.toBitVec >>> k := shr_bv x hk
    simp only [UInt32.toBitVec_xor, BitVec.getLsbD_xor, rr_bit hi hi0 x hb, rr_bit hj hj0 x hb, e2, BitVec.getLsbD_ushiftRight]
    show Nat.testBit (((((x.toNat * 4294967297) >>> i ^^^ (x.toNat * 4294967297) >>> j)) % 2 ^ 32) ^^^ (x.toNat >>> k)) b = _
    rw [Nat.testBit_xor, Nat.testBit_mod_two_pow, Nat.testBit_shiftRight]
    simp only [hb, decide_true, Bool.true_and, Nat.testBit_xor]
    rfl
  · show ((((x.toNat * 4294967297) >>> i ^^^ (x.toNat * 4294967297) >>> j)) % 2 ^ 32) ^^^ (x.toNat >>> k) < 2 ^ 32
    exact Nat.xor_lt_two_pow (Nat.mod_lt _ (by omega)) hs

/-- The rounds behind one another, over a window. -/
def ugo : List UInt32 → V8 → List UInt32 → V8
  | [], v, _ => v
  | k :: ks, v, w => ugo ks (turn v k (w.getD 0 0)) (w.drop 1 ++ [nextW w])

theorem add_lit (a b : UInt32) : (a + b).toNat = (a.toNat + b.toNat) % 4294967296 := UInt32.toNat_add a b

theorem fgo_eq : ∀ (ks : List UInt32) (a b c d e f g o w0 w1 w2 w3 w4 w5 w6 w7 w8 w9 wa wb wc wd we wf : UInt32),
    fgo (ks.map UInt32.toNat) a.toNat b.toNat c.toNat d.toNat e.toNat f.toNat g.toNat o.toNat w0.toNat w1.toNat w2.toNat w3.toNat w4.toNat w5.toNat w6.toNat w7.toNat w8.toNat w9.toNat wa.toNat wb.toNat wc.toNat wd.toNat we.toNat wf.toNat =
      (ugo ks ⟨a, b, c, d, e, f, g, o⟩ [w0, w1, w2, w3, w4, w5, w6, w7, w8, w9, wa, wb, wc, wd, we, wf]).list.map UInt32.toNat
  | [], a, b, c, d, e, f, g, o, w0, w1, w2, w3, w4, w5, w6, w7, w8, w9, wa, wb, wc, wd, we, wf => rfl
  | k :: ks, a, b, c, d, e, f, g, o, w0, w1, w2, w3, w4, w5, w6, w7, w8, w9, wa, wb, wc, wd, we, wf => by
    rw [List.map_cons, fgo_cons]
    have h1 : (o.toNat + rot3 6 11 25 e.toNat + (g.toNat ^^^ (e.toNat &&& (f.toNat ^^^ g.toNat))) + k.toNat + w0.toNat + (rot3 2 13 22 a.toNat + ((a.toNat &&& b.toNat) ||| (c.toNat &&& (a.toNat ||| b.toNat))))) % 4294967296
        = (one ⟨a, b, c, d, e, f, g, o⟩ k w0 + two ⟨a, b, c, d, e, f, g, o⟩).toNat := by
      rw [rot3_eq (by omega) (by omega) (by omega) (by omega) (by omega) (by omega), rot3_eq (by omega) (by omega) (by omega) (by omega) (by omega) (by omega)]
      simp only [one, two, choice, most, add_lit, UInt32.toNat_and, UInt32.toNat_or, UInt32.toNat_xor]
      omega
    have h2 : (d.toNat + (o.toNat + rot3 6 11 25 e.toNat + (g.toNat ^^^ (e.toNat &&& (f.toNat ^^^ g.toNat))) + k.toNat + w0.toNat)) % 4294967296 = (d + one ⟨a, b, c, d, e, f, g, o⟩ k w0).toNat := by
      rw [rot3_eq (by omega) (by omega) (by omega) (by omega) (by omega) (by omega)]
      simp only [one, choice, add_lit, UInt32.toNat_and, UInt32.toNat_xor]
      omega
    have h3 : (w0.toNat + (rots 7 18 3 w1.toNat + w9.toNat + rots 17 19 10 we.toNat)) % 4294967296 = (w0 + (low w1 + w9 + high we)).toNat := by
      rw [rots_eq (by omega) (by omega) (by omega) (by omega) (by omega), rots_eq (by omega) (by omega) (by omega) (by omega) (by omega)]
      simp only [low, high, add_lit]
      omega
    rw [h1, h2, h3, fgo_eq ks]
    rfl

/-- A window on the numbers. -/
def win (w : List UInt32) (t : Nat) : List UInt32 := ((wseq w t).drop t)

theorem win_len {w : List UInt32} (hw : w.length = 16) (t : Nat) : (win w t).length = 16 := by simp [win, wseq_len, hw]

theorem win_succ {w : List UInt32} (hw : w.length = 16) (t : Nat) : (win w t).drop 1 ++ [nextW (win w t)] = win w (t + 1) := by
  have hl := wseq_len w t
  have e : nextW (win w t) = nextW (wseq w t) := by
    have g : ∀ i, i < 16 → (win w t).getD i 0 = (wseq w t).getD (t + i) 0 := fun i hi => by
      simp only [win, List.getD, List.getElem?_drop]
    have hwl := win_len hw t
    simp only [nextW, hwl, hl, hw]
    rw [g 0 (by omega), g 1 (by omega), g 9 (by omega), g 14 (by omega), show 16 + t - 16 = t + 0 by omega, show 16 + t - 15 = t + 1 by omega, show 16 + t - 7 = t + 9 by omega, show 16 + t - 2 = t + 14 by omega]
  rw [e]
  simp only [win, wseq]
  rw [List.drop_drop, List.drop_append_of_le_length (by omega), Nat.add_comm]

theorem ugo_eq {w : List UInt32} (hw : w.length = 16) (v : V8) : ∀ (d t : Nat), t + d = 64 → ugo (steps.drop t) (vseq w v t) (win w t) = vseq w v 64
  | 0, t, h => by
    have : t = 64 := by omega
    subst this
    rfl
  | d + 1, t, h => by
    have hl : t < steps.length := by rw [steps_len]; omega
    rw [List.drop_eq_getElem_cons hl]
    show ugo (steps.drop (t + 1)) (turn (vseq w v t) steps[t] ((win w t).getD 0 0)) ((win w t).drop 1 ++ [nextW (win w t)]) = _
    rw [win_succ hw]
    have e1 : steps[t] = steps.getD t 0 := by simp [List.getD, hl]
    have e2 : (win w t).getD 0 0 = (wseq w 48).getD t 0 := by
      simp only [win, List.getD, List.getElem?_drop, Nat.add_zero]
      by_cases h48 : t ≤ 48
      · have := wseq_get w t t (by omega) (48 - t)
        rw [show t + (48 - t) = 48 by omega] at this
        rw [this]
      · have := wseq_get w 48 t (by omega) (t - 48)
        rw [show 48 + (t - 48) = t by omega] at this
        rw [this]
    rw [e1, e2]
    exact ugo_eq hw v d (t + 1) (by omega)
end Am.Sha
end

/- SHA-256: the sum's bytes. -/
section
namespace Am.Sha
open Am Go Am.Ir
set_option maxRecDepth 100000

structure DgF (f : Fr) (q r o : Nat) (j : Nat) : Prop where
  s2 : f.get 2 = .ptr q 0 0
  s3 : f.get 3 = .ptr r 0 0
  s6 : f.get 6 = .ptr o 0 0
  s36 : f.get 36 = .int .i64 (j : Int)

/-- So many bytes of the hash are laid. -/
def digs (v : V8) (j : Nat) : List UInt8 := (List.range j).map (dig v) ++ List.replicate (32 - j) 0

theorem digs_len (v : V8) {j : Nat} (h : j ≤ 32) : (digs v j).length = 32 := by simp [digs]; omega
theorem digs_end (v : V8) : digs v 32 = digest v := by simp [digs, digest]
theorem digs_set (v : V8) {j : Nat} (h : j < 32) : (digs v j).set j (dig v j) = digs v (j + 1) := by
  simp only [digs]
  have hl : ((List.range j).map (dig v)).length = j := by simp
  rw [List.set_append_right _ _ (by omega), hl, Nat.sub_self, show 32 - j = (32 - (j + 1)) + 1 by omega, List.replicate_succ, List.set_cons_zero, List.range_succ, List.map_append]
  simp

theorem bcells_set (u : List UInt8) (i : Nat) (b : UInt8) (h : i < u.length) : splice (bcells u) i [.int .u8 (b.toNat : Int)] = bcells (u.set i b) := by
  have : splice (bcells u) i [.int .u8 (b.toNat : Int)] = (bcells u).set i (.int .u8 (b.toNat : Int)) := by
    rw [List.set_eq_take_append_cons_drop, if_pos (by rw [bcells_len]; exact h)]; simp [splice]
  rw [this]; simp [bcells, List.map_set]

theorem shr_dig (x : UInt32) {m : Nat} (hm : m < 4) : binA .shr (u32 x) (.int .i64 (24 - 8 * (m : Int))) = some (.int .u32 ((x.toNat / 2 ^ (24 - 8 * m) : Nat) : Int)) := by
  have e : (24 - 8 * (m : Int)) = ((24 - 8 * m : Nat) : Int) := by omega
  rw [e]
  simp only [binA, shiftA, u32]
  rw [if_pos (by simp), if_neg (by omega), Int.toNat_natCast, Nat.min_eq_left (by simp [IntKind.bits]; omega)]
  congr 2
  rw [Int.fdiv_eq_ediv_of_nonneg _ (Int.pow_nonneg (by omega))]
  simp

theorem conv_dig (x m : Nat) : IntKind.u8.wrap ((x / 2 ^ m : Nat) : Int) = ((UInt8.ofNat (x / 2 ^ m)).toNat : Int) := by
  simp [IntKind.wrap, IntKind.bits, IntKind.signed]

theorem hcells_word (v : V8) (b : List UInt8) (held : Int) (L : UInt64) {i : Nat} (hi : i < 8) : (hcells v b held L)[i]? = some (u32 (v.list.getD i 0)) := by
  have h8 : (ucells v.list).length = 8 := rfl
  have hl : v.list.length = 8 := rfl
  simp only [hcells]
  rw [List.getElem?_append_left (by omega)]
  exact ucells_get (by simp [List.getD, List.getElem?_eq_getElem (show i < v.list.length by omega)])

theorem sum_l4_round {k : Nat} {f : Fr} {S : St} {q r o j : Nat} {v : V8} {b : List UInt8} {held : Int} {L : UInt64} (hj : j < 32) (hr : S[r]? = some (.live 0 (hcells v b held L))) (ho : S[o]? = some (.live 0 (bcells (digs v j)))) (hf : DgF f q r o j) :
    Post (evC oSum k sha_Hash_Sum_l4 f S) fun e f' T => e = .normal ∧ DgF f' q r o (j + 1) ∧ T = S.set o (.live 0 (bcells (digs v (j + 1)))) := by
  obtain ⟨s2, s3, s6, s36⟩ := hf
  have hlss : binA .lss (.int .i64 (j : Int)) (.int .i64 32) = some (.bool true) := lss_t (by omega)
  have hq : binA .quo (.int .i64 (j : Int)) (.int .i64 4) = some (.int .i64 ((j / 4 : Nat) : Int)) := by rw [quo_i (by omega) (by omega) (by omega)]; rfl
  have hr4 : binA .rem (.int .i64 (j : Int)) (.int .i64 4) = some (.int .i64 ((j % 4 : Nat) : Int)) := by rw [rem_i (by omega) (by omega)]; rfl
  have hm8 : binA .mul (.int .i64 8) (.int .i64 ((j % 4 : Nat) : Int)) = some (.int .i64 (8 * ((j % 4 : Nat) : Int))) := mul_i (by omega) (by omega)
  have hs8 : binA .sub (.int .i64 24) (.int .i64 (8 * ((j % 4 : Nat) : Int))) = some (.int .i64 (24 - 8 * ((j % 4 : Nat) : Int))) := sub_i (by omega) (by omega)
  have hia : iaddrAA 1 8 (.ptr r 0 0) (.int .i64 ((j / 4 : Nat) : Int)) = some (.ptr r 0 (j / 4)) := by rw [iaA (by omega) (by omega), Int.toNat_natCast]; simp
  have hio : iaddrAA 1 32 (.ptr o 0 0) (.int .i64 (j : Int)) = some (.ptr o 0 j) := by rw [iaA (by omega) (by omega), Int.toNat_natCast]; simp
  have hld := load_c (o := j / 4) hr
  rw [hcells_word v b held L (by omega)] at hld
  have hsh := shr_dig (v.list.getD (j / 4) 0) (m := j % 4) (by omega)
  have hcv := conv_dig (v.list.getD (j / 4) 0).toNat (24 - 8 * (j % 4))
  have had : binA .add (.int .i64 (j : Int)) (.int .i64 1) = some (.int .i64 ((j : Int) + 1)) := add_i (by omega) (by omega)
  have hdl := digs_len v (j := j) (by omega)
  have hst : storeA 1 (.ptr o 0 j) (.int .u8 ((dig v j).toNat : Int)) S = some (S.set o (.live 0 (bcells (digs v (j + 1))))) := by
    simp only [storeA, cells?, ho, bcells_set (digs v j) j (dig v j) (by omega), digs_set v hj]
    rw [if_pos ⟨by trivial, rfl, by rw [bcells_len]; omega⟩]
  have hcv' : IntKind.u8.wrap ((((v.list.getD (j / 4) 0).toNat / 2 ^ (24 - 8 * (j % 4)) : Nat) : Int)) = ((dig v j).toNat : Int) := hcv
  generalize (((v.list.getD (j / 4) 0).toNat / 2 ^ (24 - 8 * (j % 4)) : Nat) : Int) = w at *
  generalize u32 (v.list.getD (j / 4) 0) = xx at *
  generalize ((j / 4 : Nat) : Int) = jq at *
  generalize ((j % 4 : Nat) : Int) = jr at *
  generalize S.set o (.live 0 (bcells (digs v (j + 1)))) = T at *
  have e : ((j + 1 : Nat) : Int) = (j : Int) + 1 := by omega
  suffices hmid : Post (evC oSum k sha_Hash_Sum_l4 f S) (fun e f' T' => e = .normal ∧ T' = T ∧ f'.get 2 = .ptr q 0 0 ∧ f'.get 3 = .ptr r 0 0 ∧ f'.get 6 = .ptr o 0 0 ∧ f'.get 36 = .int .i64 ((j : Int) + 1)) by
    refine hmid.mono ?_
    rintro e f' T' ⟨h1, h0, h2, h3, h4, h5⟩
    exact ⟨h1, ⟨h2, h3, h4, by rw [h5]; rfl⟩, h0⟩
  generalize (j : Int) = jj at *
  simp [sha_Hash_Sum_l4, exM, orc, orcD, evF, evC, evOps, evOper, evAny, evOp, evCall, putR, putA, Fr.ev, Fr.of, Fr.get, Fr.set, stable, junkA, junkL, resultsA, resA, same, oSum, Fr.get_set, s2, s3, s6, s36, faddrA, hlss, hq, hr4, hm8, hs8, hia, hio, hld, hsh, hcv', had, hst, Post_some]

theorem sum_l4 {f : Fr} {S : St} {q r o : Nat} {v : V8} {b : List UInt8} {held : Int} {L : UInt64} (hne : o ≠ r) (hr : S[r]? = some (.live 0 (hcells v b held L))) (ho : S[o]? = some (.live 0 (bcells (digs v 0)))) (hf : DgF f q r o 0) :
    Post (evC oSum 100000 sha_Hash_Sum_s5 f S) fun e f' T => e = .normal ∧ f'.get 2 = .ptr q 0 0 ∧ f'.get 6 = .ptr o 0 0 ∧ T[o]? = some (.live 0 (bcells (digest v))) ∧ Keeps S T [o] := by
  obtain ⟨f', T, h1, h2⟩ := loop_post (O := oSum) (k := 100000) (id := 4) (b := sha_Hash_Sum_l4)
    (I := fun j f T => DgF f q r o j ∧ T[o]? = some (.live 0 (bcells (digs v j))) ∧ Keeps S T [o])
    (Q := fun f T => f.get 2 = .ptr q 0 0 ∧ f.get 6 = .ptr o 0 0 ∧ T[o]? = some (.live 0 (bcells (digest v))) ∧ Keeps S T [o]) 32 (by omega)
    (by
      rintro j hj f T ⟨g1, g2, g3⟩
      refine (sum_l4_round hj (g3.get hr (by simpa using hne.symm)) g2 g1).mono ?_
      rintro e f' T' ⟨rfl, k1, rfl⟩
      have hlt := get_lt' g2
      exact ⟨rfl, k1, by simp [hlt], g3.trans (Keeps.set ..) (fun q hq => .inl hq)⟩)
    (by
      rintro f T ⟨⟨s2, s3, s6, s36⟩, g2, g3⟩
      rw [digs_end] at g2
      have s36' : f.get 36 = .int .i64 32 := s36
      have hlss : binA .lss (.int .i64 32) (.int .i64 32) = some (.bool false) := rfl
      simp [sha_Hash_Sum_l4, exM, orc, orcD, evF, evC, evOps, evOper, evAny, evOp, evCall, putR, putA, Fr.ev, Fr.of, Fr.get, Fr.set, stable, junkA, junkL, resultsA, resA, same, oSum, Fr.get_set, s2, s3, s6, s36', hlss, Post_some]
      exact ⟨g2, g3⟩)
    (f := f) (S := S) ⟨hf, ho, Keeps.refl S _⟩
  rw [show sha_Hash_Sum_s5 = .block 4 (.loop sha_Hash_Sum_l4) from rfl, h1]
  exact Post.of rfl ⟨rfl, h2⟩

noncomputable def xSum : Model := exM oSum sha_Hash_Sum 100000

theorem mul8 (M : List UInt8) (hM : M.length < 1000000000) : binA .mul (.int .u64 (M.length : Int)) (.int .u64 8) = some (.int .u64 ((M.length * 8 : Nat) : Int)) := by
  simp only [binA, intBin]
  rw [if_neg (by simp), if_pos trivial]
  have : IntKind.u64.wrap ((M.length : Int) * 8) = ((M.length * 8 : Nat) : Int) := by rw [conv_u64 (by omega) (by omega)]; omega
  rw [this]

theorem zero32 (v : V8) : List.replicate 32 (AVal.int .u8 0) = bcells (digs v 0) := by simp [digs, bcells]

theorem sum_ok {S : St} {r : Nat} {M : List UInt8} (hM : M.length < 1000000000) (hh : HashI S r M (UInt64.ofNat M.length)) :
    ∃ T, xSum [.ptr r 0 0] S = some (.agg (bcells (sha M)), T) ∧ Keeps S T [] := by
  suffices hs : Post (evC oSum 100000 sha_Hash_Sum.body (Fr.of [.ptr r 0 0]) S) (fun e f T => (e = .normal ∨ e = .ret) ∧ resultsA f T sha_Hash_Sum.results = some (.agg (bcells (sha M))) ∧ Keeps S T []) by
    obtain ⟨e, f, T, g1, g2, g3, g4⟩ := hs.ex
    refine ⟨T, ?_, g4⟩
    unfold xSum exM
    refine evF_post rfl rfl ?_
    exact Post.of g1 ⟨g2, g3, rfl⟩
  obtain ⟨b, hb, hr, ht⟩ := hh.ex
  have hlong := hh.long
  rw [show (UInt64.ofNat M.length).toNat = M.length by simp; omega] at hlong
  have hrl := get_lt' hr
  have hmul := mul8 M hM
  obtain ⟨v, hv⟩ : ∃ v, stateN M (M.length / 64) = v := ⟨_, rfl⟩
  obtain ⟨mh, hmh⟩ : ∃ mh : Int, ((M.length % 64 : Nat) : Int) = mh := ⟨_, rfl⟩
  rw [hv, hmh] at hr
  have hcl := hcells_len v b mh (UInt64.ofNat M.length)
  -- the copy
  obtain ⟨H, hH⟩ : ∃ H, hcells v b mh (UInt64.ofNat M.length) = H := ⟨_, rfl⟩
  rw [hH, hb] at hcl
  rw [hH] at hr
  obtain ⟨S1, hS1⟩ : ∃ S1 : St, S ++ [.live 0 (List.replicate 32 (AVal.int .u8 0)), .live 0 H] = S1 := ⟨_, rfl⟩
  have hS1' := hS1
  simp only [List.replicate_succ, List.replicate_zero] at hS1'
  have h1e : S1[S.length + 1]? = some (.live 0 H) := by rw [← hS1]; simp
  have h1z : S1[S.length]? = some (.live 0 (List.replicate 32 (AVal.int .u8 0))) := by rw [← hS1]; simp
  have hk1 : Keeps S S1 [] := by rw [← hS1]; exact Keeps.append ..
  have hh1 : HashI S1 (S.length + 1) M (UInt64.ofNat M.length) := ⟨b, hb, by rw [hv, hmh, hH]; exact h1e, ht⟩
  have hS1l : S1.length = S.length + 2 := by rw [← hS1]; simp
  have h1r : S1[r]? = some (.live 0 H) := hk1.get hr (by simp)
  have hlong1 : loadA none (.ptr r 0 73) S1 = some (.int .u64 (M.length : Int)) := by
    rw [load_c h1r, ← load_c hr]; exact hlong
  have hst : ∀ z y : List AVal, y.length = 74 → storeA 74 (.ptr (S.length + 1) 0 0) (.agg H) (S ++ [.live 0 z, .live 0 y]) = some (S ++ [.live 0 z, .live 0 H]) := fun z y hy => by
    have hsp : splice y 0 H = H := by simp [splice, hcl, hy]
    have hgy : (S ++ [ABlock.live 0 z, .live 0 y])[S.length + 1]? = some (.live 0 y) := by simp
    simp [storeA, cells_agg, hcl, hsp, hy, List.set_append]
  have hldH : ∀ z, loadA (some 74) (.ptr r 0 0) (S ++ [.live 0 z]) = some (.agg H) := fun y => by
    have hg : (S ++ [ABlock.live 0 y])[r]? = some (.live 0 H) := by rw [get_old hrl]; exact hr
    simp only [loadA, hg, partA]
    rw [if_pos (by trivial), if_pos (by omega), List.drop_zero, List.take_of_length_le (by omega)]
  obtain ⟨T1, L1, w1, w2, w3⟩ := write1 hh1 128
  rw [hS1l] at w1
  have w1' : xWrite [.ptr (S.length + 1) 0 0, .sl (S.length + 2) 0 0 1 1] (S1 ++ [.live 0 [.int .u8 128]]) = some (.tup [], T1) := w1
  have hk2 : Keeps S T1 [] := by
    have := w3.1
    exact ⟨by omega, fun q hq _ => by rw [w3.2 q (by omega) (by simp; omega), hk1.2 q hq (by simp)]⟩
  have h2z : T1[S.length]? = some (.live 0 (List.replicate 32 (AVal.int .u8 0))) := w3.get h1z (by simp)
  simp only [sha_Hash_Sum, sha_Hash_Sum_t8, sha_Hash_Sum_t7, sha_Hash_Sum_t6, Post_seq]
  obtain ⟨mm, hmm⟩ : ∃ mm : Int, ((M.length * 8 : Nat) : Int) = mm := ⟨_, rfl⟩
  rw [hmm] at hmul
  simp [exM, orc, orcD, evF, evC, evOps, evOper, evAny, evOp, evCall, putR, putA, Fr.ev, Fr.of, Fr.get, Fr.set, stable, junkA, junkL, resultsA, resA, same, oSum, eq2, Fr.get_set, fillA, cells?, splice, hldH, hst, hS1', hS1l, faddrA, hlong1, hmul, w1', Post_some]
  refine (sum_l0 (q := S.length) (r := S.length + 1) (many := mm) w2 ⟨rfl, rfl, rfl⟩).mono ?_
  rintro e f2 T2 ⟨rfl, d1, ⟨L2, d2⟩, d3⟩
  obtain ⟨s2, s3, s4⟩ := d1
  simp only [if_pos]
  refine (sum_l2 (q := S.length) (r := S.length + 1) (n := M.length * 8) d2 ⟨by simp [Fr.get_set, s2], by simp [Fr.get_set, s3], by simp only [Fr.get_set]; simp [s4, ← hmm]⟩ (by simp [Fr.get_set])).mono ?_
  rintro e f3 T3 ⟨rfl, e1, ⟨L3, e2⟩, e3⟩
  simp only [if_pos]
  obtain ⟨b3, q1, q2, q3⟩ := e2.ex
  have hT1l := hk2.1
  have hw3l := w3.1
  have hd3l := d3.1
  have he3l := e3.1
  have hk4 : Keeps S T3 [] := ⟨by omega, fun q hq _ => by rw [e3.2 q (by omega) (by simp; omega), d3.2 q (by omega) (by simp; omega), hk2.2 q hq (by simp)]⟩
  have hz4 : T3[S.length]? = some (.live 0 (List.replicate 32 (AVal.int .u8 0))) := e3.get (d3.get h2z (by simp)) (by simp)
  have hke : Keeps T3 (T3 ++ [.live 0 (List.replicate 32 (AVal.int .u8 0))]) [] := Keeps.append ..
  obtain ⟨P, hP⟩ : ∃ P, M ++ [128] ++ List.replicate (noughts M.length) 0 ++ bes (M.length * 8) 8 = P := ⟨_, rfl⟩
  have hPp : pad M = P := hP
  rw [hP] at q2 q3
  have hsha : digest (stateN P (P.length / 64)) = sha M := by rw [sha, shaN, hPp]
  obtain ⟨V, hV⟩ : ∃ V, stateN P (P.length / 64) = V := ⟨_, rfl⟩
  rw [hV] at q2 hsha
  refine (sum_l4 (q := S.length) (r := S.length + 1) (o := T3.length) (v := V) (by omega) (hke.get q2 (by simp)) (by rw [← zero32]; simp) ⟨by simp [Fr.get_set, e1.s2], by simp [Fr.get_set, e1.s3], by simp [Fr.get_set], by simp [Fr.get_set]⟩).mono ?_
  rintro e f4 T4 ⟨rfl, j2, j6, j7, j8⟩
  simp only [if_pos]
  rw [hsha] at j7
  have j9 : T4[S.length]? = some (.live 0 (List.replicate 32 (AVal.int .u8 0))) := j8.get (hke.get hz4 (by simp)) (by simp; omega)
  have hsl := sha_len M
  have hld : loadA (some 32) (.ptr T3.length 0 0) T4 = some (.agg (bcells (sha M))) := by
    simp only [loadA, j7, partA]
    rw [if_pos (by trivial), if_pos (by rw [bcells_len]; omega), List.drop_zero, List.take_of_length_le (by rw [bcells_len]; omega)]
  have hj8l := j8.1
  have hSl : S.length < T4.length := get_lt' j9
  have hsto : storeA 32 (.ptr S.length 0 0) (.agg (bcells (sha M))) T4 = some (T4.set S.length (.live 0 (bcells (sha M)))) := by
    have hsp : splice (List.replicate 32 (AVal.int .u8 0)) 0 (bcells (sha M)) = bcells (sha M) := by simp [splice, bcells_len, hsl]
    simp only [storeA, cells_agg, j9, hsp]
    rw [if_pos ⟨by trivial, by rw [bcells_len]; omega, by simp⟩]
  have hld2 : loadA (some 32) (.ptr S.length 0 0) (T4.set S.length (.live 0 (bcells (sha M)))) = some (.agg (bcells (sha M))) := by
    have : (T4.set S.length (.live 0 (bcells (sha M))))[S.length]? = some (.live 0 (bcells (sha M))) := by simp [hSl]
    simp only [loadA, this, partA]
    rw [if_pos (by trivial), if_pos (by rw [bcells_len]; omega), List.drop_zero, List.take_of_length_le (by rw [bcells_len]; omega)]
  simp [exM, orc, orcD, evF, evC, evOps, evOper, evAny, evOp, evCall, putR, putA, Fr.ev, Fr.of, Fr.get, Fr.set, stable, junkA, junkL, resultsA, resA, same, Fr.get_set, j2, j6, hld, hsto, hld2, Post_some]
  simp at hj8l
  refine ⟨by simp; omega, fun q hq _ => ?_⟩
  rw [List.getElem?_set_ne (by omega), j8.2 q (by simp; omega) (by simp; omega), hke.2 q (by omega) (by simp), hk4.2 q hq (by simp)]
end Am.Sha
end

/- SHA-256: the hash of parts. -/
section
namespace Am
open Go

theorem Keeps.split {S T : St} (h : Keeps S T []) : ∃ X, T = S ++ X := by
  refine ⟨T.drop S.length, ?_⟩
  apply List.ext_getElem?
  intro i
  by_cases hi : i < S.length
  · rw [List.getElem?_append_left hi]; exact h.2 i hi (by simp)
  · rw [List.getElem?_append_right (by omega), List.getElem?_drop, Nat.add_sub_cancel' (by omega)]

/-- A call that leaves what was there: told. -/
theorem tellM_keeps {k : Nat} {m : Model} {args : List AVal} {S T : St} {v : AVal} (h : m args S = some (v, T)) (hk : Keeps S T []) (hd : deep T S.length k v = some v) : tellM k m args S = some (v, S) := by
  obtain ⟨X, rfl⟩ := hk.split
  exact tellM_new h hd
end Am
namespace Am.Sha
open Am Go Am.Ir
set_option maxRecDepth 100000

noncomputable def xNew : Model := exM (orc []) sha_New 10

theorem new_ok (S : St) : xNew [] S = some (.ptr S.length 0 0, S ++ [.live 0 (hcells start8 (List.replicate 64 0) 0 0)]) := by
  simp [xNew, sha_New, exM, orc, orcD, evF, evC, evOps, evOper, evAny, evOp, evCall, putR, putA, Fr.ev, Fr.of, Fr.get, Fr.set, stable, junkA, junkL, resultsA, resA, same, fillA, cells?, splice]
  rfl

theorem new_hash (S : St) : HashI (S ++ [.live 0 (hcells start8 (List.replicate 64 0) 0 0)]) S.length [] (UInt64.ofNat 0) :=
  ⟨List.replicate 64 0, by simp, by simp [stateN], by simp⟩

/-- Parts that can be read here, and wherever what is here stays. -/
structure Parts (S : St) (P : AVal) (us : List (List UInt8)) : Prop where
  len : lenA .sl P = some (.int .i64 (us.length : Int))
  at' : ∀ (i : Nat) u, us[i]? = some u → ∃ p c, iaddrSA 1 P (.int .i64 (i : Int)) = some p ∧ ∀ S', Keeps S S' [] → loadA none p S' = some c ∧ Rd S' c u

noncomputable def oAll : Orc := orc [xNew, xWrite, xSum]

structure AlF (f : Fr) (q r : Nat) (P : AVal) (n j : Nat) : Prop where
  s2 : f.get 2 = .ptr q 0 0
  s3 : f.get 3 = .ptr r 0 0
  s7 : f.get 7 = P
  s8 : f.get 8 = .int .i64 (n : Int)
  s9 : f.get 9 = .int .i64 (j : Int)

theorem ofNat64_add (a b : Nat) : UInt64.ofNat a + UInt64.ofNat b = UInt64.ofNat (a + b) := by
  apply UInt64.toNat_inj.1; simp

theorem all_round {k : Nat} {f : Fr} {S T : St} {q r j : Nat} {P : AVal} {us : List (List UInt8)} {u : List UInt8} {M : List UInt8} (hP : Parts S P us) (hj : us[j]? = some u) (hus : us.length < 1000000) (hu : u.length < 100000) (hr : S.length ≤ r)
    (hh : HashI T r M (UInt64.ofNat M.length)) (hk : Keeps S T []) (hf : AlF f q r P us.length j) :
    Post (evC oAll k sha_All_l0 f T) fun e f' T' => e = .normal ∧ AlF f' q r P us.length (j + 1) ∧ HashI T' r (M ++ u) (UInt64.ofNat (M ++ u).length) ∧ Keeps S T' [] ∧ Keeps T T' [r] := by
  have hjl := (List.getElem?_eq_some_iff.1 hj).1
  obtain ⟨p, c, hp, hc⟩ := hP.at' j u hj
  have hcT := (hc T hk).1
  have hx : RdX T r c u := fun S' hS' => (hc S' ⟨Nat.le_trans hk.1 hS'.1, fun i hi _ => by
    have := hk.1
    rw [hS'.2 i (by omega) (by simp; omega), hk.2 i hi (by simp)]⟩).2
  obtain ⟨T', t1, t2, t3⟩ := write_ok hu hh hx
  obtain ⟨s2, s3, s7, s8, s9⟩ := hf
  have hlss : binA .lss (.int .i64 (j : Int)) (.int .i64 (us.length : Int)) = some (.bool true) := lss_t (by omega)
  have had : binA .add (.int .i64 (j : Int)) (.int .i64 1) = some (.int .i64 ((j : Int) + 1)) := add_i (by omega) (by omega)
  suffices hmid : Post (evC oAll k sha_All_l0 f T) (fun e f' T1 => e = .normal ∧ T1 = T' ∧ f'.get 2 = .ptr q 0 0 ∧ f'.get 3 = .ptr r 0 0 ∧ f'.get 7 = P ∧ f'.get 8 = .int .i64 (us.length : Int) ∧ f'.get 9 = .int .i64 ((j : Int) + 1)) by
    refine hmid.mono ?_
    rintro e f' T1 ⟨h1, rfl, h2, h3, h7, h8, h9⟩
    refine ⟨h1, ⟨h2, h3, h7, h8, by rw [h9]; rfl⟩, ?_, ?_, t3⟩
    · rw [ofNat64_add] at t2; rw [List.length_append]; exact t2
    · have := hk.1
      have := t3.1
      exact ⟨by omega, fun i hi _ => by rw [t3.2 i (by omega) (by simp; omega), hk.2 i hi (by simp)]⟩
  generalize (us.length : Int) = nn at *
  generalize (j : Int) = jj at *
  simp [sha_All_l0, exM, orc, orcD, evF, evC, evOps, evOper, evAny, evOp, evCall, putR, putA, Fr.ev, Fr.of, Fr.get, Fr.set, stable, junkA, junkL, resultsA, resA, same, oAll, Fr.get_set, s2, s3, s7, s8, s9, hlss, had, hp, hcT, t1, Post_some]

theorem all_loop {f : Fr} {S T : St} {q r : Nat} {P : AVal} {us : List (List UInt8)} (hP : Parts S P us) (hus : us.length < 10000) (hu : ∀ u ∈ us, u.length < 100000) (hr : S.length ≤ r) (hq : q ≠ r)
    (hh : HashI T r [] (UInt64.ofNat 0)) (hk : Keeps S T []) (hf : AlF f q r P us.length 0) :
    Post (evC oAll 10000 sha_All_s1 f T) fun e f' T' => e = .normal ∧ f'.get 2 = .ptr q 0 0 ∧ f'.get 3 = .ptr r 0 0 ∧ HashI T' r us.flatten (UInt64.ofNat us.flatten.length) ∧ Keeps S T' [] ∧ Keeps T T' [r] := by
  obtain ⟨f', T', h1, h2⟩ := loop_post (O := oAll) (k := 10000) (id := 0) (b := sha_All_l0)
    (I := fun j f T' => AlF f q r P us.length j ∧ HashI T' r (us.take j).flatten (UInt64.ofNat (us.take j).flatten.length) ∧ Keeps S T' [] ∧ Keeps T T' [r])
    (Q := fun f T' => f.get 2 = .ptr q 0 0 ∧ f.get 3 = .ptr r 0 0 ∧ HashI T' r us.flatten (UInt64.ofNat us.flatten.length) ∧ Keeps S T' [] ∧ Keeps T T' [r]) us.length hus
    (by
      rintro j hj f T1 ⟨g1, g2, g3, g4⟩
      obtain ⟨u, hju⟩ : ∃ u, us[j]? = some u := ⟨_, List.getElem?_eq_getElem hj⟩
      refine (all_round hP hju (by omega) (hu u (List.mem_of_getElem? hju)) hr g2 g3 g1).mono ?_
      rintro e f' T2 ⟨rfl, k1, k2, k3, k4⟩
      refine ⟨rfl, k1, ?_, k3, g4.trans k4 (fun q hq => .inl hq)⟩
      have : (us.take (j + 1)).flatten = (us.take j).flatten ++ u := by rw [List.take_add_one, hju]; simp
      rw [this]; exact k2)
    (by
      rintro f T1 ⟨⟨s2, s3, s7, s8, s9⟩, g2, g3, g4⟩
      rw [List.take_length] at g2
      have hlss : binA .lss (.int .i64 (us.length : Int)) (.int .i64 (us.length : Int)) = some (.bool false) := lss_f (by omega)
      simp [sha_All_l0, exM, orc, orcD, evF, evC, evOps, evOper, evAny, evOp, evCall, putR, putA, Fr.ev, Fr.of, Fr.get, Fr.set, stable, junkA, junkL, resultsA, resA, same, oAll, Fr.get_set, s2, s3, s7, s8, s9, hlss, Post_some]
      simp at g2
      exact ⟨g2, g3, g4⟩)
    (f := f) (S := T) ⟨hf, by simpa using hh, hk, Keeps.refl T _⟩
  rw [show sha_All_s1 = .block 0 (.loop sha_All_l0) from rfl, h1]
  exact Post.of rfl ⟨rfl, h2⟩

noncomputable def xAll : Model := exM oAll sha_All 10000
noncomputable def mAll : Model := tellM 2 xAll

theorem part32 {u : List UInt8} (hu : u.length = 32) : partA (some 32) 0 (bcells u) = some (.agg (bcells u)) := by
  simp only [partA]
  rw [if_pos (by rw [bcells_len]; omega), List.drop_zero, List.take_of_length_le (by rw [bcells_len]; omega)]

/-- Thirty-two cells are laid, and read. -/
theorem store32 {S : St} {q : Nat} {z : List AVal} {u : List UInt8} (hz : z.length = 32) (hu : u.length = 32) (hq : S[q]? = some (.live 0 z)) : storeA 32 (.ptr q 0 0) (.agg (bcells u)) S = some (S.set q (.live 0 (bcells u))) := by
  have hsp : splice z 0 (bcells u) = bcells u := by simp [splice, bcells_len, hz, hu]
  simp only [storeA, cells_agg, hq, hsp]
  rw [if_pos ⟨by trivial, by rw [bcells_len]; omega, by omega⟩]
theorem load32 {S : St} {q : Nat} {u : List UInt8} (hu : u.length = 32) (hq : q < S.length) : loadA (some 32) (.ptr q 0 0) (S.set q (.live 0 (bcells u))) = some (.agg (bcells u)) := by
  have : (S.set q (.live 0 (bcells u)))[q]? = some (.live 0 (bcells u)) := by simp [hq]
  simp only [loadA, this, part32 hu]
  rw [if_pos (by trivial)]

theorem all_raw {S : St} {P : AVal} {us : List (List UInt8)} (hP : Parts S P us) (hus : us.length < 10000) (hu : ∀ u ∈ us, u.length < 100000) (ht : us.flatten.length < 1000000000) :
    ∃ T, xAll [P] S = some (.agg (bcells (sha us.flatten)), T) ∧ Keeps S T [] := by
  suffices hs : Post (evC oAll 10000 sha_All.body (Fr.of [P]) S) (fun e f T => (e = .normal ∨ e = .ret) ∧ resultsA f T sha_All.results = some (.agg (bcells (sha us.flatten))) ∧ Keeps S T []) by
    obtain ⟨e, f, T, g1, g2, g3, g4⟩ := hs.ex
    refine ⟨T, ?_, g4⟩
    unfold xAll exM
    refine evF_post rfl rfl ?_
    exact Post.of g1 ⟨g2, g3, rfl⟩
  have hlen := hP.len
  obtain ⟨Z, hZ⟩ : ∃ Z : List AVal, List.replicate 32 (AVal.int .u8 0) = Z := ⟨_, rfl⟩
  have hZl : Z.length = 32 := by rw [← hZ]; simp
  have hZ' := hZ
  simp only [List.replicate_succ, List.replicate_zero] at hZ'
  have hn := new_ok (S ++ [.live 0 Z])
  have hk1 : Keeps S (S ++ [.live 0 Z]) [] := Keeps.append ..
  have hnh := new_hash (S ++ [.live 0 Z])
  obtain ⟨S1, hS1⟩ : ∃ S1 : St, S ++ [.live 0 Z] = S1 := ⟨_, rfl⟩
  have hS1l : S1.length = S.length + 1 := by rw [← hS1]; simp
  have h1z : S1[S.length]? = some (.live 0 Z) := by rw [← hS1]; simp
  rw [hS1] at hn hk1 hnh
  obtain ⟨S2, hS2⟩ : ∃ S2 : St, S1 ++ [.live 0 (hcells start8 (List.replicate 64 0) 0 0)] = S2 := ⟨_, rfl⟩
  have hk12 : Keeps S1 S2 [] := by rw [← hS2]; exact Keeps.append ..
  rw [hS2] at hn hnh
  have hk2 : Keeps S S2 [] := hk1.trans hk12 (fun q hq => .inl hq)
  simp only [sha_All, sha_All_t2, Post_seq]
  simp [exM, orc, orcD, evF, evC, evOps, evOper, evAny, evOp, evCall, putR, putA, Fr.ev, Fr.of, Fr.get, Fr.set, stable, junkA, junkL, resultsA, resA, same, oAll, hZ', hS1, hn, hlen, Fr.get_set, Post_some]
  refine (all_loop (q := S.length) (r := S1.length) hP hus hu (by omega) (by omega) hnh hk2 ⟨rfl, rfl, rfl, rfl, rfl⟩).mono ?_
  rintro e f T ⟨rfl, k2, k3, k4, k5, k6⟩
  have hz1 : T[S.length]? = some (.live 0 Z) := k6.get (hk12.get h1z (by simp)) (by simp; omega)
  obtain ⟨T2, q1, q2⟩ := sum_ok ht k4
  have hz2 : T2[S.length]? = some (.live 0 Z) := q2.get hz1 (by simp)
  have hst := store32 hZl (sha_len us.flatten) hz2
  have hld := load32 (sha_len us.flatten) (get_lt' hz2)
  simp only [if_pos]
  simp [exM, orc, orcD, evF, evC, evOps, evOper, evAny, evOp, evCall, putR, putA, Fr.ev, Fr.of, Fr.get, Fr.set, stable, junkA, junkL, resultsA, resA, same, Fr.get_set, k2, k3, q1, hst, hld, Post_some]
  have a1 := k5.1
  have a2 := q2.1
  refine ⟨by simp; omega, fun i hi _ => ?_⟩
  rw [List.getElem?_set_ne (by omega), q2.2 i (by omega) (by simp), k5.2 i hi (by simp)]

theorem deep_agg_bytes (T : St) (n k : Nat) (u : List UInt8) : deep T n (k + 2) (.agg (bcells u)) = some (.agg (bcells u)) := by
  rw [deep_agg, deep_bcells]; rfl

theorem all_ok {S : St} {P : AVal} {us : List (List UInt8)} (hP : Parts S P us) (hus : us.length < 10000) (hu : ∀ u ∈ us, u.length < 100000) (ht : us.flatten.length < 1000000000) :
    mAll [P] S = some (.agg (bcells (sha us.flatten)), S) := by
  obtain ⟨T, h1, h2⟩ := all_raw hP hus hu ht
  exact tellM_keeps h1 h2 (deep_agg_bytes ..)
end Am.Sha
end

/- SHA-256: one hash of many. -/
section
namespace Am.Sha
open Am Go Am.Ir
set_option maxRecDepth 100000

noncomputable def xLen32 : Model := exM (orc []) bits_Len32 10
noncomputable def xLen64 : Model := exM (orc []) bits_Len64 10
noncomputable def xLen : Model := exM (orc [xLen32, xLen64]) bits_Len 10

theorem len_ok {k : Nat} (hk : k < 16) (S : St) (hk0 : 0 < k) : xLen [.int .u64 (k : Int)] S = some (.int .i64 ((k.log2 + 1 : Nat) : Int), S) := by
  rcases k with _ | _ | _ | _ | _ | _ | _ | _ | _ | _ | _ | _ | _ | _ | _ | _ | k
  all_goals first | omega | rfl

/-- Where many are cut. -/
def top (n : Nat) : Nat := 2 ^ (n - 1).log2

theorem top_lt {n : Nat} (h : 2 ≤ n) : 0 < top n ∧ top n < n := by
  have h1 : n - 1 ≠ 0 := by omega
  have := Nat.log2_self_le h1
  refine ⟨Nat.pow_pos (by omega), ?_⟩
  simp only [top]; omega

def treeD : Nat → List (List UInt8) → List UInt8
  | 0, _ => []
  | d + 1, l => if l.length = 0 then List.replicate 32 0 else if l.length = 1 then l.getD 0 [] else sha (treeD d (l.take (top l.length)) ++ treeD d (l.drop (top l.length)))

theorem treeD_len : ∀ (d : Nat) (l : List (List UInt8)), (∀ u ∈ l, u.length = 32) → 0 < d → (treeD d l).length = 32
  | d + 1, l, h, _ => by
    simp only [treeD]
    split
    · simp
    · split
      · rename_i h1
        obtain ⟨u, rfl⟩ := List.length_eq_one_iff.1 h1
        exact h u (by simp)
      · exact sha_len _

/-- Hashes one behind the other, in a block. -/
structure Hs (S : St) (x : AVal) (hs : List (List UInt8)) : Prop where
  ex : ∃ r v off cs, x = .sl r v off hs.length 32 ∧ S[r]? = some (.live v cs) ∧ off + hs.length * 32 ≤ cs.length ∧ (cs.drop off).take (hs.length * 32) = (hs.map bcells).flatten
  each : ∀ u ∈ hs, u.length = 32

theorem Hs.keep {S T : St} {x : AVal} {hs : List (List UInt8)} (h : Hs S x hs) (hk : Keeps S T []) : Hs T x hs := by
  obtain ⟨r, v, off, cs, h1, h2, h3, h4⟩ := h.ex
  exact ⟨⟨r, v, off, cs, h1, hk.get h2 (by simp), h3, h4⟩, h.each⟩

theorem flat32_len : ∀ {hs : List (List UInt8)}, (∀ u ∈ hs, u.length = 32) → ((hs.map bcells).flatten).length = hs.length * 32
  | [], _ => rfl
  | u :: hs, h => by
    simp only [List.map_cons, List.flatten_cons, List.length_append, List.length_cons, bcells_len]
    rw [flat32_len (fun x hx => h x (by simp [hx])), h u (by simp)]; omega

theorem flat32_split {hs : List (List UInt8)} (h : ∀ u ∈ hs, u.length = 32) (n : Nat) (hn : n ≤ hs.length) : ((hs.map bcells).flatten).take (n * 32) = ((hs.take n).map bcells).flatten ∧ ((hs.map bcells).flatten).drop (n * 32) = ((hs.drop n).map bcells).flatten := by
  have e : (hs.map bcells).flatten = ((hs.take n).map bcells).flatten ++ ((hs.drop n).map bcells).flatten := by
    rw [← List.flatten_append, ← List.map_append, List.take_append_drop]
  have hl : (((hs.take n).map bcells).flatten).length = n * 32 := by
    rw [flat32_len (fun u hu => h u (List.mem_of_mem_take hu)), List.length_take, Nat.min_eq_left hn]
  rw [e]
  constructor
  · rw [← hl, List.take_left]
  · rw [← hl, List.drop_left]

theorem Hs.take {S : St} {x : AVal} {hs : List (List UInt8)} (h : Hs S x hs) {n : Nat} (hn : n ≤ hs.length) : ∃ x', slcSA 32 x none (some (.int .i64 (n : Int))) = some x' ∧ Hs S x' (hs.take n) := by
  obtain ⟨r, v, off, cs, rfl, h2, h3, h4⟩ := h.ex
  have hl : (hs.take n).length = n := by rw [List.length_take]; omega
  refine ⟨.sl r v off n 32, ?_, ⟨⟨r, v, off, cs, by rw [hl], h2, by rw [hl]; omega, ?_⟩, fun u hu => h.each u (List.mem_of_mem_take hu)⟩⟩
  · simp only [slcSA]
    rw [bounds_nh (by omega) (by omega)]
    simp
  · rw [hl, ← (flat32_split h.each n hn).1, ← h4, List.take_take, Nat.min_eq_left (by omega)]

theorem Hs.drop {S : St} {x : AVal} {hs : List (List UInt8)} (h : Hs S x hs) {n : Nat} (hn : n ≤ hs.length) : ∃ x', slcSA 32 x (some (.int .i64 (n : Int))) none = some x' ∧ Hs S x' (hs.drop n) := by
  obtain ⟨r, v, off, cs, rfl, h2, h3, h4⟩ := h.ex
  have hl : (hs.drop n).length = hs.length - n := by rw [List.length_drop]
  refine ⟨.sl r v (off + n * 32) (hs.length - n) 32, ?_, ⟨⟨r, v, off + n * 32, cs, by rw [hl], h2, by rw [hl]; omega, ?_⟩, fun u hu => h.each u (List.mem_of_mem_drop hu)⟩⟩
  · simp only [slcSA]
    rw [bounds_ln (by omega) (by omega)]
    simp
  · rw [hl, ← (flat32_split h.each n hn).2, ← h4, List.drop_take, List.drop_drop]
    congr 1; omega

theorem Hs.len {S : St} {x : AVal} {hs : List (List UInt8)} (h : Hs S x hs) : lenA .sl x = some (.int .i64 (hs.length : Int)) := by
  obtain ⟨r, v, off, cs, rfl, _⟩ := h.ex; rfl

theorem Hs.one {S : St} {x : AVal} {hs : List (List UInt8)} (h : Hs S x hs) {i : Nat} {u : List UInt8} (hu : hs[i]? = some u) : ∃ p, iaddrSA 32 x (.int .i64 (i : Int)) = some p ∧ ∀ T, Keeps S T [] → loadA (some 32) p T = some (.agg (bcells u)) := by
  obtain ⟨r, v, off, cs, rfl, h2, h3, h4⟩ := h.ex
  have hi := (List.getElem?_eq_some_iff.1 hu).1
  refine ⟨.ptr r v (off + i * 32), by rw [iaS (by omega) (by omega)]; simp, fun T hk => ?_⟩
  have hT := hk.get h2 (by simp)
  simp only [loadA, hT, partA]
  rw [if_pos (by trivial), if_pos (by omega)]
  have e : (cs.drop (off + i * 32)).take 32 = bcells u := by
    have h5 := (flat32_split h.each i (by omega)).2
    rw [← h4, List.drop_take, List.drop_drop] at h5
    have h6 : hs.drop i = u :: hs.drop (i + 1) := by
      rw [List.drop_eq_getElem_cons hi]; congr 1
      exact (List.getElem?_eq_some_iff.1 hu).2
    rw [h6, List.map_cons, List.flatten_cons] at h5
    have h7 := congrArg (List.take 32) h5
    rw [List.take_take, Nat.min_eq_left (by omega), List.take_append_of_le_length (by rw [bcells_len, h.each u (List.mem_of_getElem? hu)]; omega), List.take_of_length_le (l := bcells u) (by rw [bcells_len, h.each u (List.mem_of_getElem? hu)]; omega)] at h7
    exact h7
  rw [e]

/-- The tree's model, so deep. -/
noncomputable def treeM : Nat → Model
  | 0 => fun _ _ => none
  | d + 1 => tellM 2 (exM (orc [xLen, treeM d, mAll]) sha_Tree 10)

theorem shl_top {n : Nat} (h2 : 2 ≤ n) (h16 : n ≤ 16) : binA .sub (.int .i64 (((n - 1).log2 + 1 : Nat) : Int)) (.int .i64 1) = some (.int .i64 (((n - 1).log2 : Nat) : Int)) ∧
    binA .shl (.int .i64 1) (.int .i64 (((n - 1).log2 : Nat) : Int)) = some (.int .i64 ((top n : Nat) : Int)) := by
  have : n = 2 ∨ n = 3 ∨ n = 4 ∨ n = 5 ∨ n = 6 ∨ n = 7 ∨ n = 8 ∨ n = 9 ∨ n = 10 ∨ n = 11 ∨ n = 12 ∨ n = 13 ∨ n = 14 ∨ n = 15 ∨ n = 16 := by omega
  rcases this with rfl | rfl | rfl | rfl | rfl | rfl | rfl | rfl | rfl | rfl | rfl | rfl | rfl | rfl | rfl <;> exact ⟨rfl, rfl⟩

theorem slcA_full {S : St} {q : Nat} {z : List AVal} (hz : z.length = 32) (hq : S[q]? = some (.live 0 z)) : slcAA 1 32 (.ptr q 0 0) none none S = some (.sl q 0 0 32 1) := by
  simp only [slcAA, bounds_nn, hq]
  rw [if_pos ⟨by trivial, by omega⟩]

theorem rd_block {S : St} {q : Nat} {u : List UInt8} {n : Nat} (hn : u.length = n) (hq : S[q]? = some (.live 0 (bcells u))) : Rd S (.sl q 0 0 n 1) u := by
  subst hn
  refine ⟨.inl ⟨_, _, _, _, rfl⟩, ?_⟩
  simp only [cellsOf, hq]
  rw [if_pos ⟨by trivial, by trivial, by rw [bcells_len]; omega⟩]
  simp only [Nat.mul_one, List.drop_zero]
  rw [List.take_of_length_le (by rw [bcells_len]; omega)]

theorem parts2 {S : St} {q a b : Nat} {u w : List UInt8} (hu : u.length = 32) (hw : w.length = 32) (hq : S[q]? = some (.live 0 [.sl a 0 0 32 1, .sl b 0 0 32 1])) (ha : S[a]? = some (.live 0 (bcells u))) (hb : S[b]? = some (.live 0 (bcells w))) :
    Parts S (.sl q 0 0 2 1) [u, w] := by
  refine ⟨rfl, fun i x hi => ?_⟩
  have hil : i < 2 := (List.getElem?_eq_some_iff.1 hi).1
  refine ⟨.ptr q 0 i, if i = 0 then .sl a 0 0 32 1 else .sl b 0 0 32 1, by rw [iaS (by omega) (by omega)]; simp, fun S' hk => ?_⟩
  rw [load_c (hk.get hq (by simp))]
  rcases i with _ | _ | i
  · simp at hi; subst hi; exact ⟨rfl, rd_block hu (hk.get ha (by simp))⟩
  · simp at hi; subst hi; exact ⟨rfl, rd_block hw (hk.get hb (by simp))⟩
  · omega

theorem tree_raw {d : Nat} (ih : ∀ {S : St} {x : AVal} {hs : List (List UInt8)}, Hs S x hs → hs.length ≤ 2 ^ d → hs.length ≤ 16 → 0 < hs.length → treeM (d + 1) [x] S = some (.agg (bcells (treeD (d + 1) hs)), S))
    {S : St} {x : AVal} {hs : List (List UInt8)} (hx : Hs S x hs) (h2 : 2 ≤ hs.length) (hd : hs.length ≤ 2 ^ (d + 1)) (h16 : hs.length ≤ 16) :
    ∃ T, exM (orc [xLen, treeM (d + 1), mAll]) sha_Tree 10 [x] S = some (.agg (bcells (treeD (d + 2) hs)), T) ∧ Keeps S T [] := by
  have htop := top_lt h2
  have hlen := hx.len
  obtain ⟨xa, ha1, ha2⟩ := hx.take (n := top hs.length) (by omega)
  obtain ⟨xb, hb1, hb2⟩ := hx.drop (n := top hs.length) (by omega)
  have htd : top hs.length ≤ 2 ^ d ∧ hs.length - top hs.length ≤ 2 ^ d := by
    have hlg : (hs.length - 1).log2 < d + 1 := (Nat.log2_lt (by omega)).2 (by omega)
    have h1 : 2 ^ (hs.length - 1).log2 ≤ 2 ^ d := Nat.pow_le_pow_right (by omega) (by omega)
    refine ⟨h1, ?_⟩
    have h3 : hs.length - 1 < 2 ^ ((hs.length - 1).log2 + 1) := Nat.lt_log2_self
    simp only [top, Nat.pow_succ] at *
    omega
  have hal : (hs.take (top hs.length)).length = top hs.length := by rw [List.length_take]; omega
  have hbl : (hs.drop (top hs.length)).length = hs.length - top hs.length := List.length_drop
  have ra : ∀ T, Keeps S T [] → treeM (d + 1) [xa] T = some (.agg (bcells (treeD (d + 1) (hs.take (top hs.length)))), T) := fun T hk => ih (ha2.keep hk) (by omega) (by omega) (by omega)
  have rb : ∀ T, Keeps S T [] → treeM (d + 1) [xb] T = some (.agg (bcells (treeD (d + 1) (hs.drop (top hs.length)))), T) := fun T hk => ih (hb2.keep hk) (by omega) (by omega) (by omega)
  have la := treeD_len (d + 1) (hs.take (top hs.length)) ha2.each (by omega)
  have lb := treeD_len (d + 1) (hs.drop (top hs.length)) hb2.each (by omega)
  have hspec : treeD (d + 2) hs = sha (treeD (d + 1) (hs.take (top hs.length)) ++ treeD (d + 1) (hs.drop (top hs.length))) := by
    rw [treeD]; rw [if_neg (by omega), if_neg (by omega)]
  rw [hspec]
  obtain ⟨A, hA⟩ : ∃ A, treeD (d + 1) (hs.take (top hs.length)) = A := ⟨_, rfl⟩
  obtain ⟨B, hB⟩ : ∃ B, treeD (d + 1) (hs.drop (top hs.length)) = B := ⟨_, rfl⟩
  rw [hA] at ra la; rw [hB] at rb lb; rw [hA, hB]
  obtain ⟨s1, s2⟩ := shl_top h2 h16
  have hsub : binA .sub (.int .i64 (hs.length : Int)) (.int .i64 1) = some (.int .i64 ((hs.length - 1 : Nat) : Int)) := by rw [sub_i (by omega) (by omega)]; congr 2; omega
  have hcv : IntKind.u64.wrap ((hs.length - 1 : Nat) : Int) = ((hs.length - 1 : Nat) : Int) := wrapU64 (by omega)
  have hln := len_ok (k := hs.length - 1) (by omega) (hk0 := by omega)
  have e0 : binA .eql (.int .i64 (hs.length : Int)) (.int .i64 0) = some (.bool false) := eql_f (by omega)
  have e1 : binA .eql (.int .i64 (hs.length : Int)) (.int .i64 1) = some (.bool false) := eql_f (by omega)
  -- the heap
  obtain ⟨Z, hZ⟩ : ∃ Z : List AVal, List.replicate 32 (AVal.int .u8 0) = Z := ⟨_, rfl⟩
  have hZl : Z.length = 32 := by rw [← hZ]; simp
  have hZ' := hZ
  simp only [List.replicate_succ, List.replicate_zero] at hZ'
  have hk1 : Keeps S (S ++ [.live 0 Z]) [] := Keeps.append ..
  have ra1 := ra _ hk1
  have rb1 := rb _ hk1
  have st1 : storeA 32 (.ptr (S.length + 1) 0 0) (.agg (bcells A)) (S ++ [.live 0 Z, .live 0 Z, .live 0 Z]) = some (S ++ [.live 0 Z, .live 0 (bcells A), .live 0 Z]) := by
    rw [store32 hZl la (by simp)]; simp [List.set_append]
  have st2 : storeA 32 (.ptr (S.length + 2) 0 0) (.agg (bcells B)) (S ++ [.live 0 Z, .live 0 (bcells A), .live 0 Z]) = some (S ++ [.live 0 Z, .live 0 (bcells A), .live 0 (bcells B)]) := by
    rw [store32 hZl lb (by simp)]; simp [List.set_append]
  have sl1 : ∀ X : List ABlock, slcAA 1 32 (.ptr (S.length + 1) 0 0) none none (S ++ .live 0 Z :: .live 0 (bcells A) :: .live 0 (bcells B) :: X) = some (.sl (S.length + 1) 0 0 32 1) := fun X => slcA_full (z := bcells A) (by rw [bcells_len]; exact la) (by simp)
  have sl2 : ∀ X : List ABlock, slcAA 1 32 (.ptr (S.length + 2) 0 0) none none (S ++ .live 0 Z :: .live 0 (bcells A) :: .live 0 (bcells B) :: X) = some (.sl (S.length + 2) 0 0 32 1) := fun X => slcA_full (z := bcells B) (by rw [bcells_len]; exact lb) (by simp)
  obtain ⟨S2, hS2⟩ : ∃ S2 : St, S ++ [.live 0 Z, .live 0 (bcells A), .live 0 (bcells B), .live 0 [.sl (S.length + 1) 0 0 32 1, .sl (S.length + 2) 0 0 32 1]] = S2 := ⟨_, rfl⟩
  have hp : Parts S2 (.sl (S.length + 3) 0 0 2 1) [A, B] := parts2 (q := S.length + 3) (a := S.length + 1) (b := S.length + 2) la lb (by rw [← hS2]; simp) (by rw [← hS2]; simp) (by rw [← hS2]; simp)
  have hall := all_ok hp (by simp) (by simp [la, lb]) (by simp [la, lb])
  rw [show [A, B].flatten = A ++ B by simp] at hall
  have hz2 : S2[S.length]? = some (.live 0 Z) := by rw [← hS2]; simp
  have hst := store32 hZl (sha_len (A ++ B)) hz2
  have hld := load32 (sha_len (A ++ B)) (get_lt' hz2)
  have hkk : Keeps S (S2.set S.length (.live 0 (bcells (sha (A ++ B))))) [] := by
    refine ⟨by rw [← hS2]; simp, fun i hi _ => ?_⟩
    rw [List.getElem?_set_ne (by omega), ← hS2, get_old hi]
  refine ⟨_, ?_, hkk⟩
  generalize ((hs.length - 1).log2 + 1 : Nat) = lg at *
  generalize (((hs.length - 1).log2 : Nat) : Int) = lg' at *
  generalize ((hs.length - 1 : Nat) : Int) = hl1 at *
  generalize (hs.length : Int) = hl at *
  generalize ((top hs.length : Nat) : Int) = tp at *
  simp [exM, sha_Tree, exM, orc, orcD, evF, evC, evOps, evOper, evAny, evOp, evCall, putR, putA, Fr.ev, Fr.of, Fr.get, Fr.set, stable, junkA, junkL, resultsA, resA, same, hZ', junkA, junkL, hlen, e0, e1, hsub, hcv, hln, s1, s2, ha1, hb1, ra1, rb1, st1, st2, sl1, sl2, fillA, cells?, splice, hS2, hall, hst, hld]
end Am.Sha
end

