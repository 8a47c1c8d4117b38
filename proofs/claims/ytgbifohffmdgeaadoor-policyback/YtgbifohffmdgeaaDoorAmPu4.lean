import Derived.Test.YtgbifohffmdgeaaDoorAmPt6
set_option linter.all false
/- Texts: the document's count and decimal. -/
section
namespace Am.Pol
open Am Go Am.Ir
set_option maxRecDepth 100000
attribute [local congr] Post_cg
attribute [local simp] ox oz kx kz og ogz kg kgz mo ai

theorem isD_cases {c : UInt8} (h : isD c = true) : c.toNat = 48 ∨ c.toNat = 49 ∨ c.toNat = 50 ∨ c.toNat = 51 ∨ c.toNat = 52 ∨ c.toNat = 53 ∨ c.toNat = 54 ∨ c.toNat = 55 ∨ c.toNat = 56 ∨ c.toNat = 57 := by
  simp only [isD, Bool.and_eq_true, decide_eq_true_eq] at h; omega
theorem isD_sub {c : UInt8} (h : isD c = true) : binA .sub (.int .u8 (c.toNat : Int)) (.int .u8 48) = some (.int .u8 ((c.toNat - 48 : Nat) : Int)) ∧ IntKind.i64.wrap ((c.toNat - 48 : Nat) : Int) = ((c.toNat - 48 : Nat) : Int) := by
  refine ⟨?_, conv_i64 (by omega) (by have := c.toNat_lt; omega)⟩
  rcases isD_cases h with h | h | h | h | h | h | h | h | h | h
  all_goals (rw [h]; rfl)

theorem ne48 {d : UInt8} (h : d ≠ 48) : (d.toNat : Int) ≠ 48 := by
  intro e
  have : (48 : UInt8).toNat = 48 := rfl
  exact h (UInt8.toNat_inj.1 (by omega))

def mCount2 : Model := exM (orc []) r30_count 1000

set_option maxHeartbeats 1000000 in
theorem count2_ok (s : List UInt8) (hs : s.length ≤ 4) (S : St) : mCount2 [.str s] S = some (.int .i64 (countN s : Int), S) := by
  obtain ⟨r, hr⟩ : ∃ r, r = countN s := ⟨_, rfl⟩
  have key : ∀ f : Fr, f.get 0 = .str s → f.get 3 = .int .i64 0 → f.get 4 = .int .i64 0 → Post (evC (orc []) 1000 r30_count_s1 f S) fun e f' T => (e = .normal ∨ e = .ret) ∧ T = S ∧
      ((e = .normal ∧ f'.get 3 = .int .i64 (r : Int) ∧ f'.get 0 = .str s) ∨ (e = .ret ∧ f'.get 2 = .int .i64 (r : Int))) := by
    intro f f0 f3 f4
    refine loop_measR (O := orc []) (k := 1000) (id := 0) (b := r30_count_l0) (m := s.length)
      (I := fun m f T => T = S ∧ f.get 0 = .str s ∧ ∃ i : Nat, f.get 4 = .int .i64 (i : Int) ∧ f.get 3 = .int .i64 (val (s.take i) : Int) ∧ i + m = s.length ∧ (s.take i).all isD = true ∧ (0 < i → s.head? ≠ some 48))
      (Q := fun e f' T => T = S ∧ ((e = .normal ∧ f'.get 3 = .int .i64 (r : Int) ∧ f'.get 0 = .str s) ∨ (e = .ret ∧ f'.get 2 = .int .i64 (r : Int)))) ?_ (by omega) ⟨rfl, f0, 0, f4, by rw [f3]; rfl, by omega, by simp, by omega⟩
    rintro m f T ⟨hT, f0, i, f4, f3, hi, ha, hz⟩
    rw [hT]
    by_cases h : i < s.length
    · have c1 : binA .lss (.int .i64 (i : Int)) (.int .i64 (s.length : Int)) = some (.bool true) := lss_t (by omega)
      have c2 : binA .add (.int .i64 (i : Int)) (.int .i64 1) = some (.int .i64 ((i + 1 : Nat) : Int)) := add_is (by omega) (by omega) (by omega)
      obtain ⟨d, hd⟩ : ∃ d, d = s[i] := ⟨_, rfl⟩
      have c3 : s[i]? = some d := by rw [hd]; exact List.getElem?_eq_getElem h
      have hmem : d ∈ s := List.mem_of_getElem? c3
      have bad : ∀ b, (Post (evC (orc []) 1000 r30_count_l0 f S) (fun e f' U => e = .ret ∧ U = S ∧ f'.get 2 = .int .i64 b)) → b = (r : Int) → Post (evC (orc []) 1000 r30_count_l0 f S) fun e f' S' => (e = .normal ∧ ∃ m', m' < m ∧ (S' = S ∧ f'.get 0 = .str s ∧ ∃ i : Nat, f'.get 4 = .int .i64 (i : Int) ∧ f'.get 3 = .int .i64 (val (s.take i) : Int) ∧ i + m' = s.length ∧ (s.take i).all isD = true ∧ (0 < i → s.head? ≠ some 48))) ∨ (e = .exit 0 ∧ S' = S ∧ ((Ex.normal = .normal ∧ f'.get 3 = .int .i64 (r : Int) ∧ f'.get 0 = .str s) ∨ (Ex.normal = .ret ∧ f'.get 2 = .int .i64 (r : Int)))) ∨ (e = .ret ∧ S' = S ∧ ((Ex.ret = .normal ∧ f'.get 3 = .int .i64 (r : Int) ∧ f'.get 0 = .str s) ∨ (Ex.ret = .ret ∧ f'.get 2 = .int .i64 (r : Int)))) := by
        rintro b hmid rfl
        refine hmid.mono ?_
        rintro e f' U ⟨rfl, rfl, g⟩
        exact .inr (.inr ⟨rfl, rfl, .inr ⟨rfl, g⟩⟩)
      by_cases hlo : d.toNat < 48
      · refine bad 0 ?_ ?_
        · have c4 : binA .lss (.int .u8 (d.toNat : Int)) (.int .u8 48) = some (.bool true) := lss_t (by omega)
          simp [r30_count_l0, exM, orc, orcD, evF, evC_skip, evC_region, evC_cond, evC_exit, evC_ret, evOps, evOper, evAny, evOp, evCall, putR, putA, Fr.ev, Fr.of, Fr.get, Fr.set, stable, junkA, junkL, resultsA, resA, same, Post_seq, Post_block, Post_some, lenA, Fr.get_set, f0, f3, f4, c1, c2, c3, c4]
        · have : countN s = 0 := by
            unfold countN
            rw [if_neg (fun hh => by have := List.all_eq_true.1 hh.2.1 d hmem; simp [isD] at this; omega)]
          rw [hr, this]; rfl
      have c4 : binA .lss (.int .u8 (d.toNat : Int)) (.int .u8 48) = some (.bool false) := lss_f (by omega)
      by_cases hhi : 57 < d.toNat
      · refine bad 0 ?_ ?_
        · have c5 : binA .gtr (.int .u8 (d.toNat : Int)) (.int .u8 57) = some (.bool true) := gtr_t (by omega)
          simp [r30_count_l0, exM, orc, orcD, evF, evC_skip, evC_region, evC_cond, evC_exit, evC_ret, evOps, evOper, evAny, evOp, evCall, putR, putA, Fr.ev, Fr.of, Fr.get, Fr.set, stable, junkA, junkL, resultsA, resA, same, Post_seq, Post_block, Post_some, lenA, Fr.get_set, f0, f3, f4, c1, c2, c3, c4, c5]
        · have : countN s = 0 := by
            unfold countN
            rw [if_neg (fun hh => by have := List.all_eq_true.1 hh.2.1 d hmem; simp [isD] at this; omega)]
          rw [hr, this]; rfl
      have c5 : binA .gtr (.int .u8 (d.toNat : Int)) (.int .u8 57) = some (.bool false) := gtr_f (by omega)
      have hdd : isD d = true := by simp [isD]; omega
      obtain ⟨c6, c7⟩ := isD_sub hdd
      have hv := val_lt ha
      have hp : 10 ^ (s.take i).length ≤ 10 ^ 4 := Nat.pow_le_pow_right (by omega) (by simp; omega)
      have hval : val (s.take (i + 1)) = val (s.take i) * 10 + (d.toNat - 48) := by
        rw [List.take_add_one, c3]
        simp [val, List.foldl_append]
      have hdl := d.toNat_lt
      have c8 : binA .mul (.int .i64 (val (s.take i) : Int)) (.int .i64 10) = some (.int .i64 ((val (s.take i) * 10 : Nat) : Int)) := mul_is (by omega) (by omega) (by omega)
      have c9 : binA .add (.int .i64 ((val (s.take i) * 10 : Nat) : Int)) (.int .i64 ((d.toNat - 48 : Nat) : Int)) = some (.int .i64 (val (s.take (i + 1)) : Int)) := add_is (by rw [hval]; omega) (by omega) (by rw [hval]; omega)
      have ha1 : (s.take (i + 1)).all isD = true := by
        rw [List.take_add_one, c3, List.all_append, ha]; simp [hdd]
      have go : (Post (evC (orc []) 1000 r30_count_l0 f S) (fun e f' U => e = .normal ∧ U = S ∧ f'.get 0 = .str s ∧ f'.get 4 = .int .i64 ((i + 1 : Nat) : Int) ∧ f'.get 3 = .int .i64 (val (s.take (i + 1)) : Int))) → s.head? ≠ some 48 → Post (evC (orc []) 1000 r30_count_l0 f S) fun e f' S' => (e = .normal ∧ ∃ m', m' < m ∧ (S' = S ∧ f'.get 0 = .str s ∧ ∃ i : Nat, f'.get 4 = .int .i64 (i : Int) ∧ f'.get 3 = .int .i64 (val (s.take i) : Int) ∧ i + m' = s.length ∧ (s.take i).all isD = true ∧ (0 < i → s.head? ≠ some 48))) ∨ (e = .exit 0 ∧ S' = S ∧ ((Ex.normal = .normal ∧ f'.get 3 = .int .i64 (r : Int) ∧ f'.get 0 = .str s) ∨ (Ex.normal = .ret ∧ f'.get 2 = .int .i64 (r : Int)))) ∨ (e = .ret ∧ S' = S ∧ ((Ex.ret = .normal ∧ f'.get 3 = .int .i64 (r : Int) ∧ f'.get 0 = .str s) ∨ (Ex.ret = .ret ∧ f'.get 2 = .int .i64 (r : Int)))) := by
        intro hmid hne
        refine hmid.mono ?_
        rintro e f' U ⟨rfl, rfl, g0, g4, g3⟩
        exact .inl ⟨rfl, m - 1, by omega, rfl, g0, i + 1, g4, g3, by omega, ha1, fun _ => hne⟩
      by_cases h0 : i = 0
      · have c10 : binA .eql (.int .i64 (i : Int)) (.int .i64 0) = some (.bool true) := eql_t (by omega)
        have hhd : s.head? = some d := by rw [List.head?_eq_getElem?, ← h0]; exact c3
        by_cases h48 : d = 48
        · refine bad 0 ?_ ?_
          · have c11 : binA .eql (.int .u8 (d.toNat : Int)) (.int .u8 48) = some (.bool true) := by rw [h48]; rfl
            simp [r30_count_l0, exM, orc, orcD, evF, evC_skip, evC_region, evC_cond, evC_exit, evC_ret, evOps, evOper, evAny, evOp, evCall, putR, putA, Fr.ev, Fr.of, Fr.get, Fr.set, stable, junkA, junkL, resultsA, resA, same, Post_seq, Post_block, Post_some, lenA, Fr.get_set, f0, f3, f4, c1, c2, c3, c4, c5, c10, c11]
          · have : countN s = 0 := by
              unfold countN
              rw [if_neg (fun hh => hh.2.2 (by rw [hhd, h48]))]
            rw [hr, this]; rfl
        · refine go ?_ (by rw [hhd]; simpa using h48)
          have c11 : binA .eql (.int .u8 (d.toNat : Int)) (.int .u8 48) = some (.bool false) := eql_f (ne48 h48)
          generalize ((d.toNat - 48 : Nat) : Int) = dm at *
          generalize ((i + 1 : Nat) : Int) = z1 at *
          generalize ((val (s.take i) * 10 : Nat) : Int) = z2 at *
          generalize (val (s.take (i + 1)) : Int) = z3 at *
          generalize (val (s.take i) : Int) = z4 at *
          simp [r30_count_l0, exM, orc, orcD, evF, evC_skip, evC_region, evC_cond, evC_exit, evC_ret, evOps, evOper, evAny, evOp, evCall, putR, putA, Fr.ev, Fr.of, Fr.get, Fr.set, stable, junkA, junkL, resultsA, resA, same, Post_seq, Post_block, Post_some, lenA, Fr.get_set, f0, f3, f4, c1, c2, c3, c4, c5, c6, c7, c8, c9, c10, c11]
      · have c10 : binA .eql (.int .i64 (i : Int)) (.int .i64 0) = some (.bool false) := eql_f (by omega)
        refine go ?_ (hz (by omega))
        generalize ((d.toNat - 48 : Nat) : Int) = dm at *
        generalize ((i + 1 : Nat) : Int) = z1 at *
        generalize ((val (s.take i) * 10 : Nat) : Int) = z2 at *
        generalize (val (s.take (i + 1)) : Int) = z3 at *
        generalize (val (s.take i) : Int) = z4 at *
        simp [r30_count_l0, exM, orc, orcD, evF, evC_skip, evC_region, evC_cond, evC_exit, evC_ret, evOps, evOper, evAny, evOp, evCall, putR, putA, Fr.ev, Fr.of, Fr.get, Fr.set, stable, junkA, junkL, resultsA, resA, same, Post_seq, Post_block, Post_some, lenA, Fr.get_set, f0, f3, f4, c1, c2, c3, c4, c5, c6, c7, c8, c9, c10]
    · have c1 : binA .lss (.int .i64 (i : Int)) (.int .i64 (s.length : Int)) = some (.bool false) := lss_f (by omega)
      rw [List.take_of_length_le (by omega)] at ha f3
      have e : countN s = val s := by
        unfold countN
        by_cases h0 : s = []
        · subst h0; rfl
        · rw [if_pos ⟨hs, ha, hz (by have := List.length_pos_iff.2 h0; omega)⟩]
      suffices hmid : Post (evC (orc []) 1000 r30_count_l0 f S) (fun e f' U => e = .exit 0 ∧ U = S ∧ f'.get 0 = .str s ∧ f'.get 3 = .int .i64 (val s : Int)) by
        refine hmid.mono ?_
        rintro e' f' U ⟨rfl, rfl, h4, h5⟩
        exact .inr (.inl ⟨rfl, rfl, .inl ⟨rfl, by rw [hr, e]; exact h5, h4⟩⟩)
      generalize (val s : Int) = vs at *
      simp [r30_count_l0, exM, orc, orcD, evF, evC_skip, evC_region, evC_cond, evC_exit, evC_ret, evOps, evOper, evAny, evOp, evCall, putR, putA, Fr.ev, Fr.of, Fr.get, Fr.set, stable, junkA, junkL, resultsA, resA, same, Post_seq, Post_block, Post_some, lenA, Fr.get_set, f0, f3, f4, c1]
  rw [← hr]
  unfold mCount2 exM
  refine evF_post (F := r30_count) rfl rfl ?_
  obtain ⟨s1, hs1⟩ : ∃ s1, s1 = r30_count_s1 := ⟨_, rfl⟩
  rw [← hs1] at key
  simp only [r30_count, r30_count_t2, ← hs1]
  obtain ⟨O, hO⟩ : ∃ O, O = orc [] := ⟨_, rfl⟩
  rw [← hO] at key ⊢
  have c1 : binA .gtr (.int .i64 (s.length : Int)) (.int .i64 4) = some (.bool false) := gtr_f (by omega)
  simp [exM, orc, orcD, evF, evC_skip, evC_region, evC_cond, evC_exit, evC_ret, evOps, evOper, evAny, evOp, evCall, putR, putA, Fr.ev, Fr.of, Fr.get, Fr.set, stable, junkA, junkL, resultsA, resA, same, Post_seq, Post_block, Post_some]
  refine (key _ ?_ ?_ ?_).mono ?_
  · simp [Fr.get]
  · simp [Fr.get]
  · simp [Fr.get]
  · rintro e f' T ⟨_, rfl, h | h⟩
    · obtain ⟨rfl, h1, h2⟩ := h
      simp [exM, orc, orcD, evF, evC_skip, evC_region, evC_cond, evC_exit, evC_ret, evOps, evOper, evAny, evOp, evCall, putR, putA, Fr.ev, Fr.of, Fr.get, Fr.set, stable, junkA, junkL, resultsA, resA, same, Post_seq, Post_block, Post_some, lenA, Fr.get_set, h1, h2, c1]
    · obtain ⟨rfl, h1⟩ := h
      simp [exM, orc, orcD, evF, evC_skip, evC_region, evC_cond, evC_exit, evC_ret, evOps, evOper, evAny, evOp, evCall, putR, putA, Fr.ev, Fr.of, Fr.get, Fr.set, stable, junkA, junkL, resultsA, resA, same, Post_seq, Post_block, Post_some, h1]
end Am.Pol
end

/- Texts: the document's decimal and Text. -/
section
namespace Am.Pol
open Am Go Am.Ir
set_option maxRecDepth 100000
attribute [local congr] Post_cg
attribute [local simp] ox oz kx kz og ogz kg kgz mo ai

def xDec : Model := exM (orc []) r30_decimal 1000

theorem bytes_one (S : St) {d : Nat} (hd : d < 10) : bytesA (.sl S.length 0 0 1 1) (S ++ [.live 0 [.int .u8 ((48 + d : Nat) : Int)]]) = some [UInt8.ofNat (48 + d)] := by
  have h2 : (S ++ [ABlock.live 0 [AVal.int .u8 ((48 + d : Nat) : Int)]])[S.length]? = some (.live 0 [.int .u8 ((48 + d : Nat) : Int)]) := by simp
  have h3 : asBytes [AVal.int .u8 ((48 + d : Nat) : Int)] = some [UInt8.ofNat (48 + d)] := by
    obtain rfl | rfl | rfl | rfl | rfl | rfl | rfl | rfl | rfl | rfl : d = 0 ∨ d = 1 ∨ d = 2 ∨ d = 3 ∨ d = 4 ∨ d = 5 ∨ d = 6 ∨ d = 7 ∨ d = 8 ∨ d = 9 := by omega
    all_goals rfl
  generalize ((48 + d : Nat) : Int) = z at *
  generalize UInt8.ofNat (48 + d) = w at *
  simp [bytesA, cellsOf, h3]
theorem wrap_dig {d : Nat} (hd : d < 10) : IntKind.u8.wrap ((48 + d : Nat) : Int) = ((48 + d : Nat) : Int) := by
  obtain rfl | rfl | rfl | rfl | rfl | rfl | rfl | rfl | rfl | rfl : d = 0 ∨ d = 1 ∨ d = 2 ∨ d = 3 ∨ d = 4 ∨ d = 5 ∨ d = 6 ∨ d = 7 ∨ d = 8 ∨ d = 9 := by omega
  all_goals rfl

/-- What is still to be written of a number. -/
def digsTo (n : Nat) (acc : List UInt8) : List UInt8 := if n = 0 then acc else Lib.decDigits n ++ acc
theorem digsTo_step {n : Nat} (h : 0 < n) (acc : List UInt8) : digsTo (n / 10) ([UInt8.ofNat (48 + n % 10)] ++ acc) = digsTo n acc := by
  unfold digsTo
  rw [if_neg (show ¬ n = 0 by omega)]
  by_cases h10 : n < 10
  · rw [if_pos (by omega), Lib.decDigits_one h10, Nat.mod_eq_of_lt h10]
  · rw [if_neg (by omega)]
    conv => rhs; rw [Lib.decDigits, dif_neg h10]
    rw [List.append_assoc]

set_option maxHeartbeats 1000000 in
theorem dec_ok {n : Int} (h0 : 0 < n) (h1 : n ≤ 9223372036854775807) (S : St) : ∃ T, xDec [.int .i64 n] S = some (.str (Lib.itoa n), T) ∧ Grown S T := by
  obtain ⟨N, hN⟩ : ∃ N : Nat, (N : Int) = n := ⟨n.toNat, by omega⟩
  have e : Lib.itoa n = digsTo N [] := by
    rw [itoa_pos h0]
    unfold digsTo
    rw [if_neg (by omega), List.append_nil, ← hN, Int.toNat_natCast]
  rw [e, ← hN]
  have h20 : N < 10 ^ 20 := by
    have : (10 : Nat) ^ 20 = 100000000000000000000 := by decide
    omega
  have key : ∀ f : Fr, f.get 0 = .int .i64 (N : Int) → f.get 3 = .str [] → ∃ f' T, evC (orc []) 1000 r30_decimal_s1 f S = some (.normal, f', T) ∧ Grown S T ∧ f'.get 3 = .str (digsTo N []) := by
    intro f f0 f3
    refine loop_meas (O := orc []) (k := 1000) (id := 0) (b := r30_decimal_l0)
      (I := fun m f T => Grown S T ∧ ∃ (q : Nat) (acc : List UInt8), f.get 0 = .int .i64 (q : Int) ∧ f.get 3 = .str acc ∧ digsTo q acc = digsTo N [] ∧ acc.length + m = 20 ∧ q < 10 ^ m ∧ q ≤ N)
      (Q := fun f T => Grown S T ∧ f.get 3 = .str (digsTo N [])) ?_ (m := 20) (by omega) ⟨Grown.refl S, N, [], f0, f3, rfl, rfl, h20, Nat.le_refl _⟩
    rintro m f T ⟨hg, q, acc, f0, f3, hq, hm, hlt, hle⟩
    by_cases h : q = 0
    · have c1 : binA .gtr (.int .i64 (q : Int)) (.int .i64 0) = some (.bool false) := gtr_f (by omega)
      suffices hmid : Post (evC (orc []) 1000 r30_decimal_l0 f T) (fun e f' U => e = .exit 0 ∧ U = T ∧ f'.get 3 = .str acc) by
        refine hmid.mono ?_
        rintro e f' U ⟨rfl, rfl, g⟩
        refine .inr ⟨rfl, hg, ?_⟩
        rw [g, ← hq]
        unfold digsTo; rw [if_pos h]
      simp [r30_decimal_l0, exM, orc, orcD, evF, evC_skip, evC_region, evC_cond, evC_exit, evC_ret, evOps, evOper, evAny, evOp, evCall, putR, putA, Fr.ev, Fr.of, Fr.get, Fr.set, stable, junkA, junkL, resultsA, resA, same, Post_seq, Post_block, Post_some, Fr.get_set, f0, f3, c1]
    · have hd : q % 10 < 10 := Nat.mod_lt _ (by omega)
      have c1 : binA .gtr (.int .i64 (q : Int)) (.int .i64 0) = some (.bool true) := gtr_t (by omega)
      have c2 : binA .rem (.int .i64 (q : Int)) (.int .i64 10) = some (.int .i64 ((q % 10 : Nat) : Int)) := by rw [rem_i (by omega) (by omega)]; rfl
      have c3 : binA .add (.int .i64 48) (.int .i64 ((q % 10 : Nat) : Int)) = some (.int .i64 ((48 + q % 10 : Nat) : Int)) := add_is (by omega) (by omega) (by omega)
      have c4 := wrap_dig hd
      have c5 := fill_one (.int .u8 0) (.int .u8 ((48 + q % 10 : Nat) : Int)) rfl
      have c6 := bytes_one T hd
      have c7 : binA .add (.str [UInt8.ofNat (48 + q % 10)]) (.str acc) = some (.str ([UInt8.ofNat (48 + q % 10)] ++ acc)) := add_s (by simp; omega)
      have c8 : binA .quo (.int .i64 (q : Int)) (.int .i64 10) = some (.int .i64 ((q / 10 : Nat) : Int)) := by rw [quo_i (by omega) (by omega) (by omega)]; rfl
      have hs := digsTo_step (n := q) (by omega) acc
      obtain ⟨m', rfl⟩ : ∃ m', m = m' + 1 := by
        cases m with
        | zero => simp at hlt; omega
        | succ m' => exact ⟨m', rfl⟩
      suffices hmid : Post (evC (orc []) 1000 r30_decimal_l0 f T) (fun e f' U => e = .normal ∧ U = T ++ [.live 0 [.int .u8 ((48 + q % 10 : Nat) : Int)]] ∧ f'.get 0 = .int .i64 ((q / 10 : Nat) : Int) ∧ f'.get 3 = .str ([UInt8.ofNat (48 + q % 10)] ++ acc)) by
        refine hmid.mono ?_
        rintro e f' U ⟨rfl, rfl, g0, g3⟩
        exact .inl ⟨rfl, m', by omega, hg.trans (Grown.app T _), q / 10, _, g0, g3, by rw [hs, hq], by simp; omega, by rw [Nat.pow_succ] at hlt; omega, by omega⟩
      generalize ((q / 10 : Nat) : Int) = z1 at *
      generalize ((48 + q % 10 : Nat) : Int) = z2 at *
      generalize ((q % 10 : Nat) : Int) = z3 at *
      generalize [UInt8.ofNat (48 + q % 10)] ++ acc = z4 at *
      generalize [UInt8.ofNat (48 + q % 10)] = z5 at *
      generalize (q : Int) = z6 at *
      simp [r30_decimal_l0, exM, orc, orcD, evF, evC_skip, evC_region, evC_cond, evC_exit, evC_ret, evOps, evOper, evAny, evOp, evCall, putR, putA, Fr.ev, Fr.of, Fr.get, Fr.set, stable, junkA, junkL, resultsA, resA, same, Post_seq, Post_block, Post_some, Fr.get_set, f0, f3, c1, c2, c3, c4, c5, c6, c7, c8]
  suffices h : ∃ T, evF (orc []) 1000 r30_decimal [.int .i64 (N : Int)] S = some (.str (digsTo N []), T) ∧ Grown S T by
    exact h
  refine evF_postX (F := r30_decimal) (R := fun T => Grown S T) rfl rfl ?_
  obtain ⟨s1, hs1⟩ : ∃ s1, s1 = r30_decimal_s1 := ⟨_, rfl⟩
  rw [← hs1] at key
  simp only [r30_decimal, r30_decimal_t2, ← hs1]
  obtain ⟨O, hO⟩ : ∃ O, O = orc [] := ⟨_, rfl⟩
  rw [← hO] at key ⊢
  generalize (N : Int) = z at *
  generalize digsTo N [] = w at *
  simp [exM, orc, orcD, evF, evC_skip, evC_region, evC_cond, evC_exit, evC_ret, evOps, evOper, evAny, evOp, evCall, putR, putA, Fr.ev, Fr.of, Fr.get, Fr.set, stable, junkA, junkL, resultsA, resA, same, Post_seq, Post_block, Post_some]
  refine (Post.ran (key _ ?_ ?_)).mono ?_
  · simp [Fr.get]
  · simp [Fr.get]
  · rintro e f' T ⟨rfl, h1, h2⟩
    simp [exM, orc, orcD, evF, evC_skip, evC_region, evC_cond, evC_exit, evC_ret, evOps, evOper, evAny, evOp, evCall, putR, putA, Fr.ev, Fr.of, Fr.get, Fr.set, stable, junkA, junkL, resultsA, resA, same, Post_seq, Post_block, Post_some, Fr.get_set, h2, h1]
end Am.Pol
end

/- Texts: the document's Text. -/
section
namespace Am.Pol
open Am Go Am.Ir
set_option maxRecDepth 100000
attribute [local congr] Post_cg
attribute [local simp] ox oz kx kz og ogz kg kgz mo ai

def S2b (p : Pc) : St := [.live 0 p.cells, .live 0 p.cells]
def oText2 : Orc := orc [xNames, xDec]
def xText2 : Model := exM oText2 r30_Text 1000

structure Txt2F (f : Fr) (acc : List UInt8) (i : Nat) : Prop where
  s3 : f.get 3 = .ptr 1 0 0
  s4 : f.get 4 = .str acc
  s5 : f.get 5 = .int .i64 (i : Int)

theorem neq_nil {s : List UInt8} (h : s ≠ []) : binA .neq (.str s) (.str []) = some (.bool true) := by
  have h : (s == []) = false := by simpa using h
  show some (AVal.bool !(s == [])) = _
  rw [h]; rfl

set_option maxHeartbeats 1000000 in
theorem text2_round {p : Pc} (hp : p.Ok2) {T : St} (hS : Old 2 (S2b p) T) (hT : 2 ≤ T.length) {i : Nat} (hi : i < 5) {f : Fr} (hf : Txt2F f (Lib.join (wordsP p i) [32]) i) :
    Post (evC oText2 1000 r30_Text_l0 f T) fun e f' U => e = .normal ∧ Old 2 (S2b p) U ∧ 2 ≤ U.length ∧ Txt2F f' (Lib.join (wordsP p (i + 1)) [32]) (i + 1) := by
  obtain ⟨s3, s4, s5⟩ := hf
  obtain ⟨w1, w2⟩ := wordsP_mem hp i
  have c1 : binA .lss (.int .i64 (i : Int)) (.int .i64 5) = some (.bool true) := lss_t (by omega)
  have c2 : binA .add (.int .i64 (i : Int)) (.int .i64 1) = some (.int .i64 ((i + 1 : Nat) : Int)) := add_is (by omega) (by omega) (by omega)
  have c3 : iaddrAA 1 5 (.ptr 1 0 0) (.int .i64 (i : Int)) = some (.ptr 1 0 i) := by
    simp [iaddrAA]; omega
  have ld : ∀ U, Old 2 (S2b p) U → loadA none (.ptr 1 0 i) U = some (.int .i64 (p.num i)) := fun U h => by rw [load_c (h 1 (by omega))]; exact cells_num p hi
  have c4 := ld T hS
  obtain ⟨acc, hacc⟩ : ∃ acc, acc = Lib.join (wordsP p i) [32] := ⟨_, rfl⟩
  rw [← hacc] at s4 w1 w2
  by_cases h : 0 < p.num i
  · have c5 : binA .leq (.int .i64 (p.num i)) (.int .i64 0) = some (.bool false) := leq_f h
    have e1 : wordsP p (i + 1) = wordsP p i ++ [wordP p i] := by rw [wordsP, if_pos h]
    rw [e1, join_snoc, ← hacc]
    have c6 := names_ok T
    obtain ⟨T1, hT1⟩ : ∃ T1 : St, T1 = T ++ [.live 0 (strC names)] := ⟨_, rfl⟩
    rw [← hT1] at c6
    have g1 : Grown T T1 := by rw [hT1]; exact Grown.app T _
    have hS1 : Old 2 (S2b p) T1 := hS.trans (g1.old.less hT)
    have c7 : iaddrSA 1 (.sl T.length 0 0 5 1) (.int .i64 (i : Int)) = some (.ptr T.length 0 i) := by rw [iaS (by omega) (by omega), Int.toNat_natCast, Nat.zero_add, Nat.mul_one]
    have n1 : T1[T.length]? = some (.live 0 (strC names)) := by rw [hT1]; simp
    have c8 : loadA none (.ptr T.length 0 i) T1 = some (.str (nm i)) := by rw [load_c n1]; exact names_at hi
    have c9 := ld T1 hS1
    obtain ⟨T2, c10, g2⟩ := dec_ok h (hp.num i).2 T1
    have c11 : loadA none (.ptr T.length 0 i) T2 = some (.str (nm i)) := by rw [load_c (by rw [g2.old _ (live_lt n1)]; exact n1)]; exact names_at hi
    have hS2 : Old 2 (S2b p) T2 := hS1.trans (g2.old.less (by have := g1.len; omega))
    have hl2 := g1.len
    have hl3 := g2.len
    have hn := nm_len i
    have ht := itoa_len h (hp.num i).2
    by_cases hw : wordsP p i = []
    · rw [if_pos hw]
      have ha : acc = [] := by rw [hacc, hw]; exact Lib.join_nil _
      rw [ha] at s4
      have d1 : binA .neq (.str []) (.str []) = some (.bool false) := rfl
      have d2 : binA .add (.str []) (.str (nm i)) = some (.str (nm i)) := by rw [add_s (by simp; omega)]; rfl
      have d3 : binA .add (.str (nm i)) (.str [61]) = some (.str (nm i ++ [61])) := add_s (by simp; omega)
      have d4 : binA .add (.str (nm i ++ [61])) (.str (Lib.itoa (p.num i))) = some (.str (wordP p i)) := add_s (by simp; omega)
      suffices hmid : Post (evC oText2 1000 r30_Text_l0 f T) (fun e f' V => e = .normal ∧ V = T2 ∧ f'.get 3 = .ptr 1 0 0 ∧ f'.get 4 = .str (wordP p i) ∧ f'.get 5 = .int .i64 ((i + 1 : Nat) : Int)) by
        refine hmid.mono ?_
        rintro e f' V ⟨k1, rfl, k2, k3, k4⟩
        exact ⟨k1, hS2, by omega, k2, k3, k4⟩
      unfold oText2
      generalize ((i + 1 : Nat) : Int) = z1 at *
      generalize xNames = m1 at *
      generalize xDec = m2 at *
      generalize wordP p i = wp at *
      generalize nm i ++ [61] = wq at *
      generalize nm i = wn at *
      generalize Lib.itoa (p.num i) = wr at *
      simp [r30_Text_l0, exM, orc, orcD, evF, evC_skip, evC_region, evC_cond, evC_exit, evC_ret, evOps, evOper, evAny, evOp, evCall, putR, putA, Fr.ev, Fr.of, Fr.get, Fr.set, stable, junkA, junkL, resultsA, resA, same, Post_seq, Post_block, Post_some, trL, sameRead, sameVal, beqV_refl, Fr.get_set, s3, s4, s5, c1, c2, c3, c4, c5, c6, c7, c8, c9, c10, c11, d1, d2, d3, d4]
    · rw [if_neg hw]
      have ha : acc ≠ [] := w2 hw
      have d1 := neq_nil ha
      have d0 : binA .add (.str acc) (.str [32]) = some (.str (acc ++ [32])) := add_s (by simp; omega)
      have d2 : binA .add (.str (acc ++ [32])) (.str (nm i)) = some (.str (acc ++ [32] ++ nm i)) := add_s (by simp; omega)
      have d3 : binA .add (.str (acc ++ [32] ++ nm i)) (.str [61]) = some (.str (acc ++ [32] ++ nm i ++ [61])) := add_s (by simp; omega)
      have d4 : binA .add (.str (acc ++ [32] ++ nm i ++ [61])) (.str (Lib.itoa (p.num i))) = some (.str (acc ++ [32] ++ wordP p i)) := by
        rw [add_s (by simp; omega)]; simp [wordP]
      suffices hmid : Post (evC oText2 1000 r30_Text_l0 f T) (fun e f' V => e = .normal ∧ V = T2 ∧ f'.get 3 = .ptr 1 0 0 ∧ f'.get 4 = .str (acc ++ [32] ++ wordP p i) ∧ f'.get 5 = .int .i64 ((i + 1 : Nat) : Int)) by
        refine hmid.mono ?_
        rintro e f' V ⟨k1, rfl, k2, k3, k4⟩
        exact ⟨k1, hS2, by omega, k2, k3, k4⟩
      unfold oText2
      generalize ((i + 1 : Nat) : Int) = z1 at *
      generalize xNames = m1 at *
      generalize xDec = m2 at *
      generalize acc ++ [32] ++ wordP p i = wp at *
      generalize acc ++ [32] ++ nm i ++ [61] = wq at *
      generalize acc ++ [32] ++ nm i = wq2 at *
      generalize acc ++ [32] = wq3 at *
      generalize nm i = wn at *
      generalize Lib.itoa (p.num i) = wr at *
      simp [r30_Text_l0, exM, orc, orcD, evF, evC_skip, evC_region, evC_cond, evC_exit, evC_ret, evOps, evOper, evAny, evOp, evCall, putR, putA, Fr.ev, Fr.of, Fr.get, Fr.set, stable, junkA, junkL, resultsA, resA, same, Post_seq, Post_block, Post_some, trL, sameRead, sameVal, beqV_refl, Fr.get_set, s3, s4, s5, c1, c2, c3, c4, c5, c6, c7, c8, c9, c10, c11, d0, d1, d2, d3, d4]
  · have c5 : binA .leq (.int .i64 (p.num i)) (.int .i64 0) = some (.bool true) := leq_t (by omega)
    have e1 : wordsP p (i + 1) = wordsP p i := by rw [wordsP, if_neg h]
    rw [e1, ← hacc]
    suffices hmid : Post (evC oText2 1000 r30_Text_l0 f T) (fun e f' V => e = .normal ∧ V = T ∧ f'.get 3 = .ptr 1 0 0 ∧ f'.get 4 = .str acc ∧ f'.get 5 = .int .i64 ((i + 1 : Nat) : Int)) by
      refine hmid.mono ?_
      rintro e f' V ⟨k1, rfl, k2, k3, k4⟩
      exact ⟨k1, hS, hT, k2, k3, k4⟩
    unfold oText2
    generalize ((i + 1 : Nat) : Int) = z1 at *
    generalize xNames = m1 at *
    generalize xDec = m2 at *
    simp [r30_Text_l0, exM, orc, orcD, evF, evC_skip, evC_region, evC_cond, evC_exit, evC_ret, evOps, evOper, evAny, evOp, evCall, putR, putA, Fr.ev, Fr.of, Fr.get, Fr.set, stable, junkA, junkL, resultsA, resA, same, Post_seq, Post_block, Post_some, Fr.get_set, s3, s4, s5, c1, c2, c3, c4, c5]

theorem text2_loop {p : Pc} (hp : p.Ok2) {f : Fr} (hf : Txt2F f [] 0) : ∃ f' T, evC oText2 1000 r30_Text_s1 f (S2b p) = some (.normal, f', T) ∧ f'.get 4 = .str (Lib.join (wordsP p 5) [32]) := by
  refine loop_post (O := oText2) (k := 1000) (id := 0) (b := r30_Text_l0)
    (I := fun i f T => Old 2 (S2b p) T ∧ 2 ≤ T.length ∧ Txt2F f (Lib.join (wordsP p i) [32]) i)
    (Q := fun f T => f.get 4 = .str (Lib.join (wordsP p 5) [32])) 5 (by omega) ?_ ?_ ⟨fun _ _ => rfl, Nat.le_refl _, hf⟩
  · rintro i hi f T ⟨h2, h3, h4⟩
    exact text2_round hp h2 h3 hi h4
  · rintro f T ⟨h2, h3, h4⟩
    obtain ⟨s3, s4, s5⟩ := h4
    have s5' : f.get 5 = .int .i64 5 := s5
    have c1 : binA .lss (.int .i64 5) (.int .i64 5) = some (.bool false) := rfl
    generalize Lib.join (wordsP p 5) [32] = tx at *
    suffices hmid : Post (evC oText2 1000 r30_Text_l0 f T) (fun e f' U => e = .exit 0 ∧ f'.get 4 = .str tx) by
      refine hmid.mono ?_
      rintro e f' U ⟨rfl, g1⟩
      exact ⟨rfl, g1⟩
    simp [r30_Text_l0, exM, orc, orcD, evF, evC_skip, evC_region, evC_cond, evC_exit, evC_ret, evOps, evOper, evAny, evOp, evCall, putR, putA, Fr.ev, Fr.of, Fr.get, Fr.set, stable, junkA, junkL, resultsA, resA, same, Post_seq, Post_block, Post_some, Fr.get_set, s4, s5', c1]

set_option maxHeartbeats 1000000 in
theorem text2_run {p : Pc} (hp : p.Ok2) : ∃ T, xText2 [.agg p.cells] [] = some (.str (textN p), T) := by
  suffices h : ∃ T, evF oText2 1000 r30_Text [.agg p.cells] [] = some (.str (textN p), T) ∧ True by
    obtain ⟨T, h, _⟩ := h; exact ⟨T, h⟩
  refine evF_postX (F := r30_Text) (R := fun _ => True) rfl rfl ?_
  have c0 : cells? (.agg p.cells) = some p.cells := rfl
  have key := fun f hf => text2_loop hp (f := f) hf
  obtain ⟨hb1, hb2⟩ := wordsP_mem hp 5
  unfold textN
  obtain ⟨s1, hs1⟩ : ∃ s1, s1 = r30_Text_s1 := ⟨_, rfl⟩
  have hO : oText2 = orc [xNames, xDec] := rfl
  have l0 : loadA none (.ptr 0 0 0) [ABlock.live 0 p.cells] = some (.int .i64 p.last) := rfl
  have l1 : loadA none (.ptr 0 0 1) [ABlock.live 0 p.cells] = some (.int .i64 p.hours) := rfl
  have l2 : loadA none (.ptr 0 0 2) [ABlock.live 0 p.cells] = some (.int .i64 p.days) := rfl
  have l3 : loadA none (.ptr 0 0 3) [ABlock.live 0 p.cells] = some (.int .i64 p.weeks) := rfl
  have l4 : loadA none (.ptr 0 0 4) [ABlock.live 0 p.cells] = some (.int .i64 p.months) := rfl
  have c2 : fillA [.int .i64 0, .int .i64 0, .int .i64 0, .int .i64 0, .int .i64 0] [(0, 1, .int .i64 p.last), (1, 1, .int .i64 p.hours), (2, 1, .int .i64 p.days), (3, 1, .int .i64 p.weeks), (4, 1, .int .i64 p.months)] = some p.cells := by
    simp [fillA, cells?, splice, Pc.cells]
  have c3 : storeA 5 (.ptr 1 0 0) (.agg p.cells) [ABlock.live 0 p.cells, .live 0 [.int .i64 0, .int .i64 0, .int .i64 0, .int .i64 0, .int .i64 0]] = some (S2b p) := by
    simp [storeA, cells?, splice, Pc.cells, S2b]
  rw [← hs1] at key
  rw [hO] at key ⊢
  generalize xNames = m1 at *
  generalize xDec = m2 at *
  simp only [r30_Text, r30_Text_t2, ← hs1]
  generalize p.cells = pcs at *
  simp [exM, orc, orcD, evF, evC_skip, evC_region, evC_cond, evC_exit, evC_ret, evOps, evOper, evAny, evOp, evCall, putR, putA, Fr.ev, Fr.of, Fr.get, Fr.set, stable, junkA, junkL, resultsA, resA, same, Post_seq, Post_block, Post_some, faddrA, c0, l0, l1, l2, l3, l4, c2, c3]
  refine (Post.ran (key _ ?_)).mono ?_
  · exact ⟨by simp [Fr.get], by simp [Fr.get], by simp [Fr.get]⟩
  · rintro e f' T ⟨rfl, g1⟩
    by_cases hw : wordsP p 5 = []
    · rw [if_pos hw]
      rw [hw, Lib.join_nil] at g1
      have c2 : binA .eql (.str []) (.str []) = some (.bool true) := rfl
      simp [exM, orc, orcD, evF, evC_skip, evC_region, evC_cond, evC_exit, evC_ret, evOps, evOper, evAny, evOp, evCall, putR, putA, Fr.ev, Fr.of, Fr.get, Fr.set, stable, junkA, junkL, resultsA, resA, same, Post_seq, Post_block, Post_some, Fr.get_set, g1, c2]
    · rw [if_neg hw]
      have h2 := hb2 hw
      generalize Lib.join (wordsP p 5) [32] = tx at *
      have c2 : binA .eql (.str tx) (.str []) = some (.bool false) := by
        have h : (tx == []) = false := by simpa using h2
        show some (AVal.bool (tx == [])) = _
        rw [h]
      simp [exM, orc, orcD, evF, evC_skip, evC_region, evC_cond, evC_exit, evC_ret, evOps, evOper, evAny, evOp, evCall, putR, putA, Fr.ev, Fr.of, Fr.get, Fr.set, stable, junkA, junkL, resultsA, resA, same, Post_seq, Post_block, Post_some, Fr.get_set, g1, c2]

def mText2 : Model := pureM 1 xText2
theorem text2_ok {p : Pc} (hp : p.Ok2) (S : St) : mText2 [.agg p.cells] S = some (.str (textN p), S) := by
  obtain ⟨T, h⟩ := text2_run hp
  exact pureM_run rfl h rfl
end Am.Pol
end

/- Texts: the document's Parse. -/
section
namespace Am.Pol
open Am Go Am.Ir
set_option maxRecDepth 100000
attribute [local congr] Post_cg
attribute [local simp] ox oz kx kz og ogz kg kgz mo ai

def oParse2 : Orc := orc [xCut2, xNames, mCount2]
def xParse2 : Model := exM oParse2 r30_Parse 1000

structure P2F (f : Fr) (rest : List UInt8) (more : Bool) (name dg : List UInt8) (k : Nat) : Prop where
  s2 : f.get 2 = .ptr 0 0 0
  s4 : f.get 4 = .ptr 1 0 0
  s5 : f.get 5 = .int .i64 (k : Int)
  s8 : f.get 8 = .str rest
  s9 : f.get 9 = .bool more
  s10 : f.get 10 = .str name
  s11 : f.get 11 = .str dg

set_option maxHeartbeats 1000000 in
theorem find_loop {rest name dg : List UInt8} {more : Bool} {a : Nat} (ha : a ≤ 5) {T : St} {f : Fr} (hf : P2F f rest more name dg a) :
    ∃ f' U, evC oParse2 1000 r30_Parse_s1 f T = some (.normal, f', U) ∧ Grown T U ∧ ∃ k, P2F f' rest more name dg k ∧ ((findN name a (5 - a) = some k ∧ k < 5) ∨ (findN name a (5 - a) = none ∧ k = 5)) := by
  refine loop_meas (O := oParse2) (k := 1000) (id := 2) (b := r30_Parse_l0)
    (I := fun m f U => Grown T U ∧ ∃ k, k + m = 5 ∧ P2F f rest more name dg k ∧ findN name k m = findN name a (5 - a))
    (Q := fun f U => Grown T U ∧ ∃ k, P2F f rest more name dg k ∧ ((findN name a (5 - a) = some k ∧ k < 5) ∨ (findN name a (5 - a) = none ∧ k = 5))) ?_ (m := 5 - a) (by omega) ⟨Grown.refl T, a, by omega, hf, rfl⟩
  rintro m f U ⟨hg, k, hk, ⟨s2, s4, s5, s8, s9, s10, s11⟩, he⟩
  cases m with
  | zero =>
    have c1 : binA .lss (.int .i64 (k : Int)) (.int .i64 5) = some (.bool false) := lss_f (by omega)
    suffices hmid : Post (evC oParse2 1000 r30_Parse_l0 f U) (fun e f' V => e = .exit 2 ∧ V = U ∧ f'.get 2 = .ptr 0 0 0 ∧ f'.get 4 = .ptr 1 0 0 ∧ f'.get 5 = .int .i64 (k : Int) ∧ f'.get 8 = .str rest ∧ f'.get 9 = .bool more ∧ f'.get 10 = .str name ∧ f'.get 11 = .str dg) by
      refine hmid.mono ?_
      rintro e f' V ⟨rfl, rfl, g⟩
      obtain ⟨g2, g4, g5, g8, g9, g10, g11⟩ := g
      exact .inr ⟨rfl, hg, k, ⟨g2, g4, g5, g8, g9, g10, g11⟩, .inr ⟨he.symm, by omega⟩⟩
    unfold oParse2
    generalize xCut2 = m1 at *
    generalize xNames = m2 at *
    generalize mCount2 = m3 at *
    simp [r30_Parse_l0, exM, orc, orcD, evF, evC_skip, evC_region, evC_cond, evC_exit, evC_ret, evOps, evOper, evAny, evOp, evCall, putR, putA, Fr.ev, Fr.of, Fr.get, Fr.set, stable, junkA, junkL, resultsA, resA, same, Post_seq, Post_block, Post_some, Fr.get_set, s2, s4, s5, s8, s9, s10, s11, c1]
  | succ m =>
    have hk5 : k < 5 := by omega
    have c1 : binA .lss (.int .i64 (k : Int)) (.int .i64 5) = some (.bool true) := lss_t (by omega)
    have c2 := names_ok U
    obtain ⟨U1, hU1⟩ : ∃ U1 : St, U1 = U ++ [.live 0 (strC names)] := ⟨_, rfl⟩
    rw [← hU1] at c2
    have g1 : Grown U U1 := by rw [hU1]; exact Grown.app U _
    have n1 : U1[U.length]? = some (.live 0 (strC names)) := by rw [hU1]; simp
    have c3 : iaddrSA 1 (.sl U.length 0 0 5 1) (.int .i64 (k : Int)) = some (.ptr U.length 0 k) := by rw [iaS (by omega) (by omega), Int.toNat_natCast, Nat.zero_add, Nat.mul_one]
    have c4 : loadA none (.ptr U.length 0 k) U1 = some (.str (nm k)) := by rw [load_c n1]; exact names_at hk5
    have c5 : binA .add (.int .i64 (k : Int)) (.int .i64 1) = some (.int .i64 ((k + 1 : Nat) : Int)) := add_is (by omega) (by omega) (by omega)
    have hfN : findN name k (m + 1) = if nm k == name then some k else findN name (k + 1) m := rfl
    by_cases hh : (nm k == name) = true
    · have c6 : binA .neq (.str (nm k)) (.str name) = some (.bool false) := by
        show some (AVal.bool !(nm k == name)) = _
        rw [hh]; rfl
      rw [hfN, if_pos hh] at he
      suffices hmid : Post (evC oParse2 1000 r30_Parse_l0 f U) (fun e f' V => e = .exit 2 ∧ V = U1 ∧ f'.get 2 = .ptr 0 0 0 ∧ f'.get 4 = .ptr 1 0 0 ∧ f'.get 5 = .int .i64 (k : Int) ∧ f'.get 8 = .str rest ∧ f'.get 9 = .bool more ∧ f'.get 10 = .str name ∧ f'.get 11 = .str dg) by
        refine hmid.mono ?_
        rintro e f' V ⟨rfl, rfl, g⟩
        obtain ⟨g2, g4, g5, g8, g9, g10, g11⟩ := g
        exact .inr ⟨rfl, hg.trans g1, k, ⟨g2, g4, g5, g8, g9, g10, g11⟩, .inl ⟨he.symm, hk5⟩⟩
      unfold oParse2
      generalize xCut2 = m1 at *
      generalize xNames = m2 at *
      generalize mCount2 = m3 at *
      generalize nm k = wn at *
      simp [r30_Parse_l0, exM, orc, orcD, evF, evC_skip, evC_region, evC_cond, evC_exit, evC_ret, evOps, evOper, evAny, evOp, evCall, putR, putA, Fr.ev, Fr.of, Fr.get, Fr.set, stable, junkA, junkL, resultsA, resA, same, Post_seq, Post_block, Post_some, Fr.get_set, s2, s4, s5, s8, s9, s10, s11, c1, c2, c3, c4, c6]
    · have c6 : binA .neq (.str (nm k)) (.str name) = some (.bool true) := by
        show some (AVal.bool !(nm k == name)) = _
        rw [show (nm k == name) = false by simpa using hh]; rfl
      rw [hfN, if_neg hh] at he
      suffices hmid : Post (evC oParse2 1000 r30_Parse_l0 f U) (fun e f' V => e = .normal ∧ V = U1 ∧ f'.get 2 = .ptr 0 0 0 ∧ f'.get 4 = .ptr 1 0 0 ∧ f'.get 5 = .int .i64 ((k + 1 : Nat) : Int) ∧ f'.get 8 = .str rest ∧ f'.get 9 = .bool more ∧ f'.get 10 = .str name ∧ f'.get 11 = .str dg) by
        refine hmid.mono ?_
        rintro e f' V ⟨rfl, rfl, g⟩
        obtain ⟨g2, g4, g5, g8, g9, g10, g11⟩ := g
        exact .inl ⟨rfl, m, by omega, hg.trans g1, k + 1, by omega, ⟨g2, g4, g5, g8, g9, g10, g11⟩, he⟩
      unfold oParse2
      generalize ((k + 1 : Nat) : Int) = z1 at *
      generalize xCut2 = m1 at *
      generalize xNames = m2 at *
      generalize mCount2 = m3 at *
      generalize nm k = wn at *
      simp [r30_Parse_l0, exM, orc, orcD, evF, evC_skip, evC_region, evC_cond, evC_exit, evC_ret, evOps, evOper, evAny, evOp, evCall, putR, putA, Fr.ev, Fr.of, Fr.get, Fr.set, stable, junkA, junkL, resultsA, resA, same, Post_seq, Post_block, Post_some, Fr.get_set, s2, s4, s5, s8, s9, s10, s11, c1, c2, c3, c4, c5, c6]

/-- What the rounds keep. -/
structure Q2 (f : Fr) (T : St) (s : List UInt8) (more : Bool) (a : Nat) (many : List Int) : Prop where
  s0 : f.get 0 = .str s
  s2 : f.get 2 = .ptr 0 0 0
  s4 : f.get 4 = .ptr 1 0 0
  s5 : f.get 5 = .int .i64 (a : Int)
  s6 : f.get 6 = .bool more
  b0 : T[0]? = some (.live 0 (mc zero5))
  b1 : T[1]? = some (.live 0 (mc many))
  len : many.length = 5
  at5 : a ≤ 5

set_option maxHeartbeats 2000000 in
theorem parse2_round {f : Fr} {T : St} {s : List UInt8} {a : Nat} {many : List Int} (hs : s.length < 900) (h : Q2 f T s true a many) :
    Post (evC oParse2 1000 r30_Parse_l4 f T) fun e f' U => match stepW a many (cutAt s 32).1 with
      | some (a', m') => e = .normal ∧ Q2 f' U (cutAt s 32).2.1 (cutAt s 32).2.2 a' m'
      | none => e = .ret ∧ f'.get 2 = .ptr 0 0 0 ∧ f'.get 3 = .int .i64 3 ∧ U[0]? = some (.live 0 (mc zero5)) := by
  obtain ⟨s0, s2, s4, s5, s6, b0, b1, hlen, at5⟩ := h
  have c1 := cut2_ok s 32 hs T
  obtain ⟨cl1, cl2⟩ := cutAt_len s 32
  obtain ⟨w, hw⟩ : ∃ w, w = (cutAt s 32).1 := ⟨_, rfl⟩
  obtain ⟨rest, hrest⟩ : ∃ w, w = (cutAt s 32).2.1 := ⟨_, rfl⟩
  obtain ⟨more, hmore⟩ : ∃ w, w = (cutAt s 32).2.2 := ⟨_, rfl⟩
  rw [← hw, ← hrest, ← hmore] at c1 ⊢
  rw [← hw] at cl1
  have c2 := cut2_ok w 61 (by omega) T
  obtain ⟨dl1, dl2⟩ := cutAt_len w 61
  unfold stepW
  obtain ⟨name, hname⟩ : ∃ n, n = (cutAt w 61).1 := ⟨_, rfl⟩
  obtain ⟨dg, hdg⟩ : ∃ n, n = (cutAt w 61).2.1 := ⟨_, rfl⟩
  obtain ⟨x3, hx3⟩ : ∃ n, n = (cutAt w 61).2.2 := ⟨_, rfl⟩
  rw [← hname, ← hdg, ← hx3] at c2
  rw [← hname, ← hdg]
  have e32 : (((32 : UInt8).toNat : Nat) : Int) = 32 := rfl
  have e61 : (((61 : UInt8).toNat : Nat) : Int) = 61 := rfl
  rw [e32] at c1
  rw [e61] at c2
  have key := fun f hf => find_loop (rest := rest) (name := name) (dg := dg) (more := more) at5 (T := T) (f := f) hf
  have hct := fun (h4 : dg.length ≤ 4) U => count2_ok dg h4 U
  obtain ⟨s1, hs1⟩ : ∃ s1, s1 = r30_Parse_s1 := ⟨_, rfl⟩
  rw [← hs1] at key
  have hO : oParse2 = orc [xCut2, xNames, mCount2] := rfl
  rw [hO] at key ⊢
  generalize xCut2 = m1 at *
  generalize xNames = m2 at *
  generalize mCount2 = m3 at *
  simp only [r30_Parse_l4, r30_Parse_b3, r30_Parse_t2, ← hs1]
  simp [exM, orc, orcD, evF, evC_skip, evC_region, evC_cond, evC_exit, evC_ret, evOps, evOper, evAny, evOp, evCall, putR, putA, Fr.ev, Fr.of, Fr.get, Fr.set, stable, junkA, junkL, resultsA, resA, same, Post_seq, Post_block, Post_some, Fr.get_set, s0, s2, s4, s5, s6, c1, c2]
  refine (Post.ran (key _ ?_)).mono ?_
  · exact ⟨by simp [Fr.get_set, s2], by simp [Fr.get_set, s4], by simp [Fr.get_set, s5], by simp [Fr.get_set], by simp [Fr.get_set], by simp [Fr.get_set], by simp [Fr.get_set]⟩
  rintro e f' U ⟨rfl, hg, k, ⟨t2, t4, t5, t8, t9, t10, t11⟩, hk⟩
  have ub0 : U[0]? = some (.live 0 (mc zero5)) := by rw [hg.old 0 (live_lt b0)]; exact b0
  have ub1 : U[1]? = some (.live 0 (mc many)) := by rw [hg.old 1 (live_lt b1)]; exact b1
  have hz5 : mc zero5 = [.int .i64 0, .int .i64 0, .int .i64 0, .int .i64 0, .int .i64 0] := rfl
  have st0 := store5 (m' := zero5) ub0 rfl rfl
  rw [hz5] at st0
  have hfl : fillA [.int .i64 0, .int .i64 0, .int .i64 0, .int .i64 0, .int .i64 0] [] = some [.int .i64 0, .int .i64 0, .int .i64 0, .int .i64 0, .int .i64 0] := rfl
  obtain ⟨V0, hV0⟩ : ∃ V0 : St, V0 = U.set 0 (.live 0 [.int .i64 0, .int .i64 0, .int .i64 0, .int .i64 0, .int .i64 0]) := ⟨_, rfl⟩
  rw [← hV0] at st0
  have after : V0[0]? = some (.live 0 (mc zero5)) := by rw [hV0, hz5]; exact List.getElem?_set_self (live_lt ub0)
  -- what count gives
  obtain ⟨n, hn⟩ : ∃ n, n = countN dg := ⟨_, rfl⟩
  rw [← hn]
  have hn4 : ¬ dg.length ≤ 4 → n = 0 := fun h => by rw [hn]; unfold countN; rw [if_neg (fun hh => h hh.1)]
  have hnlt : n < 10000 := by
    rw [hn]; unfold countN
    split
    · rename_i hh
      exact Nat.lt_of_lt_of_le (val_lt hh.2.1) (Nat.pow_le_pow_right (by omega) hh.1)
    · omega
  rcases hk with ⟨hf1, hk5⟩ | ⟨hf1, hk5⟩
  · rw [hf1]
    simp only []
    have d1 : binA .eql (.int .i64 (k : Int)) (.int .i64 5) = some (.bool false) := eql_f (by omega)
    by_cases hn0 : n = 0
    · rw [if_pos hn0]
      by_cases h4 : dg.length ≤ 4
      · have d2 : binA .leq (.int .i64 (dg.length : Int)) (.int .i64 4) = some (.bool true) := leq_t (by omega)
        have d3 := hct h4 U
        rw [← hn, hn0] at d3
        have d4 : binA .eql (.int .i64 0) (.int .i64 0) = some (.bool true) := rfl
        have d3' : m3 [.str dg] U = some (.int .i64 0, U) := d3
        simp [exM, orc, orcD, evF, evC_skip, evC_region, evC_cond, evC_exit, evC_ret, evOps, evOper, evAny, evOp, evCall, putR, putA, Fr.ev, Fr.of, Fr.get, Fr.set, stable, junkA, junkL, resultsA, resA, same, Post_seq, Post_block, Post_some, lenA, Fr.get_set, t2, t4, t5, t8, t9, t10, t11, d1, d2, d3', d4, hfl, st0, after]
      · have d2 : binA .leq (.int .i64 (dg.length : Int)) (.int .i64 4) = some (.bool false) := leq_f (by omega)
        have d4 : binA .eql (.int .i64 0) (.int .i64 0) = some (.bool true) := rfl
        simp [exM, orc, orcD, evF, evC_skip, evC_region, evC_cond, evC_exit, evC_ret, evOps, evOper, evAny, evOp, evCall, putR, putA, Fr.ev, Fr.of, Fr.get, Fr.set, stable, junkA, junkL, resultsA, resA, same, Post_seq, Post_block, Post_some, lenA, Fr.get_set, t2, t4, t5, t8, t9, t10, t11, d1, d2, d4, hfl, st0, after]
    · rw [if_neg hn0]
      have h4 : dg.length ≤ 4 := Classical.byContradiction fun h => hn0 (hn4 h)
      have d2 : binA .leq (.int .i64 (dg.length : Int)) (.int .i64 4) = some (.bool true) := leq_t (by omega)
      have d3 := hct h4 U
      rw [← hn] at d3
      have d4 : binA .eql (.int .i64 (n : Int)) (.int .i64 0) = some (.bool false) := eql_f (by omega)
      have d5 : iaddrAA 1 5 (.ptr 1 0 0) (.int .i64 (k : Int)) = some (.ptr 1 0 k) := by rw [iaA (by omega) (by omega)]; simp
      have d6 := store1 (x := .int .i64 (n : Int)) ub1 (o := k) (by rw [mc_len]; omega) rfl
      have e6 : (mc many).set k (.int .i64 (n : Int)) = mc (many.set k (n : Int)) := by simp [mc, List.map_set]
      rw [e6] at d6
      have d7 : binA .add (.int .i64 (k : Int)) (.int .i64 1) = some (.int .i64 ((k + 1 : Nat) : Int)) := add_is (by omega) (by omega) (by omega)
      suffices hq : ∀ (f2 : Fr) (V : St), V = U.set 1 (.live 0 (mc (many.set k (n : Int)))) → f2.get 0 = .str rest → f2.get 2 = .ptr 0 0 0 → f2.get 4 = .ptr 1 0 0 → f2.get 5 = .int .i64 ((k + 1 : Nat) : Int) → f2.get 6 = .bool more → Q2 f2 V rest more (k + 1) (many.set k (n : Int)) by
        generalize hz1 : ((k + 1 : Nat) : Int) = z1 at *
        generalize hzn : (n : Int) = zn at *
        generalize mc (many.set k zn) = mz at *
        simp [exM, orc, orcD, evF, evC_skip, evC_region, evC_cond, evC_exit, evC_ret, evOps, evOper, evAny, evOp, evCall, putR, putA, Fr.ev, Fr.of, Fr.get, Fr.set, stable, junkA, junkL, resultsA, resA, same, Post_seq, Post_block, Post_some, lenA, Fr.get_set, t2, t4, t5, t8, t9, t10, t11, d1, d2, d3, d4, d5, d6, d7]
        exact hq _ _ rfl (by simp [Fr.get_set]) (by simp [Fr.get_set, t2]) (by simp [Fr.get_set, t4]) (by simp [Fr.get_set]) (by simp [Fr.get_set])
      rintro f2 V rfl g0 g2 g4 g5 g6
      exact ⟨g0, g2, g4, g5, g6, by rw [List.getElem?_set, if_neg (by omega)]; exact ub0, List.getElem?_set_self (live_lt ub1), by simp [hlen], by omega⟩
  · rw [hf1]
    simp only []
    subst hk5
    have d1 : binA .eql (.int .i64 ((5 : Nat) : Int)) (.int .i64 5) = some (.bool true) := rfl
    have t5' : f'.get 5 = .int .i64 5 := t5
    have d1' : binA .eql (.int .i64 5) (.int .i64 5) = some (.bool true) := rfl
    by_cases h4 : dg.length ≤ 4
    · have d2 : binA .leq (.int .i64 (dg.length : Int)) (.int .i64 4) = some (.bool true) := leq_t (by omega)
      have d3 := hct h4 U
      rw [← hn] at d3
      generalize (n : Int) = zn at *
      simp [exM, orc, orcD, evF, evC_skip, evC_region, evC_cond, evC_exit, evC_ret, evOps, evOper, evAny, evOp, evCall, putR, putA, Fr.ev, Fr.of, Fr.get, Fr.set, stable, junkA, junkL, resultsA, resA, same, Post_seq, Post_block, Post_some, lenA, Fr.get_set, t2, t4, t5', t8, t9, t10, t11, d1', d2, d3, hfl, st0, after]
    · have d2 : binA .leq (.int .i64 (dg.length : Int)) (.int .i64 4) = some (.bool false) := leq_f (by omega)
      simp [exM, orc, orcD, evF, evC_skip, evC_region, evC_cond, evC_exit, evC_ret, evOps, evOper, evAny, evOp, evCall, putR, putA, Fr.ev, Fr.of, Fr.get, Fr.set, stable, junkA, junkL, resultsA, resA, same, Post_seq, Post_block, Post_some, lenA, Fr.get_set, t2, t4, t5', t8, t9, t10, t11, d1', d2, hfl, st0, after]
end Am.Pol
end

/- Texts: the document's Parse, whole. -/
section
namespace Am.Pol
open Am Go Am.Ir
set_option maxRecDepth 100000
attribute [local congr] Post_cg
attribute [local simp] ox oz kx kz og ogz kg kgz mo ai

theorem words_cut (n : Nat) (s : List UInt8) (hn : s.length ≤ n) : ∃ n', (cutAt s 32).2.1.length ≤ n' ∧ wordsF n s = (cutAt s 32).1 :: (if (cutAt s 32).2.2 = true then wordsF n' (cutAt s 32).2.1 else []) := by
  cases n with
  | zero =>
    have : s = [] := List.eq_nil_of_length_eq_zero (by omega)
    subst this
    exact ⟨0, by simp [cutAt, Lib.indexByte], by simp [wordsF, cutAt, Lib.indexByte]⟩
  | succ n =>
    refine ⟨n, ?_, ?_⟩
    · rcases indexByte_cases s 32 with ⟨h1, _⟩ | ⟨i, h1, h2, _, _⟩
      · unfold cutAt; rw [if_pos (by omega)]; simp
      · unfold cutAt; rw [if_neg (by omega), h1]; simp; omega
    · rw [wordsF]
      unfold cutAt
      split
      · simp
      · simp
theorem cut_more {s : List UInt8} {c : UInt8} (h : (cutAt s c).2.2 = true) : (cutAt s c).2.1.length < s.length := by
  rcases indexByte_cases s c with ⟨h1, _⟩ | ⟨i, h1, h2, _, _⟩
  · unfold cutAt at h; rw [if_pos (by omega)] at h; cases h
  · unfold cutAt; rw [if_neg (by omega), h1]; simp; omega

/-- What is still to come. -/
def toGo (more : Bool) (a : Nat) (many : List Int) (ws : List (List UInt8)) : Option (List Int) := if more = true then parseGo a many ws else some many

set_option maxHeartbeats 1000000 in
theorem parse2_loop {R : Option (List Int)} {s : List UInt8} (hs : s.length < 900) {f : Fr} {T : St} (h : Q2 f T s true 0 zero5) (hR : R = parseGo 0 zero5 (wordsF s.length s)) :
    Post (evC oParse2 1000 r30_Parse_s5 f T) fun e f' U => (e = .normal ∨ e = .ret) ∧ ((e = .normal ∧ ∃ many s' a, R = some many ∧ Q2 f' U s' false a many) ∨ (e = .ret ∧ R = none ∧ f'.get 2 = .ptr 0 0 0 ∧ f'.get 3 = .int .i64 3 ∧ U[0]? = some (.live 0 (mc zero5)))) := by
  refine loop_measR (O := oParse2) (k := 1000) (id := 0) (b := r30_Parse_l4) (m := s.length + 1)
    (I := fun m f T => ∃ s' more a many n, Q2 f T s' more a many ∧ s'.length < 900 ∧ s'.length ≤ n ∧ toGo more a many (wordsF n s') = R ∧ m = if more = true then s'.length + 1 else 0)
    (Q := fun e f' U => (e = .normal ∧ ∃ many s' a, R = some many ∧ Q2 f' U s' false a many) ∨ (e = .ret ∧ R = none ∧ f'.get 2 = .ptr 0 0 0 ∧ f'.get 3 = .int .i64 3 ∧ U[0]? = some (.live 0 (mc zero5)))) ?_ (by omega)
    ⟨s, true, 0, zero5, s.length, h, hs, Nat.le_refl _, by rw [hR]; rfl, rfl⟩
  rintro m f T ⟨s', more, a, many, n, hq, hl, hn, hgo, hm⟩
  cases more with
  | false =>
    have e : R = some many := hgo.symm
    obtain ⟨s0, s2, s4, s5, s6, b0, b1, hlen, at5⟩ := hq
    suffices hmid : Post (evC oParse2 1000 r30_Parse_l4 f T) (fun e f' U => e = .exit 0 ∧ U = T ∧ f'.get 0 = .str s' ∧ f'.get 2 = .ptr 0 0 0 ∧ f'.get 4 = .ptr 1 0 0 ∧ f'.get 5 = .int .i64 (a : Int) ∧ f'.get 6 = .bool false) by
      refine hmid.mono ?_
      rintro e' f' U ⟨rfl, rfl, g0, g2, g4, g5, g6⟩
      exact .inr (.inl ⟨rfl, .inl ⟨rfl, many, s', a, e, g0, g2, g4, g5, g6, b0, b1, hlen, at5⟩⟩)
    obtain ⟨b3, hb3⟩ : ∃ b3, b3 = r30_Parse_b3 := ⟨_, rfl⟩
    simp only [r30_Parse_l4, ← hb3]
    simp [exM, orc, orcD, evF, evC_skip, evC_region, evC_cond, evC_exit, evC_ret, evOps, evOper, evAny, evOp, evCall, putR, putA, Fr.ev, Fr.of, Fr.get, Fr.set, stable, junkA, junkL, resultsA, resA, same, Post_seq, Post_block, Post_some, Fr.get_set, s0, s2, s4, s5, s6]
  | true =>
    obtain ⟨n', hn', hw⟩ := words_cut n s' hn
    have hgo' : parseGo a many (wordsF n s') = R := hgo
    rw [hw, parseGo] at hgo'
    refine (parse2_round hl hq).mono ?_
    intro e f' U hu
    cases hst : stepW a many (cutAt s' 32).1 with
    | none =>
      rw [hst] at hu hgo'
      obtain ⟨rfl, g2, g3, g4⟩ := hu
      exact .inr (.inr ⟨rfl, .inr ⟨rfl, hgo'.symm, g2, g3, g4⟩⟩)
    | some r =>
      obtain ⟨a', many'⟩ := r
      rw [hst] at hu hgo'
      obtain ⟨rfl, hq'⟩ := hu
      have hlt := (cutAt_len s' 32).2
      refine .inl ⟨rfl, if (cutAt s' 32).2.2 = true then (cutAt s' 32).2.1.length + 1 else 0, ?_, (cutAt s' 32).2.1, (cutAt s' 32).2.2, a', many', n', hq', by omega, hn', ?_, rfl⟩
      · rw [hm, if_pos rfl]
        split
        · rename_i hh
          have := cut_more hh; omega
        · omega
      · rw [← hgo']
        unfold toGo
        split
        · rfl
        · rfl

theorem five {l : List Int} (h : l.length = 5) : ∃ a b c d e, l = [a, b, c, d, e] := by
  match l, h with
  | [a, b, c, d, e], _ => exact ⟨a, b, c, d, e, rfl⟩

set_option maxHeartbeats 1000000 in
theorem parse2_run (s : List UInt8) (hs : s.length < 900) : ∃ T, xParse2 [.str s] [] = some (.tup [.agg (mc (parseN s).1), .int .i64 (parseN s).2], T) := by
  suffices h : ∃ T, evF oParse2 1000 r30_Parse [.str s] [] = some (.tup [.agg (mc (parseN s).1), .int .i64 (parseN s).2], T) ∧ True by
    obtain ⟨T, h, _⟩ := h; exact ⟨T, h⟩
  refine evF_postX (F := r30_Parse) (R := fun _ => True) rfl rfl ?_
  have hfl : fillA [.int .i64 0, .int .i64 0, .int .i64 0, .int .i64 0, .int .i64 0] [] = some [.int .i64 0, .int .i64 0, .int .i64 0, .int .i64 0, .int .i64 0] := rfl
  obtain ⟨s5, hs5⟩ : ∃ s5, s5 = r30_Parse_s5 := ⟨_, rfl⟩
  unfold parseN
  have hout : ∀ (U : St) (m : List Int), U[0]? = some (.live 0 (mc m)) → m.length = 5 → loadA (some 5) (.ptr 0 0 0) U = some (.agg (mc m)) := by
    intro U m h hm
    simp only [loadA, h, if_true, partA, mc_len, hm]
    rw [if_pos (by omega), List.drop_zero, List.take_of_length_le (by rw [mc_len]; omega)]
  by_cases h0 : s = [110, 111, 110, 101]
  · rw [if_pos h0]
    have c1 : binA .eql (.str s) (.str [110, 111, 110, 101]) = some (.bool true) := by rw [h0]; rfl
    have hz : mc zero5 = [.int .i64 0, .int .i64 0, .int .i64 0, .int .i64 0, .int .i64 0] := rfl
    simp only [r30_Parse, r30_Parse_t6, ← hs5]
    unfold oParse2
    generalize xCut2 = m1 at *
    generalize xNames = m2 at *
    generalize mCount2 = m3 at *
    simp [exM, orc, orcD, evF, evC_skip, evC_region, evC_cond, evC_exit, evC_ret, evOps, evOper, evAny, evOp, evCall, putR, putA, Fr.ev, Fr.of, Fr.get, Fr.set, stable, junkA, junkL, resultsA, resA, same, Post_seq, Post_block, Post_some, c1, hfl, storeA, cells?, splice, loadA, partA, hz]
  · rw [if_neg h0]
    have c1 : binA .eql (.str s) (.str [110, 111, 110, 101]) = some (.bool false) := by
      have : (s == [110, 111, 110, 101]) = false := by simpa using h0
      show some (AVal.bool (s == [110, 111, 110, 101])) = _
      rw [this]
    obtain ⟨R, hR⟩ : ∃ R, R = parseGo 0 zero5 (wordsF s.length s) := ⟨_, rfl⟩
    rw [← hR]
    have key := fun f T hq => parse2_loop (R := R) hs (f := f) (T := T) hq hR
    obtain ⟨S2, hS2⟩ : ∃ S2 : St, S2 = [.live 0 (mc zero5), .live 0 (mc zero5)] := ⟨_, rfl⟩
    have c2 : storeA 5 (.ptr 1 0 0) (.agg [.int .i64 0, .int .i64 0, .int .i64 0, .int .i64 0, .int .i64 0]) [.live 0 [.int .i64 0, .int .i64 0, .int .i64 0, .int .i64 0, .int .i64 0], .live 0 [.int .i64 0, .int .i64 0, .int .i64 0, .int .i64 0, .int .i64 0]] = some S2 := by
      rw [hS2]; rfl
    rw [← hs5] at key
    simp only [r30_Parse, r30_Parse_t6, ← hs5]
    have hO : oParse2 = orc [xCut2, xNames, mCount2] := rfl
    rw [hO] at key ⊢
    generalize xCut2 = m1 at *
    generalize xNames = m2 at *
    generalize mCount2 = m3 at *
    simp [exM, orc, orcD, evF, evC_skip, evC_region, evC_cond, evC_exit, evC_ret, evOps, evOper, evAny, evOp, evCall, putR, putA, Fr.ev, Fr.of, Fr.get, Fr.set, stable, junkA, junkL, resultsA, resA, same, Post_seq, Post_block, Post_some, c1, hfl, c2]
    refine (key _ _ ?_).mono ?_
    · exact ⟨by simp [Fr.get], by simp [Fr.get], by simp [Fr.get], by simp [Fr.get], by simp [Fr.get], by rw [hS2]; rfl, by rw [hS2]; rfl, rfl, by omega⟩
    · rintro e f' U ⟨_, ⟨rfl, many, s', a, e1, hq⟩ | ⟨rfl, e1, g2, g3, g4⟩⟩
      · rw [e1]
        obtain ⟨q0, q2, q4, q5, q6, b0, b1, hlen, at5⟩ := hq
        obtain ⟨v0, v1, v2, v3, v4, rfl⟩ := five hlen
        have i0 : iaddrAA 1 5 (.ptr 1 0 0) (.int .i64 0) = some (.ptr 1 0 0) := rfl
        have i1 : iaddrAA 1 5 (.ptr 1 0 0) (.int .i64 1) = some (.ptr 1 0 1) := rfl
        have i2 : iaddrAA 1 5 (.ptr 1 0 0) (.int .i64 2) = some (.ptr 1 0 2) := rfl
        have i3 : iaddrAA 1 5 (.ptr 1 0 0) (.int .i64 3) = some (.ptr 1 0 3) := rfl
        have i4 : iaddrAA 1 5 (.ptr 1 0 0) (.int .i64 4) = some (.ptr 1 0 4) := rfl
        have l0 : loadA none (.ptr 1 0 0) U = some (.int .i64 v0) := by rw [load_c b1]; rfl
        have l1 : loadA none (.ptr 1 0 1) U = some (.int .i64 v1) := by rw [load_c b1]; rfl
        have l2 : loadA none (.ptr 1 0 2) U = some (.int .i64 v2) := by rw [load_c b1]; rfl
        have l3 : loadA none (.ptr 1 0 3) U = some (.int .i64 v3) := by rw [load_c b1]; rfl
        have l4 : loadA none (.ptr 1 0 4) U = some (.int .i64 v4) := by rw [load_c b1]; rfl
        have hf : fillA [.int .i64 0, .int .i64 0, .int .i64 0, .int .i64 0, .int .i64 0] [(0, 1, .int .i64 v0), (1, 1, .int .i64 v1), (2, 1, .int .i64 v2), (3, 1, .int .i64 v3), (4, 1, .int .i64 v4)] = some (mc [v0, v1, v2, v3, v4]) := by
          simp [fillA, cells?, splice, mc]
        have st := store5 (m' := [v0, v1, v2, v3, v4]) b0 rfl rfl
        obtain ⟨V, hV⟩ : ∃ V : St, V = U.set 0 (.live 0 (mc [v0, v1, v2, v3, v4])) := ⟨_, rfl⟩
        rw [← hV] at st
        have ho := hout V [v0, v1, v2, v3, v4] (by rw [hV]; exact List.getElem?_set_self (live_lt b0)) rfl
        generalize mc [v0, v1, v2, v3, v4] = mz at *
        simp [exM, orc, orcD, evF, evC_skip, evC_region, evC_cond, evC_exit, evC_ret, evOps, evOper, evAny, evOp, evCall, putR, putA, Fr.ev, Fr.of, Fr.get, Fr.set, stable, junkA, junkL, resultsA, resA, same, Post_seq, Post_block, Post_some, Fr.get_set, q2, q4, i0, i1, i2, i3, i4, l0, l1, l2, l3, l4, hf, st, ho]
      · rw [e1]
        have ho := hout U zero5 g4 rfl
        generalize mc zero5 = mz at *
        simp [exM, orc, orcD, evF, evC_skip, evC_region, evC_cond, evC_exit, evC_ret, evOps, evOper, evAny, evOp, evCall, putR, putA, Fr.ev, Fr.of, Fr.get, Fr.set, stable, junkA, junkL, resultsA, resA, same, Post_seq, Post_block, Post_some, g2, g3, ho]

def mParse2 : Model := pureM 3 xParse2
theorem parse_pure {x : Model} {s : List UInt8} (h : ∃ T, x [.str s] [] = some (.tup [.agg (mc (parseN s).1), .int .i64 (parseN s).2], T)) (S : St) : pureM 3 x [.str s] S = some (.tup [.agg (mc (parseN s).1), .int .i64 (parseN s).2], S) := by
  obtain ⟨T, h⟩ := h
  refine pureM_run rfl h ?_
  have hl : ∀ l : List Int, (mc l).mapM (deep T 0 1) = some (mc l) := by
    intro l
    induction l with
    | nil => rfl
    | cons a l ih =>
      show ((AVal.int .i64 a :: mc l).mapM (deep T 0 1)) = _
      rw [List.mapM_cons, ih]; rfl
  show ([AVal.agg (mc (parseN s).1), .int .i64 (parseN s).2].mapM (deep T 0 2)).map AVal.tup = _
  have h1 : deep T 0 2 (.agg (mc (parseN s).1)) = some (.agg (mc (parseN s).1)) := by
    show ((mc (parseN s).1).mapM (deep T 0 1)).map AVal.agg = _
    rw [hl]; rfl
  simp only [List.mapM_cons, List.mapM_nil, h1, show deep T 0 2 (.int .i64 (parseN s).2) = some (.int .i64 (parseN s).2) from rfl]
  rfl
theorem parse2_ok (s : List UInt8) (hs : s.length < 900) (S : St) : mParse2 [.str s] S = some (.tup [.agg (mc (parseN s).1), .int .i64 (parseN s).2], S) := parse_pure (parse2_run s hs) S
end Am.Pol
end

/- PolicyText: the law. -/
section
namespace Am.Pol
open Am Go Am.Ir
set_option maxRecDepth 100000
attribute [local congr] Post_cg
attribute [local simp] ox oz kx kz og ogz kg kgz mo ai

theorem parseGo_len : ∀ (ws : List (List UInt8)) (a : Nat) (many many' : List Int), parseGo a many ws = some many' → many'.length = many.length
  | [], a, many, many', h => by cases h; rfl
  | w :: ws, a, many, many', h => by
    rw [parseGo] at h
    cases hs : stepW a many w with
    | none => rw [hs] at h; cases h
    | some r =>
      obtain ⟨a', m'⟩ := r
      rw [hs] at h
      have := parseGo_len ws a' m' many' h
      have e : m'.length = many.length := by
        unfold stepW at hs
        split at hs
        · split at hs
          · cases hs
          · cases hs; simp
        · cases hs
      omega
theorem parseN_len (s : List UInt8) : (parseN s).1.length = 5 := by
  unfold parseN
  split
  · rfl
  · split
    · rename_i h
      exact parseGo_len _ _ _ _ h
    · rfl
theorem parseN_cells (s : List UInt8) : ∃ q : Pc, mc (parseN s).1 = q.cells := by
  obtain ⟨a, b, c, d, e, h⟩ := five (parseN_len s)
  rw [h]
  exact ⟨⟨a, b, c, d, e⟩, rfl⟩

def oLawT (al : Model) (sp p1 : Nat) : Orc := orc [al, mParse sp p1, mParse2, mText, mPlain, mText2]
def xLawText (al : Model) (sp p1 : Nat) : Model := exM (oLawT al sp p1) l30_PolicyText 1000

theorem eq5 (q : Pc) : eqFlats [.i, .i, .i, .i, .i] q.cells q.cells = some true := by
  simp [eqFlats, eqFlat, Pc.cells]

set_option maxHeartbeats 1000000 in
theorem lawText_ok {al : Model} (hal : ∀ S, al [] S = some (.bool true, S)) (sp p1 : Nat) {p : Pc} (hp : p.Ok2) (s : List UInt8) :
    ∃ T, xLawText al sp p1 [.agg p.cells, .str s] [] = some (.bool true, T) := by
  suffices h : ∃ T, evF (oLawT al sp p1) 1000 l30_PolicyText [.agg p.cells, .str s] [] = some (.bool true, T) ∧ True by
    obtain ⟨T, h, _⟩ := h; exact ⟨T, h⟩
  refine evF_postX (F := l30_PolicyText) (R := fun _ => True) rfl rfl ?_
  have c0 : cells? (.agg p.cells) = some p.cells := rfl
  by_cases h1 : 100 < s.length
  · have c1 : binA .gtr (.int .i64 (s.length : Int)) (.int .i64 100) = some (.bool true) := gtr_t (by omega)
    unfold oLawT
    generalize mParse sp p1 = m1 at *
    generalize mParse2 = m2 at *
    generalize mText = m3 at *
    generalize mPlain = m4 at *
    generalize mText2 = m5 at *
    simp [l30_PolicyText, exM, orc, orcD, evF, evC_skip, evC_region, evC_cond, evC_exit, evC_ret, evOps, evOper, evAny, evOp, evCall, putR, putA, Fr.ev, Fr.of, Fr.get, Fr.set, stable, junkA, junkL, resultsA, resA, same, Post_seq, Post_block, Post_some, lenA, c0, c1, hal]
  have c1 : binA .gtr (.int .i64 (s.length : Int)) (.int .i64 100) = some (.bool false) := gtr_f (by omega)
  obtain ⟨q, hq⟩ := parseN_cells s
  have c2 := fun S => parse_ok sp p1 s (by omega) S
  have c3 := fun S => parse2_ok s (by omega) S
  rw [hq] at c2 c3
  have c4 := fun S => text_ok hp S
  have c5 := fun S => text2_ok hp S
  have c6 := plain_ok p
  have c7 := plain_ok q
  have st1 : storeA 5 (.ptr 1 0 0) (.agg q.cells) [.live 0 p.cells, .live 0 [.int .i64 0, .int .i64 0, .int .i64 0, .int .i64 0, .int .i64 0]] = some [.live 0 p.cells, .live 0 q.cells] := by
    simp [storeA, cells?, splice, Pc.cells]
  have st2 : storeA 5 (.ptr 2 0 0) (.agg q.cells) [.live 0 p.cells, .live 0 q.cells, .live 0 [.int .i64 0, .int .i64 0, .int .i64 0, .int .i64 0, .int .i64 0]] = some [.live 0 p.cells, .live 0 q.cells, .live 0 q.cells] := by
    simp [storeA, cells?, splice, Pc.cells]
  obtain ⟨S3, hS3⟩ : ∃ S3 : St, S3 = [.live 0 p.cells, .live 0 q.cells, .live 0 q.cells] := ⟨_, rfl⟩
  have l0 : loadA (some 5) (.ptr 0 0 0) S3 = some (.agg p.cells) := by rw [hS3]; exact load_pol rfl
  have l1 : loadA (some 5) (.ptr 1 0 0) S3 = some (.agg q.cells) := by rw [hS3]; exact load_pol rfl
  have l2 : loadA (some 5) (.ptr 2 0 0) S3 = some (.agg q.cells) := by rw [hS3]; exact load_pol rfl
  rw [← hS3] at st2
  have d1 : binA .eql (.str (textN p)) (.str (textN p)) = some (.bool true) := by
    show some (AVal.bool (textN p == textN p)) = _
    simp
  have d2 := eq5 q
  have d3 : binA .eql (.int .i64 (parseN s).2) (.int .i64 (parseN s).2) = some (.bool true) := eql_t rfl
  unfold oLawT
  generalize mParse sp p1 = m1 at *
  generalize mParse2 = m2 at *
  generalize mText = m3 at *
  generalize mPlain = m4 at *
  generalize mText2 = m5 at *
  generalize p.cells = pcs at *
  generalize q.cells = qcs at *
  generalize textN p = tx at *
  generalize (parseN s).2 = er at *
  simp [l30_PolicyText, exM, orc, orcD, evF, evC_skip, evC_region, evC_cond, evC_exit, evC_ret, evOps, evOper, evAny, evOp, evCall, putR, putA, Fr.ev, Fr.of, Fr.get, Fr.set, stable, junkA, junkL, resultsA, resA, same, Post_seq, Post_block, Post_some, trL, sameRead, sameVal, beqV_refl, lenA, Fr.get_set, c0, c1, c2, c3, c4, c5, c6, c7, st1, st2, l0, l1, l2, d1, d2, d3, hal]
end Am.Pol
end

