/- Views: ranges, middles. -/
import Derived.Test.YtohopanblpgldaaAmSha25
set_option linter.all false
namespace Am.Dig
open Am Go Am.Ir Am.Sha
set_option maxRecDepth 100000

/-- A view: sixteen hashes. -/
structure View (vs : List (List UInt8)) : Prop where
  n : vs.length = 16
  each : ∀ u ∈ vs, u.length = 32

def vc (vs : List (List UInt8)) : List AVal := (vs.map bcells).flatten
def va (vs : List (List UInt8)) : AVal := .agg (vc vs)

theorem View.len {vs : List (List UInt8)} (h : View vs) : (vc vs).length = 512 := by
  rw [vc, flat32_len h.each, h.n]

theorem cells_va (vs : List (List UInt8)) : cells? (va vs) = some (vc vs) := rfl

theorem part512 {vs : List (List UInt8)} (h : View vs) : partA (some 512) 0 (vc vs) = some (va vs) := by
  simp only [partA]
  rw [if_pos (by rw [h.len]; omega), List.drop_zero, List.take_of_length_le (by rw [h.len]; omega)]; rfl
theorem load512 {S : St} {r : Nat} {vs : List (List UInt8)} (h : View vs) (hr : S[r]? = some (.live 0 (vc vs))) : loadA (some 512) (.ptr r 0 0) S = some (va vs) := by
  simp only [loadA, hr, part512 h]
  rw [if_pos (by trivial)]

/-- A range of a view. -/
def rng (vs : List (List UInt8)) (lo n : Nat) : List (List UInt8) := (vs.drop lo).take n
def rangeH (vs : List (List UInt8)) (lo n : Nat) : List UInt8 := treeD 5 (rng vs lo n)

theorem View.rng_len {vs : List (List UInt8)} (h : View vs) {lo n : Nat} (hl : lo + n ≤ 16) : (rng vs lo n).length = n := by
  have := h.n
  simp [rng]; omega
theorem View.rng_each {vs : List (List UInt8)} (h : View vs) (lo n : Nat) : ∀ u ∈ rng vs lo n, u.length = 32 := fun u hu => h.each u (List.mem_of_mem_drop (List.mem_of_mem_take hu))

theorem rangeH_len {vs : List (List UInt8)} (h : View vs) (lo n : Nat) : (rangeH vs lo n).length = 32 := treeD_len 5 _ (h.rng_each lo n) (by omega)

theorem hs_rng {S : St} {r : Nat} {vs : List (List UInt8)} (h : View vs) (hr : S[r]? = some (.live 0 (vc vs))) {lo n : Nat} (hl : lo + n ≤ 16) : Hs S (.sl r 0 (lo * 32) n 32) (rng vs lo n) := by
  have hvl := h.len
  refine ⟨⟨r, 0, lo * 32, vc vs, by rw [h.rng_len hl], hr, by rw [h.rng_len hl]; omega, ?_⟩, h.rng_each lo n⟩
  rw [h.rng_len hl, vc, (flat32_split h.each lo (by have := h.n; omega)).2, (flat32_split (fun u hu => h.each u (List.mem_of_mem_drop hu)) n (by have := h.n; simp; omega)).1]
  rfl

theorem slc_rng {S : St} {r : Nat} {vs : List (List UInt8)} (h : View vs) (hr : S[r]? = some (.live 0 (vc vs))) {lo hi : Int} (h0 : 0 ≤ lo) (h1 : lo ≤ hi) (h2 : hi ≤ 16) :
    slcAA 32 16 (.ptr r 0 0) (some (.int .i64 lo)) (some (.int .i64 hi)) S = some (.sl r 0 (lo.toNat * 32) (hi - lo).toNat 32) := by
  have hvl := h.len
  simp only [slcAA]
  rw [bounds_lh h0 h1 (by omega)]
  simp only [hr]
  rw [if_pos ⟨by trivial, by omega⟩]
  congr 2
  · omega
  · omega

noncomputable def xIsRange : Model := exM (orc []) digest_isRange 10

theorem isRange_ok (lo hi : Int) (S : St) : xIsRange [.int .i64 lo, .int .i64 hi] S = some (.bool (decide (0 ≤ lo ∧ hi ≤ 16 ∧ lo < hi)), S) := by
  by_cases h1 : 0 ≤ lo
  · by_cases h2 : hi ≤ 16
    · by_cases h3 : lo < hi
      · simp [xIsRange, digest_isRange, exM, orc, orcD, evF, evC, evOps, evOper, evAny, evOp, evCall, putR, putA, Fr.ev, Fr.of, Fr.get, Fr.set, stable, junkA, junkL, resultsA, resA, same, binA, intBin, h1, h2, h3]
      · simp [xIsRange, digest_isRange, exM, orc, orcD, evF, evC, evOps, evOper, evAny, evOp, evCall, putR, putA, Fr.ev, Fr.of, Fr.get, Fr.set, stable, junkA, junkL, resultsA, resA, same, binA, intBin, h1, h2, h3]
    · simp [xIsRange, digest_isRange, exM, orc, orcD, evF, evC, evOps, evOper, evAny, evOp, evCall, putR, putA, Fr.ev, Fr.of, Fr.get, Fr.set, stable, junkA, junkL, resultsA, resA, same, binA, intBin, h1, h2]
  · simp [xIsRange, digest_isRange, exM, orc, orcD, evF, evC, evOps, evOper, evAny, evOp, evCall, putR, putA, Fr.ev, Fr.of, Fr.get, Fr.set, stable, junkA, junkL, resultsA, resA, same, binA, intBin, h1]

noncomputable def mRange : Model := tellM 3 (exM (orc [xIsRange, treeM 5]) digest_Range 10)
noncomputable def mRange2 : Model := tellM 3 (exM (orc [treeM2 5]) r20_Range 10)

def zeros32 : List UInt8 := List.replicate 32 0
theorem zeros32_len : zeros32.length = 32 := by simp [zeros32]
theorem zeros32_cells : bcells zeros32 = List.replicate 32 (AVal.int .u8 0) := by simp [zeros32, bcells]

/-- What a range is. -/
def rangeS (vs : List (List UInt8)) (lo hi : Int) : AVal :=
  if 0 ≤ lo ∧ hi ≤ 16 ∧ lo < hi then .tup [.agg (bcells (rangeH vs lo.toNat (hi - lo).toNat)), .int .i64 0] else .tup [.agg (bcells zeros32), .int .i64 1]

theorem deep_pair_bytes (T : St) (n k : Nat) (u : List UInt8) (e : Int) : deep T n (k + 3) (.tup [.agg (bcells u), .int .i64 e]) = some (.tup [.agg (bcells u), .int .i64 e]) := by
  rw [deep_tup]
  simp only [List.mapM_cons, List.mapM_nil, deep_agg_bytes, deep_int]
  rfl

theorem range_ok {vs : List (List UInt8)} (h : View vs) (lo hi : Int) (S : St) : mRange [va vs, .int .i64 lo, .int .i64 hi] S = some (rangeS vs lo hi, S) := by
  have hi1 := isRange_ok lo hi
  obtain ⟨Z, hZ⟩ : ∃ Z : List AVal, List.replicate 32 (AVal.int .u8 0) = Z := ⟨_, rfl⟩
  have hZl : Z.length = 32 := by rw [← hZ]; simp
  have hZ' := hZ
  simp only [List.replicate_succ, List.replicate_zero] at hZ'
  obtain ⟨S1, hS1⟩ : ∃ S1 : St, S ++ [.live 0 (vc vs), .live 0 Z] = S1 := ⟨_, rfl⟩
  have hk1 : Keeps S S1 [] := by rw [← hS1]; exact Keeps.append ..
  have h1v : S1[S.length]? = some (.live 0 (vc vs)) := by rw [← hS1]; simp
  have h1z : S1[S.length + 1]? = some (.live 0 Z) := by rw [← hS1]; simp
  by_cases hc : 0 ≤ lo ∧ hi ≤ 16 ∧ lo < hi
  · have hsl := slc_rng h h1v hc.1 (by omega) hc.2.1
    have hH := hs_rng h h1v (lo := lo.toNat) (n := (hi - lo).toNat) (by omega)
    have hn := h.rng_len (lo := lo.toNat) (n := (hi - lo).toNat) (by omega)
    have ht := tree_ok 4 hH (by omega) (by omega) (by omega)
    have hl := rangeH_len h lo.toNat (hi - lo).toNat
    have ht' : treeM 5 [.sl S.length 0 (lo.toNat * 32) (hi - lo).toNat 32] S1 = some (.agg (bcells (rangeH vs lo.toNat (hi - lo).toNat)), S1) := ht
    have hst := store32 hZl hl h1z
    have hld := load32 hl (get_lt' h1z)
    rw [rangeS, if_pos hc]
    refine tellM_keeps (T := S1.set (S.length + 1) (.live 0 (bcells (rangeH vs lo.toNat (hi - lo).toNat)))) ?_ (hk1.after (Keeps.set ..) (by omega)) (deep_pair_bytes ..)
    have hb : xIsRange [.int .i64 lo, .int .i64 hi] S1 = some (.bool true, S1) := by rw [hi1, decide_eq_true hc]
    generalize bcells (rangeH vs lo.toNat (hi - lo).toNat) = B at *
    simp [exM, digest_Range, exM, orc, orcD, evF, evC, evOps, evOper, evAny, evOp, evCall, putR, putA, Fr.ev, Fr.of, Fr.get, Fr.set, stable, junkA, junkL, resultsA, resA, same, cells_va, hZ', hS1, hb, unA, hsl, ht', hst, hld]
  · rw [rangeS, if_neg hc]
    refine tellM_keeps (T := S1.set (S.length + 1) (.live 0 Z)) ?_ (hk1.after (Keeps.set ..) (by omega)) (deep_pair_bytes ..)
    have hb : xIsRange [.int .i64 lo, .int .i64 hi] S1 = some (.bool false, S1) := by rw [hi1, decide_eq_false hc]
    have hst : storeA 32 (.ptr (S.length + 1) 0 0) (.agg Z) S1 = some (S1.set (S.length + 1) (.live 0 Z)) := by
      have hsp : splice Z 0 Z = Z := by simp [splice]
      simp only [storeA, cells_agg, h1z, hsp]
      rw [if_pos ⟨by trivial, hZl, by omega⟩]
    have hld : loadA (some 32) (.ptr (S.length + 1) 0 0) (S1.set (S.length + 1) (.live 0 Z)) = some (.agg Z) := by
      have : (S1.set (S.length + 1) (.live 0 Z))[S.length + 1]? = some (.live 0 Z) := by simp [get_lt' h1z]
      simp only [loadA, this, partA]
      rw [if_pos (by trivial), if_pos (by omega), List.drop_zero, List.take_of_length_le (by omega)]
    have hfill : fillA Z [] = some Z := rfl
    rw [zeros32_cells, hZ]
    simp [exM, digest_Range, exM, orc, orcD, evF, evC, evOps, evOper, evAny, evOp, evCall, putR, putA, Fr.ev, Fr.of, Fr.get, Fr.set, stable, junkA, junkL, resultsA, resA, same, cells_va, hZ', hS1, hb, unA, hfill, hst, hld]

theorem range2_ok {vs : List (List UInt8)} (h : View vs) (lo hi : Int) (S : St) : mRange2 [va vs, .int .i64 lo, .int .i64 hi] S = some (rangeS vs lo hi, S) := by
  obtain ⟨Z, hZ⟩ : ∃ Z : List AVal, List.replicate 32 (AVal.int .u8 0) = Z := ⟨_, rfl⟩
  have hZl : Z.length = 32 := by rw [← hZ]; simp
  have hZ' := hZ
  simp only [List.replicate_succ, List.replicate_zero] at hZ'
  obtain ⟨S1, hS1⟩ : ∃ S1 : St, S ++ [.live 0 (vc vs), .live 0 Z] = S1 := ⟨_, rfl⟩
  have hk1 : Keeps S S1 [] := by rw [← hS1]; exact Keeps.append ..
  have h1v : S1[S.length]? = some (.live 0 (vc vs)) := by rw [← hS1]; simp
  have h1z : S1[S.length + 1]? = some (.live 0 Z) := by rw [← hS1]; simp
  by_cases hc : 0 ≤ lo ∧ hi ≤ 16 ∧ lo < hi
  · have hsl := slc_rng h h1v hc.1 (by omega) hc.2.1
    have hH := hs_rng h h1v (lo := lo.toNat) (n := (hi - lo).toNat) (by omega)
    have hn := h.rng_len (lo := lo.toNat) (n := (hi - lo).toNat) (by omega)
    have ht := tree2_ok 4 hH (by omega) (by omega) (by omega)
    have hl := rangeH_len h lo.toNat (hi - lo).toNat
    have ht' : treeM2 5 [.sl S.length 0 (lo.toNat * 32) (hi - lo).toNat 32] S1 = some (.agg (bcells (rangeH vs lo.toNat (hi - lo).toNat)), S1) := ht
    have hst := store32 hZl hl h1z
    have hld := load32 hl (get_lt' h1z)
    rw [rangeS, if_pos hc]
    refine tellM_keeps (T := S1.set (S.length + 1) (.live 0 (bcells (rangeH vs lo.toNat (hi - lo).toNat)))) ?_ (hk1.after (Keeps.set ..) (by omega)) (deep_pair_bytes ..)
    obtain ⟨c1, c2, c3⟩ := hc
    have b1 : binA .lss (.int .i64 lo) (.int .i64 0) = some (.bool false) := lss_f c1
    have b2 : binA .gtr (.int .i64 hi) (.int .i64 16) = some (.bool false) := gtr_f c2
    have b3 : binA .geq (.int .i64 lo) (.int .i64 hi) = some (.bool false) := geq_f c3
    generalize bcells (rangeH vs lo.toNat (hi - lo).toNat) = B at *
    simp [exM, r20_Range, exM, orc, orcD, evF, evC, evOps, evOper, evAny, evOp, evCall, putR, putA, Fr.ev, Fr.of, Fr.get, Fr.set, stable, junkA, junkL, resultsA, resA, same, cells_va, hZ', hS1, b1, b2, b3, hsl, ht', hst, hld]
  · rw [rangeS, if_neg hc]
    refine tellM_keeps (T := S1.set (S.length + 1) (.live 0 Z)) ?_ (hk1.after (Keeps.set ..) (by omega)) (deep_pair_bytes ..)
    have hst : storeA 32 (.ptr (S.length + 1) 0 0) (.agg Z) S1 = some (S1.set (S.length + 1) (.live 0 Z)) := by
      have hsp : splice Z 0 Z = Z := by simp [splice]
      simp only [storeA, cells_agg, h1z, hsp]
      rw [if_pos ⟨by trivial, hZl, by omega⟩]
    have hld : loadA (some 32) (.ptr (S.length + 1) 0 0) (S1.set (S.length + 1) (.live 0 Z)) = some (.agg Z) := by
      have : (S1.set (S.length + 1) (.live 0 Z))[S.length + 1]? = some (.live 0 Z) := by simp [get_lt' h1z]
      simp only [loadA, this, partA]
      rw [if_pos (by trivial), if_pos (by omega), List.drop_zero, List.take_of_length_le (by omega)]
    have hfill : fillA Z [] = some Z := rfl
    rw [zeros32_cells, hZ]
    by_cases c1 : lo < 0
    · have b1 : binA .lss (.int .i64 lo) (.int .i64 0) = some (.bool true) := lss_t c1
      simp [exM, r20_Range, exM, orc, orcD, evF, evC, evOps, evOper, evAny, evOp, evCall, putR, putA, Fr.ev, Fr.of, Fr.get, Fr.set, stable, junkA, junkL, resultsA, resA, same, cells_va, hZ', hS1, b1, hfill, hst, hld]
    · have b1 : binA .lss (.int .i64 lo) (.int .i64 0) = some (.bool false) := lss_f (by omega)
      by_cases c2 : 16 < hi
      · have b2 : binA .gtr (.int .i64 hi) (.int .i64 16) = some (.bool true) := gtr_t c2
        simp [exM, r20_Range, exM, orc, orcD, evF, evC, evOps, evOper, evAny, evOp, evCall, putR, putA, Fr.ev, Fr.of, Fr.get, Fr.set, stable, junkA, junkL, resultsA, resA, same, cells_va, hZ', hS1, b1, b2, hfill, hst, hld]
      · have b2 : binA .gtr (.int .i64 hi) (.int .i64 16) = some (.bool false) := gtr_f (by omega)
        have b3 : binA .geq (.int .i64 lo) (.int .i64 hi) = some (.bool true) := geq_t (by omega)
        simp [exM, r20_Range, exM, orc, orcD, evF, evC, evOps, evOper, evAny, evOp, evCall, putR, putA, Fr.ev, Fr.of, Fr.get, Fr.set, stable, junkA, junkL, resultsA, resA, same, cells_va, hZ', hS1, b1, b2, b3, hfill, hst, hld]

noncomputable def xMiddle : Model := exM (orc [xIsRange, xLen]) digest_Middle 10
noncomputable def xMiddle2 : Model := exM (orc []) r20_Middle 100

def middleS (lo hi : Int) : AVal := if 0 ≤ lo ∧ hi ≤ 16 ∧ lo < hi ∧ hi - lo ≠ 1 then .tup [.int .i64 (lo + (top (hi - lo).toNat : Nat)), .int .i64 0] else .tup [.int .i64 0, .int .i64 1]

theorem middle_ok (lo hi : Int) (hlo : -9223372036854775808 ≤ lo ∧ lo ≤ 9223372036854775807) (hhi : -9223372036854775808 ≤ hi ∧ hi ≤ 9223372036854775807) (S : St) : xMiddle [.int .i64 lo, .int .i64 hi] S = some (middleS lo hi, S) := by
  have hi1 := isRange_ok lo hi S
  by_cases hc : 0 ≤ lo ∧ hi ≤ 16 ∧ lo < hi
  · rw [decide_eq_true hc] at hi1
    obtain ⟨c1, c2, c3⟩ := hc
    have b1 : binA .sub (.int .i64 hi) (.int .i64 lo) = some (.int .i64 (hi - lo)) := sub_i (by omega) (by omega)
    by_cases c4 : hi - lo = 1
    · rw [middleS, if_neg (by omega)]
      have b2 : binA .eql (.int .i64 (hi - lo)) (.int .i64 1) = some (.bool true) := eql_t c4
      simp [xMiddle, exM, digest_Middle, exM, orc, orcD, evF, evC, evOps, evOper, evAny, evOp, evCall, putR, putA, Fr.ev, Fr.of, Fr.get, Fr.set, stable, junkA, junkL, resultsA, resA, same, hi1, unA, b1, b2]
    · rw [middleS, if_pos ⟨c1, c2, c3, c4⟩]
      have b2 : binA .eql (.int .i64 (hi - lo)) (.int .i64 1) = some (.bool false) := eql_f c4
      obtain ⟨n, hn⟩ : ∃ n : Nat, hi - lo = (n : Int) := ⟨(hi - lo).toNat, by omega⟩
      have htn : (hi - lo).toNat = n := by omega
      rw [htn]
      have b3 : binA .sub (.int .i64 (hi - lo)) (.int .i64 1) = some (.int .i64 ((n - 1 : Nat) : Int)) := sub_is (by omega) (by omega) (by omega)
      have hcv : IntKind.u64.wrap ((n - 1 : Nat) : Int) = ((n - 1 : Nat) : Int) := wrapU64 (by omega)
      have hln := Sha.len_ok (k := n - 1) (by omega) S (by omega)
      obtain ⟨s1, s2⟩ := shl_top (n := n) (by omega) (by omega)
      have htop := top_lt (n := n) (by omega)
      have b4 : binA .add (.int .i64 lo) (.int .i64 ((top n : Nat) : Int)) = some (.int .i64 (lo + (top n : Nat))) := add_i (by omega) (by omega)
      generalize ((n - 1 : Nat) : Int) = z1 at *
      generalize (((n - 1).log2 + 1 : Nat) : Int) = z2 at *
      generalize (((n - 1).log2 : Nat) : Int) = z3 at *
      generalize ((top n : Nat) : Int) = z4 at *
      simp [xMiddle, exM, digest_Middle, exM, orc, orcD, evF, evC, evOps, evOper, evAny, evOp, evCall, putR, putA, Fr.ev, Fr.of, Fr.get, Fr.set, stable, junkA, junkL, resultsA, resA, same, hi1, unA, b1, b2, b3, hcv, hln, s1, s2, b4]
  · rw [decide_eq_false hc] at hi1
    rw [middleS, if_neg (fun h => hc ⟨h.1, h.2.1, h.2.2.1⟩)]
    simp [xMiddle, exM, digest_Middle, exM, orc, orcD, evF, evC, evOps, evOper, evAny, evOp, evCall, putR, putA, Fr.ev, Fr.of, Fr.get, Fr.set, stable, junkA, junkL, resultsA, resA, same, hi1, unA]

theorem middle2_loop {O : Orc} {f : Fr} {T : St} {lo hi : Int} {n : Nat} (h2 : 2 ≤ n) (h16 : n ≤ 16) (hn : hi - lo = (n : Int)) (h0 : f.get 0 = .int .i64 lo) (h1 : f.get 1 = .int .i64 hi) (h6 : f.get 6 = .int .i64 1) (h4 : f.get 4 = .int .i64 0) :
    Post (evC O 100 r20_Middle_s1 f T) fun e f' T' => e = .normal ∧ f'.get 0 = .int .i64 lo ∧ f'.get 6 = .int .i64 ((top n : Nat) : Int) ∧ T' = T := by
  have hlg : (n - 1).log2 < 4 := (Nat.log2_lt (by omega)).2 (by omega)
  have key : ∀ (m : Nat) (f : Fr) (T' : St), m < 1000 → f.get 0 = .int .i64 lo → f.get 1 = .int .i64 hi → f.get 6 = .int .i64 (m : Int) → Post (evC O 100 r20_Middle_l0 f T') fun e f' T'' => (e = if 2 * m < n then .normal else .exit 0) ∧ f'.get 0 = .int .i64 lo ∧ f'.get 1 = .int .i64 hi ∧ f'.get 6 = .int .i64 (if 2 * m < n then ((2 * m : Nat) : Int) else (m : Int)) ∧ T'' = T' := by
    intro m f T' hm g0 g1 g6
    have b1 : binA .mul (.int .i64 2) (.int .i64 (m : Int)) = some (.int .i64 ((2 * m : Nat) : Int)) := mul_is (by omega) (by omega) (by omega)
    have b2 : binA .sub (.int .i64 hi) (.int .i64 lo) = some (.int .i64 (n : Int)) := sub_is hn (by omega) (by omega)
    by_cases hc : 2 * m < n
    · have b3 : binA .lss (.int .i64 ((2 * m : Nat) : Int)) (.int .i64 (n : Int)) = some (.bool true) := lss_t (by omega)
      simp only [if_pos hc]
      generalize ((2 * m : Nat) : Int) = z at *
      simp [r20_Middle_l0, exM, orc, orcD, evF, evC, evOps, evOper, evAny, evOp, evCall, putR, putA, Fr.ev, Fr.of, Fr.get, Fr.set, stable, junkA, junkL, resultsA, resA, same, Fr.get_set, g0, g1, g6, b1, b2, b3, Post_some]
    · have b3 : binA .lss (.int .i64 ((2 * m : Nat) : Int)) (.int .i64 (n : Int)) = some (.bool false) := lss_f (by omega)
      simp only [if_neg hc]
      generalize ((2 * m : Nat) : Int) = z at *
      simp [r20_Middle_l0, exM, orc, orcD, evF, evC, evOps, evOper, evAny, evOp, evCall, putR, putA, Fr.ev, Fr.of, Fr.get, Fr.set, stable, junkA, junkL, resultsA, resA, same, Fr.get_set, g0, g1, g6, b1, b2, b3, Post_some]
  obtain ⟨f', T', h1', h3⟩ := loop_post (O := O) (k := 100) (id := 0) (b := r20_Middle_l0)
    (I := fun j f T' => f.get 0 = .int .i64 lo ∧ f.get 1 = .int .i64 hi ∧ f.get 6 = .int .i64 ((2 ^ j : Nat) : Int) ∧ T' = T)
    (Q := fun f T' => f.get 0 = .int .i64 lo ∧ f.get 6 = .int .i64 ((top n : Nat) : Int) ∧ T' = T) (n - 1).log2 (by omega)
    (by
      rintro j hj f T1 ⟨g0, g1, g6, rfl⟩
      have hp : 2 ^ j < 1000 := Nat.lt_of_le_of_lt (Nat.pow_le_pow_right (by omega) (show j ≤ 4 by omega)) (by omega)
      refine (key (2 ^ j) f T1 hp g0 g1 g6).mono ?_
      rintro e f' T' ⟨he, k0, k1, k6, rfl⟩
      have hc := top_half h2 j hj
      rw [if_pos hc] at he k6
      exact ⟨he, k0, k1, by rw [k6, Nat.pow_succ, Nat.mul_comm], rfl⟩)
    (by
      rintro f T1 ⟨g0, g1, g6, rfl⟩
      have := top_lt h2
      refine (key (top n) f T1 (by omega) g0 g1 g6).mono ?_
      rintro e f' T' ⟨he, k0, k1, k6, rfl⟩
      have hc := top_twice h2
      rw [if_neg (by omega)] at he k6
      exact ⟨he, k0, k6, rfl⟩)
    (f := f) (S := T) ⟨h0, h1, h6, rfl⟩
  rw [show r20_Middle_s1 = .block 0 (.loop r20_Middle_l0) from rfl, h1']
  exact Post.of rfl ⟨rfl, h3⟩

theorem middle2_ok (lo hi : Int) (hlo : -9223372036854775808 ≤ lo ∧ lo ≤ 9223372036854775807) (hhi : -9223372036854775808 ≤ hi ∧ hi ≤ 9223372036854775807) (S : St) : xMiddle2 [.int .i64 lo, .int .i64 hi] S = some (middleS lo hi, S) := by
  by_cases c1 : lo < 0
  · have b1 : binA .lss (.int .i64 lo) (.int .i64 0) = some (.bool true) := lss_t c1
    rw [middleS, if_neg (by omega)]
    simp [xMiddle2, exM, r20_Middle, exM, orc, orcD, evF, evC, evOps, evOper, evAny, evOp, evCall, putR, putA, Fr.ev, Fr.of, Fr.get, Fr.set, stable, junkA, junkL, resultsA, resA, same, b1]
  · have b1 : binA .lss (.int .i64 lo) (.int .i64 0) = some (.bool false) := lss_f (by omega)
    by_cases c2 : 16 < hi
    · have b2 : binA .gtr (.int .i64 hi) (.int .i64 16) = some (.bool true) := gtr_t c2
      rw [middleS, if_neg (by omega)]
      simp [xMiddle2, exM, r20_Middle, exM, orc, orcD, evF, evC, evOps, evOper, evAny, evOp, evCall, putR, putA, Fr.ev, Fr.of, Fr.get, Fr.set, stable, junkA, junkL, resultsA, resA, same, b1, b2]
    · have b2 : binA .gtr (.int .i64 hi) (.int .i64 16) = some (.bool false) := gtr_f (by omega)
      by_cases c3 : hi ≤ lo
      · have b3 : binA .geq (.int .i64 lo) (.int .i64 hi) = some (.bool true) := geq_t c3
        rw [middleS, if_neg (by omega)]
        simp [xMiddle2, exM, r20_Middle, exM, orc, orcD, evF, evC, evOps, evOper, evAny, evOp, evCall, putR, putA, Fr.ev, Fr.of, Fr.get, Fr.set, stable, junkA, junkL, resultsA, resA, same, b1, b2, b3]
      · have b3 : binA .geq (.int .i64 lo) (.int .i64 hi) = some (.bool false) := geq_f (by omega)
        have b4 : binA .add (.int .i64 lo) (.int .i64 1) = some (.int .i64 (lo + 1)) := add_i (by omega) (by omega)
        by_cases c4 : lo + 1 = hi
        · have b5 : binA .eql (.int .i64 (lo + 1)) (.int .i64 hi) = some (.bool true) := eql_t c4
          rw [middleS, if_neg (by omega)]
          simp [xMiddle2, exM, r20_Middle, exM, orc, orcD, evF, evC, evOps, evOper, evAny, evOp, evCall, putR, putA, Fr.ev, Fr.of, Fr.get, Fr.set, stable, junkA, junkL, resultsA, resA, same, b1, b2, b3, b4, b5]
        · have b5 : binA .eql (.int .i64 (lo + 1)) (.int .i64 hi) = some (.bool false) := eql_f c4
          rw [middleS, if_pos (by omega)]
          obtain ⟨n, hn⟩ : ∃ n : Nat, hi - lo = (n : Int) := ⟨(hi - lo).toNat, by omega⟩
          have htn : (hi - lo).toNat = n := by omega
          rw [htn]
          have htop := top_lt (n := n) (by omega)
          have b6 : binA .add (.int .i64 lo) (.int .i64 ((top n : Nat) : Int)) = some (.int .i64 (lo + (top n : Nat))) := add_i (by omega) (by omega)
          unfold xMiddle2 exM
          refine evF_post rfl rfl ?_
          simp only [r20_Middle, r20_Middle_t2, Post_seq]
          simp [exM, orc, orcD, evF, evC, evOps, evOper, evAny, evOp, evCall, putR, putA, Fr.ev, Fr.of, Fr.get, Fr.set, stable, junkA, junkL, resultsA, resA, same, b1, b2, b3, b4, b5, Fr.get_set, Post_some]
          refine (middle2_loop (n := n) (by omega) (by omega) hn (by simp [Fr.get_set, Fr.get]) (by simp [Fr.get_set, Fr.get]) (by simp [Fr.get_set, Fr.get]) (by simp [Fr.get_set, Fr.get])).mono ?_
          rintro e f' T' ⟨rfl, k0, k6, rfl⟩
          generalize ((top n : Nat) : Int) = z at *
          simp [exM, orc, orcD, evF, evC, evOps, evOper, evAny, evOp, evCall, putR, putA, Fr.ev, Fr.of, Fr.get, Fr.set, stable, junkA, junkL, resultsA, resA, same, Fr.get_set, k0, k6, b6, Post_some]
end Am.Dig
