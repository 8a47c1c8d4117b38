/- Views: the document's search; the search's law. -/
import Derived.Test.YtohopanblpgldaaAmDig4
set_option linter.all false
namespace Am.Dig
open Am Go Am.Ir Am.Sha
set_option maxRecDepth 100000

theorem IntsV.cells {x : AVal} {l : List Int} (h : IntsV x l) (S : St) : cellsOf 1 x S = some (l.length, icells l) := by
  rcases h with ⟨rfl, rfl⟩ | rfl
  · rfl
  · simp [cellsOf, icells_len]

theorem IntsI.app {B : Nat} {S : St} {m y : AVal} {l l' : List Int} (h : IntsI B S m l) (hB : B ≤ S.length) (hy : cellsOf 1 y S = some (l'.length, icells l')) (hl : l.length < 1000000) (hl' : l'.length < 1000000) :
    ∃ m' T, appendA 1 8 m y S = some (m', T) ∧ IntsI B T m' (l ++ l') ∧ KB B S T := by
  rcases h with ⟨rfl, rfl⟩ | ⟨r, v, rfl, hr, hBr⟩
  · by_cases h0 : l'.length = 0
    · have : l' = [] := List.length_eq_zero_iff.1 h0
      subst this
      exact ⟨.nils, S, by simp [appendA, hy], .inl ⟨rfl, rfl⟩, KB.refl B S⟩
    · refine ⟨.sl S.length 0 0 l'.length 1, S ++ [.live 0 (icells l')], ?_, .inr ⟨S.length, 0, rfl, by simp, hB⟩, KB.append hB⟩
      simp only [appendA, hy]
      rw [if_neg h0, if_pos (by omega)]
  · refine ⟨.sl r (v + 1) 0 (l.length + l'.length) 1, S.set r (.live (v + 1) (icells (l ++ l'))), ?_, .inr ⟨r, v + 1, by rw [List.length_append], by rw [List.getElem?_set_self (get_lt' hr)], hBr⟩, KB.set hBr⟩
    simp only [appendA, hy, hr]
    rw [if_pos ⟨by trivial, by trivial, by rw [icells_len]; omega, by omega⟩, Nat.mul_one, List.drop_zero, List.take_of_length_le (by rw [icells_len]; omega)]
    simp [icells]

theorem cells_int (k : IntKind) (n : Int) : cells? (.int k n) = some [.int k n] := rfl

noncomputable def searchM2 : Nat → Model
  | 0 => fun _ _ => none
  | d + 1 => tellM 4 (exM (orc [mRange2, xMiddle2, searchM2 d]) r20_search 10)

theorem told_search {F : Model} {args : List AVal} {S T : St} {m : AVal} {l : List Int} {c : Int} (h : F args S = some (.tup [m, .int .i64 c], T)) (hm : IntsI S.length T m l) (hk : KB S.length S T) : ∃ x, tellM 4 F args S = some (.tup [x, .int .i64 c], S) ∧ IntsV x l := by
  obtain ⟨X, rfl⟩ := hk.keeps.split
  obtain ⟨x, h1, h2⟩ := hm.told 1
  refine ⟨x, tellM_new h ?_, h2⟩
  rw [deep_tup]
  simp only [List.mapM_cons, List.mapM_nil, h1, deep_int]
  rfl

theorem search2_ok {vs ws : List (List UInt8)} (hv : View vs) (hw : View ws) : ∀ (d lo : Nat) (S : St), lo + 2 ^ d ≤ 16 →
    ∃ x, searchM2 (d + 1) [va vs, va ws, .int .i64 (lo : Int), .int .i64 ((lo + 2 ^ d : Nat) : Int)] S = some (.tup [x, .int .i64 ((searchW vs ws d lo).2 : Int)], S) ∧ IntsV x (searchW vs ws d lo).1 := by
  intro d
  induction d with
  | zero =>
    intro lo S hlo
    have hlo' : lo + 1 ≤ 16 := hlo
    obtain ⟨S1, hS1⟩ : ∃ S1 : St, S ++ [.live 0 (vc vs), .live 0 (vc ws)] = S1 := ⟨_, rfl⟩
    have hS1l : S1.length = S.length + 2 := by rw [← hS1]; simp
    have hk1 : KB S.length S S1 := by rw [← hS1]; exact KB.append (Nat.le_refl _)
    have h1a : S1[S.length]? = some (.live 0 (vc vs)) := by rw [← hS1]; simp
    have h1b : S1[S.length + 1]? = some (.live 0 (vc ws)) := by rw [← hS1]; simp
    have la := load512 hv h1a
    have hHa := rangeH_len hv lo 1
    have hHb := rangeH_len hw lo 1
    have ra := range2_ok hv (lo : Int) ((lo + 1 : Nat) : Int) S1
    rw [rangeS_in vs (by omega) hlo'] at ra
    obtain ⟨Z, hZ⟩ : ∃ Z : List AVal, List.replicate 32 (AVal.int .u8 0) = Z := ⟨_, rfl⟩
    have hZl : Z.length = 32 := by rw [← hZ]; simp
    have hZ' := hZ
    simp only [List.replicate_succ, List.replicate_zero] at hZ'
    have sa : storeA 32 (.ptr S1.length 0 0) (.agg (bcells (rangeH vs lo 1))) (S1 ++ [.live 0 Z]) = some (S1 ++ [.live 0 (bcells (rangeH vs lo 1))]) := by
      rw [store32 hZl hHa (by simp)]; simp [List.set_append]
    rw [hS1l] at sa
    have h2b : (S1 ++ [ABlock.live 0 (bcells (rangeH vs lo 1))])[S.length + 1]? = some (.live 0 (vc ws)) := by rw [get_old (by omega)]; exact h1b
    have lb := load512 hw h2b
    have rb := range2_ok hw (lo : Int) ((lo + 1 : Nat) : Int) (S1 ++ [.live 0 (bcells (rangeH vs lo 1))])
    rw [rangeS_in ws (by omega) hlo'] at rb
    obtain ⟨S3, hS3⟩ : ∃ S3 : St, S1 ++ [.live 0 (bcells (rangeH vs lo 1)), .live 0 (bcells (rangeH ws lo 1))] = S3 := ⟨_, rfl⟩
    have hk3 : KB S.length S S3 := hk1.trans (by rw [← hS3]; exact KB.append (by omega))
    have sb : storeA 32 (.ptr (S.length + 3) 0 0) (.agg (bcells (rangeH ws lo 1))) (S1 ++ [.live 0 (bcells (rangeH vs lo 1)), .live 0 Z]) = some S3 := by
      rw [store32 (q := S.length + 3) hZl hHb (by rw [List.getElem?_append_right (by omega), hS1l]; simp [show S.length + 3 - (S.length + 2) = 1 by omega])]
      rw [List.set_append_right _ _ (by omega), hS1l, show S.length + 3 - (S.length + 2) = 1 by omega, ← hS3]; rfl
    have l3a : loadA (some 32) (.ptr (S.length + 2) 0 0) S3 = some (.agg (bcells (rangeH vs lo 1))) := load32' hHa (by rw [← hS3, ← hS1l]; simp)
    have l3b : loadA (some 32) (.ptr (S.length + 3) 0 0) S3 = some (.agg (bcells (rangeH ws lo 1))) := load32' hHb (by rw [← hS3, show S.length + 3 = S1.length + 1 by omega]; simp)
    have he := eq32 hHa hHb
    have had : binA .add (.int .i64 (lo : Int)) (.int .i64 1) = some (.int .i64 ((lo + 1 : Nat) : Int)) := add_is (by omega) (by omega) (by omega)
    have hcw : (searchW vs ws 0 lo).2 = 1 := by simp only [searchW]; split <;> rfl
    rw [hcw]
    cases hq : rangeH vs lo 1 == rangeH ws lo 1 with
    | true =>
      rw [hq] at he
      have hfw : (searchW vs ws 0 lo).1 = [] := by simp only [searchW, hq, if_true]
      rw [hfw]
      refine told_search (T := S3) (m := .nils) ?_ (.inl ⟨rfl, rfl⟩) hk3
      generalize bcells (rangeH vs lo 1) = E1 at *
      generalize bcells (rangeH ws lo 1) = E2 at *
      have hlo2 : ((lo + 2 ^ 0 : Nat) : Int) = ((lo + 1 : Nat) : Int) := rfl
      rw [hlo2]
      generalize ((lo + 1 : Nat) : Int) = lo2 at *
      generalize (lo : Int) = lo' at *
      simp [exM, r20_search, exM, orc, orcD, evF, evC, evOps, evOper, evAny, evOp, evCall, putR, putA, Fr.ev, Fr.of, Fr.get, Fr.set, stable, junkA, junkL, resultsA, resA, same, cells_va, hS1, hS1l, la, ra, hZ', sa, lb, rb, sb, l3a, l3b, he]
    | false =>
      rw [hq] at he
      have hfw : (searchW vs ws 0 lo).1 = [(lo : Int)] := by simp only [searchW, hq]; rfl
      rw [hfw]
      have hee : binA .eql (.int .i64 ((lo + 1 : Nat) : Int)) (.int .i64 ((lo + 1 : Nat) : Int)) = some (.bool true) := eql_t rfl
      have hS3l : S3.length = S.length + 4 := by rw [← hS3]; simp; omega
      refine told_search (T := S3 ++ [.live 0 [.int .i64 (lo : Int)]]) (m := .sl S3.length 0 0 1 1) ?_ (.inr ⟨S3.length, 0, rfl, by simp [icells], by omega⟩) (hk3.trans (KB.append (by omega)))
      generalize bcells (rangeH vs lo 1) = E1 at *
      generalize bcells (rangeH ws lo 1) = E2 at *
      have hlo2 : ((lo + 2 ^ 0 : Nat) : Int) = ((lo + 1 : Nat) : Int) := rfl
      rw [hlo2]
      generalize ((lo + 1 : Nat) : Int) = lo2 at *
      generalize (lo : Int) = lo' at *
      simp [exM, r20_search, exM, orc, orcD, evF, evC, evOps, evOper, evAny, evOp, evCall, putR, putA, Fr.ev, Fr.of, Fr.get, Fr.set, stable, junkA, junkL, resultsA, resA, same, cells_va, hS1, hS1l, la, ra, hZ', sa, lb, rb, sb, l3a, l3b, he, had, hee, fillA, cells_int, splice]
  | succ d ih =>
    intro lo S hlo
    have hd4 : d < 4 := by
      rcases Nat.lt_or_ge d 4 with h | h
      · exact h
      · have : 2 ^ 4 ≤ 2 ^ d := Nat.pow_le_pow_right (by omega) h
        rw [Nat.pow_succ] at hlo; omega
    have e1 : 2 ^ (d + 1) = 2 ^ d + 2 ^ d := by rw [Nat.pow_succ]; omega
    have hpos := Nat.pow_pos (n := d) (show 0 < 2 by omega)
    obtain ⟨w, hw2⟩ : ∃ w, 2 ^ (d + 1) = w := ⟨_, rfl⟩
    rw [hw2] at e1 hlo ⊢
    obtain ⟨S1, hS1⟩ : ∃ S1 : St, S ++ [.live 0 (vc vs), .live 0 (vc ws)] = S1 := ⟨_, rfl⟩
    have hS1l : S1.length = S.length + 2 := by rw [← hS1]; simp
    have hk1 : KB S.length S S1 := by rw [← hS1]; exact KB.append (Nat.le_refl _)
    have h1a : S1[S.length]? = some (.live 0 (vc vs)) := by rw [← hS1]; simp
    have h1b : S1[S.length + 1]? = some (.live 0 (vc ws)) := by rw [← hS1]; simp
    have la := load512 hv h1a
    have hHa := rangeH_len hv lo w
    have hHb := rangeH_len hw lo w
    have ra := range2_ok hv (lo : Int) ((lo + w : Nat) : Int) S1
    rw [rangeS_in vs (by omega) hlo] at ra
    obtain ⟨Z, hZ⟩ : ∃ Z : List AVal, List.replicate 32 (AVal.int .u8 0) = Z := ⟨_, rfl⟩
    have hZl : Z.length = 32 := by rw [← hZ]; simp
    have hZ' := hZ
    simp only [List.replicate_succ, List.replicate_zero] at hZ'
    have sa : storeA 32 (.ptr S1.length 0 0) (.agg (bcells (rangeH vs lo w))) (S1 ++ [.live 0 Z]) = some (S1 ++ [.live 0 (bcells (rangeH vs lo w))]) := by
      rw [store32 hZl hHa (by simp)]; simp [List.set_append]
    rw [hS1l] at sa
    have h2b : (S1 ++ [ABlock.live 0 (bcells (rangeH vs lo w))])[S.length + 1]? = some (.live 0 (vc ws)) := by rw [get_old (by omega)]; exact h1b
    have lb := load512 hw h2b
    have rb := range2_ok hw (lo : Int) ((lo + w : Nat) : Int) (S1 ++ [.live 0 (bcells (rangeH vs lo w))])
    rw [rangeS_in ws (by omega) hlo] at rb
    obtain ⟨S3, hS3⟩ : ∃ S3 : St, S1 ++ [.live 0 (bcells (rangeH vs lo w)), .live 0 (bcells (rangeH ws lo w))] = S3 := ⟨_, rfl⟩
    have hk13 : KB S1.length S1 S3 := by rw [← hS3]; exact KB.append (Nat.le_refl _)
    have hk3 : KB S.length S S3 := hk1.trans (hk13.mono (by omega))
    have sb : storeA 32 (.ptr (S.length + 3) 0 0) (.agg (bcells (rangeH ws lo w))) (S1 ++ [.live 0 (bcells (rangeH vs lo w)), .live 0 Z]) = some S3 := by
      rw [store32 (q := S.length + 3) hZl hHb (by rw [List.getElem?_append_right (by omega), hS1l]; simp [show S.length + 3 - (S.length + 2) = 1 by omega])]
      rw [List.set_append_right _ _ (by omega), hS1l, show S.length + 3 - (S.length + 2) = 1 by omega, ← hS3]; rfl
    have l3a : loadA (some 32) (.ptr (S.length + 2) 0 0) S3 = some (.agg (bcells (rangeH vs lo w))) := load32' hHa (by rw [← hS3, ← hS1l]; simp)
    have l3b : loadA (some 32) (.ptr (S.length + 3) 0 0) S3 = some (.agg (bcells (rangeH ws lo w))) := load32' hHb (by rw [← hS3, show S.length + 3 = S1.length + 1 by omega]; simp)
    have he := eq32 hHa hHb
    have h3a := load512 hv (S := S3) (r := S.length) (by rw [hk13.2 _ (by omega)]; exact h1a)
    have h3b := load512 hw (S := S3) (r := S.length + 1) (by rw [hk13.2 _ (by omega)]; exact h1b)
    have had : binA .add (.int .i64 (lo : Int)) (.int .i64 1) = some (.int .i64 ((lo + 1 : Nat) : Int)) := add_is (by omega) (by omega) (by omega)
    have hee : binA .eql (.int .i64 ((lo + 1 : Nat) : Int)) (.int .i64 ((lo + w : Nat) : Int)) = some (.bool false) := eql_f (by omega)
    cases hq : rangeH vs lo w == rangeH ws lo w with
    | true =>
      rw [hq] at he
      have hfw : searchW vs ws (d + 1) lo = ([], 1) := by simp only [searchW, hw2, hq, if_true]
      rw [hfw]
      rw [searchM2]
      refine told_search (T := S3) (m := .nils) ?_ (.inl ⟨rfl, rfl⟩) hk3
      generalize bcells (rangeH vs lo w) = E1 at *
      generalize bcells (rangeH ws lo w) = E2 at *
      generalize ((lo + w : Nat) : Int) = lo2 at *
      generalize (lo : Int) = lo' at *
      simp [exM, r20_search, exM, orc, orcD, evF, evC, evOps, evOper, evAny, evOp, evCall, putR, putA, Fr.ev, Fr.of, Fr.get, Fr.set, stable, junkA, junkL, resultsA, resA, same, cells_va, hS1, hS1l, la, ra, hZ', sa, lb, rb, sb, l3a, l3b, he]
    | false =>
      rw [hq] at he
      have hfw : searchW vs ws (d + 1) lo = ((searchW vs ws d lo).1 ++ (searchW vs ws d (lo + 2 ^ d)).1, (searchW vs ws d lo).2 + (searchW vs ws d (lo + 2 ^ d)).2 + 1) := by simp only [searchW, hw2, hq]; rfl
      rw [hfw]
      have hm : xMiddle2 [.int .i64 (lo : Int), .int .i64 ((lo + w : Nat) : Int)] S3 = some (.tup [.int .i64 ((lo + 2 ^ d : Nat) : Int), .int .i64 0], S3) := by
        rw [middle2_ok _ _ (by omega) (by omega), middleS, if_pos (by omega), show ((lo + w : Nat) : Int) - (lo : Int) = (w : Int) by omega, Int.toNat_natCast, ← hw2, top_pow hd4]
        rfl
      have hl1 := searchW_len vs ws d lo
      have hl2 := searchW_len vs ws d (lo + 2 ^ d)
      have ep : 2 ^ (d + 1) = 2 ^ d + 2 ^ d := by rw [Nat.pow_succ]; omega
      obtain ⟨x1, a1, a2⟩ := ih lo S3 (by omega)
      obtain ⟨x2, b1, b2⟩ := ih (lo + 2 ^ d) S3 (by omega)
      rw [show lo + 2 ^ d + 2 ^ d = lo + w by omega] at b1
      -- the two lists, one behind the other
      obtain ⟨S4, hS4⟩ : ∃ S4 : St, S3 ++ [.live 0 []] = S4 := ⟨_, rfl⟩
      have hS3l : S3.length = S.length + 4 := by rw [← hS3]; simp; omega
      have hi0 : IntsI S.length S4 (.sl S3.length 0 0 0 1) [] := .inr ⟨S3.length, 0, rfl, by rw [← hS4]; simp [icells], by omega⟩
      have hS4l : S4.length = S.length + 5 := by rw [← hS4]; simp; omega
      obtain ⟨m1, T1, c1, c2, c3⟩ := hi0.app (by omega) (a2.cells S4) (by simp) (by omega)
      have c3l := c3.1
      obtain ⟨m2, T2, d1, d2, d3⟩ := c2.app (by omega) (b2.cells T1) (by simp; omega) (by omega)
      rw [List.nil_append] at d2
      have hsum : binA .add (.int .i64 ((searchW vs ws d lo).2 : Int)) (.int .i64 ((searchW vs ws d (lo + 2 ^ d)).2 : Int)) = some (.int .i64 (((searchW vs ws d lo).2 + (searchW vs ws d (lo + 2 ^ d)).2 : Nat) : Int)) := add_is (by omega) (by omega) (by omega)
      have hsum1 : binA .add (.int .i64 (((searchW vs ws d lo).2 + (searchW vs ws d (lo + 2 ^ d)).2 : Nat) : Int)) (.int .i64 1) = some (.int .i64 (((searchW vs ws d lo).2 + (searchW vs ws d (lo + 2 ^ d)).2 + 1 : Nat) : Int)) := add_is (by omega) (by omega) (by omega)
      have hk4 : KB S.length S S4 := hk3.trans (by rw [← hS4]; exact KB.append (by omega))
      rw [searchM2]
      refine told_search (T := T2) (m := m2) ?_ d2 ((hk4.trans c3).trans d3)
      generalize bcells (rangeH vs lo w) = E1 at *
      generalize bcells (rangeH ws lo w) = E2 at *
      generalize (((searchW vs ws d lo).2 + (searchW vs ws d (lo + 2 ^ d)).2 + 1 : Nat) : Int) = k3 at *
      generalize (((searchW vs ws d lo).2 + (searchW vs ws d (lo + 2 ^ d)).2 : Nat) : Int) = k4 at *
      generalize ((searchW vs ws d lo).2 : Int) = k5 at *
      generalize ((searchW vs ws d (lo + 2 ^ d)).2 : Int) = k6 at *
      generalize ((lo + w : Nat) : Int) = hi at *
      generalize ((lo + 2 ^ d : Nat) : Int) = mid at *
      generalize ((lo + 1 : Nat) : Int) = lo1 at *
      generalize (lo : Int) = lo' at *
      generalize searchM2 (d + 1) = SM at *
      simp [exM, r20_search, exM, orc, orcD, evF, evC, evOps, evOper, evAny, evOp, evCall, putR, putA, Fr.ev, Fr.of, Fr.get, Fr.set, stable, junkA, junkL, resultsA, resA, same, cells_va, hS1, hS1l, la, ra, hZ', sa, lb, rb, sb, l3a, l3b, he, had, hee, hm, h3a, h3b, a1, b1, fillA, hS4, c1, d1, hsum, hsum1]

noncomputable def mSearch2 : Model := tellM 4 (exM (orc [searchM2 5]) r20_Search 10)

theorem deep_ints {x : AVal} {l : List Int} (h : IntsV x l) (S : St) (n k : Nat) : deep S n (k + 2) x = some x := by
  rcases h with ⟨rfl, rfl⟩ | rfl
  · rfl
  · exact deep_fz' (flats_deep _ _ _ (flat_icells _))

theorem search2_whole {vs ws : List (List UInt8)} (hv : View vs) (hw : View ws) (S : St) : ∃ x, mSearch2 [va vs, va ws] S = some (.tup [x, .int .i64 ((searchW vs ws 4 0).2 : Int)], S) ∧ IntsV x (searchW vs ws 4 0).1 := by
  obtain ⟨S1, hS1⟩ : ∃ S1 : St, S ++ [.live 0 (vc vs), .live 0 (vc ws)] = S1 := ⟨_, rfl⟩
  have hk1 : Keeps S S1 [] := by rw [← hS1]; exact Keeps.append ..
  have h1a : S1[S.length]? = some (.live 0 (vc vs)) := by rw [← hS1]; simp
  have h1b : S1[S.length + 1]? = some (.live 0 (vc ws)) := by rw [← hS1]; simp
  have la := load512 hv h1a
  have lb := load512 hw h1b
  obtain ⟨x, h1, h2⟩ := search2_ok hv hw 4 0 S1 (by omega)
  have h1' : searchM2 5 [va vs, va ws, .int .i64 0, .int .i64 16] S1 = some (.tup [x, .int .i64 ((searchW vs ws 4 0).2 : Int)], S1) := h1
  refine ⟨x, ?_, h2⟩
  have hd : deep S1 S.length 4 (.tup [x, .int .i64 ((searchW vs ws 4 0).2 : Int)]) = some (.tup [x, .int .i64 ((searchW vs ws 4 0).2 : Int)]) := by
    rw [deep_tup]
    simp only [List.mapM_cons, List.mapM_nil, deep_ints h2, deep_int]
    rfl
  refine tellM_keeps ?_ hk1 hd
  generalize ((searchW vs ws 4 0).2 : Int) = c at *
  simp [exM, r20_Search, exM, orc, orcD, evF, evC, evOps, evOper, evAny, evOp, evCall, putR, putA, Fr.ev, Fr.of, Fr.get, Fr.set, stable, junkA, junkL, resultsA, resA, same, cells_va, hS1, la, lb, h1']
end Am.Dig
