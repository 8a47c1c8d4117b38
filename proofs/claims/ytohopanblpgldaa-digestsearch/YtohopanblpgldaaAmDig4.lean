/- Views: a search by ranges. -/
import Derived.Test.YtohopanblpgldaaAmDig3
set_option linter.all false
namespace Am.Dig
open Am Go Am.Ir Am.Sha
set_option maxRecDepth 100000

/-- What a search finds in so wide a range, and how many are held against each other. -/
def searchW (vs ws : List (List UInt8)) : Nat → Nat → List Int × Nat
  | 0, lo => if rangeH vs lo 1 == rangeH ws lo 1 then ([], 1) else ([(lo : Int)], 1)
  | d + 1, lo => if rangeH vs lo (2 ^ (d + 1)) == rangeH ws lo (2 ^ (d + 1)) then ([], 1) else ((searchW vs ws d lo).1 ++ (searchW vs ws d (lo + 2 ^ d)).1, (searchW vs ws d lo).2 + (searchW vs ws d (lo + 2 ^ d)).2 + 1)

theorem searchW_len (vs ws : List (List UInt8)) : ∀ d lo, (searchW vs ws d lo).1.length ≤ 2 ^ d ∧ (searchW vs ws d lo).2 + 1 ≤ 2 ^ (d + 1)
  | 0, lo => by simp only [searchW]; split <;> simp
  | d + 1, lo => by
    have h1 := searchW_len vs ws d lo
    have h2 := searchW_len vs ws d (lo + 2 ^ d)
    have e1 : 2 ^ (d + 1) = 2 ^ d * 2 := Nat.pow_succ ..
    have e2 : 2 ^ (d + 1 + 1) = 2 ^ (d + 1) * 2 := Nat.pow_succ ..
    have := Nat.pow_pos (n := d) (show 0 < 2 by omega)
    simp only [searchW]
    split
    · simp; omega
    · simp only [List.length_append]; omega

noncomputable def lookM : Nat → Model
  | 0 => fun _ _ => none
  | d + 1 => exM (orcD [mRange, xMiddle] [(24, lookM d)] []) digest_Search_1 10

def caps (n : Nat) : List AVal := [.ptr (n + 3) 0 0, .ptr n 0 0, .ptr (n + 1) 0 0, .ptr (n + 2) 0 0, .ptr (n + 4) 0 0]

/-- A search's blocks. -/
structure SrI (S : St) (n : Nat) (vs ws : List (List UInt8)) (out : List Int) (c : Int) : Prop where
  a : S[n]? = some (.live 0 (vc vs))
  b : S[n + 1]? = some (.live 0 (vc ws))
  o : ∃ m, S[n + 2]? = some (.live 0 [m]) ∧ IntsI (n + 5) S m out
  m : S[n + 3]? = some (.live 0 [.int .i64 c])
  l : S[n + 4]? = some (.live 0 [.fn (.func 24) [] (caps n)])

theorem SrI.len {S : St} {n : Nat} {vs ws : List (List UInt8)} {out : List Int} {c : Int} (h : SrI S n vs ws out c) : n + 5 ≤ S.length := by
  have := get_lt' h.l; omega

theorem SrI.more {S : St} {n : Nat} {vs ws : List (List UInt8)} {out : List Int} {c : Int} (h : SrI S n vs ws out c) (X : St) : SrI (S ++ X) n vs ws out c := by
  have hl := h.len
  obtain ⟨m, h1, h2⟩ := h.o
  refine ⟨by rw [get_old (by omega)]; exact h.a, by rw [get_old (by omega)]; exact h.b, ⟨m, by rw [get_old (by omega)]; exact h1, h2.keep (fun r _ hr => get_old hr) (Nat.le_refl _)⟩, by rw [get_old (by omega)]; exact h.m, by rw [get_old (by omega)]; exact h.l⟩

theorem SrI.count {S : St} {n : Nat} {vs ws : List (List UInt8)} {out : List Int} {c : Int} (h : SrI S n vs ws out c) (c' : Int) : SrI (S.set (n + 3) (.live 0 [.int .i64 c'])) n vs ws out c' := by
  have hl := h.len
  obtain ⟨m, h1, h2⟩ := h.o
  have g : ∀ r, r ≠ n + 3 → (S.set (n + 3) (.live 0 [.int .i64 c']))[r]? = S[r]? := fun r hr => List.getElem?_set_ne (fun e => hr e.symm)
  exact ⟨by rw [g _ (by omega)]; exact h.a, by rw [g _ (by omega)]; exact h.b, ⟨m, by rw [g _ (by omega)]; exact h1, h2.keep (fun r hr _ => g r (by omega)) (Nat.le_refl _)⟩, by rw [List.getElem?_set_self (by omega)], by rw [g _ (by omega)]; exact h.l⟩

/-- A place is found. -/
theorem SrI.found {S : St} {n : Nat} {vs ws : List (List UInt8)} {out : List Int} {c : Int} (h : SrI S n vs ws out c) (x : Int) (hl : out.length < 1000000) :
    ∃ m m' T, loadA none (.ptr (n + 2) 0 0) (S ++ [.live 0 [.int .i64 x]]) = some m ∧ loadA none (.ptr (n + 2) 0 0) S = some m ∧ appendA 1 8 m (.sl S.length 0 0 1 1) (S ++ [.live 0 [.int .i64 x]]) = some (m', T) ∧
      storeA 1 (.ptr (n + 2) 0 0) m' T = some (T.set (n + 2) (.live 0 [m'])) ∧ SrI (T.set (n + 2) (.live 0 [m'])) n vs ws (out ++ [x]) c ∧ KB n S (T.set (n + 2) (.live 0 [m'])) := by
  have hln := h.len
  obtain ⟨m, h1, h2⟩ := h.o
  obtain ⟨m', T, a1, a2, a3⟩ := h2.app1 hln x hl
  have hT : ∀ r, r < n + 5 → T[r]? = S[r]? := fun r hr => a3.2 r hr
  have hTl := a3.1
  have g : ∀ r, r ≠ n + 2 → (T.set (n + 2) (.live 0 [m']))[r]? = T[r]? := fun r hr => List.getElem?_set_ne (fun e => hr e.symm)
  have hc : cells? m' = some [m'] := by
    rcases a2 with ⟨rfl, h3⟩ | ⟨r, v, rfl, _⟩
    · rfl
    · rfl
  have h1' : (S ++ [ABlock.live 0 [AVal.int .i64 x]])[n + 2]? = some (.live 0 [m]) := by rw [get_old (by omega)]; exact h1
  refine ⟨m, m', T, by rw [load_c h1']; rfl, by rw [load_c h1]; rfl, a1, ?_, ⟨?_, ?_, ⟨m', ?_, ?_⟩, ?_, ?_⟩, ⟨by simp; omega, fun r hr => ?_⟩⟩
  · have : T[n + 2]? = some (.live 0 [m]) := by rw [hT _ (by omega)]; exact h1
    simp only [storeA, hc, this]
    rw [if_pos ⟨by trivial, rfl, by simp⟩]
    rfl
  · rw [g _ (by omega), hT _ (by omega)]; exact h.a
  · rw [g _ (by omega), hT _ (by omega)]; exact h.b
  · rw [List.getElem?_set_self (by omega)]
  · exact a2.keep (fun r hr _ => g r (by omega)) (Nat.le_refl _)
  · rw [g _ (by omega), hT _ (by omega)]; exact h.m
  · rw [g _ (by omega), hT _ (by omega)]; exact h.l
  · rw [g _ (by omega), hT _ (by omega)]

theorem top_pow {d : Nat} (hd : d < 4) : top (2 ^ (d + 1)) = 2 ^ d := by
  have : d = 0 ∨ d = 1 ∨ d = 2 ∨ d = 3 := by omega
  rcases this with rfl | rfl | rfl | rfl <;> rfl

theorem rangeS_in (vs : List (List UInt8)) {lo n : Nat} (hn : 0 < n) (hl : lo + n ≤ 16) : rangeS vs (lo : Int) ((lo + n : Nat) : Int) = .tup [.agg (bcells (rangeH vs lo n)), .int .i64 0] := by
  rw [rangeS, if_pos (by omega), Int.toNat_natCast, show ((lo + n : Nat) : Int) - (lo : Int) = (n : Int) by omega, Int.toNat_natCast]

/-- A range is looked at. -/
theorem look_ok {vs ws : List (List UInt8)} (hv : View vs) (hw : View ws) (n : Nat) : ∀ (d lo : Nat) (S : St) (out : List Int) (c : Nat), lo + 2 ^ d ≤ 16 → out.length + 2 ^ d ≤ 1000 → c + 2 ^ (d + 1) ≤ 1000 → SrI S n vs ws out (c : Int) →
    ∃ T, lookM (d + 1) ([.int .i64 (lo : Int), .int .i64 ((lo + 2 ^ d : Nat) : Int)] ++ caps n) S = some (.tup [], T) ∧ SrI T n vs ws (out ++ (searchW vs ws d lo).1) ((c + (searchW vs ws d lo).2 : Nat) : Int) ∧ KB n S T := by
  intro d
  induction d with
  | zero =>
    intro lo S out c hlo hout hc h
    have hh1 := h.count ((c + 1 : Nat) : Int)
    have hSl := h.len
    obtain ⟨S1, hS1⟩ : ∃ S1 : St, S.set (n + 3) (.live 0 [.int .i64 ((c + 1 : Nat) : Int)]) = S1 := ⟨_, rfl⟩
    rw [hS1] at hh1
    have hk1 : KB n S S1 := by rw [← hS1]; exact KB.set (by omega)
    have hS1l := hh1.len
    have lm : loadA none (.ptr (n + 3) 0 0) S = some (.int .i64 (c : Int)) := by rw [load_c h.m]; rfl
    have ad : binA .add (.int .i64 (c : Int)) (.int .i64 1) = some (.int .i64 ((c + 1 : Nat) : Int)) := add_is (by omega) (by omega) (by omega)
    have sm : storeA 1 (.ptr (n + 3) 0 0) (.int .i64 ((c + 1 : Nat) : Int)) S = some S1 := by
      simp only [storeA, cells?, h.m]
      rw [if_pos ⟨by trivial, rfl, by simp⟩]
      rw [← hS1]; rfl
    have la := load512 hv hh1.a
    have hHa := rangeH_len hv lo 1
    have hHb := rangeH_len hw lo 1
    have ra := range_ok hv (lo : Int) ((lo + 1 : Nat) : Int) S1
    rw [rangeS_in vs (by omega) hlo] at ra
    obtain ⟨Z, hZ⟩ : ∃ Z : List AVal, List.replicate 32 (AVal.int .u8 0) = Z := ⟨_, rfl⟩
    have hZl : Z.length = 32 := by rw [← hZ]; simp
    have hZ' := hZ
    simp only [List.replicate_succ, List.replicate_zero] at hZ'
    have sa : storeA 32 (.ptr S1.length 0 0) (.agg (bcells (rangeH vs lo 1))) (S1 ++ [.live 0 Z]) = some (S1 ++ [.live 0 (bcells (rangeH vs lo 1))]) := by
      rw [store32 hZl hHa (by simp)]; simp [List.set_append]
    have hh2 := hh1.more [.live 0 (bcells (rangeH vs lo 1))]
    have lb := load512 hw hh2.b
    have rb := range_ok hw (lo : Int) ((lo + 1 : Nat) : Int) (S1 ++ [.live 0 (bcells (rangeH vs lo 1))])
    rw [rangeS_in ws (by omega) hlo] at rb
    have hh3 := hh1.more [.live 0 (bcells (rangeH vs lo 1)), .live 0 (bcells (rangeH ws lo 1))]
    obtain ⟨S3, hS3⟩ : ∃ S3 : St, S1 ++ [.live 0 (bcells (rangeH vs lo 1)), .live 0 (bcells (rangeH ws lo 1))] = S3 := ⟨_, rfl⟩
    have hk3 : KB n S S3 := hk1.trans (by rw [← hS3]; exact KB.append (by omega))
    have sb : storeA 32 (.ptr (S1.length + 1) 0 0) (.agg (bcells (rangeH ws lo 1))) (S1 ++ [.live 0 (bcells (rangeH vs lo 1)), .live 0 Z]) = some S3 := by
      rw [store32 hZl hHb (by simp)]; simp [List.set_append, ← hS3]
    rw [hS3] at hh3
    have l3a : loadA (some 32) (.ptr S1.length 0 0) S3 = some (.agg (bcells (rangeH vs lo 1))) := load32' hHa (by rw [← hS3]; simp)
    have l3b : loadA (some 32) (.ptr (S1.length + 1) 0 0) S3 = some (.agg (bcells (rangeH ws lo 1))) := load32' hHb (by rw [← hS3]; simp)
    have he := eq32 hHa hHb
    have hcw : (searchW vs ws 0 lo).2 = 1 := by simp only [searchW]; split <;> rfl
    rw [hcw]
    cases hq : rangeH vs lo 1 == rangeH ws lo 1 with
    | true =>
      rw [hq] at he
      have hfw : (searchW vs ws 0 lo).1 = [] := by simp only [searchW, hq, if_true]
      rw [hfw, List.append_nil]
      refine ⟨S3, ?_, hh3, hk3⟩
      generalize bcells (rangeH vs lo 1) = E1 at *
      generalize bcells (rangeH ws lo 1) = E2 at *
      generalize ((c + 1 : Nat) : Int) = c1 at *
      generalize ((lo + 2 ^ 0 : Nat) : Int) = hi at *
      generalize (lo : Int) = lo' at *
      simp [lookM, exM, orcD, caps, digest_Search_1, exM, orc, orcD, evF, evC, evOps, evOper, evAny, evOp, evCall, putR, putA, Fr.ev, Fr.of, Fr.get, Fr.set, stable, junkA, junkL, resultsA, resA, same, lm, ad, sm, la, ra, hZ', sa, lb, rb, sb, l3a, l3b, he]
    | false =>
      rw [hq] at he
      have hfw : (searchW vs ws 0 lo).1 = [(lo : Int)] := by simp only [searchW, hq]; rfl
      rw [hfw]
      have hm : xMiddle [.int .i64 (lo : Int), .int .i64 ((lo + 1 : Nat) : Int)] S3 = some (.tup [.int .i64 0, .int .i64 1], S3) := by
        rw [middle_ok _ _ (by omega) (by omega), middleS, if_neg (by omega)]
      obtain ⟨m, m', T, f1, f2, f3, f4, f5, f6⟩ := hh3.found (lo : Int) (by omega)
      have hne : binA .neq (.int .i64 1) (.int .i64 0) = some (.bool true) := rfl
      refine ⟨_, ?_, f5, hk3.trans f6⟩
      generalize T.set (n + 2) (.live 0 [m']) = T1 at *
      generalize bcells (rangeH vs lo 1) = E1 at *
      generalize bcells (rangeH ws lo 1) = E2 at *
      generalize ((c + 1 : Nat) : Int) = c1 at *
      generalize ((lo + 2 ^ 0 : Nat) : Int) = hi at *
      generalize (lo : Int) = lo' at *
      simp [lookM, exM, orcD, caps, digest_Search_1, exM, orc, orcD, evF, evC, evOps, evOper, evAny, evOp, evCall, putR, putA, Fr.ev, Fr.of, Fr.get, Fr.set, stable, junkA, junkL, resultsA, resA, same, lm, ad, sm, la, ra, hZ', sa, lb, rb, sb, l3a, l3b, he, hm, hne, f1, f2, f3, f4, fillA, cells?, splice]
  | succ d ih =>
    intro lo S out c hlo hout hc h
    have hd4 : d < 4 := by
      rcases Nat.lt_or_ge d 4 with h | h
      · exact h
      · have : 2 ^ 4 ≤ 2 ^ d := Nat.pow_le_pow_right (by omega) h
        rw [Nat.pow_succ] at hlo; omega
    have e1 : 2 ^ (d + 1) = 2 ^ d + 2 ^ d := by rw [Nat.pow_succ]; omega
    have e2 : 2 ^ (d + 1 + 1) = 2 ^ (d + 1) + 2 ^ (d + 1) := by rw [Nat.pow_succ]; omega
    have hpos := Nat.pow_pos (n := d) (show 0 < 2 by omega)
    obtain ⟨w, hw2⟩ : ∃ w, 2 ^ (d + 1) = w := ⟨_, rfl⟩
    have hh1 := h.count ((c + 1 : Nat) : Int)
    have hSl := h.len
    obtain ⟨S1, hS1⟩ : ∃ S1 : St, S.set (n + 3) (.live 0 [.int .i64 ((c + 1 : Nat) : Int)]) = S1 := ⟨_, rfl⟩
    rw [hS1] at hh1
    have hk1 : KB n S S1 := by rw [← hS1]; exact KB.set (by omega)
    have hS1l := hh1.len
    have lm : loadA none (.ptr (n + 3) 0 0) S = some (.int .i64 (c : Int)) := by rw [load_c h.m]; rfl
    have ad : binA .add (.int .i64 (c : Int)) (.int .i64 1) = some (.int .i64 ((c + 1 : Nat) : Int)) := add_is (by omega) (by omega) (by omega)
    have sm : storeA 1 (.ptr (n + 3) 0 0) (.int .i64 ((c + 1 : Nat) : Int)) S = some S1 := by
      simp only [storeA, cells?, h.m]
      rw [if_pos ⟨by trivial, rfl, by simp⟩]
      rw [← hS1]; rfl
    have la := load512 hv hh1.a
    have hHa := rangeH_len hv lo w
    have hHb := rangeH_len hw lo w
    have ra := range_ok hv (lo : Int) ((lo + w : Nat) : Int) S1
    rw [rangeS_in vs (by omega) (by omega)] at ra
    obtain ⟨Z, hZ⟩ : ∃ Z : List AVal, List.replicate 32 (AVal.int .u8 0) = Z := ⟨_, rfl⟩
    have hZl : Z.length = 32 := by rw [← hZ]; simp
    have hZ' := hZ
    simp only [List.replicate_succ, List.replicate_zero] at hZ'
    have sa : storeA 32 (.ptr S1.length 0 0) (.agg (bcells (rangeH vs lo w))) (S1 ++ [.live 0 Z]) = some (S1 ++ [.live 0 (bcells (rangeH vs lo w))]) := by
      rw [store32 hZl hHa (by simp)]; simp [List.set_append]
    have hh2 := hh1.more [.live 0 (bcells (rangeH vs lo w))]
    have lb := load512 hw hh2.b
    have rb := range_ok hw (lo : Int) ((lo + w : Nat) : Int) (S1 ++ [.live 0 (bcells (rangeH vs lo w))])
    rw [rangeS_in ws (by omega) (by omega)] at rb
    have hh3 := hh1.more [.live 0 (bcells (rangeH vs lo w)), .live 0 (bcells (rangeH ws lo w))]
    obtain ⟨S3, hS3⟩ : ∃ S3 : St, S1 ++ [.live 0 (bcells (rangeH vs lo w)), .live 0 (bcells (rangeH ws lo w))] = S3 := ⟨_, rfl⟩
    have hk3 : KB n S S3 := hk1.trans (by rw [← hS3]; exact KB.append (by omega))
    have sb : storeA 32 (.ptr (S1.length + 1) 0 0) (.agg (bcells (rangeH ws lo w))) (S1 ++ [.live 0 (bcells (rangeH vs lo w)), .live 0 Z]) = some S3 := by
      rw [store32 hZl hHb (by simp)]; simp [List.set_append, ← hS3]
    rw [hS3] at hh3
    have l3a : loadA (some 32) (.ptr S1.length 0 0) S3 = some (.agg (bcells (rangeH vs lo w))) := load32' hHa (by rw [← hS3]; simp)
    have l3b : loadA (some 32) (.ptr (S1.length + 1) 0 0) S3 = some (.agg (bcells (rangeH ws lo w))) := load32' hHb (by rw [← hS3]; simp)
    have he := eq32 hHa hHb
    rw [hw2] at e1 e2 hlo hout ⊢
    cases hq : rangeH vs lo w == rangeH ws lo w with
    | true =>
      rw [hq] at he
      have hfw : searchW vs ws (d + 1) lo = ([], 1) := by simp only [searchW, hw2, hq, if_true]
      rw [hfw, List.append_nil]
      refine ⟨S3, ?_, hh3, hk3⟩
      generalize bcells (rangeH vs lo w) = E1 at *
      generalize bcells (rangeH ws lo w) = E2 at *
      generalize ((c + 1 : Nat) : Int) = c1 at *
      generalize ((lo + w : Nat) : Int) = hi at *
      generalize (lo : Int) = lo' at *
      rw [lookM]
      simp [exM, orcD, caps, digest_Search_1, exM, orc, orcD, evF, evC, evOps, evOper, evAny, evOp, evCall, putR, putA, Fr.ev, Fr.of, Fr.get, Fr.set, stable, junkA, junkL, resultsA, resA, same, lm, ad, sm, la, ra, hZ', sa, lb, rb, sb, l3a, l3b, he]
    | false =>
      rw [hq] at he
      have hfw : searchW vs ws (d + 1) lo = ((searchW vs ws d lo).1 ++ (searchW vs ws d (lo + 2 ^ d)).1, (searchW vs ws d lo).2 + (searchW vs ws d (lo + 2 ^ d)).2 + 1) := by simp only [searchW, hw2, hq]; rfl
      rw [hfw]
      have hm : xMiddle [.int .i64 (lo : Int), .int .i64 ((lo + w : Nat) : Int)] S3 = some (.tup [.int .i64 ((lo + 2 ^ d : Nat) : Int), .int .i64 0], S3) := by
        rw [middle_ok _ _ (by omega) (by omega), middleS, if_pos (by omega), show ((lo + w : Nat) : Int) - (lo : Int) = (w : Int) by omega, Int.toNat_natCast, ← hw2, top_pow hd4]
        rfl
      have hl1 := searchW_len vs ws d lo
      have hl2 := searchW_len vs ws d (lo + 2 ^ d)
      rw [hw2] at hl1 hl2
      obtain ⟨T1, a1, a2, a3⟩ := ih lo S3 out (c + 1) (by omega) (by omega) (by omega) hh3
      obtain ⟨T2, b1, b2, b3⟩ := ih (lo + 2 ^ d) T1 (out ++ (searchW vs ws d lo).1) (c + 1 + (searchW vs ws d lo).2) (by omega) (by rw [List.length_append]; omega) (by omega) a2
      have hne : binA .neq (.int .i64 0) (.int .i64 0) = some (.bool false) := rfl
      have ll3 : loadA none (.ptr (n + 4) 0 0) S3 = some (.fn (.func 24) [] (caps n)) := by rw [load_c hh3.l]; rfl
      have llT : loadA none (.ptr (n + 4) 0 0) T1 = some (.fn (.func 24) [] (caps n)) := by rw [load_c a2.l]; rfl
      refine ⟨T2, ?_, ?_, (hk3.trans a3).trans b3⟩
      · rw [show lo + 2 ^ d + 2 ^ d = lo + w by omega] at b1
        generalize bcells (rangeH vs lo w) = E1 at *
        generalize bcells (rangeH ws lo w) = E2 at *
        generalize ((c + 1 : Nat) : Int) = c1 at *
        generalize ((lo + w : Nat) : Int) = hi at *
        generalize ((lo + 2 ^ d : Nat) : Int) = mid at *
        generalize (lo : Int) = lo' at *
        rw [lookM]
        generalize lookM (d + 1) = LM at *
        simp [caps] at ll3 llT a1 b1
        simp [exM, orcD, pickD, caps, digest_Search_1, exM, orc, orcD, evF, evC, evOps, evOper, evAny, evOp, evCall, putR, putA, Fr.ev, Fr.of, Fr.get, Fr.set, stable, junkA, junkL, resultsA, resA, same, lm, ad, sm, la, ra, hZ', sa, lb, rb, sb, l3a, l3b, he, hm, hne, ll3, llT, a1, b1]
      · rw [List.append_assoc] at b2
        rw [show c + ((searchW vs ws d lo).2 + (searchW vs ws d (lo + 2 ^ d)).2 + 1) = c + 1 + (searchW vs ws d lo).2 + (searchW vs ws d (lo + 2 ^ d)).2 by omega]
        exact b2

noncomputable def xSearch : Model := exM (orcD [] [(24, lookM 5)] []) digest_Search 10
noncomputable def mSearch : Model := tellM 4 xSearch

theorem search_ok {vs ws : List (List UInt8)} (hv : View vs) (hw : View ws) (S : St) : ∃ x, mSearch [va vs, va ws] S = some (.tup [x, .int .i64 ((searchW vs ws 4 0).2 : Int)], S) ∧ IntsV x (searchW vs ws 4 0).1 := by
  obtain ⟨S1, hS1⟩ : ∃ S1 : St, S ++ [.live 0 (vc vs), .live 0 (vc ws), .live 0 [.nils], .live 0 [.int .i64 0], .live 0 [.fn (.func 24) [] (caps S.length)]] = S1 := ⟨_, rfl⟩
  have hk1 : KB S.length S S1 := by rw [← hS1]; exact KB.append (Nat.le_refl _)
  have hi : SrI S1 S.length vs ws [] ((0 : Nat) : Int) := ⟨by rw [← hS1]; simp, by rw [← hS1]; simp, ⟨.nils, by rw [← hS1]; simp, .inl ⟨rfl, rfl⟩⟩, by rw [← hS1]; simp, by rw [← hS1]; simp⟩
  obtain ⟨T, t1, t2, t3⟩ := look_ok hv hw S.length 4 0 S1 [] 0 (by omega) (by simp) (by omega) hi
  have ll : loadA none (.ptr (S.length + 4) 0 0) S1 = some (.fn (.func 24) [] (caps S.length)) := by rw [load_c hi.l]; rfl
  obtain ⟨m, o1, o2⟩ := t2.o
  have lo' : loadA none (.ptr (S.length + 2) 0 0) T = some m := by rw [load_c o1]; rfl
  have lc : loadA none (.ptr (S.length + 3) 0 0) T = some (.int .i64 ((0 + (searchW vs ws 4 0).2 : Nat) : Int)) := by rw [load_c t2.m]; rfl
  rw [Nat.zero_add] at lc
  rw [List.nil_append] at o2
  have hx : xSearch [va vs, va ws] S = some (.tup [m, .int .i64 ((searchW vs ws 4 0).2 : Int)], T) := by
    have st1 : storeA 1 (.ptr (S.length + 3) 0 0) (.int .i64 0) (S ++ [.live 0 (vc vs), .live 0 (vc ws), .live 0 [.nils], .live 0 [.int .i64 0]]) = some (S ++ [.live 0 (vc vs), .live 0 (vc ws), .live 0 [.nils], .live 0 [.int .i64 0]]) := by
      simp [storeA, cells?, splice]
    have st2 : storeA 1 (.ptr (S.length + 4) 0 0) (.fn (.func 24) [] (caps S.length)) (S ++ [.live 0 (vc vs), .live 0 (vc ws), .live 0 [.nils], .live 0 [.int .i64 0], .live 0 [.nilf]]) = some S1 := by
      simp [storeA, cells?, splice, List.set_append, ← hS1]
    have t1' : lookM 5 ([.int .i64 0, .int .i64 16] ++ caps S.length) S1 = some (.tup [], T) := t1
    generalize ((searchW vs ws 4 0).2 : Int) = cc at *
    simp [caps] at st2 t1' ll
    simp [xSearch, exM, orcD, pickD, digest_Search, exM, orc, orcD, evF, evC, evOps, evOper, evAny, evOp, evCall, putR, putA, Fr.ev, Fr.of, Fr.get, Fr.set, stable, junkA, junkL, resultsA, resA, same, cells_va, st1, st2, ll, t1', lo', lc]
  obtain ⟨X, hX⟩ := (hk1.trans t3).keeps.split
  obtain ⟨x, h1, h2⟩ := (o2.keep (B' := S.length) (T := T) (fun _ _ _ => rfl) (by omega)).told 1
  refine ⟨x, ?_, h2⟩
  have hd : deep T S.length 4 (.tup [m, .int .i64 ((searchW vs ws 4 0).2 : Int)]) = some (.tup [x, .int .i64 ((searchW vs ws 4 0).2 : Int)]) := by
    rw [deep_tup]
    simp only [List.mapM_cons, List.mapM_nil, h1, deep_int]
    rfl
  subst hX
  exact tellM_new hx hd
end Am.Dig
