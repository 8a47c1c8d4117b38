/- Views: the three laws over the machine. -/
import Derived.Test.YtohopanblpgldaaAmDig7
set_option linter.all false
namespace Am.Dig
open Am Go Am.Ir Am.Sha
set_option maxRecDepth 100000

theorem rangeS_form {vs : List (List UInt8)} (h : View vs) (lo hi : Int) : ∃ H e, H.length = 32 ∧ rangeS vs lo hi = .tup [.agg (bcells H), .int .i64 e] := by
  unfold rangeS
  split
  · exact ⟨_, _, rangeH_len h _ _, rfl⟩
  · exact ⟨_, _, zeros32_len, rfl⟩
theorem middleS_form (lo hi : Int) : ∃ a e, middleS lo hi = .tup [.int .i64 a, .int .i64 e] := by
  unfold middleS
  split
  · exact ⟨_, _, rfl⟩
  · exact ⟨_, _, rfl⟩

theorem digestRange {vs : List (List UInt8)} (hv : View vs) (lo hi : Int) (hlo : -9223372036854775808 ≤ lo ∧ lo ≤ 9223372036854775807) (hhi : -9223372036854775808 ≤ hi ∧ hi ≤ 9223372036854775807) :
    ∃ T, evF (orc [mRange, mRange2, xMiddle, xMiddle2, mAlive, mHas, mHas2, mDigest]) 10 l20_DigestRange [va vs, .int .i64 lo, .int .i64 hi] [] = some (.bool true, T) := by
  obtain ⟨H, e, hH, hr⟩ := rangeS_form hv lo hi
  obtain ⟨m, me, hm⟩ := middleS_form lo hi
  have r1 := fun S => range_ok hv lo hi S
  have r2 := fun S => range2_ok hv lo hi S
  have m1 := fun S => middle_ok lo hi hlo hhi S
  have m2 := fun S => middle2_ok lo hi hlo hhi S
  simp only [hr] at r1 r2
  simp only [hm] at m1 m2
  have r0 : ∀ S, mRange [va vs, .int .i64 0, .int .i64 16] S = some (.tup [.agg (bcells (rangeH vs 0 16)), .int .i64 0], S) := fun S => by
    have := range_ok hv 0 16 S
    rw [this]; rfl
  have h1 := fun S => (has_ok hv lo S).1
  have h2 := fun S => (has_ok hv lo S).2
  have d1 := fun S => digest_ok hv S
  have al := alive_ok
  have hD := rangeH_len hv 0 16
  obtain ⟨D, hDD⟩ : ∃ D, rangeH vs 0 16 = D := ⟨_, rfl⟩
  rw [hDD] at r0 d1 hD
  obtain ⟨Z, hZ⟩ : ∃ Z : List AVal, List.replicate 32 (AVal.int .u8 0) = Z := ⟨_, rfl⟩
  have hZl : Z.length = 32 := by rw [← hZ]; simp
  have hZ' := hZ
  simp only [List.replicate_succ, List.replicate_zero] at hZ'
  have l0 : ∀ X : St, loadA (some 512) (.ptr 0 0 0) (.live 0 (vc vs) :: X) = some (va vs) := fun X => load512 hv rfl
  have s1 : storeA 32 (.ptr 1 0 0) (.agg (bcells H)) [.live 0 (vc vs), .live 0 Z] = some [.live 0 (vc vs), .live 0 (bcells H)] := store32 hZl hH rfl
  have s2 : storeA 32 (.ptr 2 0 0) (.agg (bcells H)) [.live 0 (vc vs), .live 0 (bcells H), .live 0 Z] = some [.live 0 (vc vs), .live 0 (bcells H), .live 0 (bcells H)] := store32 hZl hH rfl
  have s3 : storeA 32 (.ptr 3 0 0) (.agg (bcells D)) [.live 0 (vc vs), .live 0 (bcells H), .live 0 (bcells H), .live 0 Z] = some [.live 0 (vc vs), .live 0 (bcells H), .live 0 (bcells H), .live 0 (bcells D)] := store32 hZl hD rfl
  have l1 : ∀ X : St, loadA (some 32) (.ptr 1 0 0) (.live 0 (vc vs) :: .live 0 (bcells H) :: X) = some (.agg (bcells H)) := fun X => load32' hH rfl
  have l2 : ∀ X : St, loadA (some 32) (.ptr 2 0 0) (.live 0 (vc vs) :: .live 0 (bcells H) :: .live 0 (bcells H) :: X) = some (.agg (bcells H)) := fun X => load32' hH rfl
  have l3 : ∀ X : St, loadA (some 32) (.ptr 3 0 0) (.live 0 (vc vs) :: .live 0 (bcells H) :: .live 0 (bcells H) :: .live 0 (bcells D) :: X) = some (.agg (bcells D)) := fun X => load32' hD rfl
  have q1 := eq32 hH hH
  have q2 := eq32 hD hD
  rw [beq_self_eq_true] at q1 q2
  have be : ∀ a : Int, binA .eql (.int .i64 a) (.int .i64 a) = some (.bool true) := fun a => eql_t rfl
  refine ⟨[.live 0 (vc vs), .live 0 (bcells H), .live 0 (bcells H), .live 0 (bcells D)], ?_⟩
  generalize bcells H = Hc at *
  generalize bcells D = Dc at *
  generalize hasS vs lo = hb at *
  simp [l20_DigestRange, exM, orc, orcD, evF, evC, evOps, evOper, evAny, evOp, evCall, putR, putA, Fr.ev, Fr.of, Fr.get, Fr.set, stable, junkA, junkL, resultsA, resA, same, cells_va, hZ', r1, r2, r0, m1, m2, h1, h2, d1, al, l0, l1, l2, l3, s1, s2, s3, q1, q2, be, eq2, trL, sameRead, sameVal, beqV_refl]

theorem digestSearch {vs ws : List (List UInt8)} (hv : View vs) (hw : View ws) (mask : Int) :
    ∃ T, evF (orc [mMixed, mSearch, mSearch2, mAlive, xSame, mUnlike, mUnlike2]) 10 l20_DigestSearch [va vs, va ws, .int .i64 mask] [] = some (.bool true, T) := by
  obtain ⟨k, hk⟩ := and_any mask 65535
  obtain ⟨cs, hc, hm⟩ := mixed_ok hv hw k [.live 0 (vc vs), .live 0 (vc ws)]
  obtain ⟨Z, hZ⟩ : ∃ Z : List AVal, List.replicate 512 (AVal.int .u8 0) = Z := ⟨_, rfl⟩
  have hZl : Z.length = 512 := by rw [← hZ]; simp
  have hZ' : ([AVal.int .u8 0, AVal.int .u8 0, AVal.int .u8 0, AVal.int .u8 0, AVal.int .u8 0, AVal.int .u8 0, AVal.int .u8 0, AVal.int .u8 0, AVal.int .u8 0, AVal.int .u8 0, AVal.int .u8 0, AVal.int .u8 0, AVal.int .u8 0, AVal.int .u8 0, AVal.int .u8 0, AVal.int .u8 0, AVal.int .u8 0, AVal.int .u8 0, AVal.int .u8 0, AVal.int .u8 0, AVal.int .u8 0, AVal.int .u8 0, AVal.int .u8 0, AVal.int .u8 0, AVal.int .u8 0, AVal.int .u8 0, AVal.int .u8 0, AVal.int .u8 0, AVal.int .u8 0, AVal.int .u8 0, AVal.int .u8 0, AVal.int .u8 0, AVal.int .u8 0, AVal.int .u8 0, AVal.int .u8 0, AVal.int .u8 0, AVal.int .u8 0, AVal.int .u8 0, AVal.int .u8 0, AVal.int .u8 0, AVal.int .u8 0, AVal.int .u8 0, AVal.int .u8 0, AVal.int .u8 0, AVal.int .u8 0, AVal.int .u8 0, AVal.int .u8 0, AVal.int .u8 0, AVal.int .u8 0, AVal.int .u8 0, AVal.int .u8 0, AVal.int .u8 0, AVal.int .u8 0, AVal.int .u8 0, AVal.int .u8 0, AVal.int .u8 0, AVal.int .u8 0, AVal.int .u8 0, AVal.int .u8 0, AVal.int .u8 0, AVal.int .u8 0, AVal.int .u8 0, AVal.int .u8 0, AVal.int .u8 0, AVal.int .u8 0, AVal.int .u8 0, AVal.int .u8 0, AVal.int .u8 0, AVal.int .u8 0, AVal.int .u8 0, AVal.int .u8 0, AVal.int .u8 0, AVal.int .u8 0, AVal.int .u8 0, AVal.int .u8 0, AVal.int .u8 0, AVal.int .u8 0, AVal.int .u8 0, AVal.int .u8 0, AVal.int .u8 0, AVal.int .u8 0, AVal.int .u8 0, AVal.int .u8 0, AVal.int .u8 0, AVal.int .u8 0, AVal.int .u8 0, AVal.int .u8 0, AVal.int .u8 0, AVal.int .u8 0, AVal.int .u8 0, AVal.int .u8 0, AVal.int .u8 0, AVal.int .u8 0, AVal.int .u8 0, AVal.int .u8 0, AVal.int .u8 0, AVal.int .u8 0, AVal.int .u8 0, AVal.int .u8 0, AVal.int .u8 0, AVal.int .u8 0, AVal.int .u8 0, AVal.int .u8 0, AVal.int .u8 0, AVal.int .u8 0, AVal.int .u8 0, AVal.int .u8 0, AVal.int .u8 0, AVal.int .u8 0, AVal.int .u8 0, AVal.int .u8 0, AVal.int .u8 0, AVal.int .u8 0, AVal.int .u8 0, AVal.int .u8 0, AVal.int .u8 0, AVal.int .u8 0, AVal.int .u8 0, AVal.int .u8 0, AVal.int .u8 0, AVal.int .u8 0, AVal.int .u8 0, AVal.int .u8 0, AVal.int .u8 0, AVal.int .u8 0, AVal.int .u8 0, AVal.int .u8 0, AVal.int .u8 0, AVal.int .u8 0, AVal.int .u8 0, AVal.int .u8 0, AVal.int .u8 0, AVal.int .u8 0, AVal.int .u8 0, AVal.int .u8 0, AVal.int .u8 0, AVal.int .u8 0, AVal.int .u8 0, AVal.int .u8 0, AVal.int .u8 0, AVal.int .u8 0, AVal.int .u8 0, AVal.int .u8 0, AVal.int .u8 0, AVal.int .u8 0, AVal.int .u8 0, AVal.int .u8 0, AVal.int .u8 0, AVal.int .u8 0, AVal.int .u8 0, AVal.int .u8 0, AVal.int .u8 0, AVal.int .u8 0, AVal.int .u8 0, AVal.int .u8 0, AVal.int .u8 0, AVal.int .u8 0, AVal.int .u8 0, AVal.int .u8 0, AVal.int .u8 0, AVal.int .u8 0, AVal.int .u8 0, AVal.int .u8 0, AVal.int .u8 0, AVal.int .u8 0, AVal.int .u8 0, AVal.int .u8 0, AVal.int .u8 0, AVal.int .u8 0, AVal.int .u8 0, AVal.int .u8 0, AVal.int .u8 0, AVal.int .u8 0, AVal.int .u8 0, AVal.int .u8 0, AVal.int .u8 0, AVal.int .u8 0, AVal.int .u8 0, AVal.int .u8 0, AVal.int .u8 0, AVal.int .u8 0, AVal.int .u8 0, AVal.int .u8 0, AVal.int .u8 0, AVal.int .u8 0, AVal.int .u8 0, AVal.int .u8 0, AVal.int .u8 0, AVal.int .u8 0, AVal.int .u8 0, AVal.int .u8 0, AVal.int .u8 0, AVal.int .u8 0, AVal.int .u8 0, AVal.int .u8 0, AVal.int .u8 0, AVal.int .u8 0, AVal.int .u8 0, AVal.int .u8 0, AVal.int .u8 0, AVal.int .u8 0, AVal.int .u8 0, AVal.int .u8 0, AVal.int .u8 0, AVal.int .u8 0, AVal.int .u8 0, AVal.int .u8 0, AVal.int .u8 0, AVal.int .u8 0, AVal.int .u8 0, AVal.int .u8 0, AVal.int .u8 0, AVal.int .u8 0, AVal.int .u8 0, AVal.int .u8 0, AVal.int .u8 0, AVal.int .u8 0, AVal.int .u8 0, AVal.int .u8 0, AVal.int .u8 0, AVal.int .u8 0, AVal.int .u8 0, AVal.int .u8 0, AVal.int .u8 0, AVal.int .u8 0, AVal.int .u8 0, AVal.int .u8 0, AVal.int .u8 0, AVal.int .u8 0, AVal.int .u8 0, AVal.int .u8 0, AVal.int .u8 0, AVal.int .u8 0, AVal.int .u8 0, AVal.int .u8 0, AVal.int .u8 0, AVal.int .u8 0, AVal.int .u8 0, AVal.int .u8 0, AVal.int .u8 0, AVal.int .u8 0, AVal.int .u8 0, AVal.int .u8 0, AVal.int .u8 0, AVal.int .u8 0, AVal.int .u8 0, AVal.int .u8 0, AVal.int .u8 0, AVal.int .u8 0, AVal.int .u8 0, AVal.int .u8 0, AVal.int .u8 0, AVal.int .u8 0, AVal.int .u8 0, AVal.int .u8 0, AVal.int .u8 0, AVal.int .u8 0, AVal.int .u8 0, AVal.int .u8 0, AVal.int .u8 0, AVal.int .u8 0, AVal.int .u8 0, AVal.int .u8 0, AVal.int .u8 0, AVal.int .u8 0, AVal.int .u8 0, AVal.int .u8 0, AVal.int .u8 0, AVal.int .u8 0, AVal.int .u8 0, AVal.int .u8 0, AVal.int .u8 0, AVal.int .u8 0, AVal.int .u8 0, AVal.int .u8 0, AVal.int .u8 0, AVal.int .u8 0, AVal.int .u8 0, AVal.int .u8 0, AVal.int .u8 0, AVal.int .u8 0, AVal.int .u8 0, AVal.int .u8 0, AVal.int .u8 0, AVal.int .u8 0, AVal.int .u8 0, AVal.int .u8 0, AVal.int .u8 0, AVal.int .u8 0, AVal.int .u8 0, AVal.int .u8 0, AVal.int .u8 0, AVal.int .u8 0, AVal.int .u8 0, AVal.int .u8 0, AVal.int .u8 0, AVal.int .u8 0, AVal.int .u8 0, AVal.int .u8 0, AVal.int .u8 0, AVal.int .u8 0, AVal.int .u8 0, AVal.int .u8 0, AVal.int .u8 0, AVal.int .u8 0, AVal.int .u8 0, AVal.int .u8 0, AVal.int .u8 0, AVal.int .u8 0, AVal.int .u8 0, AVal.int .u8 0, AVal.int .u8 0, AVal.int .u8 0, AVal.int .u8 0, AVal.int .u8 0, AVal.int .u8 0, AVal.int .u8 0, AVal.int .u8 0, AVal.int .u8 0, AVal.int .u8 0, AVal.int .u8 0, AVal.int .u8 0, AVal.int .u8 0, AVal.int .u8 0, AVal.int .u8 0, AVal.int .u8 0, AVal.int .u8 0, AVal.int .u8 0, AVal.int .u8 0, AVal.int .u8 0, AVal.int .u8 0, AVal.int .u8 0, AVal.int .u8 0, AVal.int .u8 0, AVal.int .u8 0, AVal.int .u8 0, AVal.int .u8 0, AVal.int .u8 0, AVal.int .u8 0, AVal.int .u8 0, AVal.int .u8 0, AVal.int .u8 0, AVal.int .u8 0, AVal.int .u8 0, AVal.int .u8 0, AVal.int .u8 0, AVal.int .u8 0, AVal.int .u8 0, AVal.int .u8 0, AVal.int .u8 0, AVal.int .u8 0, AVal.int .u8 0, AVal.int .u8 0, AVal.int .u8 0, AVal.int .u8 0, AVal.int .u8 0, AVal.int .u8 0, AVal.int .u8 0, AVal.int .u8 0, AVal.int .u8 0, AVal.int .u8 0, AVal.int .u8 0, AVal.int .u8 0, AVal.int .u8 0, AVal.int .u8 0, AVal.int .u8 0, AVal.int .u8 0, AVal.int .u8 0, AVal.int .u8 0, AVal.int .u8 0, AVal.int .u8 0, AVal.int .u8 0, AVal.int .u8 0, AVal.int .u8 0, AVal.int .u8 0, AVal.int .u8 0, AVal.int .u8 0, AVal.int .u8 0, AVal.int .u8 0, AVal.int .u8 0, AVal.int .u8 0, AVal.int .u8 0, AVal.int .u8 0, AVal.int .u8 0, AVal.int .u8 0, AVal.int .u8 0, AVal.int .u8 0, AVal.int .u8 0, AVal.int .u8 0, AVal.int .u8 0, AVal.int .u8 0, AVal.int .u8 0, AVal.int .u8 0, AVal.int .u8 0, AVal.int .u8 0, AVal.int .u8 0, AVal.int .u8 0, AVal.int .u8 0, AVal.int .u8 0, AVal.int .u8 0, AVal.int .u8 0, AVal.int .u8 0, AVal.int .u8 0, AVal.int .u8 0, AVal.int .u8 0, AVal.int .u8 0, AVal.int .u8 0, AVal.int .u8 0, AVal.int .u8 0, AVal.int .u8 0, AVal.int .u8 0, AVal.int .u8 0, AVal.int .u8 0, AVal.int .u8 0, AVal.int .u8 0, AVal.int .u8 0, AVal.int .u8 0, AVal.int .u8 0, AVal.int .u8 0, AVal.int .u8 0, AVal.int .u8 0, AVal.int .u8 0, AVal.int .u8 0, AVal.int .u8 0, AVal.int .u8 0, AVal.int .u8 0, AVal.int .u8 0, AVal.int .u8 0, AVal.int .u8 0, AVal.int .u8 0, AVal.int .u8 0, AVal.int .u8 0, AVal.int .u8 0, AVal.int .u8 0, AVal.int .u8 0, AVal.int .u8 0, AVal.int .u8 0, AVal.int .u8 0, AVal.int .u8 0, AVal.int .u8 0, AVal.int .u8 0, AVal.int .u8 0, AVal.int .u8 0, AVal.int .u8 0, AVal.int .u8 0, AVal.int .u8 0, AVal.int .u8 0, AVal.int .u8 0, AVal.int .u8 0, AVal.int .u8 0, AVal.int .u8 0, AVal.int .u8 0, AVal.int .u8 0, AVal.int .u8 0, AVal.int .u8 0, AVal.int .u8 0, AVal.int .u8 0, AVal.int .u8 0, AVal.int .u8 0, AVal.int .u8 0, AVal.int .u8 0, AVal.int .u8 0, AVal.int .u8 0, AVal.int .u8 0, AVal.int .u8 0, AVal.int .u8 0, AVal.int .u8 0, AVal.int .u8 0, AVal.int .u8 0, AVal.int .u8 0, AVal.int .u8 0, AVal.int .u8 0, AVal.int .u8 0, AVal.int .u8 0, AVal.int .u8 0, AVal.int .u8 0, AVal.int .u8 0, AVal.int .u8 0, AVal.int .u8 0, AVal.int .u8 0, AVal.int .u8 0, AVal.int .u8 0, AVal.int .u8 0, AVal.int .u8 0, AVal.int .u8 0, AVal.int .u8 0, AVal.int .u8 0, AVal.int .u8 0, AVal.int .u8 0, AVal.int .u8 0, AVal.int .u8 0, AVal.int .u8 0, AVal.int .u8 0, AVal.int .u8 0, AVal.int .u8 0, AVal.int .u8 0, AVal.int .u8 0, AVal.int .u8 0, AVal.int .u8 0, AVal.int .u8 0, AVal.int .u8 0, AVal.int .u8 0, AVal.int .u8 0, AVal.int .u8 0, AVal.int .u8 0, AVal.int .u8 0, AVal.int .u8 0, AVal.int .u8 0, AVal.int .u8 0, AVal.int .u8 0, AVal.int .u8 0, AVal.int .u8 0] : List AVal) = Z := hZ
  obtain ⟨S1, hS1⟩ : ∃ S1 : St, [.live 0 (vc vs), .live 0 (vc ws), .live 0 (vc cs)] = S1 := ⟨_, rfl⟩
  have l0 : loadA (some 512) (.ptr 0 0 0) [.live 0 (vc vs), .live 0 (vc ws)] = some (va vs) := load512 hv rfl
  have l1 : loadA (some 512) (.ptr 1 0 0) [.live 0 (vc vs), .live 0 (vc ws)] = some (va ws) := load512 hw rfl
  have s1 : storeA 512 (.ptr 2 0 0) (va cs) [.live 0 (vc vs), .live 0 (vc ws), .live 0 Z] = some S1 := by
    rw [store512 hc hZl rfl, ← hS1]; rfl
  have l3 : loadA (some 512) (.ptr 0 0 0) S1 = some (va vs) := load512 hv (by rw [← hS1]; rfl)
  have l4 : loadA (some 512) (.ptr 2 0 0) S1 = some (va cs) := load512 hc (by rw [← hS1]; rfl)
  obtain ⟨x, a1, a2⟩ := search_ok hv hc S1
  obtain ⟨y, b1, b2⟩ := search2_whole hv hc S1
  have hl1 := searchW_len vs cs 4 0
  have hsm := same_ok a2 b2 (by omega) S1
  obtain ⟨x2, c1, c2⟩ := unlike_ok hv hc S1
  obtain ⟨y2, d1, d2⟩ := unlike2_ok hv hc S1
  have hl2 : (unlikeS vs cs).length ≤ 16 := unlikeN_len vs cs 16
  have hsm2 := same_ok c2 d2 (by omega) S1
  have al := alive_ok S1
  have be : ∀ a : Int, binA .eql (.int .i64 a) (.int .i64 a) = some (.bool true) := fun a => eql_t rfl
  refine ⟨S1, ?_⟩
  generalize ((searchW vs cs 4 0).2 : Int) = n at *
  unfold l20_DigestSearch
  rw [hZ']
  simp [exM, orc, orcD, evF, evC, evOps, evOper, evAny, evOp, evCall, putR, putA, Fr.ev, Fr.of, Fr.get, Fr.set, stable, junkA, junkL, resultsA, resA, same, cells_va, hk, hm, l0, l1, l3, l4, s1, a1, b1, hsm, c1, d1, hsm2, al, be, trL, sameRead, sameVal, beqV_refl]

theorem digestFound {vs ws : List (List UInt8)} (hv : View vs) (hw : View ws) (mask : Int) :
    ∃ T, evF (orc [mMixed, mSearch, mAlive, mUnlike]) 100 l20_DigestFound [va vs, va ws, .int .i64 mask] [] = some (.bool true, T) := by
  obtain ⟨k, hk⟩ := and_any mask 65535
  obtain ⟨cs, hc, hm⟩ := mixed_ok hv hw k [.live 0 (vc vs), .live 0 (vc ws)]
  obtain ⟨Z, hZ⟩ : ∃ Z : List AVal, List.replicate 512 (AVal.int .u8 0) = Z := ⟨_, rfl⟩
  have hZl : Z.length = 512 := by rw [← hZ]; simp
  have hZ' : ([AVal.int .u8 0, AVal.int .u8 0, AVal.int .u8 0, AVal.int .u8 0, AVal.int .u8 0, AVal.int .u8 0, AVal.int .u8 0, AVal.int .u8 0, AVal.int .u8 0, AVal.int .u8 0, AVal.int .u8 0, AVal.int .u8 0, AVal.int .u8 0, AVal.int .u8 0, AVal.int .u8 0, AVal.int .u8 0, AVal.int .u8 0, AVal.int .u8 0, AVal.int .u8 0, AVal.int .u8 0, AVal.int .u8 0, AVal.int .u8 0, AVal.int .u8 0, AVal.int .u8 0, AVal.int .u8 0, AVal.int .u8 0, AVal.int .u8 0, AVal.int .u8 0, AVal.int .u8 0, AVal.int .u8 0, AVal.int .u8 0, AVal.int .u8 0, AVal.int .u8 0, AVal.int .u8 0, AVal.int .u8 0, AVal.int .u8 0, AVal.int .u8 0, AVal.int .u8 0, AVal.int .u8 0, AVal.int .u8 0, AVal.int .u8 0, AVal.int .u8 0, AVal.int .u8 0, AVal.int .u8 0, AVal.int .u8 0, AVal.int .u8 0, AVal.int .u8 0, AVal.int .u8 0, AVal.int .u8 0, AVal.int .u8 0, AVal.int .u8 0, AVal.int .u8 0, AVal.int .u8 0, AVal.int .u8 0, AVal.int .u8 0, AVal.int .u8 0, AVal.int .u8 0, AVal.int .u8 0, AVal.int .u8 0, AVal.int .u8 0, AVal.int .u8 0, AVal.int .u8 0, AVal.int .u8 0, AVal.int .u8 0, AVal.int .u8 0, AVal.int .u8 0, AVal.int .u8 0, AVal.int .u8 0, AVal.int .u8 0, AVal.int .u8 0, AVal.int .u8 0, AVal.int .u8 0, AVal.int .u8 0, AVal.int .u8 0, AVal.int .u8 0, AVal.int .u8 0, AVal.int .u8 0, AVal.int .u8 0, AVal.int .u8 0, AVal.int .u8 0, AVal.int .u8 0, AVal.int .u8 0, AVal.int .u8 0, AVal.int .u8 0, AVal.int .u8 0, AVal.int .u8 0, AVal.int .u8 0, AVal.int .u8 0, AVal.int .u8 0, AVal.int .u8 0, AVal.int .u8 0, AVal.int .u8 0, AVal.int .u8 0, AVal.int .u8 0, AVal.int .u8 0, AVal.int .u8 0, AVal.int .u8 0, AVal.int .u8 0, AVal.int .u8 0, AVal.int .u8 0, AVal.int .u8 0, AVal.int .u8 0, AVal.int .u8 0, AVal.int .u8 0, AVal.int .u8 0, AVal.int .u8 0, AVal.int .u8 0, AVal.int .u8 0, AVal.int .u8 0, AVal.int .u8 0, AVal.int .u8 0, AVal.int .u8 0, AVal.int .u8 0, AVal.int .u8 0, AVal.int .u8 0, AVal.int .u8 0, AVal.int .u8 0, AVal.int .u8 0, AVal.int .u8 0, AVal.int .u8 0, AVal.int .u8 0, AVal.int .u8 0, AVal.int .u8 0, AVal.int .u8 0, AVal.int .u8 0, AVal.int .u8 0, AVal.int .u8 0, AVal.int .u8 0, AVal.int .u8 0, AVal.int .u8 0, AVal.int .u8 0, AVal.int .u8 0, AVal.int .u8 0, AVal.int .u8 0, AVal.int .u8 0, AVal.int .u8 0, AVal.int .u8 0, AVal.int .u8 0, AVal.int .u8 0, AVal.int .u8 0, AVal.int .u8 0, AVal.int .u8 0, AVal.int .u8 0, AVal.int .u8 0, AVal.int .u8 0, AVal.int .u8 0, AVal.int .u8 0, AVal.int .u8 0, AVal.int .u8 0, AVal.int .u8 0, AVal.int .u8 0, AVal.int .u8 0, AVal.int .u8 0, AVal.int .u8 0, AVal.int .u8 0, AVal.int .u8 0, AVal.int .u8 0, AVal.int .u8 0, AVal.int .u8 0, AVal.int .u8 0, AVal.int .u8 0, AVal.int .u8 0, AVal.int .u8 0, AVal.int .u8 0, AVal.int .u8 0, AVal.int .u8 0, AVal.int .u8 0, AVal.int .u8 0, AVal.int .u8 0, AVal.int .u8 0, AVal.int .u8 0, AVal.int .u8 0, AVal.int .u8 0, AVal.int .u8 0, AVal.int .u8 0, AVal.int .u8 0, AVal.int .u8 0, AVal.int .u8 0, AVal.int .u8 0, AVal.int .u8 0, AVal.int .u8 0, AVal.int .u8 0, AVal.int .u8 0, AVal.int .u8 0, AVal.int .u8 0, AVal.int .u8 0, AVal.int .u8 0, AVal.int .u8 0, AVal.int .u8 0, AVal.int .u8 0, AVal.int .u8 0, AVal.int .u8 0, AVal.int .u8 0, AVal.int .u8 0, AVal.int .u8 0, AVal.int .u8 0, AVal.int .u8 0, AVal.int .u8 0, AVal.int .u8 0, AVal.int .u8 0, AVal.int .u8 0, AVal.int .u8 0, AVal.int .u8 0, AVal.int .u8 0, AVal.int .u8 0, AVal.int .u8 0, AVal.int .u8 0, AVal.int .u8 0, AVal.int .u8 0, AVal.int .u8 0, AVal.int .u8 0, AVal.int .u8 0, AVal.int .u8 0, AVal.int .u8 0, AVal.int .u8 0, AVal.int .u8 0, AVal.int .u8 0, AVal.int .u8 0, AVal.int .u8 0, AVal.int .u8 0, AVal.int .u8 0, AVal.int .u8 0, AVal.int .u8 0, AVal.int .u8 0, AVal.int .u8 0, AVal.int .u8 0, AVal.int .u8 0, AVal.int .u8 0, AVal.int .u8 0, AVal.int .u8 0, AVal.int .u8 0, AVal.int .u8 0, AVal.int .u8 0, AVal.int .u8 0, AVal.int .u8 0, AVal.int .u8 0, AVal.int .u8 0, AVal.int .u8 0, AVal.int .u8 0, AVal.int .u8 0, AVal.int .u8 0, AVal.int .u8 0, AVal.int .u8 0, AVal.int .u8 0, AVal.int .u8 0, AVal.int .u8 0, AVal.int .u8 0, AVal.int .u8 0, AVal.int .u8 0, AVal.int .u8 0, AVal.int .u8 0, AVal.int .u8 0, AVal.int .u8 0, AVal.int .u8 0, AVal.int .u8 0, AVal.int .u8 0, AVal.int .u8 0, AVal.int .u8 0, AVal.int .u8 0, AVal.int .u8 0, AVal.int .u8 0, AVal.int .u8 0, AVal.int .u8 0, AVal.int .u8 0, AVal.int .u8 0, AVal.int .u8 0, AVal.int .u8 0, AVal.int .u8 0, AVal.int .u8 0, AVal.int .u8 0, AVal.int .u8 0, AVal.int .u8 0, AVal.int .u8 0, AVal.int .u8 0, AVal.int .u8 0, AVal.int .u8 0, AVal.int .u8 0, AVal.int .u8 0, AVal.int .u8 0, AVal.int .u8 0, AVal.int .u8 0, AVal.int .u8 0, AVal.int .u8 0, AVal.int .u8 0, AVal.int .u8 0, AVal.int .u8 0, AVal.int .u8 0, AVal.int .u8 0, AVal.int .u8 0, AVal.int .u8 0, AVal.int .u8 0, AVal.int .u8 0, AVal.int .u8 0, AVal.int .u8 0, AVal.int .u8 0, AVal.int .u8 0, AVal.int .u8 0, AVal.int .u8 0, AVal.int .u8 0, AVal.int .u8 0, AVal.int .u8 0, AVal.int .u8 0, AVal.int .u8 0, AVal.int .u8 0, AVal.int .u8 0, AVal.int .u8 0, AVal.int .u8 0, AVal.int .u8 0, AVal.int .u8 0, AVal.int .u8 0, AVal.int .u8 0, AVal.int .u8 0, AVal.int .u8 0, AVal.int .u8 0, AVal.int .u8 0, AVal.int .u8 0, AVal.int .u8 0, AVal.int .u8 0, AVal.int .u8 0, AVal.int .u8 0, AVal.int .u8 0, AVal.int .u8 0, AVal.int .u8 0, AVal.int .u8 0, AVal.int .u8 0, AVal.int .u8 0, AVal.int .u8 0, AVal.int .u8 0, AVal.int .u8 0, AVal.int .u8 0, AVal.int .u8 0, AVal.int .u8 0, AVal.int .u8 0, AVal.int .u8 0, AVal.int .u8 0, AVal.int .u8 0, AVal.int .u8 0, AVal.int .u8 0, AVal.int .u8 0, AVal.int .u8 0, AVal.int .u8 0, AVal.int .u8 0, AVal.int .u8 0, AVal.int .u8 0, AVal.int .u8 0, AVal.int .u8 0, AVal.int .u8 0, AVal.int .u8 0, AVal.int .u8 0, AVal.int .u8 0, AVal.int .u8 0, AVal.int .u8 0, AVal.int .u8 0, AVal.int .u8 0, AVal.int .u8 0, AVal.int .u8 0, AVal.int .u8 0, AVal.int .u8 0, AVal.int .u8 0, AVal.int .u8 0, AVal.int .u8 0, AVal.int .u8 0, AVal.int .u8 0, AVal.int .u8 0, AVal.int .u8 0, AVal.int .u8 0, AVal.int .u8 0, AVal.int .u8 0, AVal.int .u8 0, AVal.int .u8 0, AVal.int .u8 0, AVal.int .u8 0, AVal.int .u8 0, AVal.int .u8 0, AVal.int .u8 0, AVal.int .u8 0, AVal.int .u8 0, AVal.int .u8 0, AVal.int .u8 0, AVal.int .u8 0, AVal.int .u8 0, AVal.int .u8 0, AVal.int .u8 0, AVal.int .u8 0, AVal.int .u8 0, AVal.int .u8 0, AVal.int .u8 0, AVal.int .u8 0, AVal.int .u8 0, AVal.int .u8 0, AVal.int .u8 0, AVal.int .u8 0, AVal.int .u8 0, AVal.int .u8 0, AVal.int .u8 0, AVal.int .u8 0, AVal.int .u8 0, AVal.int .u8 0, AVal.int .u8 0, AVal.int .u8 0, AVal.int .u8 0, AVal.int .u8 0, AVal.int .u8 0, AVal.int .u8 0, AVal.int .u8 0, AVal.int .u8 0, AVal.int .u8 0, AVal.int .u8 0, AVal.int .u8 0, AVal.int .u8 0, AVal.int .u8 0, AVal.int .u8 0, AVal.int .u8 0, AVal.int .u8 0, AVal.int .u8 0, AVal.int .u8 0, AVal.int .u8 0, AVal.int .u8 0, AVal.int .u8 0, AVal.int .u8 0, AVal.int .u8 0, AVal.int .u8 0, AVal.int .u8 0, AVal.int .u8 0, AVal.int .u8 0, AVal.int .u8 0, AVal.int .u8 0, AVal.int .u8 0, AVal.int .u8 0, AVal.int .u8 0, AVal.int .u8 0, AVal.int .u8 0, AVal.int .u8 0, AVal.int .u8 0, AVal.int .u8 0, AVal.int .u8 0, AVal.int .u8 0, AVal.int .u8 0, AVal.int .u8 0, AVal.int .u8 0, AVal.int .u8 0, AVal.int .u8 0, AVal.int .u8 0, AVal.int .u8 0, AVal.int .u8 0, AVal.int .u8 0, AVal.int .u8 0, AVal.int .u8 0, AVal.int .u8 0, AVal.int .u8 0, AVal.int .u8 0, AVal.int .u8 0, AVal.int .u8 0, AVal.int .u8 0, AVal.int .u8 0, AVal.int .u8 0, AVal.int .u8 0, AVal.int .u8 0, AVal.int .u8 0, AVal.int .u8 0, AVal.int .u8 0, AVal.int .u8 0, AVal.int .u8 0, AVal.int .u8 0, AVal.int .u8 0, AVal.int .u8 0, AVal.int .u8 0, AVal.int .u8 0, AVal.int .u8 0, AVal.int .u8 0, AVal.int .u8 0, AVal.int .u8 0, AVal.int .u8 0, AVal.int .u8 0, AVal.int .u8 0, AVal.int .u8 0, AVal.int .u8 0, AVal.int .u8 0, AVal.int .u8 0, AVal.int .u8 0, AVal.int .u8 0, AVal.int .u8 0, AVal.int .u8 0, AVal.int .u8 0, AVal.int .u8 0, AVal.int .u8 0, AVal.int .u8 0, AVal.int .u8 0, AVal.int .u8 0, AVal.int .u8 0, AVal.int .u8 0, AVal.int .u8 0, AVal.int .u8 0, AVal.int .u8 0, AVal.int .u8 0, AVal.int .u8 0, AVal.int .u8 0, AVal.int .u8 0, AVal.int .u8 0, AVal.int .u8 0, AVal.int .u8 0, AVal.int .u8 0, AVal.int .u8 0, AVal.int .u8 0, AVal.int .u8 0, AVal.int .u8 0, AVal.int .u8 0, AVal.int .u8 0, AVal.int .u8 0, AVal.int .u8 0, AVal.int .u8 0, AVal.int .u8 0] : List AVal) = Z := hZ
  obtain ⟨S1, hS1⟩ : ∃ S1 : St, [.live 0 (vc vs), .live 0 (vc ws), .live 0 (vc cs)] = S1 := ⟨_, rfl⟩
  have l0 : loadA (some 512) (.ptr 0 0 0) [.live 0 (vc vs), .live 0 (vc ws)] = some (va vs) := load512 hv rfl
  have l1 : loadA (some 512) (.ptr 1 0 0) [.live 0 (vc vs), .live 0 (vc ws)] = some (va ws) := load512 hw rfl
  have s1 : storeA 512 (.ptr 2 0 0) (va cs) [.live 0 (vc vs), .live 0 (vc ws), .live 0 Z] = some S1 := by
    rw [store512 hc hZl rfl, ← hS1]; rfl
  have g0 : S1[0]? = some (.live 0 (vc vs)) := by rw [← hS1]; rfl
  have g2 : S1[2]? = some (.live 0 (vc cs)) := by rw [← hS1]; rfl
  have l3 : loadA (some 512) (.ptr 0 0 0) S1 = some (va vs) := load512 hv g0
  have l4 : loadA (some 512) (.ptr 2 0 0) S1 = some (va cs) := load512 hc g2
  obtain ⟨x, a1, a2⟩ := search_ok hv hc S1
  obtain ⟨y, b1, b2⟩ := search_ok hv hv S1
  rw [search_same] at b1 b2
  have hl1 := searchW_len vs cs 4 0
  obtain ⟨x2, c1, c2⟩ := unlike_ok hv hc S1
  have hl2 : (unlikeS vs cs).length ≤ 16 := unlikeN_len vs cs 16
  have al := alive_ok S1
  obtain ⟨f1, f2, f3⟩ := search_law hv hc 4 0 (by omega)
  rw [show 2 ^ 4 = 16 from rfl] at f1
  rw [show (2:Nat) ^ 4 = 16 from rfl, unl_all] at f2
  have hlx := a2.len
  have hly : lenA .sl y = some (.int .i64 0) := b2.len
  have hlz := c2.len
  -- the loop
  have hloop : ∀ f : Fr, f.get 3 = .ptr 0 0 0 → f.get 7 = .ptr 2 0 0 → f.get 8 = x → f.get 9 = .int .i64 ((searchW vs cs 4 0).2 : Int) → f.get 10 = .int .i64 0 →
      Post (evC (orc [mMixed, mSearch, mAlive, mUnlike]) 100 l20_DigestFound_s1 f S1) fun e f' T => e = .normal ∧ T = S1 ∧ f'.get 3 = .ptr 0 0 0 ∧ f'.get 7 = .ptr 2 0 0 ∧ f'.get 9 = .int .i64 ((searchW vs cs 4 0).2 : Int) := by
    intro f h3 h7 h8 h9 h10
    obtain ⟨f', T', k1, k2⟩ := loop_post (O := orc [mMixed, mSearch, mAlive, mUnlike]) (k := 100) (id := 0) (b := l20_DigestFound_l0)
      (I := fun j f T => T = S1 ∧ f.get 3 = .ptr 0 0 0 ∧ f.get 7 = .ptr 2 0 0 ∧ f.get 8 = x ∧ f.get 9 = .int .i64 ((searchW vs cs 4 0).2 : Int) ∧ f.get 10 = .int .i64 (j : Int))
      (Q := fun f T => T = S1 ∧ f.get 3 = .ptr 0 0 0 ∧ f.get 7 = .ptr 2 0 0 ∧ f.get 9 = .int .i64 ((searchW vs cs 4 0).2 : Int)) (searchW vs cs 4 0).1.length (by omega)
      (by
        rintro j hj f T ⟨rfl, h3, h7, h8, h9, h10⟩
        obtain ⟨z, hz⟩ : ∃ z, (searchW vs cs 4 0).1[j]? = some z := ⟨_, List.getElem?_eq_getElem hj⟩
        have hix := a2.ix hz
        obtain ⟨z1, z2, z3⟩ := f1.each z (List.mem_of_getElem? hz)
        obtain ⟨i1, l1'⟩ := ix_view hv g0 (i := z) (by omega) (by omega)
        obtain ⟨i2, l2'⟩ := ix_view hc g2 (i := z) (by omega) (by omega)
        have he := eq32 (hv.get_len (i := z.toNat) (by omega)) (hc.get_len (i := z.toNat) (by omega))
        rw [z3] at he
        have hlss : binA .lss (.int .i64 (j : Int)) (.int .i64 ((searchW vs cs 4 0).1.length : Int)) = some (.bool true) := lss_t (by omega)
        have had : binA .add (.int .i64 (j : Int)) (.int .i64 1) = some (.int .i64 ((j + 1 : Nat) : Int)) := add_is (by omega) (by omega) (by omega)
        have p1 : binA .lss (.int .i64 z) (.int .i64 0) = some (.bool false) := lss_f (by omega)
        have p2 : binA .gtr (.int .i64 z) (.int .i64 15) = some (.bool false) := gtr_f (by omega)
        suffices hmid : Post (evC (orc [mMixed, mSearch, mAlive, mUnlike]) 100 l20_DigestFound_l0 f T) (fun e f' T' => e = .normal ∧ T' = T ∧ f'.get 3 = .ptr 0 0 0 ∧ f'.get 7 = .ptr 2 0 0 ∧ f'.get 8 = x ∧ f'.get 9 = .int .i64 ((searchW vs cs 4 0).2 : Int) ∧ f'.get 10 = .int .i64 ((j + 1 : Nat) : Int)) from
          hmid.mono (fun e f' T' h => h)
        by_cases hj0 : j = 0
        · have p3 : binA .gtr (.int .i64 (j : Int)) (.int .i64 0) = some (.bool false) := gtr_f (by omega)
          clear z3 z1 z2
          generalize z.toNat * 32 = o at *
          generalize bcells (vs.getD z.toNat []) = E1 at *
          generalize bcells (cs.getD z.toNat []) = E2 at *
          generalize ((j + 1 : Nat) : Int) = j1 at *
          generalize (j : Int) = jj at *
          generalize ((searchW vs cs 4 0).1.length : Int) = nn at *
          generalize ((searchW vs cs 4 0).2 : Int) = kk at *
          simp [l20_DigestFound_l0, exM, orc, orcD, evF, evC, evOps, evOper, evAny, evOp, evCall, putR, putA, Fr.ev, Fr.of, Fr.get, Fr.set, stable, junkA, junkL, resultsA, resA, same, Fr.get_set, h3, h7, h8, h9, h10, hlx, hlss, had, hix, load_fq, p1, p2, p3, i1, i2, l1', l2', he, Post_some]
        · obtain ⟨y', hy'⟩ : ∃ z, (searchW vs cs 4 0).1[j - 1]? = some z := ⟨_, List.getElem?_eq_getElem (by omega)⟩
          have hix2 := a2.ix hy'
          have hlt : y' < z := by
            have h1 := (List.getElem?_eq_some_iff.1 hy').2
            have h2 := (List.getElem?_eq_some_iff.1 hz).2
            have := List.pairwise_iff_getElem.1 f1.sorted (j - 1) j (by omega) hj (by omega)
            rw [h1, h2] at this; exact this
          have p3 : binA .gtr (.int .i64 (j : Int)) (.int .i64 0) = some (.bool true) := gtr_t (by omega)
          have p4 : binA .sub (.int .i64 (j : Int)) (.int .i64 1) = some (.int .i64 ((j - 1 : Nat) : Int)) := sub_is (by omega) (by omega) (by omega)
          have p5 : binA .leq (.int .i64 z) (.int .i64 y') = some (.bool false) := leq_f hlt
          clear z3 z1 z2 hlt
          generalize z.toNat * 32 = o at *
          generalize bcells (vs.getD z.toNat []) = E1 at *
          generalize bcells (cs.getD z.toNat []) = E2 at *
          generalize ((j + 1 : Nat) : Int) = j1 at *
          generalize ((j - 1 : Nat) : Int) = j2 at *
          generalize (j : Int) = jj at *
          generalize ((searchW vs cs 4 0).1.length : Int) = nn at *
          generalize ((searchW vs cs 4 0).2 : Int) = kk at *
          simp [l20_DigestFound_l0, exM, orc, orcD, evF, evC, evOps, evOper, evAny, evOp, evCall, putR, putA, Fr.ev, Fr.of, Fr.get, Fr.set, stable, junkA, junkL, resultsA, resA, same, Fr.get_set, h3, h7, h8, h9, h10, hlx, hlss, had, hix, hix2, load_fq, p1, p2, p3, p4, p5, i1, i2, l1', l2', he, Post_some])
      (by
        rintro f T ⟨rfl, h3, h7, h8, h9, h10⟩
        have hlss : binA .lss (.int .i64 ((searchW vs cs 4 0).1.length : Int)) (.int .i64 ((searchW vs cs 4 0).1.length : Int)) = some (.bool false) := lss_f (by omega)
        generalize ((searchW vs cs 4 0).1.length : Int) = nn at *
        generalize ((searchW vs cs 4 0).2 : Int) = kk at *
        simp [l20_DigestFound_l0, exM, orc, orcD, evF, evC, evOps, evOper, evAny, evOp, evCall, putR, putA, Fr.ev, Fr.of, Fr.get, Fr.set, stable, junkA, junkL, resultsA, resA, same, Fr.get_set, h3, h7, h8, h9, h10, hlx, hlss, Post_some])
      (f := f) (S := S1) ⟨rfl, h3, h7, h8, h9, h10⟩
    rw [show l20_DigestFound_s1 = .block 0 (.loop l20_DigestFound_l0) from rfl, k1]
    exact Post.of rfl ⟨rfl, k2⟩
  have be : ∀ a : Int, binA .eql (.int .i64 a) (.int .i64 a) = some (.bool true) := fun a => eql_t rfl
  have hge : binA .geq (.int .i64 ((searchW vs cs 4 0).2 : Int)) (.int .i64 1) = some (.bool true) := geq_t (by omega)
  have hmul : binA .mul (.int .i64 8) (.int .i64 (max 1 ((unlikeS vs cs).length : Int))) = some (.int .i64 (8 * max 1 ((unlikeS vs cs).length : Int))) := mul_i (by omega) (by omega)
  have hadd : binA .add (.int .i64 1) (.int .i64 (8 * max 1 ((unlikeS vs cs).length : Int))) = some (.int .i64 (1 + 8 * max 1 ((unlikeS vs cs).length : Int))) := add_i (by omega) (by omega)
  have hle : binA .leq (.int .i64 ((searchW vs cs 4 0).2 : Int)) (.int .i64 (1 + 8 * max 1 ((unlikeS vs cs).length : Int))) = some (.bool true) := leq_t (by omega)
  refine ⟨S1, evF_post rfl rfl ?_⟩
  simp only [l20_DigestFound, l20_DigestFound_t2, Post_seq]
  rw [hZ']
  clear f2 f3 hl1 f1
  generalize ((searchW vs cs 4 0).2 : Int) = kk at *
  simp [exM, orc, orcD, evF, evC, evOps, evOper, evAny, evOp, evCall, putR, putA, Fr.ev, Fr.of, Fr.get, Fr.set, stable, junkA, junkL, resultsA, resA, same, cells_va, hk, hm, l0, l1, l3, l4, s1, a1, Fr.get_set, Post_some]
  refine (hloop _ (by simp [Fr.get_set, Fr.get]) (by simp [Fr.get_set, Fr.get]) (by simp [Fr.get_set, Fr.get]) (by simp [Fr.get_set, Fr.get]) (by simp [Fr.get_set, Fr.get])).mono ?_
  rintro e f T ⟨rfl, rfl, h3, h7, h9⟩
  generalize 8 * max 1 ((unlikeS vs cs).length : Int) = w1 at *
  generalize hw0 : max 1 ((unlikeS vs cs).length : Int) = w0 at *
  simp [exM, orc, orcD, evF, evC, evOps, evOper, evAny, evOp, evCall, putR, putA, Fr.ev, Fr.of, Fr.get, Fr.set, stable, junkA, junkL, resultsA, resA, same, Fr.get_set, h3, h7, h9, l3, l4, b1, hly, al, be, hge, c1, hlz, hw0, hmul, hadd, hle, Post_some]
end Am.Dig
