/- SHA-256, as the document has it: one hash of many. -/
import Derived.Test.YtjinhkamckibaaaAmSha19
set_option linter.all false
namespace Am.Sha
open Am Go Am.Ir
set_option maxRecDepth 100000

structure JnF (f : Fr) (P m : AVal) (j : Nat) : Prop where
  s0 : f.get 0 = P
  s3 : f.get 3 = m
  s4 : f.get 4 = .int .i64 (j : Int)

theorem joined_loop {O : Orc} {f : Fr} {S T : St} {P m : AVal} {r : Nat} {us : List (List UInt8)} (hP : Parts S P us) (hus : us.length < 900) (ht : us.flatten.length < 1000000000) (hr : S.length ≤ r) (hm : MsgI T m [] r) (hk : Keeps S T []) (hf : JnF f P m 0) :
    Post (evC O 1000 r02_Joined_s1 f T) fun e f' T' => e = .normal ∧ ∃ m', f'.get 3 = m' ∧ MsgI T' m' us.flatten r ∧ Keeps S T' [] := by
  have htl : ∀ j, (us.take j).flatten.length ≤ us.flatten.length := fun j => by
    have : us.flatten = (us.take j).flatten ++ (us.drop j).flatten := by rw [← List.flatten_append, List.take_append_drop]
    rw [this, List.length_append]; omega
  obtain ⟨f', T', h1, h2⟩ := loop_post (O := O) (k := 1000) (id := 0) (b := r02_Joined_l0)
    (I := fun j f T' => ∃ m', JnF f P m' j ∧ MsgI T' m' (us.take j).flatten r ∧ Keeps S T' [])
    (Q := fun f T' => ∃ m', f.get 3 = m' ∧ MsgI T' m' us.flatten r ∧ Keeps S T' []) us.length (by omega)
    (by
      rintro j hj f T1 ⟨m1, ⟨s0, s3, s4⟩, g2, g3⟩
      obtain ⟨u, hju⟩ : ∃ u, us[j]? = some u := ⟨_, List.getElem?_eq_getElem hj⟩
      have hft : (us.take (j + 1)).flatten = (us.take j).flatten ++ u := by rw [List.take_add_one, hju]; simp
      obtain ⟨p, c, hp, hc⟩ := hP.at' j u hju
      obtain ⟨hc1, hc2⟩ := hc T1 g3
      have h1' := htl (j + 1)
      rw [hft, List.length_append] at h1'
      obtain ⟨m2, T2, a1, a2, a3⟩ := g2.app hc2.cells (by omega)
      rw [← hft] at a2
      have hlen := hP.len
      have hlss : binA .lss (.int .i64 (j : Int)) (.int .i64 (us.length : Int)) = some (.bool true) := lss_t (by omega)
      have had : binA .add (.int .i64 (j : Int)) (.int .i64 1) = some (.int .i64 ((j + 1 : Nat) : Int)) := add_is (by omega) (by omega) (by omega)
      suffices hmid : Post (evC O 1000 r02_Joined_l0 f T1) (fun e f' T3 => e = .normal ∧ T3 = T2 ∧ f'.get 0 = P ∧ f'.get 3 = m2 ∧ f'.get 4 = .int .i64 ((j + 1 : Nat) : Int)) by
        refine hmid.mono ?_
        rintro e f' T3 ⟨h1, rfl, k0, k3, k4⟩
        exact ⟨h1, m2, ⟨k0, k3, k4⟩, a2, g3.after a3 hr⟩
      generalize ((j + 1 : Nat) : Int) = jj1 at *
      generalize (j : Int) = jj at *
      generalize (us.length : Int) = nn at *
      simp [r02_Joined_l0, exM, orc, orcD, evF, evC, evOps, evOper, evAny, evOp, evCall, putR, putA, Fr.ev, Fr.of, Fr.get, Fr.set, stable, junkA, junkL, resultsA, resA, same, Fr.get_set, s0, s3, s4, hlen, hlss, had, hp, hc1, a1, Post_some])
    (by
      rintro f T1 ⟨m1, ⟨s0, s3, s4⟩, g2, g3⟩
      rw [List.take_length] at g2
      have hlen := hP.len
      have hlss : binA .lss (.int .i64 (us.length : Int)) (.int .i64 (us.length : Int)) = some (.bool false) := lss_f (by omega)
      suffices hmid : Post (evC O 1000 r02_Joined_l0 f T1) (fun e f' T3 => e = .exit 0 ∧ T3 = T1 ∧ f'.get 3 = m1) by
        refine hmid.mono ?_
        rintro e f' T3 ⟨h1, rfl, k3⟩
        exact ⟨h1, m1, k3, g2, g3⟩
      generalize (us.length : Int) = nn at *
      simp [r02_Joined_l0, exM, orc, orcD, evF, evC, evOps, evOper, evAny, evOp, evCall, putR, putA, Fr.ev, Fr.of, Fr.get, Fr.set, stable, junkA, junkL, resultsA, resA, same, Fr.get_set, s0, s3, s4, hlen, hlss, Post_some])
    (f := f) (S := T) ⟨m, hf, by simpa using hm, hk⟩
  rw [show r02_Joined_s1 = .block 0 (.loop r02_Joined_l0) from rfl, h1]
  exact Post.of rfl ⟨rfl, h2⟩

noncomputable def mJoined : Model := tellM 3 (exM (orc []) r02_Joined 1000)

theorem joined_ok {S : St} {P : AVal} {us : List (List UInt8)} (hP : Parts S P us) (hus : us.length < 900) (ht : us.flatten.length < 1000000000) : mJoined [P] S = some (.fz false us.flatten.length (bcells us.flatten), S) := by
  suffices hs : Post (evC (orc []) 1000 r02_Joined.body (Fr.of [P]) S) (fun e f T => (e = .normal ∨ e = .ret) ∧ ∃ m, resultsA f T r02_Joined.results = some m ∧ MsgI T m us.flatten S.length ∧ Keeps S T []) by
    obtain ⟨e, f, T, g1, g2, m, g3, g4, g5⟩ := hs.ex
    obtain ⟨v, rfl, g6⟩ := g4
    obtain ⟨X, rfl⟩ := g5.split
    refine tellM_new (v := .sl S.length v 0 us.flatten.length 1) (T := X) (evF_post rfl rfl (Post.of g1 ⟨g2, g3, rfl⟩)) ?_
    refine deep_sl (Nat.le_refl _) g6 (by rw [bcells_len]; omega) ?_
    rw [List.drop_zero, List.take_of_length_le (by rw [bcells_len]; omega), deep_bcells]
  have hk : Keeps S (S ++ [.live 0 []]) [] := Keeps.append ..
  simp only [r02_Joined, r02_Joined_t2, Post_seq]
  simp [exM, orc, orcD, evF, evC, evOps, evOper, evAny, evOp, evCall, putR, putA, Fr.ev, Fr.of, Fr.get, Fr.set, stable, junkA, junkL, resultsA, resA, same, fillA, Fr.get_set, Post_some]
  refine (joined_loop (P := P) (m := .sl S.length 0 0 0 1) hP hus ht (Nat.le_refl _) ⟨0, rfl, by simp [bcells]⟩ hk ⟨rfl, rfl, rfl⟩).mono ?_
  rintro e f T ⟨rfl, m', k1, k2, k3⟩
  simp [exM, orc, orcD, evF, evC, evOps, evOper, evAny, evOp, evCall, putR, putA, Fr.ev, Fr.of, Fr.get, Fr.set, stable, junkA, junkL, resultsA, resA, same, Fr.get_set, k1, Post_some]
  exact ⟨k2, k3⟩

/-- The reference's tree, so deep. -/
noncomputable def treeM2 : Nat → Model
  | 0 => fun _ _ => none
  | d + 1 => tellM 2 (exM (orc [treeM2 d, mJoined, mSum2]) r02_Tree 100)

structure T2F (f : Fr) (x : AVal) (q n : Nat) : Prop where
  s0 : f.get 0 = x
  s2 : f.get 2 = .ptr q 0 0
  s3 : f.get 3 = .int .i64 (n : Int)

theorem tree2_round {O : Orc} {k : Nat} {f : Fr} {T : St} {x : AVal} {hs : List (List UInt8)} {q n : Nat} (hx : Hs T x hs) (hn : n < 1000) (hlt : 2 * n < hs.length) (hf : T2F f x q n) :
    Post (evC O k r02_Tree_l0 f T) fun e f' T' => e = .normal ∧ T2F f' x q (2 * n) ∧ T' = T := by
  obtain ⟨s0, s2, s3⟩ := hf
  have hlen := hx.len
  have hm : binA .mul (.int .i64 2) (.int .i64 (n : Int)) = some (.int .i64 ((2 * n : Nat) : Int)) := mul_is (by omega) (by omega) (by omega)
  have hlss : binA .lss (.int .i64 ((2 * n : Nat) : Int)) (.int .i64 (hs.length : Int)) = some (.bool true) := lss_t (by omega)
  suffices hmid : Post (evC O k r02_Tree_l0 f T) (fun e f' T' => e = .normal ∧ T' = T ∧ f'.get 0 = x ∧ f'.get 2 = .ptr q 0 0 ∧ f'.get 3 = .int .i64 ((2 * n : Nat) : Int)) by
    refine hmid.mono ?_
    rintro e f' T' ⟨h1, h0, h2, h3, h4⟩
    exact ⟨h1, ⟨h2, h3, h4⟩, h0⟩
  generalize ((2 * n : Nat) : Int) = z1 at *
  generalize (n : Int) = z2 at *
  generalize (hs.length : Int) = z3 at *
  simp [r02_Tree_l0, exM, orc, orcD, evF, evC, evOps, evOper, evAny, evOp, evCall, putR, putA, Fr.ev, Fr.of, Fr.get, Fr.set, stable, junkA, junkL, resultsA, resA, same, Fr.get_set, s0, s2, s3, hlen, hm, hlss, Post_some]

theorem tree2_end {O : Orc} {k : Nat} {f : Fr} {T : St} {x : AVal} {hs : List (List UInt8)} {q n : Nat} (hx : Hs T x hs) (hn : n < 1000) (hlt : hs.length ≤ 2 * n) (hf : T2F f x q n) :
    Post (evC O k r02_Tree_l0 f T) fun e f' T' => e = .exit 0 ∧ T2F f' x q n ∧ T' = T := by
  obtain ⟨s0, s2, s3⟩ := hf
  have hlen := hx.len
  have hm : binA .mul (.int .i64 2) (.int .i64 (n : Int)) = some (.int .i64 ((2 * n : Nat) : Int)) := mul_is (by omega) (by omega) (by omega)
  have hlss : binA .lss (.int .i64 ((2 * n : Nat) : Int)) (.int .i64 (hs.length : Int)) = some (.bool false) := lss_f (by omega)
  suffices hmid : Post (evC O k r02_Tree_l0 f T) (fun e f' T' => e = .exit 0 ∧ T' = T ∧ f'.get 0 = x ∧ f'.get 2 = .ptr q 0 0 ∧ f'.get 3 = .int .i64 (n : Int)) by
    refine hmid.mono ?_
    rintro e f' T' ⟨h1, h0, h2, h3, h4⟩
    exact ⟨h1, ⟨h2, h3, h4⟩, h0⟩
  generalize ((2 * n : Nat) : Int) = z1 at *
  generalize (n : Int) = z2 at *
  generalize (hs.length : Int) = z3 at *
  simp [r02_Tree_l0, exM, orc, orcD, evF, evC, evOps, evOper, evAny, evOp, evCall, putR, putA, Fr.ev, Fr.of, Fr.get, Fr.set, stable, junkA, junkL, resultsA, resA, same, Fr.get_set, s0, s2, s3, hlen, hm, hlss, Post_some]

theorem top_half {n : Nat} (h2 : 2 ≤ n) : ∀ j, j < (n - 1).log2 → 2 * 2 ^ j < n := fun j hj => by
  have h1 : 2 ^ (n - 1).log2 ≤ n - 1 := Nat.log2_self_le (by omega)
  have h3 : 2 ^ (j + 1) ≤ 2 ^ (n - 1).log2 := Nat.pow_le_pow_right (by omega) (by omega)
  rw [Nat.pow_succ] at h3; omega

theorem top_twice {n : Nat} (h2 : 2 ≤ n) : n ≤ 2 * top n := by
  have h3 : n - 1 < 2 ^ ((n - 1).log2 + 1) := Nat.lt_log2_self
  simp only [top, Nat.pow_succ] at *; omega

theorem tree2_loop {O : Orc} {f : Fr} {T : St} {x : AVal} {hs : List (List UInt8)} {q : Nat} (hx : Hs T x hs) (h2 : 2 ≤ hs.length) (h16 : hs.length ≤ 16) (hf : T2F f x q 1) :
    Post (evC O 100 r02_Tree_s1 f T) fun e f' T' => e = .normal ∧ T2F f' x q (top hs.length) ∧ T' = T := by
  have hlg : (hs.length - 1).log2 < 4 := (Nat.log2_lt (by omega)).2 (by omega)
  obtain ⟨f', T', h1, h3⟩ := loop_post (O := O) (k := 100) (id := 0) (b := r02_Tree_l0)
    (I := fun j f T' => T2F f x q (2 ^ j) ∧ T' = T)
    (Q := fun f T' => T2F f x q (top hs.length) ∧ T' = T) (hs.length - 1).log2 (by omega)
    (by
      rintro j hj f T1 ⟨g1, rfl⟩
      have hp : 2 ^ j < 1000 := Nat.lt_of_le_of_lt (Nat.pow_le_pow_right (by omega) (show j ≤ 4 by omega)) (by omega)
      refine (tree2_round hx hp (top_half h2 j hj) g1).mono ?_
      rintro e f' T' ⟨rfl, k1, rfl⟩
      exact ⟨rfl, by rw [Nat.pow_succ, Nat.mul_comm]; exact k1, rfl⟩)
    (by
      rintro f T1 ⟨g1, rfl⟩
      have := top_lt h2
      refine (tree2_end hx (show top hs.length < 1000 by omega) (top_twice h2) g1).mono ?_
      rintro e f' T' ⟨rfl, k1, rfl⟩
      exact ⟨rfl, k1, rfl⟩)
    (f := f) (S := T) ⟨hf, rfl⟩
  rw [show r02_Tree_s1 = .block 0 (.loop r02_Tree_l0) from rfl, h1]
  exact Post.of rfl ⟨rfl, h3⟩

theorem tree2_one {m : Model} {S : St} {x : AVal} {hs : List (List UInt8)} (hx : Hs S x hs) (h1 : hs.length = 1) (d : Nat) :
    ∃ T, exM (orc [m, mJoined, mSum2]) r02_Tree 100 [x] S = some (.agg (bcells (treeD (d + 1) hs)), T) ∧ Keeps S T [] := by
  have hlen := hx.len
  obtain ⟨u, rfl⟩ := List.length_eq_one_iff.1 h1
  have hu := hx.each u (by simp)
  have ht : treeD (d + 1) [u] = u := by simp [treeD]
  rw [ht]
  obtain ⟨p, hp, hl⟩ := hx.one (i := 0) (u := u) rfl
  obtain ⟨Z, hZ⟩ : ∃ Z : List AVal, List.replicate 32 (AVal.int .u8 0) = Z := ⟨_, rfl⟩
  have hZl : Z.length = 32 := by rw [← hZ]; simp
  have hZ' := hZ
  simp only [List.replicate_succ, List.replicate_zero] at hZ'
  obtain ⟨S1, hS1⟩ : ∃ S1 : St, S ++ [.live 0 Z] = S1 := ⟨_, rfl⟩
  have hk1 : Keeps S S1 [] := by rw [← hS1]; exact Keeps.append ..
  have hz1 : S1[S.length]? = some (.live 0 Z) := by rw [← hS1]; simp
  have hst := store32 hZl hu hz1
  have hld := load32 hu (get_lt' hz1)
  have hl1 := hl S1 hk1
  refine ⟨S1.set S.length (.live 0 (bcells u)), ?_, ⟨by rw [← hS1]; simp, fun i hi _ => by rw [List.getElem?_set_ne (by omega), ← hS1, get_old hi]⟩⟩
  have hp' : iaddrSA 32 x (.int .i64 0) = some p := hp
  have hlen' : lenA .sl x = some (.int .i64 1) := hlen
  have e0 : binA .eql (.int .i64 1) (.int .i64 0) = some (.bool false) := rfl
  have e1 : binA .eql (.int .i64 1) (.int .i64 1) = some (.bool true) := rfl
  simp [exM, r02_Tree, exM, orc, orcD, evF, evC, evOps, evOper, evAny, evOp, evCall, putR, putA, Fr.ev, Fr.of, Fr.get, Fr.set, stable, junkA, junkL, resultsA, resA, same, hZ', hS1, hlen', e0, e1, hp', hl1, hst, hld]

theorem tree2_raw {d : Nat} (ih : ∀ {S : St} {x : AVal} {hs : List (List UInt8)}, Hs S x hs → hs.length ≤ 2 ^ d → hs.length ≤ 16 → 0 < hs.length → treeM2 (d + 1) [x] S = some (.agg (bcells (treeD (d + 1) hs)), S))
    {S : St} {x : AVal} {hs : List (List UInt8)} (hx : Hs S x hs) (h2 : 2 ≤ hs.length) (hd : hs.length ≤ 2 ^ (d + 1)) (h16 : hs.length ≤ 16) :
    treeM2 (d + 2) [x] S = some (.agg (bcells (treeD (d + 2) hs)), S) := by
  have htop := top_lt h2
  have hlen := hx.len
  obtain ⟨xa, ha1, ha2⟩ := hx.take (n := top hs.length) (by omega)
  obtain ⟨xb, hb1, hb2⟩ := hx.drop (n := top hs.length) (by omega)
  have htd : top hs.length ≤ 2 ^ d ∧ hs.length - top hs.length ≤ 2 ^ d := by
    have hlg : (hs.length - 1).log2 < d + 1 := (Nat.log2_lt (by omega)).2 (by omega)
    have h1 : 2 ^ (hs.length - 1).log2 ≤ 2 ^ d := Nat.pow_le_pow_right (by omega) (by omega)
    refine ⟨h1, ?_⟩
    have h3 : hs.length - 1 < 2 ^ ((hs.length - 1).log2 + 1) := Nat.lt_log2_self
    simp only [top, Nat.pow_succ] at *
    omega
  have hal : (hs.take (top hs.length)).length = top hs.length := by rw [List.length_take]; omega
  have hbl : (hs.drop (top hs.length)).length = hs.length - top hs.length := List.length_drop
  have ra : ∀ T, Keeps S T [] → treeM2 (d + 1) [xa] T = some (.agg (bcells (treeD (d + 1) (hs.take (top hs.length)))), T) := fun T hk => ih (ha2.keep hk) (by omega) (by omega) (by omega)
  have rb : ∀ T, Keeps S T [] → treeM2 (d + 1) [xb] T = some (.agg (bcells (treeD (d + 1) (hs.drop (top hs.length)))), T) := fun T hk => ih (hb2.keep hk) (by omega) (by omega) (by omega)
  have la := treeD_len (d + 1) (hs.take (top hs.length)) ha2.each (by omega)
  have lb := treeD_len (d + 1) (hs.drop (top hs.length)) hb2.each (by omega)
  have hspec : treeD (d + 2) hs = sha (treeD (d + 1) (hs.take (top hs.length)) ++ treeD (d + 1) (hs.drop (top hs.length))) := by
    rw [treeD]; rw [if_neg (by omega), if_neg (by omega)]
  rw [hspec]
  obtain ⟨A, hA⟩ : ∃ A, treeD (d + 1) (hs.take (top hs.length)) = A := ⟨_, rfl⟩
  obtain ⟨B, hB⟩ : ∃ B, treeD (d + 1) (hs.drop (top hs.length)) = B := ⟨_, rfl⟩
  rw [hA] at ra la; rw [hB] at rb lb; rw [hA, hB]
  suffices hs' : Post (evC (orc [treeM2 (d + 1), mJoined, mSum2]) 100 r02_Tree.body (Fr.of [x]) S) (fun e f T => (e = .normal ∨ e = .ret) ∧ resultsA f T r02_Tree.results = some (.agg (bcells (sha (A ++ B)))) ∧ Keeps S T []) by
    obtain ⟨e, f, T, g1, g2, g3, g4⟩ := hs'.ex
    exact tellM_keeps (evF_post rfl rfl (Post.of g1 ⟨g2, g3, rfl⟩)) g4 (deep_agg_bytes ..)
  have e0 : binA .eql (.int .i64 (hs.length : Int)) (.int .i64 0) = some (.bool false) := eql_f (by omega)
  have e1 : binA .eql (.int .i64 (hs.length : Int)) (.int .i64 1) = some (.bool false) := eql_f (by omega)
  obtain ⟨Z, hZ⟩ : ∃ Z : List AVal, List.replicate 32 (AVal.int .u8 0) = Z := ⟨_, rfl⟩
  have hZl : Z.length = 32 := by rw [← hZ]; simp
  have hZ' := hZ
  simp only [List.replicate_succ, List.replicate_zero] at hZ'
  have hk1 : Keeps S (S ++ [.live 0 Z]) [] := Keeps.append ..
  have ra1 := ra _ hk1
  have rb1 := rb _ hk1
  have st1 : storeA 32 (.ptr (S.length + 1) 0 0) (.agg (bcells A)) (S ++ [.live 0 Z, .live 0 Z, .live 0 Z]) = some (S ++ [.live 0 Z, .live 0 (bcells A), .live 0 Z]) := by
    rw [store32 hZl la (by simp)]; simp [List.set_append]
  have st2 : storeA 32 (.ptr (S.length + 2) 0 0) (.agg (bcells B)) (S ++ [.live 0 Z, .live 0 (bcells A), .live 0 Z]) = some (S ++ [.live 0 Z, .live 0 (bcells A), .live 0 (bcells B)]) := by
    rw [store32 hZl lb (by simp)]; simp [List.set_append]
  have sl1 : ∀ X : List ABlock, slcAA 1 32 (.ptr (S.length + 1) 0 0) none none (S ++ .live 0 Z :: .live 0 (bcells A) :: .live 0 (bcells B) :: X) = some (.sl (S.length + 1) 0 0 32 1) := fun X => slcA_full (z := bcells A) (by rw [bcells_len]; exact la) (by simp)
  have sl2 : ∀ X : List ABlock, slcAA 1 32 (.ptr (S.length + 2) 0 0) none none (S ++ .live 0 Z :: .live 0 (bcells A) :: .live 0 (bcells B) :: X) = some (.sl (S.length + 2) 0 0 32 1) := fun X => slcA_full (z := bcells B) (by rw [bcells_len]; exact lb) (by simp)
  obtain ⟨S2, hS2⟩ : ∃ S2 : St, S ++ [.live 0 Z, .live 0 (bcells A), .live 0 (bcells B), .live 0 [.sl (S.length + 1) 0 0 32 1, .sl (S.length + 2) 0 0 32 1]] = S2 := ⟨_, rfl⟩
  have hp : Parts S2 (.sl (S.length + 3) 0 0 2 1) [A, B] := parts2 (q := S.length + 3) (a := S.length + 1) (b := S.length + 2) la lb (by rw [← hS2]; simp) (by rw [← hS2]; simp) (by rw [← hS2]; simp)
  have hjn := joined_ok hp (by simp) (by simp [la, lb])
  rw [show [A, B].flatten = A ++ B by simp] at hjn
  have hsm := sum2_ok (S := S2) (rd_fz S2 (u := A ++ B) rfl false) (by simp [la, lb])
  have hz2 : S2[S.length]? = some (.live 0 Z) := by rw [← hS2]; simp
  have hst := store32 hZl (sha_len (A ++ B)) hz2
  have hld := load32 (sha_len (A ++ B)) (get_lt' hz2)
  have hkk : Keeps S (S2.set S.length (.live 0 (bcells (sha (A ++ B))))) [] := by
    refine ⟨by rw [← hS2]; simp, fun i hi _ => ?_⟩
    rw [List.getElem?_set_ne (by omega), ← hS2, get_old hi]
  simp only [r02_Tree, r02_Tree_t2, Post_seq]
  obtain ⟨hl, hhl⟩ : ∃ hl : Int, (hs.length : Int) = hl := ⟨_, rfl⟩
  have hlen' := hlen
  rw [hhl] at hlen' e0 e1
  simp [exM, orc, orcD, evF, evC, evOps, evOper, evAny, evOp, evCall, putR, putA, Fr.ev, Fr.of, Fr.get, Fr.set, stable, junkA, junkL, resultsA, resA, same, hZ', hlen', e0, e1, Fr.get_set, Post_some]
  refine (tree2_loop (x := x) (q := S.length) (hx.keep hk1) h2 h16 ⟨rfl, rfl, rfl⟩).mono ?_
  rintro e f T ⟨rfl, ⟨s0, s2, s3⟩, rfl⟩
  generalize ((top hs.length : Nat) : Int) = tp at *
  generalize AVal.fz false (A ++ B).length (bcells (A ++ B)) = jv at *
  simp [exM, orc, orcD, evF, evC, evOps, evOper, evAny, evOp, evCall, putR, putA, Fr.ev, Fr.of, Fr.get, Fr.set, stable, junkA, junkL, resultsA, resA, same, hZ', junkA, junkL, Fr.get_set, s0, s2, s3, ha1, hb1, ra1, rb1, st1, st2, sl1, sl2, fillA, cells?, splice, hS2, hjn, hsm, hst, hld, Post_some]
  exact hkk

theorem tree2_ok : ∀ (d : Nat) {S : St} {x : AVal} {hs : List (List UInt8)}, Hs S x hs → hs.length ≤ 2 ^ d → hs.length ≤ 16 → 0 < hs.length → treeM2 (d + 1) [x] S = some (.agg (bcells (treeD (d + 1) hs)), S)
  | 0, S, x, hs, hx, hd, _, h0 => by
    obtain ⟨T, h1, h2⟩ := tree2_one (m := treeM2 0) hx (by omega) 0
    exact tellM_keeps h1 h2 (deep_agg_bytes ..)
  | d + 1, S, x, hs, hx, hd, h16, h0 => by
    by_cases h1 : hs.length = 1
    · obtain ⟨T, h1, h2⟩ := tree2_one (m := treeM2 (d + 1)) hx h1 (d + 1)
      exact tellM_keeps h1 h2 (deep_agg_bytes ..)
    · exact tree2_raw (d := d) (fun {S x hs} hx hd h16 h0 => tree2_ok d hx hd h16 h0) hx (by omega) hd h16
end Am.Sha
