/- Views: where they are unlike; one mixed of two. -/
import Derived.Test.YtohopanblpgldaaAmDig2
set_option linter.all false
namespace Am.Dig
open Am Go Am.Ir Am.Sha
set_option maxRecDepth 100000

/-- Where two views are unlike, so far. -/
def unlikeN (vs ws : List (List UInt8)) (j : Nat) : List Int := ((List.range j).filter fun i => !(vs.getD i [] == ws.getD i [])).map fun i : Nat => (i : Int)
def unlikeS (vs ws : List (List UInt8)) : List Int := unlikeN vs ws 16

theorem unlikeN_succ (vs ws : List (List UInt8)) (j : Nat) : unlikeN vs ws (j + 1) = if (vs.getD j [] == ws.getD j []) = true then unlikeN vs ws j else unlikeN vs ws j ++ [(j : Int)] := by
  simp only [unlikeN, List.range_succ, List.filter_append, List.map_append, List.filter_cons, List.filter_nil]
  cases h : vs.getD j [] == ws.getD j []
  · simp only [Bool.not_false, if_true, Bool.false_eq_true, if_false]; rfl
  · simp only [Bool.not_true, Bool.false_eq_true, if_false, if_true, List.map_nil, List.append_nil]
theorem unlikeN_len (vs ws : List (List UInt8)) (j : Nat) : (unlikeN vs ws j).length ≤ j := by
  simp only [unlikeN, List.length_map]
  exact Nat.le_trans (List.length_filter_le ..) (by simp)

structure UnF (f : Fr) (a b : Nat) (m : AVal) (k kj j : Nat) : Prop where
  s2 : f.get 2 = .ptr a 0 0
  s3 : f.get 3 = .ptr b 0 0
  sk : f.get 5 = m
  sj : f.get kj = .int .i64 (j : Int)

theorem unlike_step {B : Nat} {S T : St} {m : AVal} {vs ws : List (List UInt8)} {j : Nat} (hB : B ≤ S.length) (hm : IntsI B T m (unlikeN vs ws j)) (hj : j < 16) (hST : KB B S T) :
    ∃ m' T', appendA 1 8 m (.sl T.length 0 0 1 1) (T ++ [.live 0 [.int .i64 (j : Int)]]) = some (m', T') ∧ IntsI B T' m' (unlikeN vs ws j ++ [(j : Int)]) ∧ KB B S T' := by
  have hl := unlikeN_len vs ws j
  obtain ⟨m', T', h1, h2, h3⟩ := hm.app1 (Nat.le_trans hB hST.1) (j : Int) (by omega)
  exact ⟨m', T', h1, h2, hST.trans h3⟩

theorem unlike_loop {O : Orc} {f : Fr} {S : St} {a b : Nat} {m : AVal} {vs ws : List (List UInt8)} {B : Nat} (hv : View vs) (hw : View ws) (ha : S[a]? = some (.live 0 (vc vs))) (hb : S[b]? = some (.live 0 (vc ws))) (haB : a < B) (hbB : b < B) (hB : B ≤ S.length)
    (hm : IntsI B S m []) (hf : UnF f a b m 5 7 0) :
    Post (evC O 1000 digest_Unlike_s1 f S) fun e f' T => e = .normal ∧ ∃ m', f'.get 5 = m' ∧ IntsI B T m' (unlikeS vs ws) ∧ KB B S T := by
  obtain ⟨f', T', h1', h3⟩ := loop_post (O := O) (k := 1000) (id := 0) (b := digest_Unlike_l0)
    (I := fun j f T => ∃ m', UnF f a b m' 5 7 j ∧ IntsI B T m' (unlikeN vs ws j) ∧ KB B S T) (Q := fun f T => ∃ m', f.get 5 = m' ∧ IntsI B T m' (unlikeS vs ws) ∧ KB B S T) 16 (by omega)
    (by
      rintro j hj f T ⟨m1, ⟨s2, s3, sk, sj⟩, g2, g3⟩
      have hTa : T[a]? = some (.live 0 (vc vs)) := by rw [g3.2 a haB]; exact ha
      have hTb : T[b]? = some (.live 0 (vc ws)) := by rw [g3.2 b hbB]; exact hb
      obtain ⟨i1, l1⟩ := ix_view hv hTa (i := (j : Int)) (by omega) (by omega)
      obtain ⟨i2, l2⟩ := ix_view hw hTb (i := (j : Int)) (by omega) (by omega)
      rw [Int.toNat_natCast] at i1 l1 i2 l2
      have he := eq32 (hv.get_len hj) (hw.get_len hj)
      have hlss : binA .lss (.int .i64 (j : Int)) (.int .i64 16) = some (.bool true) := lss_t (by omega)
      have had : binA .add (.int .i64 (j : Int)) (.int .i64 1) = some (.int .i64 ((j + 1 : Nat) : Int)) := add_is (by omega) (by omega) (by omega)
      obtain ⟨m2, T2, a1, a2, a3⟩ := unlike_step (vs := vs) (ws := ws) hB g2 hj g3
      have hs := unlikeN_succ vs ws j
      cases hq : vs.getD j [] == ws.getD j [] with
      | true =>
        rw [hq, if_pos rfl] at hs
        rw [hq] at he
        suffices hmid : Post (evC O 1000 digest_Unlike_l0 f T) (fun e f' T' => e = .normal ∧ T' = T ∧ f'.get 2 = .ptr a 0 0 ∧ f'.get 3 = .ptr b 0 0 ∧ f'.get 5 = m1 ∧ f'.get 7 = .int .i64 ((j + 1 : Nat) : Int)) by
          refine hmid.mono ?_
          rintro e f' T' ⟨h1, rfl, h2, h3, h4, h5⟩
          exact ⟨h1, m1, ⟨h2, h3, h4, h5⟩, by rw [hs]; exact g2, g3⟩
        generalize bcells (vs.getD j []) = E1 at *
        generalize bcells (ws.getD j []) = E2 at *
        generalize ((j + 1 : Nat) : Int) = z at *
        generalize (j : Int) = jj at *
        simp [digest_Unlike_l0, exM, orc, orcD, evF, evC, evOps, evOper, evAny, evOp, evCall, putR, putA, Fr.ev, Fr.of, Fr.get, Fr.set, stable, junkA, junkL, resultsA, resA, same, Fr.get_set, s2, s3, sk, sj, hlss, had, i1, i2, l1, l2, he, Post_some]
      | false =>
        rw [hq] at hs he
        simp only [Bool.false_eq_true, if_false] at hs
        suffices hmid : Post (evC O 1000 digest_Unlike_l0 f T) (fun e f' T' => e = .normal ∧ T' = T2 ∧ f'.get 2 = .ptr a 0 0 ∧ f'.get 3 = .ptr b 0 0 ∧ f'.get 5 = m2 ∧ f'.get 7 = .int .i64 ((j + 1 : Nat) : Int)) by
          refine hmid.mono ?_
          rintro e f' T' ⟨h1, rfl, h2, h3, h4, h5⟩
          exact ⟨h1, m2, ⟨h2, h3, h4, h5⟩, by rw [hs]; exact a2, a3⟩
        generalize bcells (vs.getD j []) = E1 at *
        generalize bcells (ws.getD j []) = E2 at *
        generalize ((j + 1 : Nat) : Int) = z at *
        generalize (j : Int) = jj at *
        simp [digest_Unlike_l0, exM, orc, orcD, evF, evC, evOps, evOper, evAny, evOp, evCall, putR, putA, Fr.ev, Fr.of, Fr.get, Fr.set, stable, junkA, junkL, resultsA, resA, same, Fr.get_set, s2, s3, sk, sj, hlss, had, i1, i2, l1, l2, he, fillA, cells?, splice, a1, Post_some])
    (by
      rintro f T ⟨m1, ⟨s2, s3, sk, sj⟩, g2, g3⟩
      have sj' : f.get 7 = .int .i64 16 := sj
      have hlss : binA .lss (.int .i64 16) (.int .i64 16) = some (.bool false) := rfl
      suffices hmid : Post (evC O 1000 digest_Unlike_l0 f T) (fun e f' T' => e = .exit 0 ∧ T' = T ∧ f'.get 5 = m1) by
        refine hmid.mono ?_
        rintro e f' T' ⟨h1, rfl, h2⟩
        exact ⟨h1, m1, h2, g2, g3⟩
      simp [digest_Unlike_l0, exM, orc, orcD, evF, evC, evOps, evOper, evAny, evOp, evCall, putR, putA, Fr.ev, Fr.of, Fr.get, Fr.set, stable, junkA, junkL, resultsA, resA, same, Fr.get_set, s2, s3, sk, sj', hlss, Post_some])
    (f := f) (S := S) ⟨m, hf, hm, KB.refl B S⟩
  rw [show digest_Unlike_s1 = .block 0 (.loop digest_Unlike_l0) from rfl, h1']
  exact Post.of rfl ⟨rfl, h3⟩

noncomputable def mUnlike : Model := tellM 2 (exM (orc []) digest_Unlike 1000)

theorem told_ints {F : Model} {args : List AVal} {S T : St} {m : AVal} {l : List Int} (h : F args S = some (m, T)) (hm : IntsI S.length T m l) (hk : KB S.length S T) : ∃ x, tellM 2 F args S = some (x, S) ∧ IntsV x l := by
  obtain ⟨X, rfl⟩ := hk.keeps.split
  obtain ⟨x, h1, h2⟩ := hm.told 0
  exact ⟨x, tellM_new h h1, h2⟩

theorem unlike_ok {vs ws : List (List UInt8)} (hv : View vs) (hw : View ws) (S : St) : ∃ x, mUnlike [va vs, va ws] S = some (x, S) ∧ IntsV x (unlikeS vs ws) := by
  suffices hs : Post (evC (orc []) 1000 digest_Unlike.body (Fr.of [va vs, va ws]) S) (fun e f T => (e = .normal ∨ e = .ret) ∧ ∃ m, resultsA f T digest_Unlike.results = some m ∧ IntsI S.length T m (unlikeS vs ws) ∧ KB S.length S T) by
    obtain ⟨e, f, T, g1, g2, m, g3, g4, g5⟩ := hs.ex
    exact told_ints (evF_post rfl rfl (Post.of g1 ⟨g2, g3, rfl⟩)) g4 g5
  obtain ⟨S1, hS1⟩ : ∃ S1 : St, S ++ [.live 0 (vc vs), .live 0 (vc ws)] = S1 := ⟨_, rfl⟩
  have hk1 : KB S.length S S1 := by rw [← hS1]; exact KB.append (Nat.le_refl _)
  simp only [digest_Unlike, digest_Unlike_t2, Post_seq]
  simp [exM, orc, orcD, evF, evC, evOps, evOper, evAny, evOp, evCall, putR, putA, Fr.ev, Fr.of, Fr.get, Fr.set, stable, junkA, junkL, resultsA, resA, same, cells_va, hS1, Fr.get_set, Post_some]
  refine (unlike_loop (a := S.length) (b := S.length + 1) (B := S.length + 2) (m := .nils) hv hw (by rw [← hS1]; simp) (by rw [← hS1]; simp) (by omega) (by omega) (by rw [← hS1]; simp) (.inl ⟨rfl, rfl⟩) ⟨rfl, rfl, rfl, rfl⟩).mono ?_
  rintro e f T ⟨rfl, m, k1, k2, k3⟩
  simp [exM, orc, orcD, evF, evC, evOps, evOper, evAny, evOp, evCall, putR, putA, Fr.ev, Fr.of, Fr.get, Fr.set, stable, junkA, junkL, resultsA, resA, same, Fr.get_set, k1, Post_some]
  exact ⟨k2.keep (fun _ _ _ => rfl) (by omega), hk1.trans (k3.mono (by omega))⟩

theorem unlike2_loop {O : Orc} {f : Fr} {S : St} {a b : Nat} {m : AVal} {vs ws : List (List UInt8)} {B : Nat} (hv : View vs) (hw : View ws) (ha : S[a]? = some (.live 0 (vc vs))) (hb : S[b]? = some (.live 0 (vc ws))) (haB : a < B) (hbB : b < B) (hB : B ≤ S.length)
    (hm : IntsI B S m []) (hf : UnF f a b m 5 6 0) :
    Post (evC O 1000 r20_Unlike_s1 f S) fun e f' T => e = .normal ∧ ∃ m', f'.get 5 = m' ∧ IntsI B T m' (unlikeS vs ws) ∧ KB B S T := by
  obtain ⟨f', T', h1', h3⟩ := loop_post (O := O) (k := 1000) (id := 0) (b := r20_Unlike_l0)
    (I := fun j f T => ∃ m', UnF f a b m' 5 6 j ∧ IntsI B T m' (unlikeN vs ws j) ∧ KB B S T) (Q := fun f T => ∃ m', f.get 5 = m' ∧ IntsI B T m' (unlikeS vs ws) ∧ KB B S T) 16 (by omega)
    (by
      rintro j hj f T ⟨m1, ⟨s2, s3, sk, sj⟩, g2, g3⟩
      have hTa : T[a]? = some (.live 0 (vc vs)) := by rw [g3.2 a haB]; exact ha
      have hTb : T[b]? = some (.live 0 (vc ws)) := by rw [g3.2 b hbB]; exact hb
      obtain ⟨i1, l1⟩ := ix_view hv hTa (i := (j : Int)) (by omega) (by omega)
      obtain ⟨i2, l2⟩ := ix_view hw hTb (i := (j : Int)) (by omega) (by omega)
      rw [Int.toNat_natCast] at i1 l1 i2 l2
      have he := eq32 (hv.get_len hj) (hw.get_len hj)
      have hlss : binA .lss (.int .i64 (j : Int)) (.int .i64 16) = some (.bool true) := lss_t (by omega)
      have had : binA .add (.int .i64 (j : Int)) (.int .i64 1) = some (.int .i64 ((j + 1 : Nat) : Int)) := add_is (by omega) (by omega) (by omega)
      obtain ⟨m2, T2, a1, a2, a3⟩ := unlike_step (vs := vs) (ws := ws) hB g2 hj g3
      have hs := unlikeN_succ vs ws j
      cases hq : vs.getD j [] == ws.getD j [] with
      | true =>
        rw [hq, if_pos rfl] at hs
        rw [hq] at he
        suffices hmid : Post (evC O 1000 r20_Unlike_l0 f T) (fun e f' T' => e = .normal ∧ T' = T ∧ f'.get 2 = .ptr a 0 0 ∧ f'.get 3 = .ptr b 0 0 ∧ f'.get 5 = m1 ∧ f'.get 6 = .int .i64 ((j + 1 : Nat) : Int)) by
          refine hmid.mono ?_
          rintro e f' T' ⟨h1, rfl, h2, h3, h4, h5⟩
          exact ⟨h1, m1, ⟨h2, h3, h4, h5⟩, by rw [hs]; exact g2, g3⟩
        generalize bcells (vs.getD j []) = E1 at *
        generalize bcells (ws.getD j []) = E2 at *
        generalize ((j + 1 : Nat) : Int) = z at *
        generalize (j : Int) = jj at *
        simp [r20_Unlike_l0, exM, orc, orcD, evF, evC, evOps, evOper, evAny, evOp, evCall, putR, putA, Fr.ev, Fr.of, Fr.get, Fr.set, stable, junkA, junkL, resultsA, resA, same, Fr.get_set, s2, s3, sk, sj, hlss, had, i1, i2, l1, l2, he, Post_some]
      | false =>
        rw [hq] at hs he
        simp only [Bool.false_eq_true, if_false] at hs
        suffices hmid : Post (evC O 1000 r20_Unlike_l0 f T) (fun e f' T' => e = .normal ∧ T' = T2 ∧ f'.get 2 = .ptr a 0 0 ∧ f'.get 3 = .ptr b 0 0 ∧ f'.get 5 = m2 ∧ f'.get 6 = .int .i64 ((j + 1 : Nat) : Int)) by
          refine hmid.mono ?_
          rintro e f' T' ⟨h1, rfl, h2, h3, h4, h5⟩
          exact ⟨h1, m2, ⟨h2, h3, h4, h5⟩, by rw [hs]; exact a2, a3⟩
        generalize bcells (vs.getD j []) = E1 at *
        generalize bcells (ws.getD j []) = E2 at *
        generalize ((j + 1 : Nat) : Int) = z at *
        generalize (j : Int) = jj at *
        simp [r20_Unlike_l0, exM, orc, orcD, evF, evC, evOps, evOper, evAny, evOp, evCall, putR, putA, Fr.ev, Fr.of, Fr.get, Fr.set, stable, junkA, junkL, resultsA, resA, same, Fr.get_set, s2, s3, sk, sj, hlss, had, i1, i2, l1, l2, he, fillA, cells?, splice, a1, Post_some])
    (by
      rintro f T ⟨m1, ⟨s2, s3, sk, sj⟩, g2, g3⟩
      have sj' : f.get 6 = .int .i64 16 := sj
      have hlss : binA .lss (.int .i64 16) (.int .i64 16) = some (.bool false) := rfl
      suffices hmid : Post (evC O 1000 r20_Unlike_l0 f T) (fun e f' T' => e = .exit 0 ∧ T' = T ∧ f'.get 5 = m1) by
        refine hmid.mono ?_
        rintro e f' T' ⟨h1, rfl, h2⟩
        exact ⟨h1, m1, h2, g2, g3⟩
      simp [r20_Unlike_l0, exM, orc, orcD, evF, evC, evOps, evOper, evAny, evOp, evCall, putR, putA, Fr.ev, Fr.of, Fr.get, Fr.set, stable, junkA, junkL, resultsA, resA, same, Fr.get_set, s2, s3, sk, sj', hlss, Post_some])
    (f := f) (S := S) ⟨m, hf, hm, KB.refl B S⟩
  rw [show r20_Unlike_s1 = .block 0 (.loop r20_Unlike_l0) from rfl, h1']
  exact Post.of rfl ⟨rfl, h3⟩

noncomputable def mUnlike2 : Model := tellM 2 (exM (orc []) r20_Unlike 1000)

theorem unlike2_ok {vs ws : List (List UInt8)} (hv : View vs) (hw : View ws) (S : St) : ∃ x, mUnlike2 [va vs, va ws] S = some (x, S) ∧ IntsV x (unlikeS vs ws) := by
  suffices hs : Post (evC (orc []) 1000 r20_Unlike.body (Fr.of [va vs, va ws]) S) (fun e f T => (e = .normal ∨ e = .ret) ∧ ∃ m, resultsA f T r20_Unlike.results = some m ∧ IntsI S.length T m (unlikeS vs ws) ∧ KB S.length S T) by
    obtain ⟨e, f, T, g1, g2, m, g3, g4, g5⟩ := hs.ex
    exact told_ints (evF_post rfl rfl (Post.of g1 ⟨g2, g3, rfl⟩)) g4 g5
  obtain ⟨S1, hS1⟩ : ∃ S1 : St, S ++ [.live 0 (vc vs), .live 0 (vc ws), .live 0 []] = S1 := ⟨_, rfl⟩
  have hk1 : KB S.length S S1 := by rw [← hS1]; exact KB.append (Nat.le_refl _)
  simp only [r20_Unlike, r20_Unlike_t2, Post_seq]
  simp [exM, orc, orcD, evF, evC, evOps, evOper, evAny, evOp, evCall, putR, putA, Fr.ev, Fr.of, Fr.get, Fr.set, stable, junkA, junkL, resultsA, resA, same, cells_va, fillA, hS1, Fr.get_set, Post_some]
  refine (unlike2_loop (a := S.length) (b := S.length + 1) (B := S.length + 2) (m := .sl (S.length + 2) 0 0 0 1) hv hw (by rw [← hS1]; simp) (by rw [← hS1]; simp) (by omega) (by omega) (by rw [← hS1]; simp) (.inr ⟨S.length + 2, 0, rfl, by rw [← hS1]; simp [icells], by omega⟩) ⟨rfl, rfl, rfl, rfl⟩).mono ?_
  rintro e f T ⟨rfl, m, k1, k2, k3⟩
  simp [exM, orc, orcD, evF, evC, evOps, evOper, evAny, evOp, evCall, putR, putA, Fr.ev, Fr.of, Fr.get, Fr.set, stable, junkA, junkL, resultsA, resA, same, Fr.get_set, k1, Post_some]
  exact ⟨k2.keep (fun _ _ _ => rfl) (by omega), hk1.trans (k3.mono (by omega))⟩

/-- A view with another hash at a place. -/
theorem View.set {vs : List (List UInt8)} (h : View vs) {u : List UInt8} (hu : u.length = 32) (i : Nat) : View (vs.set i u) :=
  ⟨by rw [List.length_set]; exact h.n, fun x hx => by
    rcases List.mem_or_eq_of_mem_set hx with h1 | rfl
    · exact h.each x h1
    · exact hu⟩

theorem vc_set {vs : List (List UInt8)} (h : View vs) {u : List UInt8} (hu : u.length = 32) {i : Nat} (hi : i < 16) : splice (vc vs) (i * 32) (bcells u) = vc (vs.set i u) := by
  have hn := h.n
  obtain ⟨h1, _⟩ := flat32_split h.each i (by omega)
  obtain ⟨_, h2⟩ := flat32_split h.each (i + 1) (by omega)
  simp only [splice, vc, h1, bcells_len, hu]
  rw [show i * 32 + 32 = (i + 1) * 32 by omega, h2, List.set_eq_take_append_cons_drop, if_pos (by omega), List.map_append, List.map_cons, List.flatten_append, List.flatten_cons]
  simp

theorem store_view {S : St} {r : Nat} {vs : List (List UInt8)} (h : View vs) (hr : S[r]? = some (.live 0 (vc vs))) {u : List UInt8} (hu : u.length = 32) {i : Nat} (hi : i < 16) :
    storeA 32 (.ptr r 0 (i * 32)) (.agg (bcells u)) S = some (S.set r (.live 0 (vc (vs.set i u)))) := by
  have hl := h.len
  simp only [storeA, cells_agg, hr, vc_set h hu hi]
  rw [if_pos ⟨by trivial, by rw [bcells_len, hu], by omega⟩]

theorem shr_any (m : Int) (j : Nat) : ∃ w, binA .shr (.int .i64 m) (.int .u64 (j : Int)) = some (.int .i64 w) := by
  refine ⟨m.fdiv (2 ^ (min (j : Int).toNat 64)), ?_⟩
  simp only [binA, shiftA]
  rw [if_pos (by simp), if_neg (by omega)]
  rfl
theorem and_any (a b : Int) : ∃ w, binA .and (.int .i64 a) (.int .i64 b) = some (.int .i64 w) := ⟨_, by simp only [binA, intBin]; rw [if_neg (by simp), if_pos trivial]⟩
theorem eql_any (a b : Int) : ∃ w, binA .eql (.int .i64 a) (.int .i64 b) = some (.bool w) := ⟨_, by simp only [binA, intBin]; rw [if_neg (by simp), if_pos trivial]⟩

structure MxF (f : Fr) (mask : Int) (a b q j : Nat) : Prop where
  s2 : f.get 2 = .int .i64 mask
  s3 : f.get 3 = .ptr a 0 0
  s4 : f.get 4 = .ptr b 0 0
  s6 : f.get 6 = .ptr q 0 0
  s7 : f.get 7 = .int .i64 (j : Int)

theorem mixed_loop {O : Orc} {f : Fr} {S : St} {mask : Int} {a b q : Nat} {vs ws : List (List UInt8)} (hv : View vs) (hw : View ws) (hne : a ≠ b) (ha : S[a]? = some (.live 0 (vc vs))) (hb : S[b]? = some (.live 0 (vc ws))) (hf : MxF f mask a b q 0) :
    Post (evC O 1000 l20_mixed_s1 f S) fun e f' T => e = .normal ∧ f'.get 4 = .ptr b 0 0 ∧ f'.get 6 = .ptr q 0 0 ∧ (∃ cs, View cs ∧ T[b]? = some (.live 0 (vc cs))) ∧ Keeps S T [b] := by
  obtain ⟨f', T', h1', h3⟩ := loop_post (O := O) (k := 1000) (id := 0) (b := l20_mixed_l0)
    (I := fun j f T => MxF f mask a b q j ∧ (∃ cs, View cs ∧ T[b]? = some (.live 0 (vc cs))) ∧ Keeps S T [b]) (Q := fun f' T => f'.get 4 = .ptr b 0 0 ∧ f'.get 6 = .ptr q 0 0 ∧ (∃ cs, View cs ∧ T[b]? = some (.live 0 (vc cs))) ∧ Keeps S T [b]) 16 (by omega)
    (by
      rintro j hj f T ⟨⟨s2, s3, s4, s6, s7⟩, ⟨cs, hcs, g2⟩, g3⟩
      have hTa : T[a]? = some (.live 0 (vc vs)) := g3.get ha (by simpa using hne)
      obtain ⟨i1, l1⟩ := ix_view hv hTa (i := (j : Int)) (by omega) (by omega)
      obtain ⟨i2, _⟩ := ix_view hcs g2 (i := (j : Int)) (by omega) (by omega)
      rw [Int.toNat_natCast] at i1 l1 i2
      have hul := hv.get_len hj
      have hst := store_view hcs g2 hul hj
      have hlss : binA .lss (.int .i64 (j : Int)) (.int .i64 16) = some (.bool true) := lss_t (by omega)
      have had : binA .add (.int .i64 (j : Int)) (.int .i64 1) = some (.int .i64 ((j + 1 : Nat) : Int)) := add_is (by omega) (by omega) (by omega)
      have hcv : IntKind.u64.wrap (j : Int) = (j : Int) := wrapU64 (by omega)
      obtain ⟨w1, hw1⟩ := shr_any mask j
      obtain ⟨w2, hw2⟩ := and_any w1 1
      obtain ⟨w3, hw3⟩ := eql_any w2 0
      have hlt := get_lt' g2
      cases w3 with
      | true =>
        suffices hmid : Post (evC O 1000 l20_mixed_l0 f T) (fun e f' T' => e = .normal ∧ T' = T.set b (.live 0 (vc (cs.set j (vs.getD j [])))) ∧ f'.get 2 = .int .i64 mask ∧ f'.get 3 = .ptr a 0 0 ∧ f'.get 4 = .ptr b 0 0 ∧ f'.get 6 = .ptr q 0 0 ∧ f'.get 7 = .int .i64 ((j + 1 : Nat) : Int)) by
          refine hmid.mono ?_
          rintro e f' T' ⟨h1, rfl, k2, k3, k4, k6, k7⟩
          exact ⟨h1, ⟨k2, k3, k4, k6, k7⟩, ⟨_, hcs.set hul j, by rw [List.getElem?_set_self hlt]⟩, g3.trans (Keeps.set ..) (fun q hq => .inl hq)⟩
        generalize T.set b (.live 0 (vc (cs.set j (vs.getD j [])))) = T1 at *
        generalize bcells (vs.getD j []) = E at *
        generalize j * 32 = o at *
        generalize ((j + 1 : Nat) : Int) = z at *
        generalize (j : Int) = jj at *
        simp [l20_mixed_l0, exM, orc, orcD, evF, evC, evOps, evOper, evAny, evOp, evCall, putR, putA, Fr.ev, Fr.of, Fr.get, Fr.set, stable, junkA, junkL, resultsA, resA, same, Fr.get_set, s2, s3, s4, s6, s7, hlss, had, hcv, hw1, hw2, hw3, i1, i2, l1, hst, Post_some]
      | false =>
        suffices hmid : Post (evC O 1000 l20_mixed_l0 f T) (fun e f' T' => e = .normal ∧ T' = T ∧ f'.get 2 = .int .i64 mask ∧ f'.get 3 = .ptr a 0 0 ∧ f'.get 4 = .ptr b 0 0 ∧ f'.get 6 = .ptr q 0 0 ∧ f'.get 7 = .int .i64 ((j + 1 : Nat) : Int)) by
          refine hmid.mono ?_
          rintro e f' T' ⟨h1, rfl, k2, k3, k4, k6, k7⟩
          exact ⟨h1, ⟨k2, k3, k4, k6, k7⟩, ⟨_, hcs, g2⟩, g3⟩
        generalize ((j + 1 : Nat) : Int) = z at *
        generalize (j : Int) = jj at *
        simp [l20_mixed_l0, exM, orc, orcD, evF, evC, evOps, evOper, evAny, evOp, evCall, putR, putA, Fr.ev, Fr.of, Fr.get, Fr.set, stable, junkA, junkL, resultsA, resA, same, Fr.get_set, s2, s3, s4, s6, s7, hlss, had, hcv, hw1, hw2, hw3, Post_some])
    (by
      rintro f T ⟨⟨s2, s3, s4, s6, s7⟩, g2, g3⟩
      have s7' : f.get 7 = .int .i64 16 := s7
      have hlss : binA .lss (.int .i64 16) (.int .i64 16) = some (.bool false) := rfl
      suffices hmid : Post (evC O 1000 l20_mixed_l0 f T) (fun e f' T' => e = .exit 0 ∧ T' = T ∧ f'.get 4 = .ptr b 0 0 ∧ f'.get 6 = .ptr q 0 0) by
        refine hmid.mono ?_
        rintro e f' T' ⟨h1, rfl, k4, k6⟩
        exact ⟨h1, k4, k6, g2, g3⟩
      simp [l20_mixed_l0, exM, orc, orcD, evF, evC, evOps, evOper, evAny, evOp, evCall, putR, putA, Fr.ev, Fr.of, Fr.get, Fr.set, stable, junkA, junkL, resultsA, resA, same, Fr.get_set, s2, s3, s4, s6, s7', hlss, Post_some])
    (f := f) (S := S) ⟨hf, ⟨ws, hw, hb⟩, Keeps.refl S _⟩
  rw [show l20_mixed_s1 = .block 0 (.loop l20_mixed_l0) from rfl, h1']
  exact Post.of rfl ⟨rfl, h3⟩

noncomputable def mMixed : Model := tellM 2 (exM (orc []) l20_mixed 1000)

theorem flat_vc (vs : List (List UInt8)) : ∀ v ∈ vc vs, flat v = true := by
  intro v hv
  simp only [vc, List.mem_flatten, List.mem_map] at hv
  obtain ⟨l, ⟨u, _, rfl⟩, hv⟩ := hv
  exact flat_bcells u v hv

theorem deep_va (T : St) (n k : Nat) (vs : List (List UInt8)) : deep T n (k + 2) (va vs) = some (va vs) := by
  rw [va, deep_agg, flats_deep _ _ _ (flat_vc vs)]; rfl

theorem store512 {S : St} {q : Nat} {z : List AVal} {vs : List (List UInt8)} (h : View vs) (hz : z.length = 512) (hq : S[q]? = some (.live 0 z)) : storeA 512 (.ptr q 0 0) (va vs) S = some (S.set q (.live 0 (vc vs))) := by
  have hl := h.len
  have hsp : splice z 0 (vc vs) = vc vs := by simp [splice, hl, hz]
  simp only [storeA, cells_va, hq, hsp]
  rw [if_pos ⟨by trivial, hl, by omega⟩]

theorem mixed_ok {vs ws : List (List UInt8)} (hv : View vs) (hw : View ws) (mask : Int) (S : St) : ∃ cs, View cs ∧ mMixed [va vs, va ws, .int .i64 mask] S = some (va cs, S) := by
  suffices hs : Post (evC (orc []) 1000 l20_mixed.body (Fr.of [va vs, va ws, .int .i64 mask]) S) (fun e f T => (e = .normal ∨ e = .ret) ∧ ∃ cs, View cs ∧ resultsA f T l20_mixed.results = some (va cs) ∧ Keeps S T []) by
    obtain ⟨e, f, T, g1, g2, cs, g0, g3, g4⟩ := hs.ex
    exact ⟨cs, g0, tellM_keeps (evF_post rfl rfl (Post.of g1 ⟨g2, g3, rfl⟩)) g4 (deep_va ..)⟩
  obtain ⟨Z, hZ⟩ : ∃ Z : List AVal, List.replicate 512 (AVal.int .u8 0) = Z := ⟨_, rfl⟩
  have hZl : Z.length = 512 := by rw [← hZ]; simp
  obtain ⟨S1, hS1⟩ : ∃ S1 : St, S ++ [.live 0 (vc vs), .live 0 (vc ws), .live 0 Z] = S1 := ⟨_, rfl⟩
  have hk1 : Keeps S S1 [] := by rw [← hS1]; exact Keeps.append ..
  have h1z : S1[S.length + 2]? = some (.live 0 Z) := by rw [← hS1]; simp
  simp only [l20_mixed, l20_mixed_t2, Post_seq]
  have hZ' : ([AVal.int .u8 0, AVal.int .u8 0, AVal.int .u8 0, AVal.int .u8 0, AVal.int .u8 0, AVal.int .u8 0, AVal.int .u8 0, AVal.int .u8 0, AVal.int .u8 0, AVal.int .u8 0, AVal.int .u8 0, AVal.int .u8 0, AVal.int .u8 0, AVal.int .u8 0, AVal.int .u8 0, AVal.int .u8 0, AVal.int .u8 0, AVal.int .u8 0, AVal.int .u8 0, AVal.int .u8 0, AVal.int .u8 0, AVal.int .u8 0, AVal.int .u8 0, AVal.int .u8 0, AVal.int .u8 0, AVal.int .u8 0, AVal.int .u8 0, AVal.int .u8 0, AVal.int .u8 0, AVal.int .u8 0, AVal.int .u8 0, AVal.int .u8 0, AVal.int .u8 0, AVal.int .u8 0, AVal.int .u8 0, AVal.int .u8 0, AVal.int .u8 0, AVal.int .u8 0, AVal.int .u8 0, AVal.int .u8 0, AVal.int .u8 0, AVal.int .u8 0, AVal.int .u8 0, AVal.int .u8 0, AVal.int .u8 0, AVal.int .u8 0, AVal.int .u8 0, AVal.int .u8 0, AVal.int .u8 0, AVal.int .u8 0, AVal.int .u8 0, AVal.int .u8 0, AVal.int .u8 0, AVal.int .u8 0, AVal.int .u8 0, AVal.int .u8 0, AVal.int .u8 0, AVal.int .u8 0, AVal.int .u8 0, AVal.int .u8 0, AVal.int .u8 0, AVal.int .u8 0, AVal.int .u8 0, AVal.int .u8 0, AVal.int .u8 0, AVal.int .u8 0, AVal.int .u8 0, AVal.int .u8 0, AVal.int .u8 0, AVal.int .u8 0, AVal.int .u8 0, AVal.int .u8 0, AVal.int .u8 0, AVal.int .u8 0, AVal.int .u8 0, AVal.int .u8 0, AVal.int .u8 0, AVal.int .u8 0, AVal.int .u8 0, AVal.int .u8 0, AVal.int .u8 0, AVal.int .u8 0, AVal.int .u8 0, AVal.int .u8 0, AVal.int .u8 0, AVal.int .u8 0, AVal.int .u8 0, AVal.int .u8 0, AVal.int .u8 0, AVal.int .u8 0, AVal.int .u8 0, AVal.int .u8 0, AVal.int .u8 0, AVal.int .u8 0, AVal.int .u8 0, AVal.int .u8 0, AVal.int .u8 0, AVal.int .u8 0, AVal.int .u8 0, AVal.int .u8 0, AVal.int .u8 0, AVal.int .u8 0, AVal.int .u8 0, AVal.int .u8 0, AVal.int .u8 0, AVal.int .u8 0, AVal.int .u8 0, AVal.int .u8 0, AVal.int .u8 0, AVal.int .u8 0, AVal.int .u8 0, AVal.int .u8 0, AVal.int .u8 0, AVal.int .u8 0, AVal.int .u8 0, AVal.int .u8 0, AVal.int .u8 0, AVal.int .u8 0, AVal.int .u8 0, AVal.int .u8 0, AVal.int .u8 0, AVal.int .u8 0, AVal.int .u8 0, AVal.int .u8 0, AVal.int .u8 0, AVal.int .u8 0, AVal.int .u8 0, AVal.int .u8 0, AVal.int .u8 0, AVal.int .u8 0, AVal.int .u8 0, AVal.int .u8 0, AVal.int .u8 0, AVal.int .u8 0, AVal.int .u8 0, AVal.int .u8 0, AVal.int .u8 0, AVal.int .u8 0, AVal.int .u8 0, AVal.int .u8 0, AVal.int .u8 0, AVal.int .u8 0, AVal.int .u8 0, AVal.int .u8 0, AVal.int .u8 0, AVal.int .u8 0, AVal.int .u8 0, AVal.int .u8 0, AVal.int .u8 0, AVal.int .u8 0, AVal.int .u8 0, AVal.int .u8 0, AVal.int .u8 0, AVal.int .u8 0, AVal.int .u8 0, AVal.int .u8 0, AVal.int .u8 0, AVal.int .u8 0, AVal.int .u8 0, AVal.int .u8 0, AVal.int .u8 0, AVal.int .u8 0, AVal.int .u8 0, AVal.int .u8 0, AVal.int .u8 0, AVal.int .u8 0, AVal.int .u8 0, AVal.int .u8 0, AVal.int .u8 0, AVal.int .u8 0, AVal.int .u8 0, AVal.int .u8 0, AVal.int .u8 0, AVal.int .u8 0, AVal.int .u8 0, AVal.int .u8 0, AVal.int .u8 0, AVal.int .u8 0, AVal.int .u8 0, AVal.int .u8 0, AVal.int .u8 0, AVal.int .u8 0, AVal.int .u8 0, AVal.int .u8 0, AVal.int .u8 0, AVal.int .u8 0, AVal.int .u8 0, AVal.int .u8 0, AVal.int .u8 0, AVal.int .u8 0, AVal.int .u8 0, AVal.int .u8 0, AVal.int .u8 0, AVal.int .u8 0, AVal.int .u8 0, AVal.int .u8 0, AVal.int .u8 0, AVal.int .u8 0, AVal.int .u8 0, AVal.int .u8 0, AVal.int .u8 0, AVal.int .u8 0, AVal.int .u8 0, AVal.int .u8 0, AVal.int .u8 0, AVal.int .u8 0, AVal.int .u8 0, AVal.int .u8 0, AVal.int .u8 0, AVal.int .u8 0, AVal.int .u8 0, AVal.int .u8 0, AVal.int .u8 0, AVal.int .u8 0, AVal.int .u8 0, AVal.int .u8 0, AVal.int .u8 0, AVal.int .u8 0, AVal.int .u8 0, AVal.int .u8 0, AVal.int .u8 0, AVal.int .u8 0, AVal.int .u8 0, AVal.int .u8 0, AVal.int .u8 0, AVal.int .u8 0, AVal.int .u8 0, AVal.int .u8 0, AVal.int .u8 0, AVal.int .u8 0, AVal.int .u8 0, AVal.int .u8 0, AVal.int .u8 0, AVal.int .u8 0, AVal.int .u8 0, AVal.int .u8 0, AVal.int .u8 0, AVal.int .u8 0, AVal.int .u8 0, AVal.int .u8 0, AVal.int .u8 0, AVal.int .u8 0, AVal.int .u8 0, AVal.int .u8 0, AVal.int .u8 0, AVal.int .u8 0, AVal.int .u8 0, AVal.int .u8 0, AVal.int .u8 0, AVal.int .u8 0, AVal.int .u8 0, AVal.int .u8 0, AVal.int .u8 0, AVal.int .u8 0, AVal.int .u8 0, AVal.int .u8 0, AVal.int .u8 0, AVal.int .u8 0, AVal.int .u8 0, AVal.int .u8 0, AVal.int .u8 0, AVal.int .u8 0, AVal.int .u8 0, AVal.int .u8 0, AVal.int .u8 0, AVal.int .u8 0, AVal.int .u8 0, AVal.int .u8 0, AVal.int .u8 0, AVal.int .u8 0, AVal.int .u8 0, AVal.int .u8 0, AVal.int .u8 0, AVal.int .u8 0, AVal.int .u8 0, AVal.int .u8 0, AVal.int .u8 0, AVal.int .u8 0, AVal.int .u8 0, AVal.int .u8 0, AVal.int .u8 0, AVal.int .u8 0, AVal.int .u8 0, AVal.int .u8 0, AVal.int .u8 0, AVal.int .u8 0, AVal.int .u8 0, AVal.int .u8 0, AVal.int .u8 0, AVal.int .u8 0, AVal.int .u8 0, AVal.int .u8 0, AVal.int .u8 0, AVal.int .u8 0, AVal.int .u8 0, AVal.int .u8 0, AVal.int .u8 0, AVal.int .u8 0, AVal.int .u8 0, AVal.int .u8 0, AVal.int .u8 0, AVal.int .u8 0, AVal.int .u8 0, AVal.int .u8 0, AVal.int .u8 0, AVal.int .u8 0, AVal.int .u8 0, AVal.int .u8 0, AVal.int .u8 0, AVal.int .u8 0, AVal.int .u8 0, AVal.int .u8 0, AVal.int .u8 0, AVal.int .u8 0, AVal.int .u8 0, AVal.int .u8 0, AVal.int .u8 0, AVal.int .u8 0, AVal.int .u8 0, AVal.int .u8 0, AVal.int .u8 0, AVal.int .u8 0, AVal.int .u8 0, AVal.int .u8 0, AVal.int .u8 0, AVal.int .u8 0, AVal.int .u8 0, AVal.int .u8 0, AVal.int .u8 0, AVal.int .u8 0, AVal.int .u8 0, AVal.int .u8 0, AVal.int .u8 0, AVal.int .u8 0, AVal.int .u8 0, AVal.int .u8 0, AVal.int .u8 0, AVal.int .u8 0, AVal.int .u8 0, AVal.int .u8 0, AVal.int .u8 0, AVal.int .u8 0, AVal.int .u8 0, AVal.int .u8 0, AVal.int .u8 0, AVal.int .u8 0, AVal.int .u8 0, AVal.int .u8 0, AVal.int .u8 0, AVal.int .u8 0, AVal.int .u8 0, AVal.int .u8 0, AVal.int .u8 0, AVal.int .u8 0, AVal.int .u8 0, AVal.int .u8 0, AVal.int .u8 0, AVal.int .u8 0, AVal.int .u8 0, AVal.int .u8 0, AVal.int .u8 0, AVal.int .u8 0, AVal.int .u8 0, AVal.int .u8 0, AVal.int .u8 0, AVal.int .u8 0, AVal.int .u8 0, AVal.int .u8 0, AVal.int .u8 0, AVal.int .u8 0, AVal.int .u8 0, AVal.int .u8 0, AVal.int .u8 0, AVal.int .u8 0, AVal.int .u8 0, AVal.int .u8 0, AVal.int .u8 0, AVal.int .u8 0, AVal.int .u8 0, AVal.int .u8 0, AVal.int .u8 0, AVal.int .u8 0, AVal.int .u8 0, AVal.int .u8 0, AVal.int .u8 0, AVal.int .u8 0, AVal.int .u8 0, AVal.int .u8 0, AVal.int .u8 0, AVal.int .u8 0, AVal.int .u8 0, AVal.int .u8 0, AVal.int .u8 0, AVal.int .u8 0, AVal.int .u8 0, AVal.int .u8 0, AVal.int .u8 0, AVal.int .u8 0, AVal.int .u8 0, AVal.int .u8 0, AVal.int .u8 0, AVal.int .u8 0, AVal.int .u8 0, AVal.int .u8 0, AVal.int .u8 0, AVal.int .u8 0, AVal.int .u8 0, AVal.int .u8 0, AVal.int .u8 0, AVal.int .u8 0, AVal.int .u8 0, AVal.int .u8 0, AVal.int .u8 0, AVal.int .u8 0, AVal.int .u8 0, AVal.int .u8 0, AVal.int .u8 0, AVal.int .u8 0, AVal.int .u8 0, AVal.int .u8 0, AVal.int .u8 0, AVal.int .u8 0, AVal.int .u8 0, AVal.int .u8 0, AVal.int .u8 0, AVal.int .u8 0, AVal.int .u8 0, AVal.int .u8 0, AVal.int .u8 0, AVal.int .u8 0, AVal.int .u8 0, AVal.int .u8 0, AVal.int .u8 0, AVal.int .u8 0, AVal.int .u8 0, AVal.int .u8 0, AVal.int .u8 0, AVal.int .u8 0, AVal.int .u8 0, AVal.int .u8 0, AVal.int .u8 0, AVal.int .u8 0, AVal.int .u8 0, AVal.int .u8 0, AVal.int .u8 0, AVal.int .u8 0, AVal.int .u8 0, AVal.int .u8 0, AVal.int .u8 0, AVal.int .u8 0, AVal.int .u8 0, AVal.int .u8 0, AVal.int .u8 0, AVal.int .u8 0, AVal.int .u8 0, AVal.int .u8 0, AVal.int .u8 0, AVal.int .u8 0, AVal.int .u8 0, AVal.int .u8 0, AVal.int .u8 0, AVal.int .u8 0, AVal.int .u8 0, AVal.int .u8 0, AVal.int .u8 0, AVal.int .u8 0, AVal.int .u8 0, AVal.int .u8 0, AVal.int .u8 0, AVal.int .u8 0, AVal.int .u8 0, AVal.int .u8 0, AVal.int .u8 0, AVal.int .u8 0, AVal.int .u8 0, AVal.int .u8 0, AVal.int .u8 0, AVal.int .u8 0, AVal.int .u8 0, AVal.int .u8 0, AVal.int .u8 0, AVal.int .u8 0, AVal.int .u8 0, AVal.int .u8 0, AVal.int .u8 0, AVal.int .u8 0, AVal.int .u8 0, AVal.int .u8 0, AVal.int .u8 0, AVal.int .u8 0, AVal.int .u8 0, AVal.int .u8 0, AVal.int .u8 0, AVal.int .u8 0, AVal.int .u8 0, AVal.int .u8 0, AVal.int .u8 0, AVal.int .u8 0, AVal.int .u8 0, AVal.int .u8 0, AVal.int .u8 0, AVal.int .u8 0, AVal.int .u8 0, AVal.int .u8 0, AVal.int .u8 0, AVal.int .u8 0, AVal.int .u8 0, AVal.int .u8 0, AVal.int .u8 0, AVal.int .u8 0, AVal.int .u8 0, AVal.int .u8 0] : List AVal) = Z := hZ
  rw [hZ']
  simp [exM, orc, orcD, evF, evC, evOps, evOper, evAny, evOp, evCall, putR, putA, Fr.ev, Fr.of, Fr.get, Fr.set, stable, junkA, junkL, resultsA, resA, same, cells_va, hS1, Fr.get_set, Post_some]
  refine (mixed_loop (a := S.length) (b := S.length + 1) (q := S.length + 2) (mask := mask) hv hw (by omega) (by rw [← hS1]; simp) (by rw [← hS1]; simp) ⟨rfl, rfl, rfl, rfl, rfl⟩).mono ?_
  rintro e f T ⟨rfl, k4, k6, ⟨cs, hcs, k2⟩, k3⟩
  have hld := load512 hcs k2
  have h2z : T[S.length + 2]? = some (.live 0 Z) := k3.get h1z (by simp)
  have hst := store512 hcs hZl h2z
  have hld2 := load512 (S := T.set (S.length + 2) (.live 0 (vc cs))) (r := S.length + 2) hcs (by rw [List.getElem?_set_self (get_lt' h2z)])
  simp [exM, orc, orcD, evF, evC, evOps, evOper, evAny, evOp, evCall, putR, putA, Fr.ev, Fr.of, Fr.get, Fr.set, stable, junkA, junkL, resultsA, resA, same, Fr.get_set, k4, k6, hld, hst, hld2, Post_some]
  exact ⟨cs, hcs, rfl, (hk1.after k3 (by omega)).after (Keeps.set ..) (by omega)⟩
end Am.Dig
