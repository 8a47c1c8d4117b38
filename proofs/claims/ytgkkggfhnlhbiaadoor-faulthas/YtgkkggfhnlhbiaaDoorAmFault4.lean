/- Faults: the law's helpers, the document's text. -/
import Derived.Test.YtgkkggfhnlhbiaaDoorAmFault3
set_option linter.all false
namespace Am.Fault
open Am Go Am.Ir
set_option maxRecDepth 100000

/-- A slice of texts, as it is handed in. -/
def OpsV (x : AVal) (l : List (List UInt8)) : Prop := (x = .nils ∧ l = []) ∨ x = svA l

theorem OpsV.len {x : AVal} {l : List (List UInt8)} (h : OpsV x l) : lenA .sl x = some (.int .i64 (l.length : Int)) := by
  rcases h with ⟨rfl, rfl⟩ | rfl <;> rfl
theorem OpsV.ix {x : AVal} {l : List (List UInt8)} (h : OpsV x l) {i : Nat} {s : List UInt8} (hi : l[i]? = some s) : iaddrSA 1 x (.int .i64 (i : Int)) = some (.fq [.str s]) := by
  rcases h with ⟨rfl, rfl⟩ | rfl
  · simp at hi
  · exact svA_ix hi

noncomputable def xSmall : Model := exM (orc []) l03_small 100

theorem small_ok {x : AVal} {l : List (List UInt8)} (hx : OpsV x l) (hll : l.length ≤ 9223372036854775807) (root : List UInt8) (hrl : root.length ≤ 9223372036854775807) (S : St) :
    ∃ b, xSmall [.str root, x] S = some (.bool b, S) ∧ (b = true → l.length ≤ 20 ∧ (∀ o ∈ l, o.length ≤ 20) ∧ root.length ≤ 20) := by
  have hlen := hx.len
  have key := iter_post (step := evC (orc []) 100 l03_small_l0) (fuel := 100)
    (I := fun j f T => f.get 0 = .str root ∧ f.get 1 = x ∧ f.get 5 = .int .i64 (j : Int) ∧ T = S ∧ ∀ i, i < j → (l.getD i []).length ≤ 20)
    (Q := fun e f T => T = S ∧ ((e = .ret ∧ f.get 4 = .bool false) ∨ (e = .exit 0 ∧ f.get 0 = .str root ∧ l.length ≤ 20 ∧ ∀ o ∈ l, o.length ≤ 20))) (min l.length 20)
    (fun j hj f T ⟨g0, g1, g5, hT, gi⟩ => by
      subst hT
      have hjl : j < l.length := by omega
      obtain ⟨o, ho⟩ : ∃ o, l[j]? = some o := ⟨_, List.getElem?_eq_getElem hjl⟩
      have hog : l.getD j [] = o := by simp [List.getD, ho]
      have hix := hx.ix ho
      have b1 : binA .lss (.int .i64 (j : Int)) (.int .i64 (l.length : Int)) = some (.bool true) := lss_t (by omega)
      have b2 : binA .eql (.int .i64 (j : Int)) (.int .i64 20) = some (.bool false) := eql_f (by omega)
      have had : binA .add (.int .i64 (j : Int)) (.int .i64 1) = some (.int .i64 ((j + 1 : Nat) : Int)) := add_is (by omega) (by omega) (by omega)
      by_cases hc : 20 < o.length
      · have b3 : binA .gtr (.int .i64 (o.length : Int)) (.int .i64 20) = some (.bool true) := gtr_t (by omega)
        suffices hmid : Post (evC (orc []) 100 l03_small_l0 f T) (fun e f' T' => e = .ret ∧ T' = T ∧ f'.get 4 = .bool false) by
          refine hmid.mono ?_
          rintro e f' T' ⟨rfl, h2, h3⟩
          exact .inr ⟨by simp, h2, .inl ⟨rfl, h3⟩⟩
        have hsl : lenA .str (.str o) = some (.int .i64 (o.length : Int)) := rfl
        generalize (o.length : Int) = ol at *
        generalize (l.length : Int) = ll at *
        generalize ((j + 1 : Nat) : Int) = j1 at *
        generalize (j : Int) = jj at *
        simp [l03_small_l0, exM, orc, orcD, evF, evC, evOps, evOper, evAny, evOp, evCall, putR, putA, Fr.ev, Fr.of, Fr.get, Fr.set, stable, junkA, junkL, resultsA, resA, same, Fr.get_set, g0, g1, g5, hlen, hix, load_fq, hsl, b1, b2, b3, Post_some]
      · have b3 : binA .gtr (.int .i64 (o.length : Int)) (.int .i64 20) = some (.bool false) := gtr_f (by omega)
        suffices hmid : Post (evC (orc []) 100 l03_small_l0 f T) (fun e f' T' => e = .normal ∧ T' = T ∧ f'.get 0 = .str root ∧ f'.get 1 = x ∧ f'.get 5 = .int .i64 ((j + 1 : Nat) : Int)) by
          refine hmid.mono ?_
          rintro e f' T' ⟨h1, h2, h3, h4, h5⟩
          refine .inl ⟨h1, h3, h4, h5, h2, fun i hi => ?_⟩
          rcases Nat.lt_or_ge i j with h | h
          · exact gi i h
          · have : i = j := by omega
            subst this; rw [hog]; omega
        have hsl : lenA .str (.str o) = some (.int .i64 (o.length : Int)) := rfl
        generalize (o.length : Int) = ol at *
        generalize (l.length : Int) = ll at *
        generalize ((j + 1 : Nat) : Int) = j1 at *
        generalize (j : Int) = jj at *
        simp [l03_small_l0, exM, orc, orcD, evF, evC, evOps, evOper, evAny, evOp, evCall, putR, putA, Fr.ev, Fr.of, Fr.get, Fr.set, stable, junkA, junkL, resultsA, resA, same, Fr.get_set, g0, g1, g5, hlen, hix, load_fq, hsl, had, b1, b2, b3, Post_some])
    (fun f T ⟨g0, g1, g5, hT, gi⟩ => by
      subst hT
      by_cases hc : l.length ≤ 20
      · have hmin : min l.length 20 = l.length := by omega
        rw [hmin] at g5 gi
        have b1 : binA .lss (.int .i64 (l.length : Int)) (.int .i64 (l.length : Int)) = some (.bool false) := lss_f (by omega)
        suffices hmid : Post (evC (orc []) 100 l03_small_l0 f T) (fun e f' T' => e = .exit 0 ∧ T' = T ∧ f'.get 0 = .str root) by
          refine hmid.mono ?_
          rintro e f' T' ⟨rfl, h2, h3⟩
          refine ⟨by simp, h2, .inr ⟨rfl, h3, hc, fun o ho => ?_⟩⟩
          obtain ⟨i, hi⟩ := List.getElem?_of_mem ho
          have := gi i (List.getElem?_eq_some_iff.1 hi).1
          simpa [List.getD, hi] using this
        generalize (l.length : Int) = ll at *
        simp [l03_small_l0, exM, orc, orcD, evF, evC, evOps, evOper, evAny, evOp, evCall, putR, putA, Fr.ev, Fr.of, Fr.get, Fr.set, stable, junkA, junkL, resultsA, resA, same, Fr.get_set, g0, g1, g5, hlen, b1, Post_some]
      · have hmin : min l.length 20 = 20 := by omega
        rw [hmin] at g5
        have b1 : binA .lss (.int .i64 20) (.int .i64 (l.length : Int)) = some (.bool true) := lss_t (by omega)
        have b2 : binA .eql (.int .i64 20) (.int .i64 20) = some (.bool true) := rfl
        have g5' : f.get 5 = .int .i64 20 := g5
        suffices hmid : Post (evC (orc []) 100 l03_small_l0 f T) (fun e f' T' => e = .ret ∧ T' = T ∧ f'.get 4 = .bool false) by
          refine hmid.mono ?_
          rintro e f' T' ⟨rfl, h2, h3⟩
          exact ⟨by simp, h2, .inl ⟨rfl, h3⟩⟩
        generalize (l.length : Int) = ll at *
        simp [l03_small_l0, exM, orc, orcD, evF, evC, evOps, evOper, evAny, evOp, evCall, putR, putA, Fr.ev, Fr.of, Fr.get, Fr.set, stable, junkA, junkL, resultsA, resA, same, Fr.get_set, g0, g1, g5', hlen, b1, b2, Post_some])
    (by omega) (f := ((Fr.of [.str root, x]).set 4 (.bool false)).set 5 (.int .i64 0)) (S := S) ⟨rfl, rfl, rfl, rfl, fun i hi => by omega⟩
  obtain ⟨e, f', T', k1, _, rfl, k2⟩ := key
  have hsl : lenA .str (.str root) = some (.int .i64 (root.length : Int)) := rfl
  have k1' : iter (evC (orc []) 100 l03_small_l0) 100 [(0, .str root), (1, x), (4, .bool false), (5, .int .i64 0)] T' = some (e, f', T') := k1
  rcases k2 with ⟨rfl, k3⟩ | ⟨rfl, k3, k4, k5⟩
  · refine ⟨false, ?_, by simp⟩
    unfold xSmall exM
    refine evF_post rfl rfl ?_
    simp only [l03_small, l03_small_t2, Post_seq]
    simp [exM, orc, orcD, evF, evC, evOps, evOper, evAny, evOp, evCall, putR, putA, Fr.ev, Fr.of, Fr.get, Fr.set, stable, junkA, junkL, resultsA, resA, same, Fr.get_set, Post_some]
    rw [show l03_small_s1 = .block 0 (.loop l03_small_l0) from rfl]
    refine Post.block (Post.of (by simpa only [evC, orc] using k1') ?_)
    simp [k3]
  · refine ⟨decide ((root.length : Int) ≤ 20), ?_, fun h => ⟨k4, k5, by have := of_decide_eq_true h; omega⟩⟩
    have b4 : binA .leq (.int .i64 (root.length : Int)) (.int .i64 20) = some (.bool (decide ((root.length : Int) ≤ 20))) := by simp [binA, intBin]
    unfold xSmall exM
    refine evF_post rfl rfl ?_
    simp only [l03_small, l03_small_t2, Post_seq]
    simp [exM, orc, orcD, evF, evC, evOps, evOper, evAny, evOp, evCall, putR, putA, Fr.ev, Fr.of, Fr.get, Fr.set, stable, junkA, junkL, resultsA, resA, same, Fr.get_set, Post_some]
    rw [show l03_small_s1 = .block 0 (.loop l03_small_l0) from rfl]
    refine Post.block (Post.of (by simpa only [evC, orc] using k1') ?_)
    generalize (root.length : Int) = rl at *
    generalize decide (rl ≤ 20) = d at *
    simp [exM, orc, orcD, evF, evC, evOps, evOper, evAny, evOp, evCall, putR, putA, Fr.ev, Fr.of, Fr.get, Fr.set, stable, junkA, junkL, resultsA, resA, same, Fr.get_set, k3, hsl, b4, Post_some]

noncomputable def xMade : Model := exM (orc [mOf, mWrap]) l03_made 100

/-- What 'made' makes of so many operations. -/
def madeL (root : List UInt8) (ops : List (List UInt8)) (j : Nat) : List (List UInt8) := (ops.take j).reverse ++ [root]

theorem madeL_succ (root : List UInt8) {ops : List (List UInt8)} {j : Nat} {o : List UInt8} (h : ops[j]? = some o) : madeL root ops (j + 1) = o :: madeL root ops j := by
  simp only [madeL]
  rw [List.take_add_one, h]; simp

theorem made_ok {x : AVal} {l : List (List UInt8)} (hx : OpsV x l) (hll : l.length ≤ 20) (root : List UInt8) (c : Int) (S : St) :
    xMade [.str root, x, .int .i64 c] S = some (if c = 0 then .nilp else fV (madeL root l l.length) c, S) := by
  have hlen := hx.len
  obtain ⟨f', T', k1, k2, k3⟩ := loop_post (O := orc [mOf, mWrap]) (k := 100) (id := 0) (b := l03_made_l0)
    (I := fun j f T => f.get 1 = x ∧ f.get 8 = .int .i64 (j : Int) ∧ f.get 7 = (if c = 0 then .nilp else fV (madeL root l j) c) ∧ T = S)
    (Q := fun f T => f.get 7 = (if c = 0 then .nilp else fV (madeL root l l.length) c) ∧ T = S) l.length (by omega)
    (by
      rintro j hj f T ⟨g1, g8, g7, hT⟩
      subst hT
      obtain ⟨o, ho⟩ : ∃ o, l[j]? = some o := ⟨_, List.getElem?_eq_getElem hj⟩
      have hix := hx.ix ho
      have b1 : binA .lss (.int .i64 (j : Int)) (.int .i64 (l.length : Int)) = some (.bool true) := lss_t (by omega)
      have had : binA .add (.int .i64 (j : Int)) (.int .i64 1) = some (.int .i64 ((j + 1 : Nat) : Int)) := add_is (by omega) (by omega) (by omega)
      have hw : mWrap [.str o, (if c = 0 then .nilp else fV (madeL root l j) c)] T = some ((if c = 0 then .nilp else fV (madeL root l (j + 1)) c), T) := by
        split
        · exact wrap_nil o T
        · rw [madeL_succ root ho]
          obtain ⟨a, r, hr⟩ : ∃ a r, madeL root l j = a :: r := by
            cases h : madeL root l j with
            | nil => simp [madeL] at h
            | cons a r => exact ⟨a, r, rfl⟩
          rw [hr]
          refine wrap_ok o a r c ?_ T
          have := congrArg List.length hr
          simp [madeL] at this; omega
      suffices hmid : Post (evC (orc [mOf, mWrap]) 100 l03_made_l0 f T) (fun e f' T' => e = .normal ∧ T' = T ∧ f'.get 1 = x ∧ f'.get 8 = .int .i64 ((j + 1 : Nat) : Int) ∧ f'.get 7 = (if c = 0 then .nilp else fV (madeL root l (j + 1)) c)) by
        refine hmid.mono ?_
        rintro e f' T' ⟨h1, h2, h3, h4, h5⟩
        exact ⟨h1, h3, h4, h5, h2⟩
      generalize (if c = 0 then AVal.nilp else fV (madeL root l (j + 1)) c) = G2 at *
      generalize (if c = 0 then AVal.nilp else fV (madeL root l j) c) = G1 at *
      generalize (l.length : Int) = ll at *
      generalize ((j + 1 : Nat) : Int) = j1 at *
      generalize (j : Int) = jj at *
      simp [l03_made_l0, exM, orc, orcD, evF, evC, evOps, evOper, evAny, evOp, evCall, putR, putA, Fr.ev, Fr.of, Fr.get, Fr.set, stable, junkA, junkL, resultsA, resA, same, Fr.get_set, g1, g8, g7, hlen, hix, load_fq, had, b1, hw, Post_some])
    (by
      rintro f T ⟨g1, g8, g7, hT⟩
      subst hT
      have b1 : binA .lss (.int .i64 (l.length : Int)) (.int .i64 (l.length : Int)) = some (.bool false) := lss_f (by omega)
      generalize (if c = 0 then AVal.nilp else fV (madeL root l l.length) c) = G2 at *
      generalize (l.length : Int) = ll at *
      simp [l03_made_l0, exM, orc, orcD, evF, evC, evOps, evOper, evAny, evOp, evCall, putR, putA, Fr.ev, Fr.of, Fr.get, Fr.set, stable, junkA, junkL, resultsA, resA, same, Fr.get_set, g1, g8, g7, hlen, b1, Post_some])
    (f := [(0, .str root), (1, x), (2, .int .i64 c), (6, .nilp), (9, .str root), (10, .int .i64 c), (11, ofS root c), (7, ofS root c), (8, .int .i64 0)]) (S := S)
    ⟨rfl, rfl, by simp [Fr.get, madeL, ofS], rfl⟩
  have ho := of_ok root c S
  unfold xMade exM
  refine evF_post rfl rfl ?_
  simp only [l03_made, l03_made_t2, Post_seq]
  generalize ofS root c = O1 at *
  generalize (if c = 0 then AVal.nilp else fV (madeL root l l.length) c) = G2 at *
  simp [exM, orc, orcD, evF, evC, evOps, evOper, evAny, evOp, evCall, putR, putA, Fr.ev, Fr.of, Fr.get, Fr.set, stable, junkA, junkL, resultsA, resA, same, ho, Post_some]
  rw [show l03_made_s1 = .block 0 (.loop l03_made_l0) from rfl]
  have k1' : evC { loc := [mOf, mWrap], dyn := fun _ _ _ => none } 100 (.block 0 (.loop l03_made_l0)) [(0, .str root), (1, x), (2, .int .i64 c), (6, .nilp), (9, .str root), (10, .int .i64 c), (11, O1), (7, O1), (8, .int .i64 0)] S = some (.normal, f', T') := k1
  rw [k1', Post_some]
  simp [exM, orc, orcD, evF, evC, evOps, evOper, evAny, evOp, evCall, putR, putA, Fr.ev, Fr.of, Fr.get, Fr.set, stable, junkA, junkL, resultsA, resA, same, Fr.get_set, k2, k3, Post_some]

/-- Texts that can be read here. -/
structure StrsI (S : St) (x : AVal) (l : List (List UInt8)) : Prop where
  len : lenA .sl x = some (.int .i64 (l.length : Int))
  at' : ∀ (i : Nat) s, l[i]? = some s → ∃ p, iaddrSA 1 x (.int .i64 (i : Int)) = some p ∧ loadA none p S = some (.str s)

noncomputable def xText2 : Model := exM (orc [mName2]) r03_Text 1000

theorem text2_ok {x : AVal} {S : St} {l : List (List UInt8)} (hx : StrsI S x l) (hs : Small l) (hne : l ≠ []) (c : Int) (hc : c ≠ 0) : xText2 [x, .int .i64 c] S = some (.str (textS l c), S) := by
  have hlen := hx.len
  have hsn := hs.n
  have hpos : 0 < l.length := List.length_pos_iff.2 hne
  obtain ⟨f', T', k1, k2, k3, k4⟩ := loop_post (O := orc [mName2]) (k := 1000) (id := 0) (b := r03_Text_l0)
    (I := fun j f T => f.get 0 = x ∧ f.get 1 = .int .i64 c ∧ f.get 6 = .int .i64 (j : Int) ∧ f.get 5 = .str ((l.take j).foldl textP []) ∧ T = S)
    (Q := fun f T => f.get 1 = .int .i64 c ∧ f.get 5 = .str (l.foldl textP []) ∧ T = S) l.length (by omega)
    (by
      rintro j hj f T ⟨g0, g1, g6, g5, hT⟩
      subst hT
      obtain ⟨o, ho⟩ : ∃ o, l[j]? = some o := ⟨_, List.getElem?_eq_getElem hj⟩
      obtain ⟨p, hp, hl⟩ := hx.at' j o ho
      have b1 : binA .lss (.int .i64 (j : Int)) (.int .i64 (l.length : Int)) = some (.bool true) := lss_t (by omega)
      have had : binA .add (.int .i64 (j : Int)) (.int .i64 1) = some (.int .i64 ((j + 1 : Nat) : Int)) := add_is (by omega) (by omega) (by omega)
      have h1 := text_len (l.take j) [] (fun o ho => hs.each o (List.mem_of_mem_take ho))
      have h2 := hs.each o (List.mem_of_getElem? ho)
      simp at h1
      have h3 : min j l.length * 32 ≤ l.length * 32 := Nat.mul_le_mul_right _ (Nat.min_le_right _ _)
      have e : (l.take (j + 1)).foldl textP [] = (l.take j).foldl textP [] ++ o ++ [58, 32] := by
        rw [foldl_take_succ textP [] ho, textP, List.append_assoc]; rfl
      rw [e]
      have b2 : binA .add (.str ((l.take j).foldl textP [])) (.str o) = some (.str ((l.take j).foldl textP [] ++ o)) := by simp [binA, strBin]; omega
      have b3 : binA .add (.str ((l.take j).foldl textP [] ++ o)) (.str [58, 32]) = some (.str ((l.take j).foldl textP [] ++ o ++ [58, 32])) := by simp [binA, strBin]; omega
      suffices hmid : Post (evC (orc [mName2]) 1000 r03_Text_l0 f T) (fun e f' T' => e = .normal ∧ T' = T ∧ f'.get 0 = x ∧ f'.get 1 = .int .i64 c ∧ f'.get 6 = .int .i64 ((j + 1 : Nat) : Int) ∧ f'.get 5 = .str ((l.take j).foldl textP [] ++ o ++ [58, 32])) by
        refine hmid.mono ?_
        rintro e f' T' ⟨h1, h2, h3, h4, h5, h6⟩
        exact ⟨h1, h3, h4, h5, h6, h2⟩
      generalize (l.take j).foldl textP [] ++ o ++ [58, 32] = z3 at *
      generalize (l.take j).foldl textP [] ++ o = z2 at *
      generalize (l.take j).foldl textP [] = z1 at *
      generalize (l.length : Int) = ll at *
      generalize ((j + 1 : Nat) : Int) = j1 at *
      generalize (j : Int) = jj at *
      simp [r03_Text_l0, exM, orc, orcD, evF, evC, evOps, evOper, evAny, evOp, evCall, putR, putA, Fr.ev, Fr.of, Fr.get, Fr.set, stable, junkA, junkL, resultsA, resA, same, Fr.get_set, g0, g1, g6, g5, hlen, hp, hl, had, b1, b2, b3, Post_some])
    (by
      rintro f T ⟨g0, g1, g6, g5, hT⟩
      subst hT
      rw [List.take_length] at g5
      have b1 : binA .lss (.int .i64 (l.length : Int)) (.int .i64 (l.length : Int)) = some (.bool false) := lss_f (by omega)
      generalize l.foldl textP [] = z1 at *
      generalize (l.length : Int) = ll at *
      simp [r03_Text_l0, exM, orc, orcD, evF, evC, evOps, evOper, evAny, evOp, evCall, putR, putA, Fr.ev, Fr.of, Fr.get, Fr.set, stable, junkA, junkL, resultsA, resA, same, Fr.get_set, g0, g1, g6, g5, hlen, b1, Post_some])
    (f := (((((((((Fr.of [x, .int .i64 c]).set 4 (.str [])).set 7 x).set 8 (.int .i64 (l.length : Int))).set 9 (.bool false)).set 10 (.bool false)).set 11 (.int .i64 c)).set 12 (.bool false)).set 13 (.bool false)).set 5 (.str []) |>.set 6 (.int .i64 0)) (S := S)
    ⟨rfl, rfl, rfl, rfl, rfl⟩
  have hn := name2_ok c S
  have hnl := nameS_len c
  have htl := text_len l [] hs.each
  have b4 : binA .add (.str (l.foldl textP [])) (.str (nameS c)) = some (.str (textS l c)) := by simp [binA, strBin, textS]; simp at htl; omega
  have b5 : binA .eql (.int .i64 (l.length : Int)) (.int .i64 0) = some (.bool false) := eql_f (by omega)
  have b6 : binA .eql (.int .i64 c) (.int .i64 0) = some (.bool false) := eql_f hc
  unfold xText2 exM
  refine evF_post rfl rfl ?_
  simp only [r03_Text, r03_Text_t2, Post_seq]
  generalize textS l c = G at *
  generalize l.foldl textP [] = z1 at *
  generalize nameS c = N at *
  generalize (l.length : Int) = ll at *
  simp [exM, orc, orcD, evF, evC, evOps, evOper, evAny, evOp, evCall, putR, putA, Fr.ev, Fr.of, Fr.get, Fr.set, stable, junkA, junkL, resultsA, resA, same, hlen, b5, b6, Post_some]
  rw [show r03_Text_s1 = .block 0 (.loop r03_Text_l0) from rfl]
  have k1' : evC { loc := [mName2], dyn := fun _ _ _ => none } 1000 (.block 0 (.loop r03_Text_l0)) [(0, x), (1, .int .i64 c), (4, .str []), (7, x), (8, .int .i64 ll), (9, .bool false), (10, .bool false), (11, .int .i64 c), (12, .bool false), (13, .bool false), (5, .str []), (6, .int .i64 0)] S = some (.normal, f', T') := k1
  rw [k1', Post_some]
  simp [exM, orc, orcD, evF, evC, evOps, evOper, evAny, evOp, evCall, putR, putA, Fr.ev, Fr.of, Fr.get, Fr.set, stable, junkA, junkL, resultsA, resA, same, Fr.get_set, k2, k3, k4, hn, b4, Post_some]

noncomputable def mAlive : Model := pureM 1 (exM (orc [mOf, mWrap, mText, mCode]) l03_alive 10)

theorem alive_ok (S : St) : mAlive [] S = some (.bool true, S) := by
  have h1 := of_ok [114, 101, 97, 100] 9 []
  rw [ofS, if_neg (by decide)] at h1
  have h2 := wrap_ok [115, 99, 114, 117, 98] [114, 101, 97, 100] [] 9 (by simp) []
  have h3 := text_ok (ops := [[115, 99, 114, 117, 98], [114, 101, 97, 100]]) ⟨by simp, by simp⟩ 9 (by simp) []
  have h4 := code_ok' [115, 99, 114, 117, 98] [[114, 101, 97, 100]] 9 []
  have h5 := of_ok [120] 0 []
  rw [ofS, if_pos rfl] at h5
  have ht : textS [[115, 99, 114, 117, 98], [114, 101, 97, 100]] 9 = [115, 99, 114, 117, 98, 58, 32, 114, 101, 97, 100, 58, 32, 100, 97, 109, 97, 103, 101, 100] := by rfl
  rw [ht] at h3
  have b1 : ∀ s : List UInt8, binA .eql (.str s) (.str s) = some (.bool true) := fun s => by simp [binA, strBin]
  have b2 : binA .eql (.int .i64 9) (.int .i64 9) = some (.bool true) := rfl
  have hq : eq2 .ptr .nilp .nilp = some true := rfl
  refine pureM_run (T := []) (v := .bool true) rfl ?_ rfl
  generalize fV [[115, 99, 114, 117, 98], [114, 101, 97, 100]] 9 = F2 at *
  generalize fV [[114, 101, 97, 100]] 9 = F1 at *
  simp [exM, l03_alive, exM, orc, orcD, evF, evC, evOps, evOper, evAny, evOp, evCall, putR, putA, Fr.ev, Fr.of, Fr.get, Fr.set, stable, junkA, junkL, resultsA, resA, same, h1, h2, h3, h4, h5, b1, b2, hq]
end Am.Fault
