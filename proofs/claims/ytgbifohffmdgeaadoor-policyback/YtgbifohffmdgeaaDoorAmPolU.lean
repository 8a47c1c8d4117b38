import Derived.Test.YtgbifohffmdgeaaDoorAmPolO
set_option linter.all false
/- The stable sort: symMerge where one of the runs is one element. -/
section
namespace Am.Pol
open Am Go Am.Ir
set_option maxRecDepth 100000
attribute [local congr] Post_cg
attribute [local simp] ox oz kx kz og ogz kg kgz mo ai

theorem sym_left {O : Orc} {k : Nat} {bx : AVal} {P : St → Prop} {r v n a m b e : Nat} {L : Nat → Nat} {p y q : List Nat} (hC : Cm O.dyn k bx P r n fun y z => decide (L z < L y))
    (ha : a = p.length) (hm : m = a + 1) (hb : b = m + y.length) (hd : (p ++ e :: (y ++ q)).length = n) (hlt : Lt (p ++ e :: (y ++ q)) n) (hn : n < 900) {S : St} (hP : P S) (hS : PL S r v (p ++ e :: (y ++ q)))
    (hy : SB L y) (hbf : Bef L [e] y) {R : St → Prop} (hR : ∀ T z, PL T r v (p ++ (z ++ q)) → Off S T r → z.Perm (e :: y) → SB L z → R T) :
    ∃ T, evF O 1000 slices_symMergeCmpFunc [.sl r v 0 n 1, .int .i64 (a : Int), .int .i64 (m : Int), .int .i64 (b : Int), .fn (.func k) [] [bx]] S = some (.tup [], T) ∧ R T := by
  refine evF_postX (F := slices_symMergeCmpFunc) (R := R) rfl rfl ?_
  have c1 : binA .sub (.int .i64 (m : Int)) (.int .i64 (a : Int)) = some (.int .i64 1) := sub_is (by omega) (by omega) (by omega)
  have c2 : binA .eql (.int .i64 1) (.int .i64 1) = some (.bool true) := eql_t rfl
  have hlen : p.length + (1 + (y.length + q.length)) = n := by simp at hd; omega
  simp only [slices_symMergeCmpFunc, slices_symMergeCmpFunc_t18, slices_symMergeCmpFunc_c6, slices_symMergeCmpFunc_t5, slices_symMergeCmpFunc_t4]
  simp [exM, orc, orcD, evF, evC_skip, evC_region, evC_cond, evC_exit, evC_ret, evOps, evOper, evAny, evOp, evCall, putR, putA, Fr.ev, Fr.of, Fr.get, Fr.set, stable, junkA, junkL, resultsA, resA, same, Post_seq, Post_block, Post_some, c1, c2]
  refine Post.mono (Post.ran (seek0 (lo := m) (hi := b) (a := a) (m := m) (b := b) hC hd hlt hn (by omega) (by omega) (by omega) hP hS ?_ ?_ ?_)) ?_
  · exact ⟨by simp [Fr.get], by simp [Fr.get], by simp [Fr.get], by simp [Fr.get], by simp [Fr.get]⟩
  · exact (by simp [Fr.get])
  · exact (by simp [Fr.get])
  rintro _ f T ⟨rfl, rfl, hf, i, hi, h10⟩
  obtain ⟨hi1, hi2, hi3, hi4⟩ := hi
  have he : (p ++ e :: (y ++ q)).getD a 0 = e := by rw [ha]; exact getD_at ..
  have hg : ∀ j, j < y.length → (p ++ e :: (y ++ q)).getD (m + j) 0 = y.getD j 0 := by
    intro j hj
    have := getD_mid (p := p ++ [e]) (q := q) hj
    rw [← this, hm, ha]; simp
  obtain ⟨s0, s1, s2, s3, s4⟩ := hf
  simp [exM, orc, orcD, evF, evC_skip, evC_region, evC_cond, evC_exit, evC_ret, evOps, evOper, evAny, evOp, evCall, putR, putA, Fr.ev, Fr.of, Fr.get, Fr.set, stable, junkA, junkL, resultsA, resA, same, Post_seq, Post_block, Post_some, Fr.get_set, s0, s1, s2, s3, s4]
  subst ha
  refine Post.mono (Post.ran (move0 (y := y) (m := m) (b := b) (i := i) (k := k) (bx := bx) hd hn (by omega) (by omega) hS ?_ ?_ ?_)) ?_
  · exact ⟨by simp [Fr.get_set, s0], by simp [Fr.get_set, s1], by simp [Fr.get_set, s2], by simp [Fr.get_set, s3], by simp [Fr.get_set, s4]⟩
  · exact (by simp [Fr.get_set, h10])
  · exact (by simp [Fr.get_set])
  rintro _ f' U ⟨rfl, hU, hO⟩
  simp [exM, orc, orcD, evF, evC_skip, evC_region, evC_cond, evC_exit, evC_ret, evOps, evOper, evAny, evOp, evCall, putR, putA, Fr.ev, Fr.of, Fr.get, Fr.set, stable, junkA, junkL, resultsA, resA, same, Post_seq, Post_block, Post_some, resultsA]
  have ht : i - 1 - p.length = i - m := by omega
  rw [ht] at hU
  refine hR U (y.take (i - m) ++ e :: y.drop (i - m)) (by simpa using hU) hO ?_ ?_
  · have := @List.perm_middle Nat e (y.take (i - m)) (y.drop (i - m))
    rwa [List.take_append_drop] at this
  · rw [← List.take_append_drop (i - m) y] at hy hbf
    refine hy.left hbf ?_ ?_
    · intro y0 z hz
      obtain ⟨h1, h2⟩ := last_take (by omega) hz
      rcases hi3 with h3 | h3
      · omega
      · have := hg (i - m - 1) (by omega)
        rw [show m + (i - m - 1) = i - 1 by omega, h2] at this
        simp only [this, he] at h3
        simpa using h3
    · intro z y0 hz
      have h2 := head_drop hz
      have h5 : i - m < y.length := by
        have := congrArg List.length hz; simp at this; omega
      rcases hi4 with h3 | h3
      · omega
      · have := hg (i - m) h5
        rw [show m + (i - m) = i by omega, h2] at this
        simp only [this, he] at h3
        simpa using h3

theorem sym_right {O : Orc} {k : Nat} {bx : AVal} {P : St → Prop} {r v n a m b e : Nat} {L : Nat → Nat} {p x q : List Nat} (hC : Cm O.dyn k bx P r n fun y z => decide (L z < L y))
    (ha : a = p.length) (hm : m = a + x.length) (hb : b = m + 1) (h1 : x.length ≠ 1) (hd : (p ++ (x ++ e :: q)).length = n) (hlt : Lt (p ++ (x ++ e :: q)) n) (hn : n < 900) {S : St} (hP : P S) (hS : PL S r v (p ++ (x ++ e :: q)))
    (hx : SB L x) (hbf : Bef L x [e]) {R : St → Prop} (hR : ∀ T z, PL T r v (p ++ (z ++ q)) → Off S T r → z.Perm (x ++ [e]) → SB L z → R T) :
    ∃ T, evF O 1000 slices_symMergeCmpFunc [.sl r v 0 n 1, .int .i64 (a : Int), .int .i64 (m : Int), .int .i64 (b : Int), .fn (.func k) [] [bx]] S = some (.tup [], T) ∧ R T := by
  refine evF_postX (F := slices_symMergeCmpFunc) (R := R) rfl rfl ?_
  have hlen : p.length + (x.length + (1 + q.length)) = n := by simp at hd; omega
  have c1 : binA .sub (.int .i64 (m : Int)) (.int .i64 (a : Int)) = some (.int .i64 ((x.length : Nat) : Int)) := sub_is (by omega) (by omega) (by omega)
  have c2 : binA .eql (.int .i64 ((x.length : Nat) : Int)) (.int .i64 1) = some (.bool false) := eql_f (by omega)
  have c3 : binA .sub (.int .i64 (b : Int)) (.int .i64 (m : Int)) = some (.int .i64 1) := sub_is (by omega) (by omega) (by omega)
  have c4 : binA .eql (.int .i64 1) (.int .i64 1) = some (.bool true) := eql_t rfl
  simp only [slices_symMergeCmpFunc, slices_symMergeCmpFunc_t18, slices_symMergeCmpFunc_t17, slices_symMergeCmpFunc_c13, slices_symMergeCmpFunc_t12, slices_symMergeCmpFunc_t11]
  simp [exM, orc, orcD, evF, evC_skip, evC_region, evC_cond, evC_exit, evC_ret, evOps, evOper, evAny, evOp, evCall, putR, putA, Fr.ev, Fr.of, Fr.get, Fr.set, stable, junkA, junkL, resultsA, resA, same, Post_seq, Post_block, Post_some, c1, c2, c3, c4]
  refine Post.mono (Post.ran (seek1 (lo := a) (hi := m) (a := a) (m := m) (b := b) hC hd hlt hn (by omega) (by omega) (by omega) hP hS ?_ ?_ ?_)) ?_
  · exact ⟨by simp [Fr.get], by simp [Fr.get], by simp [Fr.get], by simp [Fr.get], by simp [Fr.get]⟩
  · exact (by simp [Fr.get])
  · exact (by simp [Fr.get])
  rintro _ f T ⟨rfl, rfl, hf, i, hi, h14⟩
  obtain ⟨hi1, hi2, hi3, hi4⟩ := hi
  have he : (p ++ (x ++ e :: q)).getD m 0 = e := by
    have := getD_at (p ++ x) q e
    rw [hm, ha]; simpa using this
  have hg : ∀ j, j < x.length → (p ++ (x ++ e :: q)).getD (a + j) 0 = x.getD j 0 := by
    intro j hj
    rw [ha]; exact getD_mid hj
  obtain ⟨s0, s1, s2, s3, s4⟩ := hf
  simp [exM, orc, orcD, evF, evC_skip, evC_region, evC_cond, evC_exit, evC_ret, evOps, evOper, evAny, evOp, evCall, putR, putA, Fr.ev, Fr.of, Fr.get, Fr.set, stable, junkA, junkL, resultsA, resA, same, Post_seq, Post_block, Post_some, Fr.get_set, s0, s1, s2, s3, s4]
  subst ha; subst hm
  refine Post.mono (Post.ran (move1 (x := x) (a := p.length) (b := b) (i := i) (k := k) (bx := bx) hd hn (by omega) (by omega) hS ?_ ?_ ?_)) ?_
  · exact ⟨by simp [Fr.get_set, s0], by simp [Fr.get_set, s1], by simp [Fr.get_set, s2], by simp [Fr.get_set, s3], by simp [Fr.get_set, s4]⟩
  · exact (by simp [Fr.get_set, h14])
  · exact (by simp [Fr.get_set])
  rintro _ f' U ⟨rfl, hU, hO⟩
  simp [exM, orc, orcD, evF, evC_skip, evC_region, evC_cond, evC_exit, evC_ret, evOps, evOper, evAny, evOp, evCall, putR, putA, Fr.ev, Fr.of, Fr.get, Fr.set, stable, junkA, junkL, resultsA, resA, same, Post_seq, Post_block, Post_some, resultsA]
  refine hR U (x.take (i - p.length) ++ e :: x.drop (i - p.length)) (by simpa using hU) hO ?_ ?_
  · have := @List.perm_middle Nat e (x.take (i - p.length)) (x.drop (i - p.length))
    rw [List.take_append_drop] at this
    exact this.trans (List.perm_append_singleton e x).symm
  · rw [← List.take_append_drop (i - p.length) x] at hx hbf
    refine hx.right hbf ?_ ?_
    · intro y0 z hz
      obtain ⟨h1, h2⟩ := last_take (by omega) hz
      rcases hi3 with h3 | h3
      · omega
      · have := hg (i - p.length - 1) (by omega)
        rw [show p.length + (i - p.length - 1) = i - 1 by omega, h2] at this
        simp only [this, he] at h3
        simpa using h3
    · intro z y0 hz
      have h2 := head_drop hz
      have h5 : i - p.length < x.length := by
        have := congrArg List.length hz; simp at this; omega
      rcases hi4 with h3 | h3
      · omega
      · have := hg (i - p.length) h5
        rw [show p.length + (i - p.length) = i by omega, h2] at this
        simp only [this, he] at h3
        simpa using h3
end Am.Pol
end

/- The stable sort: symMerge's parts where both runs are longer. -/
section
namespace Am.Pol
open Am Go Am.Ir
set_option maxRecDepth 100000
attribute [local congr] Post_cg
attribute [local simp] ox oz kx kz og ogz kg kgz mo ai

def symE : ACode := .region none [mo 175 19, mo 176 20, ox 177 (.bin .sub (.t 175) (.t 176)), mo 24 177]
def symR : ACode := .seq (.region none [mo 178 20, mo 179 2, ox 180 (.bin .lss (.t 178) (.t 179)),
    mo 181 180, og 181 true 182 (.mv (.t 2)), og 181 true 183 (.mv (.t 24)),
    og 181 true 184 (.bin .lss (.t 182) (.t 183)), ox 185 (.pick (.t 181) (.t 184) (.c (.bool false)))])
    (.cond (.t 185) (.region none [mo 186 0, mo 187 20, mo 188 2,
    mo 189 24, mo 190 4, kx 191 (.k 0 [.t 186, .t 187, .t 188, .t 189, .t 190])])
    .skip)
def symA : ACode := .seq (.region none [mo 192 1, mo 193 20,
    ox 194 (.bin .lss (.t 192) (.t 193)), mo 195 194, og 195 true 196 (.mv (.t 20)),
    og 195 true 197 (.mv (.t 18)), og 195 true 198 (.bin .lss (.t 196) (.t 197)),
    ox 199 (.pick (.t 195) (.t 198) (.c (.bool false)))]) (.cond (.t 199) (.region none [mo 200 0,
    mo 201 1, mo 202 20, mo 203 18,
    mo 204 4, kx 205 (.k 1 [.t 200, .t 201, .t 202, .t 203, .t 204])])
    .skip)
def symB : ACode := .seq (.region none [mo 206 18, mo 207 24, ox 208 (.bin .lss (.t 206) (.t 207)),
    mo 209 208, og 209 true 210 (.mv (.t 24)), og 209 true 211 (.mv (.t 3)),
    og 209 true 212 (.bin .lss (.t 210) (.t 211)), ox 213 (.pick (.t 209) (.t 212) (.c (.bool false)))])
    (.cond (.t 213) (.region none [mo 214 0, mo 215 18, mo 216 24,
    mo 217 3, mo 218 4, kx 219 (.k 1 [.t 214, .t 215, .t 216, .t 217, .t 218])])
    .skip)
theorem sym_t16 : slices_symMergeCmpFunc_t16 = .seq slices_symMergeCmpFunc_s15 (.seq symE (.seq symR (.seq symA symB))) := rfl

structure MidF (f : Fr) (r v n a m b : Nat) (k : Nat) (bx : AVal) (md st en : Nat) : Prop where
  s0 : f.get 0 = .sl r v 0 n 1
  s1 : f.get 1 = .int .i64 (a : Int)
  s2 : f.get 2 = .int .i64 (m : Int)
  s3 : f.get 3 = .int .i64 (b : Int)
  s4 : f.get 4 = .fn (.func k) [] [bx]
  s18 : f.get 18 = .int .i64 (md : Int)
  s20 : f.get 20 = .int .i64 (st : Int)
  s24 : f.get 24 = .int .i64 (en : Int)

theorem symR_ok {O : Orc} {g : Model} (h0 : O.loc[0]? = some g) {f : Fr} {S T : St} {r v n a m b k : Nat} {bx : AVal} {md st en : Nat} (hf : MidF f r v n a m b k bx md st en)
    (hT : if st < m ∧ m < en then g [.sl r v 0 n 1, .int .i64 (st : Int), .int .i64 (m : Int), .int .i64 (en : Int), .fn (.func k) [] [bx]] S = some (.tup [], T) else T = S) :
    Post (evC O 1000 symR f S) fun e f' U => e = .normal ∧ U = T ∧ MidF f' r v n a m b k bx md st en := by
  obtain ⟨s0, s1, s2, s3, s4, s18, s20, s24⟩ := hf
  suffices hmid : Post (evC O 1000 symR f S) (fun e f' U => e = .normal ∧ U = T ∧ f'.get 0 = .sl r v 0 n 1 ∧ f'.get 1 = .int .i64 (a : Int) ∧ f'.get 2 = .int .i64 (m : Int) ∧ f'.get 3 = .int .i64 (b : Int) ∧ f'.get 4 = .fn (.func k) [] [bx] ∧ f'.get 18 = .int .i64 (md : Int) ∧ f'.get 20 = .int .i64 (st : Int) ∧ f'.get 24 = .int .i64 (en : Int)) by
    refine hmid.mono ?_
    rintro e f' U ⟨k1, k2, k3, k4, k5, k6, k7, k8, k9, k10⟩
    exact ⟨k1, k2, k3, k4, k5, k6, k7, k8, k9, k10⟩
  by_cases h1 : st < m
  rotate_left
  · have c1 : binA .lss (.int .i64 (st : Int)) (.int .i64 (m : Int)) = some (.bool false) := lss_f (by omega)
    rw [if_neg (fun h => h1 h.1)] at hT; subst hT
    simp [symR, exM, orc, orcD, evF, evC_skip, evC_region, evC_cond, evC_exit, evC_ret, evOps, evOper, evAny, evOp, evCall, putR, putA, Fr.ev, Fr.of, Fr.get, Fr.set, stable, junkA, junkL, resultsA, resA, same, Post_seq, Post_block, Post_some, Fr.get_set, s0, s1, s2, s3, s4, s18, s20, s24, c1]
  have c1 : binA .lss (.int .i64 (st : Int)) (.int .i64 (m : Int)) = some (.bool true) := lss_t (by omega)
  by_cases h2 : m < en
  · have c2 : binA .lss (.int .i64 (m : Int)) (.int .i64 (en : Int)) = some (.bool true) := lss_t (by omega)
    rw [if_pos ⟨h1, h2⟩] at hT
    simp [symR, exM, orc, orcD, evF, evC_skip, evC_region, evC_cond, evC_exit, evC_ret, evOps, evOper, evAny, evOp, evCall, putR, putA, Fr.ev, Fr.of, Fr.get, Fr.set, stable, junkA, junkL, resultsA, resA, same, Post_seq, Post_block, Post_some, Fr.get_set, s0, s1, s2, s3, s4, s18, s20, s24, c1, c2, h0, hT]
  · have c2 : binA .lss (.int .i64 (m : Int)) (.int .i64 (en : Int)) = some (.bool false) := lss_f (by omega)
    rw [if_neg (fun h => h2 h.2)] at hT; subst hT
    simp [symR, exM, orc, orcD, evF, evC_skip, evC_region, evC_cond, evC_exit, evC_ret, evOps, evOper, evAny, evOp, evCall, putR, putA, Fr.ev, Fr.of, Fr.get, Fr.set, stable, junkA, junkL, resultsA, resA, same, Post_seq, Post_block, Post_some, Fr.get_set, s0, s1, s2, s3, s4, s18, s20, s24, c1, c2]

theorem symA_ok {O : Orc} {g : Model} (h0 : O.loc[1]? = some g) {f : Fr} {S T : St} {r v n a m b k : Nat} {bx : AVal} {md st en : Nat} (hf : MidF f r v n a m b k bx md st en)
    (hT : if a < st ∧ st < md then g [.sl r v 0 n 1, .int .i64 (a : Int), .int .i64 (st : Int), .int .i64 (md : Int), .fn (.func k) [] [bx]] S = some (.tup [], T) else T = S) :
    Post (evC O 1000 symA f S) fun e f' U => e = .normal ∧ U = T ∧ MidF f' r v n a m b k bx md st en := by
  obtain ⟨s0, s1, s2, s3, s4, s18, s20, s24⟩ := hf
  suffices hmid : Post (evC O 1000 symA f S) (fun e f' U => e = .normal ∧ U = T ∧ f'.get 0 = .sl r v 0 n 1 ∧ f'.get 1 = .int .i64 (a : Int) ∧ f'.get 2 = .int .i64 (m : Int) ∧ f'.get 3 = .int .i64 (b : Int) ∧ f'.get 4 = .fn (.func k) [] [bx] ∧ f'.get 18 = .int .i64 (md : Int) ∧ f'.get 20 = .int .i64 (st : Int) ∧ f'.get 24 = .int .i64 (en : Int)) by
    refine hmid.mono ?_
    rintro e f' U ⟨k1, k2, k3, k4, k5, k6, k7, k8, k9, k10⟩
    exact ⟨k1, k2, k3, k4, k5, k6, k7, k8, k9, k10⟩
  by_cases h1 : a < st
  rotate_left
  · have c1 : binA .lss (.int .i64 (a : Int)) (.int .i64 (st : Int)) = some (.bool false) := lss_f (by omega)
    rw [if_neg (fun h => h1 h.1)] at hT; subst hT
    simp [symA, exM, orc, orcD, evF, evC_skip, evC_region, evC_cond, evC_exit, evC_ret, evOps, evOper, evAny, evOp, evCall, putR, putA, Fr.ev, Fr.of, Fr.get, Fr.set, stable, junkA, junkL, resultsA, resA, same, Post_seq, Post_block, Post_some, Fr.get_set, s0, s1, s2, s3, s4, s18, s20, s24, c1]
  have c1 : binA .lss (.int .i64 (a : Int)) (.int .i64 (st : Int)) = some (.bool true) := lss_t (by omega)
  by_cases h2 : st < md
  · have c2 : binA .lss (.int .i64 (st : Int)) (.int .i64 (md : Int)) = some (.bool true) := lss_t (by omega)
    rw [if_pos ⟨h1, h2⟩] at hT
    simp [symA, exM, orc, orcD, evF, evC_skip, evC_region, evC_cond, evC_exit, evC_ret, evOps, evOper, evAny, evOp, evCall, putR, putA, Fr.ev, Fr.of, Fr.get, Fr.set, stable, junkA, junkL, resultsA, resA, same, Post_seq, Post_block, Post_some, Fr.get_set, s0, s1, s2, s3, s4, s18, s20, s24, c1, c2, h0, hT]
  · have c2 : binA .lss (.int .i64 (st : Int)) (.int .i64 (md : Int)) = some (.bool false) := lss_f (by omega)
    rw [if_neg (fun h => h2 h.2)] at hT; subst hT
    simp [symA, exM, orc, orcD, evF, evC_skip, evC_region, evC_cond, evC_exit, evC_ret, evOps, evOper, evAny, evOp, evCall, putR, putA, Fr.ev, Fr.of, Fr.get, Fr.set, stable, junkA, junkL, resultsA, resA, same, Post_seq, Post_block, Post_some, Fr.get_set, s0, s1, s2, s3, s4, s18, s20, s24, c1, c2]

theorem symB_ok {O : Orc} {g : Model} (h0 : O.loc[1]? = some g) {f : Fr} {S T : St} {r v n a m b k : Nat} {bx : AVal} {md st en : Nat} (hf : MidF f r v n a m b k bx md st en)
    (hT : if md < en ∧ en < b then g [.sl r v 0 n 1, .int .i64 (md : Int), .int .i64 (en : Int), .int .i64 (b : Int), .fn (.func k) [] [bx]] S = some (.tup [], T) else T = S) :
    Post (evC O 1000 symB f S) fun e f' U => e = .normal ∧ U = T := by
  obtain ⟨s0, s1, s2, s3, s4, s18, s20, s24⟩ := hf
  by_cases h1 : md < en
  rotate_left
  · have c1 : binA .lss (.int .i64 (md : Int)) (.int .i64 (en : Int)) = some (.bool false) := lss_f (by omega)
    rw [if_neg (fun h => h1 h.1)] at hT; subst hT
    simp [symB, exM, orc, orcD, evF, evC_skip, evC_region, evC_cond, evC_exit, evC_ret, evOps, evOper, evAny, evOp, evCall, putR, putA, Fr.ev, Fr.of, Fr.get, Fr.set, stable, junkA, junkL, resultsA, resA, same, Post_seq, Post_block, Post_some, Fr.get_set, s0, s1, s2, s3, s4, s18, s20, s24, c1]
  have c1 : binA .lss (.int .i64 (md : Int)) (.int .i64 (en : Int)) = some (.bool true) := lss_t (by omega)
  by_cases h2 : en < b
  · have c2 : binA .lss (.int .i64 (en : Int)) (.int .i64 (b : Int)) = some (.bool true) := lss_t (by omega)
    rw [if_pos ⟨h1, h2⟩] at hT
    simp [symB, exM, orc, orcD, evF, evC_skip, evC_region, evC_cond, evC_exit, evC_ret, evOps, evOper, evAny, evOp, evCall, putR, putA, Fr.ev, Fr.of, Fr.get, Fr.set, stable, junkA, junkL, resultsA, resA, same, Post_seq, Post_block, Post_some, Fr.get_set, s0, s1, s2, s3, s4, s18, s20, s24, c1, c2, h0, hT]
  · have c2 : binA .lss (.int .i64 (en : Int)) (.int .i64 (b : Int)) = some (.bool false) := lss_f (by omega)
    rw [if_neg (fun h => h2 h.2)] at hT; subst hT
    simp [symB, exM, orc, orcD, evF, evC_skip, evC_region, evC_cond, evC_exit, evC_ret, evOps, evOper, evAny, evOp, evCall, putR, putA, Fr.ev, Fr.of, Fr.get, Fr.set, stable, junkA, junkL, resultsA, resA, same, Post_seq, Post_block, Post_some, Fr.get_set, s0, s1, s2, s3, s4, s18, s20, s24, c1, c2]

/-- Where the search is to begin and to end. -/
def lo0 (a m b : Nat) : Nat := if m > (a + b) / 2 then (a + b) / 2 + m - b else a
def hi0 (a m b : Nat) : Nat := if m > (a + b) / 2 then (a + b) / 2 else m

theorem sym_pre {O : Orc} {r v n a m b k : Nat} {bx : AVal} (ham : a < m) (hmb : m < b) (h1 : b - m ≠ 1) (hbn : b < 900) {f : Fr} {S : St} (hf : SyF f r v n a m b k bx) {Q : Ex → Fr → St → Prop}
    (hQ : ∀ g, SyF g r v n a m b k bx → g.get 18 = .int .i64 (((a + b) / 2 : Nat) : Int) → g.get 19 = .int .i64 (((a + b) / 2 + m : Nat) : Int) → g.get 22 = .int .i64 (((a + b) / 2 + m - 1 : Nat) : Int) →
      g.get 20 = .int .i64 (lo0 a m b : Int) → g.get 21 = .int .i64 (hi0 a m b : Int) → Post (evC O 1000 slices_symMergeCmpFunc_t16 g S) Q) : Post (evC O 1000 slices_symMergeCmpFunc_t17 f S) Q := by
  obtain ⟨s0, s1, s2, s3, s4⟩ := hf
  have c1 : binA .sub (.int .i64 (b : Int)) (.int .i64 (m : Int)) = some (.int .i64 ((b - m : Nat) : Int)) := sub_is (by omega) (by omega) (by omega)
  have c2 : binA .eql (.int .i64 ((b - m : Nat) : Int)) (.int .i64 1) = some (.bool false) := eql_f (by omega)
  obtain ⟨e1, e2, e3, e4, -⟩ := half a b (by omega)
  have c3 : binA .add (.int .i64 (((a + b) / 2 : Nat) : Int)) (.int .i64 (m : Int)) = some (.int .i64 (((a + b) / 2 + m : Nat) : Int)) := add_is (by omega) (by omega) (by omega)
  have c4 : binA .sub (.int .i64 (((a + b) / 2 + m : Nat) : Int)) (.int .i64 1) = some (.int .i64 (((a + b) / 2 + m - 1 : Nat) : Int)) := sub_is (by omega) (by omega) (by omega)
  by_cases hm : m > (a + b) / 2
  · have c5 : binA .gtr (.int .i64 (m : Int)) (.int .i64 (((a + b) / 2 : Nat) : Int)) = some (.bool true) := gtr_t (by omega)
    have c6 : binA .sub (.int .i64 (((a + b) / 2 + m : Nat) : Int)) (.int .i64 (b : Int)) = some (.int .i64 (lo0 a m b : Int)) := sub_is (by unfold lo0; rw [if_pos hm]; omega) (by omega) (by unfold lo0; rw [if_pos hm]; omega)
    have c7 : hi0 a m b = (a + b) / 2 := if_pos hm
    rw [c7] at hQ
    generalize lo0 a m b = L0 at *
    generalize ((b - m : Nat) : Int) = z1 at *
    generalize (((a + b) / 2 + m - 1 : Nat) : Int) = z2 at *
    generalize (((a + b) / 2 + m : Nat) : Int) = z3 at *
    generalize (((a + b) / 2 : Nat) : Int) = z4 at *
    generalize ((a + b : Nat) : Int) = z5 at *
    simp [slices_symMergeCmpFunc_t17, exM, orc, orcD, evF, evC_skip, evC_region, evC_cond, evC_exit, evC_ret, evOps, evOper, evAny, evOp, evCall, putR, putA, Fr.ev, Fr.of, Fr.get, Fr.set, stable, junkA, junkL, resultsA, resA, same, Post_seq, Post_block, Post_some, Fr.get_set, s0, s1, s2, s3, s4, c1, c2, c3, c4, c5, c6, e1, e2, e3, e4]
    apply hQ
    · constructor <;> simp [Fr.get_set, s0, s1, s2, s3, s4]
    all_goals simp [Fr.get_set]
  · have c5 : binA .gtr (.int .i64 (m : Int)) (.int .i64 (((a + b) / 2 : Nat) : Int)) = some (.bool false) := gtr_f (by omega)
    have c6 : lo0 a m b = a := if_neg hm
    have c7 : hi0 a m b = m := if_neg hm
    rw [c6, c7] at hQ
    generalize ((b - m : Nat) : Int) = z1 at *
    generalize (((a + b) / 2 + m - 1 : Nat) : Int) = z2 at *
    generalize (((a + b) / 2 + m : Nat) : Int) = z3 at *
    generalize (((a + b) / 2 : Nat) : Int) = z4 at *
    generalize ((a + b : Nat) : Int) = z5 at *
    simp [slices_symMergeCmpFunc_t17, exM, orc, orcD, evF, evC_skip, evC_region, evC_cond, evC_exit, evC_ret, evOps, evOper, evAny, evOp, evCall, putR, putA, Fr.ev, Fr.of, Fr.get, Fr.set, stable, junkA, junkL, resultsA, resA, same, Post_seq, Post_block, Post_some, Fr.get_set, s0, s1, s2, s3, s4, c1, c2, c3, c4, c5, e1, e2, e3, e4]
    apply hQ
    · constructor <;> simp [Fr.get_set, s0, s1, s2, s3, s4]
    all_goals simp [Fr.get_set]
end Am.Pol
end

/- The stable sort: symMerge merges two sorted runs. -/
section
namespace Am.Pol
open Am Go Am.Ir
set_option maxRecDepth 100000
attribute [local congr] Post_cg
attribute [local simp] ox oz kx kz og ogz kg kgz mo ai

/-- What a merge is to do. -/
def Merges (g : Model) (k : Nat) (bx : AVal) (P : St → Prop) (r v n : Nat) (L : Nat → Nat) (F : Nat) : Prop :=
  ∀ (p x y q : List Nat) (S : St) (a m b : Nat), a = p.length → m = a + x.length → b = m + y.length → x.length + y.length ≤ F → x ≠ [] → y ≠ [] → (p ++ (x ++ (y ++ q))).length = n → Lt (p ++ (x ++ (y ++ q))) n → P S →
    PL S r v (p ++ (x ++ (y ++ q))) → SB L x → SB L y → Bef L x y →
    ∃ T z, g [.sl r v 0 n 1, .int .i64 (a : Int), .int .i64 (m : Int), .int .i64 (b : Int), .fn (.func k) [] [bx]] S = some (.tup [], T) ∧ PL T r v (p ++ (z ++ q)) ∧ Off S T r ∧ z.Perm (x ++ y) ∧ SB L z

theorem Merges.main {O : Orc} {g : Model} {k : Nat} {bx : AVal} {P : St → Prop} {r v n F : Nat} {L : Nat → Nat} (hC : Cm O.dyn k bx P r n fun y z => decide (L z < L y)) (hn : n < 400)
    (h0 : O.loc[0]? = some xRotate) (h1 : O.loc[1]? = some g) (ih : Merges g k bx P r v n L F) {p x y q : List Nat} {S : St} {a m b : Nat} (ha : a = p.length) (hm : m = a + x.length) (hb : b = m + y.length) (hF : x.length + y.length ≤ F + 1)
    (hx1 : 1 < x.length) (hy1 : 1 < y.length) (hd : (p ++ (x ++ (y ++ q))).length = n) (hlt : Lt (p ++ (x ++ (y ++ q))) n) (hP : P S) (hS : PL S r v (p ++ (x ++ (y ++ q)))) (hx : SB L x) (hy : SB L y) (hbf : Bef L x y)
    {R : St → Prop} (hR : ∀ T z, PL T r v (p ++ (z ++ q)) → Off S T r → z.Perm (x ++ y) → SB L z → R T) {f : Fr} (hf : SyF f r v n a m b k bx) :
    Post (evC O 1000 slices_symMergeCmpFunc_t17 f S) fun e f T => (e = .normal ∨ e = .ret) ∧ resultsA f T [] = some (.tup []) ∧ R T := by
  have hlen : p.length + (x.length + (y.length + q.length)) = n := by simpa using hd
  refine sym_pre (by omega) (by omega) (by omega) (by omega) hf ?_
  intro g1 hg g18 g19 g22 g20 g21
  have hlo : a ≤ lo0 a m b := by unfold lo0; split <;> omega
  have hhi : hi0 a m b ≤ m := by unfold hi0; split <;> omega
  have hlh : lo0 a m b ≤ hi0 a m b := by unfold lo0 hi0; split <;> omega
  rw [sym_t16]
  simp only [Post_seq]
  refine Post.mono (Post.ran (seek2 (lo := lo0 a m b) (hi := hi0 a m b) (t := (a + b) / 2 + m - 1) (md := (a + b) / 2) (nn := (a + b) / 2 + m) (a := a) (m := m) (b := b) hC hd hlt (by omega) (by unfold lo0; split <;> omega) (by unfold hi0; split <;> omega) (by omega) hlh (by omega) hP hS hg g18 g19 g22 g20 g21)) ?_
  rintro _ f1 T' ⟨rfl, hT', hf1, ⟨f18, f19, f22⟩, i, ⟨hi1, hi2, hi3, hi4⟩, f20⟩
  have hT' := hT'.symm
  subst hT'
  simp only [if_true]
  obtain ⟨md, hmd⟩ : ∃ md, md = (a + b) / 2 := ⟨_, rfl⟩
  rw [← hmd] at f18 f19 f22 hi3 hi4
  -- the bounds of the place that is found
  have b1 : a ≤ i := by omega
  have b2 : i ≤ m := by omega
  have b3 : i ≤ md := by unfold hi0 at hi2; split at hi2 <;> omega
  have b4 : md + m - i ≤ b := by unfold lo0 at hi1; split at hi1 <;> omega
  have b5 : m ≤ md + m - i := by omega
  obtain ⟨en, hen⟩ : ∃ en, en = md + m - i := ⟨_, rfl⟩
  have e1 : binA .sub (.int .i64 ((md + m : Nat) : Int)) (.int .i64 (i : Int)) = some (.int .i64 (en : Int)) := sub_is (by omega) (by omega) (by omega)
  have st1 : Post (evC O 1000 symE f1 S) fun e f U => e = .normal ∧ U = S ∧ MidF f r v n a m b k bx md i en := by
    obtain ⟨s0, s1, s2, s3, s4⟩ := hf1
    suffices hmid : Post (evC O 1000 symE f1 S) (fun e f' U => e = .normal ∧ U = S ∧ f'.get 0 = .sl r v 0 n 1 ∧ f'.get 1 = .int .i64 (a : Int) ∧ f'.get 2 = .int .i64 (m : Int) ∧ f'.get 3 = .int .i64 (b : Int) ∧ f'.get 4 = .fn (.func k) [] [bx] ∧ f'.get 18 = .int .i64 (md : Int) ∧ f'.get 20 = .int .i64 (i : Int) ∧ f'.get 24 = .int .i64 (en : Int)) by
      refine hmid.mono ?_
      rintro e f' U ⟨k1, k2, k3, k4, k5, k6, k7, k8, k9, k10⟩
      exact ⟨k1, k2, k3, k4, k5, k6, k7, k8, k9, k10⟩
    generalize ((md + m : Nat) : Int) = z1 at *
    simp [symE, exM, orc, orcD, evF, evC_skip, evC_region, evC_cond, evC_exit, evC_ret, evOps, evOper, evAny, evOp, evCall, putR, putA, Fr.ev, Fr.of, Fr.get, Fr.set, stable, junkA, junkL, resultsA, resA, same, Post_seq, Post_block, Post_some, Fr.get_set, s0, s1, s2, s3, s4, f18, f19, f20, e1]
  refine st1.mono ?_
  rintro _ f2 T' ⟨rfl, hT', hf2⟩
  have hT' := hT'.symm
  subst hT'
  simp only [if_true]
  -- the runs in parts
  obtain ⟨a1, ha1⟩ : ∃ a1, a1 = x.take (i - a) := ⟨_, rfl⟩
  obtain ⟨l2, hl2⟩ : ∃ l2, l2 = x.drop (i - a) := ⟨_, rfl⟩
  obtain ⟨r1, hr1⟩ : ∃ r1, r1 = y.take (en - m) := ⟨_, rfl⟩
  obtain ⟨r2, hr2⟩ : ∃ r2, r2 = y.drop (en - m) := ⟨_, rfl⟩
  have hxs : x = a1 ++ l2 := by rw [ha1, hl2, List.take_append_drop]
  have hys : y = r1 ++ r2 := by rw [hr1, hr2, List.take_append_drop]
  have na1 : a1.length = i - a := by rw [ha1]; simp; omega
  have nl2 : l2.length = m - i := by rw [hl2]; simp; omega
  have nr1 : r1.length = en - m := by rw [hr1]; simp; omega
  have nr2 : r2.length = b - en := by rw [hr2]; simp; omega
  have gx : ∀ j, j < x.length → (p ++ (x ++ (y ++ q))).getD (a + j) 0 = x.getD j 0 := by
    intro j hj; rw [ha]; exact getD_mid hj
  have gy : ∀ j, j < y.length → (p ++ (x ++ (y ++ q))).getD (m + j) 0 = y.getD j 0 := by
    intro j hj
    have := getD_mid (p := p ++ x) (q := q) hj
    rw [hm, ha]; simpa using this
  have k1 : ∀ z l0 r0 w, l2 = z :: l0 → r1 = r0 ++ [w] → L z < L w := by
    intro z l0 r0 w h1 h2
    rw [hl2] at h1; rw [hr1] at h2
    have q1 := head_drop h1
    obtain ⟨q2, q3⟩ := last_take (by omega) h2
    have q4 : 0 < l2.length := by rw [hl2, h1]; simp
    rcases hi4 with h | h
    · exfalso; unfold hi0 at h; split at h <;> omega
    · have := gx (i - a) (by omega)
      rw [show a + (i - a) = i by omega, q1] at this
      have h3 := gy (en - m - 1) (by omega)
      rw [show m + (en - m - 1) = md + m - 1 - i by omega, q3] at h3
      simp only [this, h3] at h
      simpa using h
  have k2 : ∀ a0 z w r0, a1 = a0 ++ [z] → r2 = w :: r0 → L w ≤ L z := by
    intro a0 z w r0 h1 h2
    rw [ha1] at h1; rw [hr2] at h2
    obtain ⟨q2, q3⟩ := last_take (by omega) h1
    have q1 := head_drop h2
    have q4 : 0 < r2.length := by rw [hr2, h2]; simp
    rcases hi3 with h | h
    · exfalso; unfold lo0 at h; split at h <;> omega
    · have := gx (i - a - 1) (by omega)
      rw [show a + (i - a - 1) = i - 1 by omega, q3] at this
      have h3 := gy (en - m) (by omega)
      rw [show m + (en - m) = md + m - 1 - (i - 1) by omega, q1] at h3
      simp only [this, h3] at h
      simpa using h
  rw [hxs, hys] at hbf
  rw [hxs] at hx; rw [hys] at hy
  have hac := SB.across hx hy hbf k1 k2
  -- rotate
  obtain ⟨T1, hT1, hP1, hO1⟩ : ∃ T1, (if i < m ∧ m < en then xRotate [.sl r v 0 n 1, .int .i64 (i : Int), .int .i64 (m : Int), .int .i64 (en : Int), .fn (.func k) [] [bx]] S = some (.tup [], T1) else T1 = S) ∧ PL T1 r v (p ++ (a1 ++ (r1 ++ (l2 ++ (r2 ++ q))))) ∧ Off S T1 r := by
    by_cases h : i < m ∧ m < en
    · obtain ⟨T1, q1, q2, q3⟩ := rotate_ok (G := p ++ (a1 ++ (r1 ++ (l2 ++ (r2 ++ q))))) (c := .fn (.func k) [] [bx]) hd hn h.1 h.2 ⟨p ++ a1, l2, r1, r2 ++ q, by rw [hxs, hys]; simp, by simp, nl2, nr1, by simp; omega⟩ hS
      exact ⟨T1, by rw [if_pos h]; exact q1, q2, q3⟩
    · refine ⟨S, by rw [if_neg h], ?_, Off.refl S r⟩
      rw [hxs, hys] at hS
      by_cases h' : i < m
      · have : r1 = [] := List.eq_nil_of_length_eq_zero (by omega)
        rw [this] at hS ⊢; simpa using hS
      · have : l2 = [] := List.eq_nil_of_length_eq_zero (by omega)
        rw [this] at hS ⊢; simpa using hS
  refine (symR_ok h0 hf2 hT1).mono ?_
  rintro _ f3 T' ⟨rfl, hT', hf3⟩
  have hT' := hT'.symm
  subst hT'
  simp only [if_true]
  have hPT1 := hC.stay _ _ hP hO1
  have hlt1 : Lt (p ++ (a1 ++ (r1 ++ (l2 ++ (r2 ++ q))))) n := by
    intro z hz
    refine hlt z ?_
    rw [hxs, hys]
    simp only [List.mem_append] at hz ⊢
    grind
  -- the first half
  obtain ⟨T2, z1, hT2, hP2, hO2, hz1, hs1⟩ : ∃ T2 z1, (if a < i ∧ i < md then g [.sl r v 0 n 1, .int .i64 (a : Int), .int .i64 (i : Int), .int .i64 (md : Int), .fn (.func k) [] [bx]] T1 = some (.tup [], T2) else T2 = T1) ∧ PL T2 r v (p ++ (z1 ++ (l2 ++ (r2 ++ q)))) ∧ Off T1 T2 r ∧ z1.Perm (a1 ++ r1) ∧ SB L z1 := by
    by_cases h : a < i ∧ i < md
    · obtain ⟨T2, z1, q1, q2, q3, q4, q5⟩ := ih p a1 r1 (l2 ++ (r2 ++ q)) T1 a i md ha (by omega) (by omega) (by omega) (by intro h'; rw [h'] at na1; simp at na1; omega) (by intro h'; rw [h'] at nr1; simp at nr1; omega)
        (by simp; omega) hlt1 hPT1 hP1 hx.fst hy.fst (hbf.sub (by intro z hz; simp [hz]) (by intro z hz; simp [hz]))
      exact ⟨T2, z1, by rw [if_pos h]; exact q1, q2, q3, q4, q5⟩
    · refine ⟨T1, a1 ++ r1, by rw [if_neg h], by simpa using hP1, Off.refl _ r, List.Perm.refl _, ?_⟩
      by_cases h' : a < i
      · have : r1 = [] := List.eq_nil_of_length_eq_zero (by omega)
        rw [this]; simpa using hx.fst
      · have : a1 = [] := List.eq_nil_of_length_eq_zero (by omega)
        rw [this]; simpa using hy.fst
  refine (symA_ok h1 hf3 hT2).mono ?_
  rintro _ f4 T' ⟨rfl, hT', hf4⟩
  have hT' := hT'.symm
  subst hT'
  simp only [if_true]
  have hPT2 := hC.stay _ _ hPT1 hO2
  have nz1 : z1.length = md - a := by rw [hz1.length_eq]; simp; omega
  have hlt2 : Lt ((p ++ z1) ++ (l2 ++ (r2 ++ q))) n := by
    intro z hz
    refine hlt1 z ?_
    have := hz1.mem_iff (a := z)
    simp only [List.mem_append] at hz this ⊢
    grind
  -- the second half
  obtain ⟨T3, z2, hT3, hP3, hO3, hz2, hs2⟩ : ∃ T3 z2, (if md < en ∧ en < b then g [.sl r v 0 n 1, .int .i64 (md : Int), .int .i64 (en : Int), .int .i64 (b : Int), .fn (.func k) [] [bx]] T2 = some (.tup [], T3) else T3 = T2) ∧ PL T3 r v ((p ++ z1) ++ (z2 ++ q)) ∧ Off T2 T3 r ∧ z2.Perm (l2 ++ r2) ∧ SB L z2 := by
    have hP2' : PL T2 r v ((p ++ z1) ++ (l2 ++ (r2 ++ q))) := by simpa using hP2
    by_cases h : md < en ∧ en < b
    · obtain ⟨T3, z2, q1, q2, q3, q4, q5⟩ := ih (p ++ z1) l2 r2 q T2 md en b (by simp; omega) (by omega) (by omega) (by omega) (by intro h'; rw [h'] at nl2; simp at nl2; omega) (by intro h'; rw [h'] at nr2; simp at nr2; omega)
        (by simp; omega) hlt2 hPT2 hP2' hx.snd hy.snd (hbf.sub (by intro z hz; simp [hz]) (by intro z hz; simp [hz]))
      exact ⟨T3, z2, by rw [if_pos h]; exact q1, q2, q3, q4, q5⟩
    · refine ⟨T2, l2 ++ r2, by rw [if_neg h], by simpa using hP2', Off.refl _ r, List.Perm.refl _, ?_⟩
      by_cases h' : md < en
      · have : r2 = [] := List.eq_nil_of_length_eq_zero (by omega)
        rw [this]; simpa using hx.snd
      · have : l2 = [] := List.eq_nil_of_length_eq_zero (by omega)
        rw [this]; simpa using hy.snd
  refine (symB_ok h1 hf4 hT3).mono ?_
  rintro e f5 T' ⟨rfl, hT'⟩
  have hT' := hT'.symm
  subst hT'
  refine ⟨.inl rfl, rfl, hR T3 (z1 ++ z2) (by simpa using hP3) ((hO1.trans hO2).trans hO3) ?_ (hs1.join hs2 hz1 hz2 hac)⟩
  rw [hxs, hys]
  refine (hz1.append hz2).trans ?_
  simp only [List.append_assoc]
  refine List.Perm.append_left a1 ?_
  rw [← List.append_assoc, ← List.append_assoc]
  exact List.Perm.append_right r2 List.perm_append_comm

def xSym (D : List (FuncId × Model)) : Nat → Model
  | 0 => fun _ _ => none
  | F + 1 => exM (orcD [xRotate, xSym D F] D []) slices_symMergeCmpFunc 1000

theorem sym_ok {D : List (FuncId × Model)} {k : Nat} {bx : AVal} {P : St → Prop} {r v n : Nat} {L : Nat → Nat} (hC : Cm (pickD D) k bx P r n fun y z => decide (L z < L y)) (hn : n < 400) : ∀ F, Merges (xSym D F) k bx P r v n L F
  | 0 => by
    intro p x y q S a m b _ _ _ h hx _ _ _ _ _ _ _ _
    have : x.length = 0 := by omega
    exact absurd (List.eq_nil_of_length_eq_zero this) hx
  | F + 1 => by
    intro p x y q S a m b ha hm hb hF hx0 hy0 hd hlt hP hS hx hy hbf
    have hC' : Cm (orcD [xRotate, xSym D F] D []).dyn k bx P r n fun y z => decide (L z < L y) := hC
    have px : 0 < x.length := List.length_pos_iff.2 hx0
    have py : 0 < y.length := List.length_pos_iff.2 hy0
    have fin : ∀ {T}, (∃ z, PL T r v (p ++ (z ++ q)) ∧ Off S T r ∧ z.Perm (x ++ y) ∧ SB L z) → xSym D (F + 1) [.sl r v 0 n 1, .int .i64 (a : Int), .int .i64 (m : Int), .int .i64 (b : Int), .fn (.func k) [] [bx]] S = some (.tup [], T) →
        ∃ T z, xSym D (F + 1) [.sl r v 0 n 1, .int .i64 (a : Int), .int .i64 (m : Int), .int .i64 (b : Int), .fn (.func k) [] [bx]] S = some (.tup [], T) ∧ PL T r v (p ++ (z ++ q)) ∧ Off S T r ∧ z.Perm (x ++ y) ∧ SB L z := by
      rintro T ⟨z, h1, h2, h3, h4⟩ h5
      exact ⟨T, z, h5, h1, h2, h3, h4⟩
    by_cases x1 : x.length = 1
    · obtain ⟨e, rfl⟩ := List.length_eq_one_iff.1 x1
      obtain ⟨T, h1, h2⟩ := sym_left (q := q) (R := fun T => ∃ z, PL T r v (p ++ (z ++ q)) ∧ Off S T r ∧ z.Perm ([e] ++ y) ∧ SB L z) hC' ha (by simpa using hm) hb (by simpa using hd) (by simpa using hlt) (by omega) hP (by simpa using hS) hy hbf
        (fun T z q1 q2 q3 q4 => ⟨z, q1, q2, by simpa using q3, q4⟩)
      exact fin h2 h1
    by_cases y1 : y.length = 1
    · obtain ⟨e, rfl⟩ := List.length_eq_one_iff.1 y1
      obtain ⟨T, h1, h2⟩ := sym_right (q := q) (R := fun T => ∃ z, PL T r v (p ++ (z ++ q)) ∧ Off S T r ∧ z.Perm (x ++ [e]) ∧ SB L z) hC' ha hm (by simpa using hb) x1 (by simpa using hd) (by simpa using hlt) (by omega) hP (by simpa using hS) hx hbf
        (fun T z q1 q2 q3 q4 => ⟨z, q1, q2, q3, q4⟩)
      exact fin h2 h1
    obtain ⟨T, h1, h2⟩ : ∃ T, evF (orcD [xRotate, xSym D F] D []) 1000 slices_symMergeCmpFunc [.sl r v 0 n 1, .int .i64 (a : Int), .int .i64 (m : Int), .int .i64 (b : Int), .fn (.func k) [] [bx]] S = some (.tup [], T) ∧ ∃ z, PL T r v (p ++ (z ++ q)) ∧ Off S T r ∧ z.Perm (x ++ y) ∧ SB L z := by
      have hlen : p.length + (x.length + (y.length + q.length)) = n := by simpa using hd
      refine evF_postX (F := slices_symMergeCmpFunc) (R := fun T => ∃ z, PL T r v (p ++ (z ++ q)) ∧ Off S T r ∧ z.Perm (x ++ y) ∧ SB L z) rfl rfl ?_
      have c1 : binA .sub (.int .i64 (m : Int)) (.int .i64 (a : Int)) = some (.int .i64 ((x.length : Nat) : Int)) := sub_is (by omega) (by omega) (by omega)
      have c2 : binA .eql (.int .i64 ((x.length : Nat) : Int)) (.int .i64 1) = some (.bool false) := eql_f (by omega)
      have key := fun f hf => Merges.main (O := orcD [xRotate, xSym D F] D []) (f := f) (R := fun T => ∃ z, PL T r v (p ++ (z ++ q)) ∧ Off S T r ∧ z.Perm (x ++ y) ∧ SB L z) hC' hn rfl rfl (sym_ok hC hn F) ha hm hb hF (by omega) (by omega) hd hlt hP hS hx hy hbf
        (fun T z q1 q2 q3 q4 => ⟨z, q1, q2, q3, q4⟩) hf
      generalize (fun T => ∃ z, PL T r v (p ++ (z ++ q)) ∧ Off S T r ∧ z.Perm (x ++ y) ∧ SB L z) = R at *
      generalize orcD [xRotate, xSym D F] D [] = O at *
      simp [slices_symMergeCmpFunc, slices_symMergeCmpFunc_t18, exM, orc, orcD, evF, evC_skip, evC_region, evC_cond, evC_exit, evC_ret, evOps, evOper, evAny, evOp, evCall, putR, putA, Fr.ev, Fr.of, Fr.get, Fr.set, stable, junkA, junkL, resultsA, resA, same, Post_seq, Post_block, Post_some, c1, c2]
      refine (key _ ?_).mono ?_
      · constructor <;> simp [Fr.get]
      · intro e f T h; simpa [resultsA] using h
    exact fin h2 h1
end Am.Pol
end

/- The stable sort: insertionSort and stable, for at most 30 places. -/
section
namespace Am.Pol
open Am Go Am.Ir
set_option maxRecDepth 100000
attribute [local congr] Post_cg
attribute [local simp] ox oz kx kz og ogz kg kgz mo ai

def xIns (D : List (FuncId × Model)) : Model := exM (orcD [] D []) slices_insertionSortCmpFunc 1000

/-- What an insertion sort is to do. -/
def Sorts (g : Model) (k : Nat) (bx : AVal) (P : St → Prop) (r v n : Nat) (L : Nat → Nat) : Prop :=
  ∀ (p s q : List Nat) (S : St) (a b : Nat), a = p.length → b = a + s.length → (p ++ (s ++ q)).length = n → Lt (p ++ (s ++ q)) n → P S → PL S r v (p ++ (s ++ q)) → Stb L s →
    ∃ T z, g [.sl r v 0 n 1, .int .i64 (a : Int), .int .i64 (b : Int), .fn (.func k) [] [bx]] S = some (.tup [], T) ∧ PL T r v (p ++ (z ++ q)) ∧ Off S T r ∧ z.Perm s ∧ SB L z

theorem ins_over {O : Orc} {f : Fr} {S : St} {r v n a b k i : Nat} {bx : AVal} (hf : InF f r v n a b k bx i) (h : b ≤ i) (hi : i < 1000000) : Post (evC O 1000 slices_insertionSortCmpFunc_l4 f S) fun e _ T => e = .exit 0 ∧ T = S := by
  obtain ⟨s0, s1, s2, s3, s8⟩ := hf
  have c0 : binA .lss (.int .i64 (i : Int)) (.int .i64 (b : Int)) = some (.bool false) := lss_f (by omega)
  simp [slices_insertionSortCmpFunc_l4, exM, orc, orcD, evF, evC_skip, evC_region, evC_cond, evC_exit, evC_ret, evOps, evOper, evAny, evOp, evCall, putR, putA, Fr.ev, Fr.of, Fr.get, Fr.set, stable, junkA, junkL, resultsA, resA, same, Post_seq, Post_block, Post_some, Fr.get_set, s0, s1, s2, s3, s8, c0]

theorem ins_ok {D : List (FuncId × Model)} {k : Nat} {bx : AVal} {P : St → Prop} {r v n : Nat} {L : Nat → Nat} (hC : Cm (pickD D) k bx P r n fun y z => decide (L z < L y)) (hn : n < 400) : Sorts (xIns D) k bx P r v n L := by
  intro p s q S a b ha hb hd hlt hP hS hst
  have hC' : Cm (orcD [] D []).dyn k bx P r n fun y z => decide (L z < L y) := hC
  have hlen : p.length + (s.length + q.length) = n := by simpa using hd
  obtain ⟨T, h1, z, h2, h3, h4, h5⟩ : ∃ T, evF (orcD [] D []) 1000 slices_insertionSortCmpFunc [.sl r v 0 n 1, .int .i64 (a : Int), .int .i64 (b : Int), .fn (.func k) [] [bx]] S = some (.tup [], T) ∧ ∃ z, PL T r v (p ++ (z ++ q)) ∧ Off S T r ∧ z.Perm s ∧ SB L z := by
    refine evF_postX (F := slices_insertionSortCmpFunc) (R := fun T => ∃ z, PL T r v (p ++ (z ++ q)) ∧ Off S T r ∧ z.Perm s ∧ SB L z) rfl rfl ?_
    have c1 : binA .add (.int .i64 (a : Int)) (.int .i64 1) = some (.int .i64 ((a + 1 : Nat) : Int)) := add_is (by omega) (by omega) (by omega)
    have key : ∀ f, InF f r v n a b k bx (a + 1) → ∃ f' T, evC (orcD [] D []) 1000 slices_insertionSortCmpFunc_s5 f S = some (.normal, f', T) ∧ ∃ z, PL T r v (p ++ (z ++ q)) ∧ Off S T r ∧ z.Perm s ∧ SB L z := by
      intro f hf
      refine loop_meas (O := orcD [] D []) (k := 1000) (id := 0) (b := slices_insertionSortCmpFunc_l4)
        (I := fun c g T => ∃ i x x0 t, t.length = c ∧ x0 ++ t = s ∧ x.Perm x0 ∧ SB L x ∧ (t ≠ [] → i = p.length + x.length) ∧ (t = [] → b ≤ i ∧ i < 1000000) ∧ PL T r v (p ++ (x ++ (t ++ q))) ∧ Off S T r ∧ InF g r v n a b k bx i)
        (Q := fun _ T => ∃ z, PL T r v (p ++ (z ++ q)) ∧ Off S T r ∧ z.Perm s ∧ SB L z) ?_ (m := s.length - 1) (by omega) ?_
      rotate_left
      · cases s with
        | nil => exact ⟨a + 1, [], [], [], rfl, rfl, List.Perm.refl _, List.Pairwise.nil, by simp, fun _ => ⟨by simp at hb; omega, by omega⟩, by simpa using hS, Off.refl S r, hf⟩
        | cons w t =>
          refine ⟨a + 1, [w], [w], t, by simp, rfl, List.Perm.refl _, List.pairwise_singleton _ _, fun _ => by simp; omega, fun h => ?_, by simpa using hS, Off.refl S r, hf⟩
          subst h; simp at hb; exact ⟨by omega, by omega⟩
      rintro c g T ⟨i, x, x0, t, rfl, hs, hx, hsb, hi1, hi2, hT, hO, hg⟩
      cases t with
      | nil =>
        refine (ins_over hg (hi2 rfl).1 (hi2 rfl).2).mono ?_
        rintro e f' U ⟨rfl, hU⟩
        subst hU
        exact .inr ⟨rfl, x, by simpa using hT, hO, by rw [← hs]; simpa using hx, hsb⟩
      | cons w t =>
        have hi := hi1 (by simp)
        have hxl := hx.length_eq
        have hsl : x0.length + (t.length + 1) = s.length := by rw [← hs]; simp
        have hd' : (p ++ (x ++ w :: (t ++ q))).length = n := by simp; omega
        have hlt' : Lt (p ++ (x ++ w :: (t ++ q))) n := by
          intro u hu
          refine hlt u ?_
          have := hx.mem_iff (a := u)
          rw [← hs]
          simp only [List.mem_append, List.mem_cons] at hu this ⊢
          grind
        subst ha
        refine (ins_turn hC' hd' hlt' (by omega) hi (by omega) (by omega) (hC.stay _ _ hP hO) (by simpa using hT) hg).mono ?_
        rintro e f' U ⟨rfl, x1, x2, rfl, hU, hO', hg', h2, h3⟩
        refine .inl ⟨rfl, t.length, by simp, i + 1, x1 ++ w :: x2, x0 ++ [w], t, rfl, by rw [← hs]; simp, ?_, ?_, fun _ => by rw [hi]; simp; omega, fun h => ?_, by simpa using hU, hO.trans hO', hg'⟩
        · exact List.perm_middle.trans ((List.Perm.cons w hx).trans (List.perm_append_singleton w x0).symm)
        · refine hsb.ins ?_ h2 h3
          intro y hy he
          unfold Stb at hst
          rw [← hs, List.pairwise_append] at hst
          exact hst.2.2 y (hx.mem_iff.1 (by simp [hy])) w (by simp) he
        · subst h; simp at hsl hxl; exact ⟨by simp at hi; omega, by simp at hi; omega⟩
    generalize (fun T => ∃ z, PL T r v (p ++ (z ++ q)) ∧ Off S T r ∧ z.Perm s ∧ SB L z) = R at *
    obtain ⟨z1, hz1⟩ : ∃ z, ((a + 1 : Nat) : Int) = z := ⟨_, rfl⟩
    rw [hz1] at c1
    simp [slices_insertionSortCmpFunc, exM, orc, orcD, evF, evC_skip, evC_region, evC_cond, evC_exit, evC_ret, evOps, evOper, evAny, evOp, evCall, putR, putA, Fr.ev, Fr.of, Fr.get, Fr.set, stable, junkA, junkL, resultsA, resA, same, Post_seq, Post_block, Post_some, c1]
    refine (Post.ran (key _ ?_)).mono ?_
    · exact ⟨by simp [Fr.get], by simp [Fr.get], by simp [Fr.get], by simp [Fr.get], by rw [hz1]; simp [Fr.get]⟩
    · intro e f T h
      simpa [h.1, resultsA] using h.2
  exact ⟨T, z, h1, h2, h3, h4, h5⟩

structure StF (f : Fr) (r v n k : Nat) (bx : AVal) (bs a b : Nat) : Prop where
  s0 : f.get 0 = .sl r v 0 n 1
  s1 : f.get 1 = .int .i64 (n : Int)
  s2 : f.get 2 = .fn (.func k) [] [bx]
  s6 : f.get 6 = .int .i64 (bs : Int)
  s7 : f.get 7 = .int .i64 (a : Int)
  s8 : f.get 8 = .int .i64 (b : Int)

theorem st_round {O : Orc} {g : Model} (h0 : O.loc[0]? = some g) {f : Fr} {S T : St} {r v n k a b bs : Nat} {bx : AVal} (hf : StF f r v n k bx bs a b) (h : b + bs < 1000000)
    (hT : if b ≤ n then g [.sl r v 0 n 1, .int .i64 (a : Int), .int .i64 (b : Int), .fn (.func k) [] [bx]] S = some (.tup [], T) else T = S) :
    Post (evC O 1000 slices_stableCmpFunc_l0 f S) fun e f' U => U = T ∧ if b ≤ n then e = .normal ∧ StF f' r v n k bx bs b (b + bs) else e = .exit 0 ∧ StF f' r v n k bx bs a b := by
  obtain ⟨s0, s1, s2, s6, s7, s8⟩ := hf
  have c2 : binA .add (.int .i64 (b : Int)) (.int .i64 (bs : Int)) = some (.int .i64 ((b + bs : Nat) : Int)) := add_is (by omega) (by omega) (by omega)
  by_cases h1 : b ≤ n
  · have c1 : binA .leq (.int .i64 (b : Int)) (.int .i64 (n : Int)) = some (.bool true) := leq_t (by omega)
    rw [if_pos h1] at hT
    simp only [if_pos h1]
    suffices hmid : Post (evC O 1000 slices_stableCmpFunc_l0 f S) (fun e f' U => U = T ∧ e = .normal ∧ f'.get 0 = .sl r v 0 n 1 ∧ f'.get 1 = .int .i64 (n : Int) ∧ f'.get 2 = .fn (.func k) [] [bx] ∧ f'.get 6 = .int .i64 (bs : Int) ∧ f'.get 7 = .int .i64 (b : Int) ∧ f'.get 8 = .int .i64 ((b + bs : Nat) : Int)) by
      refine hmid.mono ?_
      rintro e f' U ⟨k1, k2, k3, k4, k5, k6, k7, k8⟩
      exact ⟨k1, k2, k3, k4, k5, k6, k7, k8⟩
    generalize ((b + bs : Nat) : Int) = z1 at *
    simp [slices_stableCmpFunc_l0, exM, orc, orcD, evF, evC_skip, evC_region, evC_cond, evC_exit, evC_ret, evOps, evOper, evAny, evOp, evCall, putR, putA, Fr.ev, Fr.of, Fr.get, Fr.set, stable, junkA, junkL, resultsA, resA, same, Post_seq, Post_block, Post_some, Fr.get_set, s0, s1, s2, s6, s7, s8, c1, c2, h0, hT]
  · have c1 : binA .leq (.int .i64 (b : Int)) (.int .i64 (n : Int)) = some (.bool false) := leq_f (by omega)
    rw [if_neg h1] at hT
    subst hT
    simp only [if_neg h1]
    suffices hmid : Post (evC O 1000 slices_stableCmpFunc_l0 f T) (fun e f' U => U = T ∧ e = .exit 0 ∧ f'.get 0 = .sl r v 0 n 1 ∧ f'.get 1 = .int .i64 (n : Int) ∧ f'.get 2 = .fn (.func k) [] [bx] ∧ f'.get 6 = .int .i64 (bs : Int) ∧ f'.get 7 = .int .i64 (a : Int) ∧ f'.get 8 = .int .i64 (b : Int)) by
      refine hmid.mono ?_
      rintro e f' U ⟨k1, k2, k3, k4, k5, k6, k7, k8⟩
      exact ⟨k1, k2, k3, k4, k5, k6, k7, k8⟩
    simp [slices_stableCmpFunc_l0, exM, orc, orcD, evF, evC_skip, evC_region, evC_cond, evC_exit, evC_ret, evOps, evOper, evAny, evOp, evCall, putR, putA, Fr.ev, Fr.of, Fr.get, Fr.set, stable, junkA, junkL, resultsA, resA, same, Post_seq, Post_block, Post_some, Fr.get_set, s0, s1, s2, s6, s7, s8, c1]

/-- The blocks. -/
theorem st_blocks {O : Orc} {g : Model} (h0 : O.loc[0]? = some g) {f : Fr} {S T : St} {r v n k : Nat} {bx : AVal} (hf : StF f r v n k bx 20 0 20) (hn : n ≤ 30)
    (hT : if 20 ≤ n then g [.sl r v 0 n 1, .int .i64 (0 : Nat), .int .i64 (20 : Nat), .fn (.func k) [] [bx]] S = some (.tup [], T) else T = S) :
    ∃ f' U, evC O 1000 slices_stableCmpFunc_s1 f S = some (.normal, f', U) ∧ U = T ∧ ∃ b, StF f' r v n k bx 20 (if 20 ≤ n then 20 else 0) b := by
  refine loop_meas (O := O) (k := 1000) (id := 0) (b := slices_stableCmpFunc_l0)
    (I := fun c g U => (c = 1 ∧ U = S ∧ StF g r v n k bx 20 0 20) ∨ (c = 0 ∧ 20 ≤ n ∧ U = T ∧ StF g r v n k bx 20 20 40)) ?_ (m := 1) (by omega) (.inl ⟨rfl, rfl, hf⟩)
  rintro c f1 U (⟨rfl, rfl, h1⟩ | ⟨rfl, h20, rfl, h1⟩)
  · refine (st_round h0 h1 (by omega) hT).mono ?_
    rintro e f' V ⟨rfl, hq⟩
    by_cases h : 20 ≤ n
    · rw [if_pos h] at hq
      exact .inl ⟨hq.1, 0, by omega, .inr ⟨rfl, h, rfl, hq.2⟩⟩
    · rw [if_neg h] at hq
      exact .inr ⟨hq.1, rfl, 20, by rw [if_neg h]; exact hq.2⟩
  · refine (st_round (T := U) h0 h1 (by omega) (by rw [if_neg (by omega)])).mono ?_
    rintro e f' V ⟨rfl, hq⟩
    rw [if_neg (by omega)] at hq
    exact .inr ⟨hq.1, rfl, 40, by rw [if_pos h20]; exact hq.2⟩

theorem st_merge {O : Orc} {g : Model} (h1 : O.loc[1]? = some g) {f : Fr} {S T : St} {r v n k a b : Nat} {bx : AVal} (hn : n ≤ 30) (h20 : 20 < n) (hf : StF f r v n k bx 20 a b)
    (hT : g [.sl r v 0 n 1, .int .i64 (0 : Nat), .int .i64 (20 : Nat), .int .i64 (n : Nat), .fn (.func k) [] [bx]] S = some (.tup [], T)) :
    Post (evC O 1000 slices_stableCmpFunc_l6 f S) fun e f' U => e = .normal ∧ U = T ∧ StF f' r v n k bx 40 0 40 := by
  obtain ⟨s0, s1, s2, s6, s7, s8⟩ := hf
  have c1 : binA .lss (.int .i64 ((20 : Nat) : Int)) (.int .i64 (n : Int)) = some (.bool true) := lss_t (by omega)
  have c2 : binA .mul (.int .i64 2) (.int .i64 ((20 : Nat) : Int)) = some (.int .i64 40) := rfl
  have c3 : binA .leq (.int .i64 40) (.int .i64 (n : Int)) = some (.bool false) := leq_f (by omega)
  have c4 : binA .add (.int .i64 0) (.int .i64 ((20 : Nat) : Int)) = some (.int .i64 20) := rfl
  have c5 : binA .lss (.int .i64 20) (.int .i64 (n : Int)) = some (.bool true) := lss_t (by omega)
  have c6 : binA .mul (.int .i64 ((20 : Nat) : Int)) (.int .i64 2) = some (.int .i64 40) := rfl
  have hs3 : ∀ f : Fr, f.get 1 = .int .i64 (n : Int) → f.get 8 = .int .i64 40 → Post (evC O 1000 slices_stableCmpFunc_s3 f S) fun e f' U => e = .normal ∧ U = S ∧ f'.get 0 = f.get 0 ∧ f'.get 1 = f.get 1 ∧ f'.get 2 = f.get 2 ∧ f'.get 6 = f.get 6 ∧ f'.get 7 = f.get 7 ∧ f'.get 8 = f.get 8 := by
    intro f f1 f8
    refine Post.mono (Post.ran (loop_meas (O := O) (k := 1000) (id := 4) (b := slices_stableCmpFunc_l2) (I := fun c g U => g = f ∧ U = S) (Q := fun f' U => U = S ∧ f'.get 0 = f.get 0 ∧ f'.get 1 = f.get 1 ∧ f'.get 2 = f.get 2 ∧ f'.get 6 = f.get 6 ∧ f'.get 7 = f.get 7 ∧ f'.get 8 = f.get 8) ?_ (m := 1) (by omega) ⟨rfl, rfl⟩)) (fun _ _ _ h => h)
    rintro c g U ⟨rfl, rfl⟩
    suffices hmid : Post (evC O 1000 slices_stableCmpFunc_l2 g U) (fun e f' V => e = .exit 4 ∧ V = U ∧ f'.get 0 = g.get 0 ∧ f'.get 1 = g.get 1 ∧ f'.get 2 = g.get 2 ∧ f'.get 6 = g.get 6 ∧ f'.get 7 = g.get 7 ∧ f'.get 8 = g.get 8) from hmid.mono fun _ _ _ h => .inr h
    simp [slices_stableCmpFunc_l2, exM, orc, orcD, evF, evC_skip, evC_region, evC_cond, evC_exit, evC_ret, evOps, evOper, evAny, evOp, evCall, putR, putA, Fr.ev, Fr.of, Fr.get, Fr.set, stable, junkA, junkL, resultsA, resA, same, Post_seq, Post_block, Post_some, Fr.get_set, f1, f8, c3]
  suffices hmid : Post (evC O 1000 slices_stableCmpFunc_l6 f S) (fun e f' U => e = .normal ∧ U = T ∧ f'.get 0 = .sl r v 0 n 1 ∧ f'.get 1 = .int .i64 (n : Int) ∧ f'.get 2 = .fn (.func k) [] [bx] ∧ f'.get 6 = .int .i64 40 ∧ f'.get 7 = .int .i64 0 ∧ f'.get 8 = .int .i64 40) by
    refine hmid.mono ?_
    rintro e f' U ⟨k1, k2, k3, k4, k5, k6, k7, k8⟩
    exact ⟨k1, k2, k3, k4, k5, k6, k7, k8⟩
  have hT' : g [.sl r v 0 n 1, .int .i64 0, .int .i64 20, .int .i64 (n : Nat), .fn (.func k) [] [bx]] S = some (.tup [], T) := hT
  generalize ((20 : Nat) : Int) = z1 at *
  simp [slices_stableCmpFunc_l6, slices_stableCmpFunc_b5, slices_stableCmpFunc_t4, exM, orc, orcD, evF, evC_skip, evC_region, evC_cond, evC_exit, evC_ret, evOps, evOper, evAny, evOp, evCall, putR, putA, Fr.ev, Fr.of, Fr.get, Fr.set, stable, junkA, junkL, resultsA, resA, same, Post_seq, Post_block, Post_some, Fr.get_set, s0, s1, s2, s6, s7, s8, c1, c2]
  refine (hs3 _ ?_ ?_).mono ?_
  · simp [Fr.get_set, s1]
  · simp [Fr.get_set]
  · rintro _ f2 U ⟨rfl, rfl, t0, t1, t2, t6, t7, t8⟩
    simp [Fr.get_set, s0, s1, s2, s6] at t0 t1 t2 t6 t7 t8
    simp [exM, orc, orcD, evF, evC_skip, evC_region, evC_cond, evC_exit, evC_ret, evOps, evOper, evAny, evOp, evCall, putR, putA, Fr.ev, Fr.of, Fr.get, Fr.set, stable, junkA, junkL, resultsA, resA, same, Post_seq, Post_block, Post_some, Fr.get_set, t0, t1, t2, t6, t7, t8, c4, c5, c6, h1, hT']
end Am.Pol
end

/- The stable sort: SortStableFunc, for at most 30 places. -/
section
namespace Am.Pol
open Am Go Am.Ir
set_option maxRecDepth 100000
attribute [local congr] Post_cg
attribute [local simp] ox oz kx kz og ogz kg kgz mo ai

def xStable (D : List (FuncId × Model)) : Model := exM (orcD [xIns D, xSym D 40] D []) slices_stableCmpFunc 1000
def xSortStable (D : List (FuncId × Model)) : Model := exM (orcD [xStable D] D []) slices_SortStableFunc 1000

theorem SB.bef {L : Nat → Nat} {x y : List Nat} (h : Stb L (x ++ y)) : Bef L x y := by
  unfold Stb at h; rw [List.pairwise_append] at h; exact h.2.2

theorem st_over {O : Orc} {f : Fr} {S : St} {r v n k bs a b : Nat} {bx : AVal} (hf : StF f r v n k bx bs a b) (h : n ≤ bs) : Post (evC O 1000 slices_stableCmpFunc_l6 f S) fun e _ T => e = .exit 2 ∧ T = S := by
  obtain ⟨s0, s1, s2, s6, s7, s8⟩ := hf
  have c0 : binA .lss (.int .i64 (bs : Int)) (.int .i64 (n : Int)) = some (.bool false) := lss_f (by omega)
  simp [slices_stableCmpFunc_l6, exM, orc, orcD, evF, evC_skip, evC_region, evC_cond, evC_exit, evC_ret, evOps, evOper, evAny, evOp, evCall, putR, putA, Fr.ev, Fr.of, Fr.get, Fr.set, stable, junkA, junkL, resultsA, resA, same, Post_seq, Post_block, Post_some, Fr.get_set, s1, s6, c0]

theorem st_tail {O : Orc} {gi gs : Model} (h0 : O.loc[0]? = some gi) (h1 : O.loc[1]? = some gs) {f : Fr} {T1 T2 T3 : St} {r v n k a b : Nat} {bx : AVal} (hn : n ≤ 30) (hf : StF f r v n k bx 20 a b)
    (hi : gi [.sl r v 0 n 1, .int .i64 (a : Nat), .int .i64 (n : Nat), .fn (.func k) [] [bx]] T1 = some (.tup [], T2))
    (hm : if 20 < n then gs [.sl r v 0 n 1, .int .i64 (0 : Nat), .int .i64 (20 : Nat), .int .i64 (n : Nat), .fn (.func k) [] [bx]] T2 = some (.tup [], T3) else T3 = T2) :
    Post (evC O 1000 (.seq (.region none [mo 23 0, mo 24 7, mo 25 1, mo 26 2, kx 27 (.k 0 [.t 23, .t 24, .t 25, .t 26])]) slices_stableCmpFunc_s7) f T1) fun e _ U => e = .normal ∧ U = T3 := by
  have hl : ∀ f : Fr, StF f r v n k bx 20 a b → ∃ f' U, evC O 1000 slices_stableCmpFunc_s7 f T2 = some (.normal, f', U) ∧ U = T3 := by
    intro f hf
    refine loop_meas (O := O) (k := 1000) (id := 2) (b := slices_stableCmpFunc_l6) (Q := fun _ U => U = T3)
      (I := fun c g U => (c = 1 ∧ 20 < n ∧ U = T2 ∧ StF g r v n k bx 20 a b) ∨ (c = 0 ∧ U = T3 ∧ ∃ bs a b, n ≤ bs ∧ StF g r v n k bx bs a b)) ?_ (m := if 20 < n then 1 else 0) (by split <;> omega) ?_
    · rintro c g U (⟨rfl, h, rfl, hg⟩ | ⟨rfl, rfl, bs, a', b', h, hg⟩)
      · rw [if_pos h] at hm
        refine (st_merge h1 hn h hg hm).mono ?_
        rintro e f' V ⟨rfl, rfl, hf'⟩
        exact .inl ⟨rfl, 0, by omega, .inr ⟨rfl, rfl, 40, 0, 40, by omega, hf'⟩⟩
      · refine (st_over hg h).mono ?_
        rintro e f' V ⟨rfl, rfl⟩
        exact .inr ⟨rfl, rfl⟩
    · by_cases h : 20 < n
      · rw [if_pos h]; exact .inl ⟨rfl, h, rfl, hf⟩
      · rw [if_neg h] at hm ⊢; exact .inr ⟨rfl, hm.symm, 20, a, b, by omega, hf⟩
  obtain ⟨s0, s1, s2, s6, s7, s8⟩ := hf
  simp [exM, orc, orcD, evF, evC_skip, evC_region, evC_cond, evC_exit, evC_ret, evOps, evOper, evAny, evOp, evCall, putR, putA, Fr.ev, Fr.of, Fr.get, Fr.set, stable, junkA, junkL, resultsA, resA, same, Post_seq, Post_block, Post_some, Fr.get_set, s0, s1, s2, s6, s7, s8, h0, hi]
  refine (Post.ran (hl _ ?_)).mono (fun _ _ _ h => h)
  constructor <;> simp [Fr.get_set, s0, s1, s2, s6, s7, s8]

theorem stable_run {O : Orc} {gi gs : Model} {k : Nat} {bx : AVal} {P : St → Prop} {r v n : Nat} {L : Nat → Nat} (h0 : O.loc[0]? = some gi) (h1 : O.loc[1]? = some gs)
    (hi : Sorts gi k bx P r v n L) (hm : Merges gs k bx P r v n L 40) (hst : ∀ S T, P S → Off S T r → P T) (hn : n ≤ 30) {d : List Nat} (hd : d.length = n) (hlt : Lt d n) {S : St} (hP : P S) (hS : PL S r v d) (hb : Stb L d)
    {R : St → Prop} (hR : ∀ T z, PL T r v z → Off S T r → z.Perm d → SB L z → R T) :
    ∃ T, evF O 1000 slices_stableCmpFunc [.sl r v 0 n 1, .int .i64 (n : Int), .fn (.func k) [] [bx]] S = some (.tup [], T) ∧ R T := by
  refine evF_postX (F := slices_stableCmpFunc) (R := R) rfl rfl ?_
  by_cases h20 : 20 ≤ n
  · -- two blocks
    obtain ⟨T1, z1, q1, q2, q3, q4, q5⟩ := hi [] (d.take 20) (d.drop 20) S 0 20 rfl (by simp; omega) (by simpa using hd) (by simpa using hlt) hP (by simpa using hS) (hb.sublist (List.take_sublist ..))
    have z1l : z1.length = 20 := by rw [q4.length_eq]; simp; omega
    have hlt1 : Lt (z1 ++ (d.drop 20 ++ [])) n := by
      intro u hu
      refine hlt u ?_
      have := q4.mem_iff (a := u)
      rw [← List.take_append_drop 20 d]
      simp only [List.mem_append] at hu this ⊢
      grind
    obtain ⟨T2, z2, p1, p2, p3, p4, p5⟩ := hi z1 (d.drop 20) [] T1 20 n z1l.symm (by simp; omega) (by simp; omega) hlt1 (hst _ _ hP q3) (by simpa using q2) (hb.sublist (List.drop_sublist ..))
    have z2l : z2.length = n - 20 := by rw [p4.length_eq]; simp; omega
    have hperm : (z1 ++ z2).Perm d := by
      have := q4.append p4
      rwa [List.take_append_drop] at this
    have hbf : Bef L z1 z2 := by
      have : Bef L (d.take 20) (d.drop 20) := SB.bef (by rw [List.take_append_drop]; exact hb)
      exact this.sub (fun x hx => q4.mem_iff.1 hx) (fun x hx => p4.mem_iff.1 hx)
    obtain ⟨T3, z, m1, m2, m3, m4, m5⟩ : ∃ T3 z, (if 20 < n then gs [.sl r v 0 n 1, .int .i64 (0 : Nat), .int .i64 (20 : Nat), .int .i64 (n : Nat), .fn (.func k) [] [bx]] T2 = some (.tup [], T3) else T3 = T2) ∧ PL T3 r v z ∧ Off T2 T3 r ∧ z.Perm (z1 ++ z2) ∧ SB L z := by
      by_cases h : 20 < n
      · simp only [if_pos h]
        obtain ⟨T3, z, m1, m2, m3, m4, m5⟩ := hm [] z1 z2 [] T2 0 20 n rfl (by simp; omega) (by omega) (by omega) (by intro h'; rw [h'] at z1l; simp at z1l) (by intro h'; rw [h'] at z2l; simp at z2l; omega) (by simp; omega)
          (by intro u hu; exact hlt u (hperm.mem_iff.1 (by simpa using hu))) (hst _ _ hP (q3.trans p3)) (by simpa using p2) q5 p5 hbf
        exact ⟨T3, z, m1, by simpa using m2, m3, m4, m5⟩
      · simp only [if_neg h]
        have : z2 = [] := List.eq_nil_of_length_eq_zero (by omega)
        subst this
        exact ⟨T2, z1, rfl, by simpa using p2, Off.refl _ r, by simp, q5⟩
    have fin : R T3 := hR T3 z m2 ((q3.trans p3).trans m3) (m4.trans hperm) m5
    simp [slices_stableCmpFunc, exM, orc, orcD, evF, evC_skip, evC_region, evC_cond, evC_exit, evC_ret, evOps, evOper, evAny, evOp, evCall, putR, putA, Fr.ev, Fr.of, Fr.get, Fr.set, stable, junkA, junkL, resultsA, resA, same, Post_seq, Post_block, Post_some]
    rw [show slices_stableCmpFunc_t8 = .seq slices_stableCmpFunc_s1 (.seq (.region none [mo 23 0, mo 24 7, mo 25 1, mo 26 2, kx 27 (.k 0 [.t 23, .t 24, .t 25, .t 26])]) slices_stableCmpFunc_s7) from rfl, Post_seq]
    refine (Post.ran (st_blocks h0 (T := T1) (k := k) (bx := bx) (r := r) (v := v) ?_ hn (by rw [if_pos h20]; exact q1))).mono ?_
    · exact ⟨by simp [Fr.get], by simp [Fr.get], by simp [Fr.get], by simp [Fr.get], by simp [Fr.get], by simp [Fr.get]⟩
    rintro _ f U ⟨rfl, rfl, b, hf⟩
    rw [if_pos h20] at hf
    rw [if_pos rfl]
    refine (st_tail h0 h1 hn hf p1 m1).mono ?_
    rintro e g V ⟨rfl, rfl⟩
    simp [resultsA, fin]
  · obtain ⟨T2, z2, p1, p2, p3, p4, p5⟩ := hi [] d [] S 0 n rfl (by simp; omega) (by simpa using hd) (by simpa using hlt) hP (by simpa using hS) hb
    have fin : R T2 := hR T2 z2 (by simpa using p2) p3 p4 p5
    simp [slices_stableCmpFunc, exM, orc, orcD, evF, evC_skip, evC_region, evC_cond, evC_exit, evC_ret, evOps, evOper, evAny, evOp, evCall, putR, putA, Fr.ev, Fr.of, Fr.get, Fr.set, stable, junkA, junkL, resultsA, resA, same, Post_seq, Post_block, Post_some]
    rw [show slices_stableCmpFunc_t8 = .seq slices_stableCmpFunc_s1 (.seq (.region none [mo 23 0, mo 24 7, mo 25 1, mo 26 2, kx 27 (.k 0 [.t 23, .t 24, .t 25, .t 26])]) slices_stableCmpFunc_s7) from rfl, Post_seq]
    refine (Post.ran (st_blocks h0 (T := S) (k := k) (bx := bx) (r := r) (v := v) ?_ hn (by rw [if_neg h20]))).mono ?_
    · exact ⟨by simp [Fr.get], by simp [Fr.get], by simp [Fr.get], by simp [Fr.get], by simp [Fr.get], by simp [Fr.get]⟩
    rintro _ f U ⟨rfl, hU, b, hf⟩
    rw [if_neg h20] at hf
    rw [if_pos rfl]
    rw [hU]
    refine (st_tail h0 h1 hn hf p1 (by rw [if_neg (by omega)])).mono ?_
    rintro e g V ⟨rfl, rfl⟩
    simp [resultsA, fin]

theorem sort_ok {D : List (FuncId × Model)} {k : Nat} {bx : AVal} {P : St → Prop} {r v n : Nat} {L : Nat → Nat} (hC : Cm (pickD D) k bx P r n fun y z => decide (L z < L y)) (hn : n ≤ 30) {d : List Nat} (hd : d.length = n) (hlt : Lt d n) {S : St} (hP : P S) (hS : PL S r v d) (hb : Stb L d) :
    ∃ T z, xSortStable D [.sl r v 0 n 1, .fn (.func k) [] [bx]] S = some (.tup [], T) ∧ PL T r v z ∧ Off S T r ∧ z.Perm d ∧ SB L z := by
  obtain ⟨T, h1, z, h2, h3, h4, h5⟩ := stable_run (O := orcD [xIns D, xSym D 40] D []) (R := fun T => ∃ z, PL T r v z ∧ Off S T r ∧ z.Perm d ∧ SB L z) rfl rfl (ins_ok hC (by omega)) (sym_ok hC (by omega) 40) hC.stay hn hd hlt hP hS hb (fun T z a b c d => ⟨z, a, b, c, d⟩)
  refine ⟨T, z, ?_, h2, h3, h4, h5⟩
  have h1' : xStable D [.sl r v 0 n 1, .int .i64 (n : Int), .fn (.func k) [] [bx]] S = some (.tup [], T) := h1
  unfold xSortStable exM
  refine evF_post (F := slices_SortStableFunc) rfl rfl ?_
  generalize xStable D = g at *
  simp [slices_SortStableFunc, exM, orc, orcD, evF, evC_skip, evC_region, evC_cond, evC_exit, evC_ret, evOps, evOper, evAny, evOp, evCall, putR, putA, Fr.ev, Fr.of, Fr.get, Fr.set, stable, junkA, junkL, resultsA, resA, same, Post_seq, Post_block, Post_some, lenA, h1']
end Am.Pol
end

/- The places of times, the greatest one first: newest. -/
section
namespace Am.Pol
open Am Go Am.Ir
set_option maxRecDepth 100000
attribute [local congr] Post_cg
attribute [local simp] ox oz kx kz og ogz kg kgz mo ai

/-- The first blocks are as they were. -/
def Old (B : Nat) (S T : St) : Prop := ∀ q, q < B → T[q]? = S[q]?
theorem Old.refl (B : Nat) (S : St) : Old B S S := fun _ _ => rfl
theorem Old.trans {B : Nat} {S T U : St} (h : Old B S T) (h' : Old B T U) : Old B S U := fun q hq => (h' q hq).trans (h q hq)
theorem Old.app (S T : St) : Old S.length S (S ++ T) := fun q hq => List.getElem?_append_left hq
theorem Old.less {B C : Nat} {S T : St} (h : Old B S T) (hc : C ≤ B) : Old C S T := fun q hq => h q (by omega)
theorem Off.old {S T : St} {r B : Nat} (h : Off S T r) (hr : B ≤ r) : Old B S T := fun q hq => h.2 q (by omega)

def L0 (l : List Nat) (i : Nat) : Nat := l.getD i 0

/-- Times that can be read, whatever is done behind the first blocks. -/
structure Times (B : Nat) (S : St) (x : AVal) (l : List Nat) : Prop where
  len : lenA .sl x = some (.int .i64 (l.length : Int))
  get : ∀ T, Old B S T → ∀ i, i < l.length → ∃ a, iaddrSA 1 x (.int .i64 (i : Int)) = some a ∧ loadA none a T = some (.int .u64 (L0 l i : Int))
  cell : cells? x = some [x]
theorem Times.go {B : Nat} {S T : St} {x : AVal} {l : List Nat} (h : Times B S x l) (hT : Old B S T) : Times B T x l := ⟨h.len, fun _ hU => h.get _ (hT.trans hU), h.cell⟩

def xCmp : Model := exM (orc []) policy_newest_1 10

/-- What the comparer leans on. -/
def CmP (B r : Nat) (x : AVal) (l : List Nat) (S : St) : Prop := S[r]? = some (.live 0 [x]) ∧ Times B S x l

theorem cmp_ok {B r : Nat} {x : AVal} {l : List Nat} {S : St} (h : CmP B r x l S) {i j : Nat} (hi : i < l.length) (hj : j < l.length) :
    ∃ z : Int, xCmp [.int .i64 (i : Int), .int .i64 (j : Int), .ptr r 0 0] S = some (.int .i64 z, S) ∧ decide (L0 l j < L0 l i) = decide (z < 0) := by
  obtain ⟨h1, h2⟩ := h
  have l0 : loadA none (.ptr r 0 0) S = some x := by rw [load_c h1]; rfl
  obtain ⟨a, a1, a2⟩ := h2.get S (Old.refl B S) i hi
  obtain ⟨b, b1, b2⟩ := h2.get S (Old.refl B S) j hj
  unfold xCmp exM
  by_cases c1 : L0 l j < L0 l i
  · have d1 : binA .gtr (.int .u64 (L0 l i : Int)) (.int .u64 (L0 l j : Int)) = some (.bool true) := gtr_t (by omega)
    refine ⟨-1, evF_post (F := policy_newest_1) rfl rfl ?_, by simp [c1]⟩
    simp [policy_newest_1, exM, orc, orcD, evF, evC_skip, evC_region, evC_cond, evC_exit, evC_ret, evOps, evOper, evAny, evOp, evCall, putR, putA, Fr.ev, Fr.of, Fr.get, Fr.set, stable, junkA, junkL, resultsA, resA, same, Post_seq, Post_block, Post_some, l0, a1, a2, b1, b2, d1]
  · have d1 : binA .gtr (.int .u64 (L0 l i : Int)) (.int .u64 (L0 l j : Int)) = some (.bool false) := gtr_f (by omega)
    by_cases c2 : L0 l i < L0 l j
    · have d2 : binA .lss (.int .u64 (L0 l i : Int)) (.int .u64 (L0 l j : Int)) = some (.bool true) := lss_t (by omega)
      refine ⟨1, evF_post (F := policy_newest_1) rfl rfl ?_, by simp [c1]⟩
      simp [policy_newest_1, exM, orc, orcD, evF, evC_skip, evC_region, evC_cond, evC_exit, evC_ret, evOps, evOper, evAny, evOp, evCall, putR, putA, Fr.ev, Fr.of, Fr.get, Fr.set, stable, junkA, junkL, resultsA, resA, same, Post_seq, Post_block, Post_some, l0, a1, a2, b1, b2, d1, d2]
    · have d2 : binA .lss (.int .u64 (L0 l i : Int)) (.int .u64 (L0 l j : Int)) = some (.bool false) := lss_f (by omega)
      refine ⟨0, evF_post (F := policy_newest_1) rfl rfl ?_, by simp [c1]⟩
      simp [policy_newest_1, exM, orc, orcD, evF, evC_skip, evC_region, evC_cond, evC_exit, evC_ret, evOps, evOper, evAny, evOp, evCall, putR, putA, Fr.ev, Fr.of, Fr.get, Fr.set, stable, junkA, junkL, resultsA, resA, same, Post_seq, Post_block, Post_some, l0, a1, a2, b1, b2, d1, d2]

theorem cmp_Cm {B r0 r k : Nat} {x : AVal} {l : List Nat} (hB : B ≤ r) (hr : r0 ≠ r) : Cm (pickD [(k, xCmp)]) k (.ptr r0 0 0) (CmP B r0 x l) r l.length fun y z => decide (L0 l z < L0 l y) := by
  refine ⟨fun S hS i j hi hj => ?_, fun S T hS hO => ?_⟩
  · obtain ⟨z, h1, h2⟩ := cmp_ok hS hi hj
    refine ⟨z, ?_, h2⟩
    simpa [pickD] using h1
  · exact ⟨by rw [hO.2 _ hr]; exact hS.1, hS.2.go (hO.old hB)⟩

/-- newest, whose comparer has a number of the program's. -/
def newestF (k : Nat) : AFun :=
  ⟨1, [.inl 2], (.seq (.region none [ox 1 (.box (.t 0)), ox 2 (.mv (.c .nils))]) (.seq
    (.region none [ox 3 (.mv (.c .nils))]) (.seq (.seq (.region none [ox 5 (.load none (.t 1)), ox 6 (.len .sl (.t 5)), ox 7 (.mv (ai 0))])
    policy_newest_s1) (.seq (.region none [mo 15 3, ox 16 (.mkfn (Fn.func k) [] [.t 1]),
    kx 17 (.k 0 [.t 15, .t 16])]) (.seq (.region none [mo 18 3, mo 2 18])
    .ret))))), false⟩
theorem newestD : policy_newest = newestF 22 := rfl

def xNewest (k : Nat) : Model := exM (orc [xSortStable [(k, xCmp)]]) (newestF k) 1000

theorem fill_one (z v : AVal) (hc : cells? v = some [v]) : fillA [z] [(0, 1, v)] = some [v] := by
  simp [fillA, hc, splice]
theorem append_one (T : St) (c : AVal) : appendA 1 8 .nils (.sl T.length 0 0 1 1) (T ++ [ABlock.live 0 [c]]) = some (.sl (T.length + 1) 0 0 1 1, T ++ [ABlock.live 0 [c]] ++ [ABlock.live 0 [c]]) := by
  simp [appendA, cellsOf]
theorem append_more {T : St} {r v i : Nat} {cs : List AVal} (hr : T[r]? = some (.live v cs)) (hl : cs.length = i) (hi : i < 1000000) (c : AVal) :
    appendA 1 8 (.sl r v 0 i 1) (.sl T.length 0 0 1 1) (T ++ [.live 0 [c]]) = some (.sl r (v + 1) 0 (i + 1) 1, (T ++ [ABlock.live 0 [c]]).set r (ABlock.live (v + 1) (cs ++ [c]))) := by
  have h1 : (T ++ [ABlock.live 0 [c]])[r]? = some (.live v cs) := by rw [List.getElem?_append_left (live_lt hr)]; exact hr
  have h2 : (T ++ [ABlock.live 0 [c]])[T.length]? = some (.live 0 [c]) := by simp
  have h3 : (i + 1) * 8 ≤ 140737488355328 := by omega
  simp [appendA, cellsOf, h1, h2, hl, List.take_of_length_le, h3]

/-- Places that have been laid. -/
def Laid (B : Nat) (S : St) (x : AVal) (i : Nat) (out : AVal) (T : St) : Prop :=
  Old B S T ∧ T[B]? = some (.live 0 [x]) ∧ ((i = 0 ∧ out = .nils ∧ T.length = B + 1) ∨ ∃ r v, 0 < i ∧ B < r ∧ out = .sl r v 0 i 1 ∧ T[r]? = some (.live v (pc (List.range i))))

theorem newest_round {O : Orc} {B n i : Nat} {S T : St} {x out : AVal} (h : Laid B S x i out T) (hi : i < n) (hn : n < 900) {f : Fr} (f3 : f.get 3 = out) (f6 : f.get 6 = .int .i64 (n : Int)) (f7 : f.get 7 = .int .i64 (i : Int)) {b : AVal} (f1 : f.get 1 = b) :
    Post (evC O 1000 policy_newest_l0 f T) fun e f' U => e = .normal ∧ f'.get 1 = b ∧ f'.get 6 = .int .i64 (n : Int) ∧ f'.get 7 = .int .i64 ((i + 1 : Nat) : Int) ∧ ∃ out', f'.get 3 = out' ∧ Laid B S x (i + 1) out' U := by
  have c1 : binA .lss (.int .i64 (i : Int)) (.int .i64 (n : Int)) = some (.bool true) := lss_t (by omega)
  have c2 : binA .add (.int .i64 (i : Int)) (.int .i64 1) = some (.int .i64 ((i + 1 : Nat) : Int)) := add_is (by omega) (by omega) (by omega)
  have c3 := fill_one (.int .i64 0) (.int .i64 (i : Int)) rfl
  obtain ⟨h1, h2, h3⟩ := h
  obtain ⟨out', U, c4, c5⟩ : ∃ out' U, appendA 1 8 out (.sl T.length 0 0 1 1) (T ++ [.live 0 [.int .i64 (i : Int)]]) = some (out', U) ∧ Laid B S x (i + 1) out' U := by
    rcases h3 with ⟨rfl, rfl, h4⟩ | ⟨r, v, h4, h5, rfl, h6⟩
    · refine ⟨_, _, append_one T _, ?_, ?_, .inr ⟨T.length + 1, 0, by omega, by omega, rfl, ?_⟩⟩
      · rw [List.append_assoc]; exact h1.trans ((Old.app T _).less (by omega))
      · rw [List.append_assoc, List.getElem?_append_left (by omega)]; exact h2
      · simp [pc]
    · have hlt := live_lt h6
      refine ⟨_, _, append_more h6 (by simp [pc]) (by omega) _, ?_, ?_, .inr ⟨r, v + 1, by omega, h5, rfl, ?_⟩⟩
      · intro q hq
        rw [List.getElem?_set, if_neg (by omega), List.getElem?_append_left (by omega)]; exact h1 q hq
      · rw [List.getElem?_set, if_neg (by omega), List.getElem?_append_left (by omega)]; exact h2
      · rw [List.getElem?_set_self (by simp; omega)]
        simp [pc, List.range_succ]
  suffices hmid : Post (evC O 1000 policy_newest_l0 f T) (fun e f' V => e = .normal ∧ f'.get 1 = b ∧ f'.get 6 = .int .i64 (n : Int) ∧ f'.get 7 = .int .i64 ((i + 1 : Nat) : Int) ∧ f'.get 3 = out' ∧ V = U) by
    refine hmid.mono ?_
    rintro e f' V ⟨k1, k2, k3, k4, k5, rfl⟩
    exact ⟨k1, k2, k3, k4, out', k5, c5⟩
  generalize ((i + 1 : Nat) : Int) = z1 at *
  simp [policy_newest_l0, exM, orc, orcD, evF, evC_skip, evC_region, evC_cond, evC_exit, evC_ret, evOps, evOper, evAny, evOp, evCall, putR, putA, Fr.ev, Fr.of, Fr.get, Fr.set, stable, junkA, junkL, resultsA, resA, same, Post_seq, Post_block, Post_some, Fr.get_set, f1, f3, f6, f7, c1, c2, c3, c4]

/-- The places, sorted. -/
def Order (l : List Nat) (d : List Nat) : Prop := d.Perm (List.range l.length) ∧ SB (L0 l) d

theorem sort_nil {D : List (FuncId × Model)} {k : Nat} {bx : AVal} (S : St) : xSortStable D [.nils, .fn (.func k) [] [bx]] S = some (.tup [], S) := by
  kernel_rfl

theorem newest_ok {B : Nat} {S : St} {x : AVal} {l : List Nat} (hx : Times B S x l) (hB : S.length = B) (hn : l.length ≤ 30) (k : Nat) :
    ∃ T out d, xNewest k [x] S = some (out, T) ∧ Old B S T ∧ B < T.length ∧ Order l d ∧ ((l.length = 0 ∧ out = .nils) ∨ ∃ r v, 0 < l.length ∧ B < r ∧ out = .sl r v 0 l.length 1 ∧ PL T r v d) := by
  obtain ⟨n, hnl⟩ : ∃ n, n = l.length := ⟨_, rfl⟩
  have hlen := hx.len
  rw [← hnl] at hlen hn ⊢
  obtain ⟨f', T1, g1, t1, out1, t3, hL⟩ : ∃ f' T, evC (orc [xSortStable [(k, xCmp)]]) 1000 policy_newest_s1 [(0, x), (1, .ptr B 0 0), (2, .nils), (3, .nils), (5, x), (6, .int .i64 (n : Int)), (7, .int .i64 0)] (S ++ [.live 0 [x]]) = some (.normal, f', T) ∧
      f'.get 1 = .ptr B 0 0 ∧ ∃ out, f'.get 3 = out ∧ Laid B S x n out T := by
    refine loop_post (O := orc [xSortStable [(k, xCmp)]]) (k := 1000) (id := 0) (b := policy_newest_l0)
      (I := fun i f T => f.get 1 = .ptr B 0 0 ∧ f.get 6 = .int .i64 (n : Int) ∧ f.get 7 = .int .i64 (i : Int) ∧ ∃ out, f.get 3 = out ∧ Laid B S x i out T)
      (Q := fun f T => f.get 1 = .ptr B 0 0 ∧ ∃ out, f.get 3 = out ∧ Laid B S x n out T) n (by omega) ?_ ?_ ?_
    · rintro i hi f T ⟨f1, f6, f7, out, f3, hL⟩
      exact newest_round hL hi (by omega) f3 f6 f7 f1
    · rintro f T ⟨f1, f6, f7, out, f3, hL⟩
      have c1 : binA .lss (.int .i64 (n : Int)) (.int .i64 (n : Int)) = some (.bool false) := lss_f (by omega)
      suffices hmid : Post (evC (orc [xSortStable [(k, xCmp)]]) 1000 policy_newest_l0 f T) (fun e f' U => e = .exit 0 ∧ f'.get 1 = .ptr B 0 0 ∧ f'.get 3 = out ∧ U = T) by
        refine hmid.mono ?_
        rintro e f' U ⟨k1, k2, k3, rfl⟩
        exact ⟨k1, k2, out, k3, hL⟩
      simp [policy_newest_l0, exM, orc, orcD, evF, evC_skip, evC_region, evC_cond, evC_exit, evC_ret, evOps, evOper, evAny, evOp, evCall, putR, putA, Fr.ev, Fr.of, Fr.get, Fr.set, stable, junkA, junkL, resultsA, resA, same, Post_seq, Post_block, Post_some, Fr.get_set, f1, f3, f6, f7, c1]
    · refine ⟨by simp [Fr.get], by simp [Fr.get], by simp [Fr.get], .nils, by simp [Fr.get], ?_, ?_, .inl ⟨rfl, rfl, by simp [hB]⟩⟩
      · rw [← hB]; exact Old.app S _
      · rw [← hB]; simp
  obtain ⟨h1, h2, h3⟩ := hL
  have hBT : B < T1.length := live_lt h2
  obtain ⟨T2, d, s1, s2, s3, s4, s5⟩ : ∃ T2 d, xSortStable [(k, xCmp)] [out1, .fn (.func k) [] [.ptr B 0 0]] T1 = some (.tup [], T2) ∧ Old B S T2 ∧ B < T2.length ∧ Order l d ∧ ((n = 0 ∧ out1 = .nils) ∨ ∃ r v, 0 < n ∧ B < r ∧ out1 = .sl r v 0 n 1 ∧ PL T2 r v d) := by
    rcases h3 with ⟨rfl, rfl, h4⟩ | ⟨r, v, h4, h5, rfl, h6⟩
    · exact ⟨T1, [], sort_nil T1, h1, hBT, ⟨by rw [← hnl]; exact List.Perm.refl _, List.Pairwise.nil⟩, .inl ⟨rfl, rfl⟩⟩
    · have hsb : Stb (L0 l) (List.range n) := List.Pairwise.imp (R := fun a b => a < b) (S := fun x y => L0 l x = L0 l y → x < y) (fun h _ => h) List.pairwise_lt_range
      have hC := cmp_Cm (B := B) (r0 := B) (r := r) (k := k) (x := x) (l := l) (by omega) (by omega)
      rw [← hnl] at hC
      obtain ⟨T2, d, q1, q2, q3, q4, q5⟩ := sort_ok hC hn (d := List.range n) (by simp) (by intro u hu; simpa using hu) (S := T1) ⟨h2, hx.go h1⟩ ⟨h6, by simp; omega⟩ hsb
      exact ⟨T2, d, q1, h1.trans (q3.old (by omega)), by rw [q3.1]; exact hBT, ⟨by rw [← hnl]; exact q4, q5⟩, .inr ⟨r, v, h4, h5, rfl, q2⟩⟩
  refine ⟨T2, out1, d, ?_, s2, s3, s4, s5⟩
  have l1 : loadA none (.ptr B 0 0) (S ++ [ABlock.live 0 [x]]) = some x := by rw [load_c (v := 0) (cs := [x]) (by rw [← hB]; simp)]; rfl
  have hc := hx.cell
  unfold xNewest exM
  refine evF_post (F := newestF k) rfl rfl ?_
  simp only [orc] at g1
  generalize xSortStable [(k, xCmp)] = m at *
  simp [newestF, exM, orc, orcD, evF, evC_skip, evC_region, evC_cond, evC_exit, evC_ret, evOps, evOper, evAny, evOp, evCall, putR, putA, Fr.ev, Fr.of, Fr.get, Fr.set, stable, junkA, junkL, resultsA, resA, same, Post_seq, Post_block, Post_some, hc, hB, l1, hlen]
  refine Post.of g1 ?_
  simp [exM, orc, orcD, evF, evC_skip, evC_region, evC_cond, evC_exit, evC_ret, evOps, evOper, evAny, evOp, evCall, putR, putA, Fr.ev, Fr.of, Fr.get, Fr.set, stable, junkA, junkL, resultsA, resA, same, Post_seq, Post_block, Post_some, Fr.get_set, t1, t3, s1]
end Am.Pol
end

