import Derived.Test.YtgbifohffmdgeaaDoorAmPq2
set_option linter.all false
/- The document's behind. -/
section
namespace Am.Pol
open Am Go Am.Ir
set_option maxRecDepth 100000
attribute [local congr] Post_cg
attribute [local simp] ox oz kx kz og ogz kg kgz mo ai

/-- A greater time of the same slot. -/
def hitB (l : List Nat) (k i j : Nat) : Bool := decide (bf (L0 l) j i) && slK l k j == slK l k i
def cntB (l : List Nat) (k i j : Nat) : Bool := firstB l k j && decide (slK l k i < slK l k j)

theorem headB_hit (l : List Nat) (k i : Nat) : headB l k i = (List.range l.length).all fun j => !hitB l k i j := rfl
theorem behN_cnt (l : List Nat) (k i : Nat) : behN l k i = ((List.range l.length).filter (cntB l k i)).length := rfl

def behT : ACode := .seq (.region none [ox 11 (.mv (.c (.bool true)))]) r30_behind_t2
theorem b3_eq : r30_behind_b3 =
  .block 1 (.seq (.seq (.region none [mo 25 10, mo 26 1, ox 27 (.bin .neq (.t 25) (.t 26)),
    mo 28 27, og 28 true 29 (.mv (.t 0)), og 28 true 30 (.mv (.t 10)),
    og 28 true 31 (.iaddrS 1 (.t 29) (.t 30)), og 28 true 32 (.load none (.t 31)),
    og 28 true 33 (.mv (.t 2)), kg 28 true 34 (.k 0 [.t 32, .t 33]), og 28 true 35 (.mv (.t 9)),
    og 28 true 36 (.bin .eql (.t 34) (.t 35)), ox 37 (.pick (.t 28) (.t 36) (.c (.bool false))),
    mo 38 37, og 38 true 39 (.mv (.t 0)), og 38 true 40 (.mv (.t 10)),
    og 38 true 41 (.mv (.t 1)), kg 38 true 42 (.k 1 [.t 39, .t 40, .t 41]),
    ox 43 (.pick (.t 38) (.t 42) (.c (.bool false)))]) (.cond (.t 43) (.seq (.region none [ox 6 (.mv (ai 0)),
    ox 7 (.mv (.c (.bool false)))]) .ret) .skip)) behT) := rfl

theorem behind_round {B : Nat} {x : AVal} {l : List Nat} {S : St} (h : Times B S x l) (hl : U64 l) (hn : l.length < 900) {i k j n : Nat} (hi : i < l.length) (hj : j < l.length) (hnn : n < 1000000) {f : Fr} (hf : BehF f x i k (slK l k i) j n) :
    Post (evC oBehind 1000 r30_behind_l5 f S) fun e f' T => T = S ∧ if hitB l k i j = true then e = .ret ∧ f'.get 6 = .int .i64 0 ∧ f'.get 7 = .bool false else e = .normal ∧ BehF f' x i k (slK l k i) (j + 1) (n + if cntB l k i j = true then 1 else 0) := by
  obtain ⟨b, b1, b2⟩ := h.get S (Old.refl B S) j hj
  have q2 := slot2_ok (L0 l j) (hl.get _) (k : Int) S
  have q3 := greater_ok h hj hi
  have hlen := h.len
  have key := fun f hf f11 f12 => first_loop (f := f) (i := i) (k := k) (s := slK l k i) (j := j) (n := n) h hl hn hj hf f11 f12
  have c1 : binA .lss (.int .i64 (j : Int)) (.int .i64 (l.length : Int)) = some (.bool true) := lss_t (by omega)
  have c2 : binA .add (.int .i64 (j : Int)) (.int .i64 1) = some (.int .i64 ((j + 1 : Nat) : Int)) := add_is (by omega) (by omega) (by omega)
  have c3 : binA .neq (.int .i64 (j : Int)) (.int .i64 (i : Int)) = some (.bool (!(j == i))) := by
    by_cases e : j = i
    · rw [neq_f (by omega)]; simp [e]
    · rw [neq_t (by omega)]; simp [e]
  have c4 : binA .eql (.int .u64 (slotN (L0 l j) k : Int)) (.int .u64 (slK l k i : Int)) = some (.bool (slK l k j == slK l k i)) := by
    unfold slK
    by_cases e : slotN (L0 l j) k = slotN (L0 l i) k
    · rw [eql_t (by omega)]; simp [e]
    · rw [eql_f (by omega)]; simp [e]
  have c5 : binA .gtr (.int .u64 (slotN (L0 l j) k : Int)) (.int .u64 (slK l k i : Int)) = some (.bool (decide (slK l k i < slK l k j))) := by
    unfold slK
    by_cases e : slotN (L0 l i) k < slotN (L0 l j) k
    · rw [gtr_t (by omega)]; simp [e]
    · rw [gtr_f (by omega)]; simp [e]
  have c6 : binA .add (.int .i64 (n : Int)) (.int .i64 1) = some (.int .i64 ((n + 1 : Nat) : Int)) := add_is (by omega) (by omega) (by omega)
  have hhit : hitB l k i j = (!(j == i) && (slK l k j == slK l k i) && decide (bf (L0 l) j i)) := by
    unfold hitB
    by_cases e : j = i
    · subst e
      have : ¬ bf (L0 l) j j := fun h => h.irr
      simp [this]
    · have : (j == i) = false := by simpa using e
      rw [this]; simp [Bool.and_comm]
  -- behind the two tests
  have tail : ∀ f, BehF f x i k (slK l k i) j n → Post (evC oBehind 1000 behT f S)
      (fun e f' T => e = .normal ∧ T = S ∧ BehF f' x i k (slK l k i) j (n + if cntB l k i j = true then 1 else 0)) := by
    intro f hf
    obtain ⟨s0, s1, s2, s8, s9, s10⟩ := hf
    have fin : ∀ (f' : Fr), (f'.get 0 = x ∧ f'.get 1 = .int .i64 (i : Int) ∧ f'.get 2 = .int .i64 (k : Int) ∧ f'.get 8 = .int .i64 ((n + (if cntB l k i j = true then 1 else 0) : Nat) : Int) ∧ f'.get 9 = .int .u64 (slK l k i : Int) ∧ f'.get 10 = .int .i64 (j : Int)) → BehF f' x i k (slK l k i) j (n + if cntB l k i j = true then 1 else 0) :=
      fun f' ⟨k1, k2, k3, k4, k5, k6⟩ => ⟨k1, k2, k3, k4, k5, k6⟩
    simp [behT, r30_behind_t2, exM, orc, orcD, evF, evC_skip, evC_region, evC_cond, evC_exit, evC_ret, evOps, evOper, evAny, evOp, evCall, putR, putA, Fr.ev, Fr.of, Fr.get, Fr.set, stable, junkA, junkL, resultsA, resA, same, Post_seq, Post_block, Post_some]
    refine (Post.ran (key _ ?_ ?_ ?_)).mono ?_
    · exact ⟨by simp [Fr.get_set, s0], by simp [Fr.get_set, s1], by simp [Fr.get_set, s2], by simp [Fr.get_set, s8], by simp [Fr.get_set, s9], by simp [Fr.get_set, s10]⟩
    · simp [Fr.get_set]
    · simp [Fr.get_set]
    rintro _ f1 T ⟨rfl, rfl, ⟨t0, t1, t2, t8, t9, t10⟩, t11⟩
    rw [if_pos rfl]
    generalize hR : (fun (f' : Fr) => BehF f' x i k (slK l k i) j (n + if cntB l k i j = true then 1 else 0)) = R
    have hR' : ∀ f', BehF f' x i k (slK l k i) j (n + if cntB l k i j = true then 1 else 0) = R f' := fun f' => by rw [← hR]
    simp only [hR'] at fin ⊢
    unfold cntB at fin
    unfold oBehind at *
    generalize firstB l k j = u at *
    generalize decide (slK l k i < slK l k j) = w at *
    generalize ((j + 1 : Nat) : Int) = z1 at *
    obtain ⟨z2, hz2⟩ : ∃ z, ((n + 1 : Nat) : Int) = z := ⟨_, rfl⟩
    rw [hz2] at c6
    cases u
    · simp [exM, orc, orcD, evF, evC_skip, evC_region, evC_cond, evC_exit, evC_ret, evOps, evOper, evAny, evOp, evCall, putR, putA, Fr.ev, Fr.of, Fr.get, Fr.set, stable, junkA, junkL, resultsA, resA, same, Post_seq, Post_block, Post_some, Fr.get_set, t0, t1, t2, t8, t9, t10, t11, c2]
      refine fin _ ?_
      simp [Fr.get_set, t0, t1, t2, t8, t9, t10]
    · cases w
      · simp [exM, orc, orcD, evF, evC_skip, evC_region, evC_cond, evC_exit, evC_ret, evOps, evOper, evAny, evOp, evCall, putR, putA, Fr.ev, Fr.of, Fr.get, Fr.set, stable, junkA, junkL, resultsA, resA, same, Post_seq, Post_block, Post_some, Fr.get_set, t0, t1, t2, t8, t9, t10, t11, c2, b1, b2, q2, c5]
        refine fin _ ?_
        simp [Fr.get_set, t0, t1, t2, t8, t9, t10]
      · simp [exM, orc, orcD, evF, evC_skip, evC_region, evC_cond, evC_exit, evC_ret, evOps, evOper, evAny, evOp, evCall, putR, putA, Fr.ev, Fr.of, Fr.get, Fr.set, stable, junkA, junkL, resultsA, resA, same, Post_seq, Post_block, Post_some, Fr.get_set, t0, t1, t2, t8, t9, t10, t11, c2, b1, b2, q2, c5, c6]
        refine fin _ ?_
        simp only [Bool.and_self, if_true, hz2]
        simp [Fr.get_set, t0, t1, t2, t8, t9, t10]
  obtain ⟨n', hn'⟩ : ∃ n', n' = n + if cntB l k i j = true then 1 else 0 := ⟨_, rfl⟩
  rw [← hn'] at tail ⊢
  obtain ⟨s0, s1, s2, s8, s9, s10⟩ := hf
  rw [hhit]
  have fin : ∀ (f' : Fr), (f'.get 0 = x ∧ f'.get 1 = .int .i64 (i : Int) ∧ f'.get 2 = .int .i64 (k : Int) ∧ f'.get 8 = .int .i64 (n' : Int) ∧ f'.get 9 = .int .u64 (slK l k i : Int) ∧ f'.get 10 = .int .i64 ((j + 1 : Nat) : Int)) → BehF f' x i k (slK l k i) (j + 1) n' :=
    fun f' ⟨k1, k2, k3, k4, k5, k6⟩ => ⟨k1, k2, k3, k4, k5, k6⟩
  generalize (slK l k j == slK l k i) = u at *
  generalize decide (bf (L0 l) j i) = w at *
  generalize hR : (fun (f' : Fr) => BehF f' x i k (slK l k i) (j + 1) n') = R
  have hR' : ∀ f', BehF f' x i k (slK l k i) (j + 1) n' = R f' := fun f' => by rw [← hR]
  simp only [hR'] at fin ⊢
  generalize ((j + 1 : Nat) : Int) = z1 at *
  cases e : (!(j == i) && u && w)
  · have fin2 : ∀ f1 T, (Ex.normal = Ex.normal ∧ T = S ∧ BehF f1 x i k (slK l k i) j n') → T = S ∧ R (((f1.set 23 (.int .i64 (j : Int))).set 24 (.int .i64 z1)).set 10 (.int .i64 z1)) := by
      rintro f1 T ⟨_, hT, ⟨t0, t1, t2, t8, t9, t10⟩⟩
      refine ⟨hT, fin _ ?_⟩
      simp [Fr.get_set, t0, t1, t2, t8, t9, t10]
    have cases3 : ∀ q : Bool, (!q && u && w) = false → q = true ∨ (q = false ∧ u = false) ∨ (q = false ∧ u = true ∧ w = false) := by
      intro q; cases q <;> cases u <;> cases w <;> simp
    unfold oBehind at *
    rcases cases3 _ e with e1 | ⟨e1, rfl⟩ | ⟨e1, rfl, rfl⟩
    · rw [e1] at c3
      simp [r30_behind_l5, r30_behind_t4, b3_eq, exM, orc, orcD, evF, evC_skip, evC_region, evC_cond, evC_exit, evC_ret, evOps, evOper, evAny, evOp, evCall, putR, putA, Fr.ev, Fr.of, Fr.get, Fr.set, stable, junkA, junkL, resultsA, resA, same, Post_seq, Post_block, Post_some, Fr.get_set, s0, s1, s2, s8, s9, s10, hlen, c1, c3]
      refine (tail _ ?_).mono ?_
      · exact ⟨by simp [Fr.get_set, s0], by simp [Fr.get_set, s1], by simp [Fr.get_set, s2], by simp [Fr.get_set, s8], by simp [Fr.get_set, s9], by simp [Fr.get_set, s10]⟩
      rintro _ f1 T ⟨rfl, hT, hf1⟩
      have t10 := hf1.s10
      simp [exM, orc, orcD, evF, evC_skip, evC_region, evC_cond, evC_exit, evC_ret, evOps, evOper, evAny, evOp, evCall, putR, putA, Fr.ev, Fr.of, Fr.get, Fr.set, stable, junkA, junkL, resultsA, resA, same, Post_seq, Post_block, Post_some, Fr.get_set, t10, c2]
      exact fin2 f1 T ⟨rfl, hT, hf1⟩
    · rw [e1] at c3
      simp [r30_behind_l5, r30_behind_t4, b3_eq, exM, orc, orcD, evF, evC_skip, evC_region, evC_cond, evC_exit, evC_ret, evOps, evOper, evAny, evOp, evCall, putR, putA, Fr.ev, Fr.of, Fr.get, Fr.set, stable, junkA, junkL, resultsA, resA, same, Post_seq, Post_block, Post_some, Fr.get_set, s0, s1, s2, s8, s9, s10, hlen, c1, c3, b1, b2, q2, c4]
      refine (tail _ ?_).mono ?_
      · exact ⟨by simp [Fr.get_set, s0], by simp [Fr.get_set, s1], by simp [Fr.get_set, s2], by simp [Fr.get_set, s8], by simp [Fr.get_set, s9], by simp [Fr.get_set, s10]⟩
      rintro _ f1 T ⟨rfl, hT, hf1⟩
      have t10 := hf1.s10
      simp [exM, orc, orcD, evF, evC_skip, evC_region, evC_cond, evC_exit, evC_ret, evOps, evOper, evAny, evOp, evCall, putR, putA, Fr.ev, Fr.of, Fr.get, Fr.set, stable, junkA, junkL, resultsA, resA, same, Post_seq, Post_block, Post_some, Fr.get_set, t10, c2]
      exact fin2 f1 T ⟨rfl, hT, hf1⟩
    · rw [e1] at c3
      simp [r30_behind_l5, r30_behind_t4, b3_eq, exM, orc, orcD, evF, evC_skip, evC_region, evC_cond, evC_exit, evC_ret, evOps, evOper, evAny, evOp, evCall, putR, putA, Fr.ev, Fr.of, Fr.get, Fr.set, stable, junkA, junkL, resultsA, resA, same, Post_seq, Post_block, Post_some, Fr.get_set, s0, s1, s2, s8, s9, s10, hlen, c1, c3, b1, b2, q2, c4, q3]
      refine (tail _ ?_).mono ?_
      · exact ⟨by simp [Fr.get_set, s0], by simp [Fr.get_set, s1], by simp [Fr.get_set, s2], by simp [Fr.get_set, s8], by simp [Fr.get_set, s9], by simp [Fr.get_set, s10]⟩
      rintro _ f1 T ⟨rfl, hT, hf1⟩
      have t10 := hf1.s10
      simp [exM, orc, orcD, evF, evC_skip, evC_region, evC_cond, evC_exit, evC_ret, evOps, evOper, evAny, evOp, evCall, putR, putA, Fr.ev, Fr.of, Fr.get, Fr.set, stable, junkA, junkL, resultsA, resA, same, Post_seq, Post_block, Post_some, Fr.get_set, t10, c2]
      exact fin2 f1 T ⟨rfl, hT, hf1⟩
  · simp only [Bool.and_eq_true] at e
    obtain ⟨⟨e1, e2⟩, e3⟩ := e
    subst e2; subst e3
    rw [e1] at c3
    unfold oBehind at *
    simp [r30_behind_l5, r30_behind_t4, r30_behind_b3, exM, orc, orcD, evF, evC_skip, evC_region, evC_cond, evC_exit, evC_ret, evOps, evOper, evAny, evOp, evCall, putR, putA, Fr.ev, Fr.of, Fr.get, Fr.set, stable, junkA, junkL, resultsA, resA, same, Post_seq, Post_block, Post_some, Fr.get_set, s0, s1, s2, s8, s9, s10, hlen, c1, c3, b1, b2, q2, c4, q3]

def xBehind : Model := exM oBehind r30_behind 1000

theorem behind_ok {B : Nat} {x : AVal} {l : List Nat} {S : St} (h : Times B S x l) (hl : U64 l) (hn : l.length < 900) {i k : Nat} (hi : i < l.length) :
    xBehind [x, .int .i64 (i : Int), .int .i64 (k : Int)] S = some (.tup [.int .i64 ((if headB l k i = true then behN l k i else 0 : Nat) : Int), .bool (headB l k i)], S) := by
  obtain ⟨b, b1, b2⟩ := h.get S (Old.refl B S) i hi
  have q2 := slot2_ok (L0 l i) (hl.get _) (k : Int) S
  have q2' : mSlot2 [.int .u64 (L0 l i : Int), .int .i64 (k : Int)] S = some (.int .u64 (slK l k i : Int), S) := q2
  have cnt : ∀ j, ((List.range (j + 1)).filter (cntB l k i)).length = ((List.range j).filter (cntB l k i)).length + if cntB l k i j = true then 1 else 0 := by
    intro j
    rw [List.range_succ, List.filter_append, List.length_append]
    congr 1
    by_cases hc : cntB l k i j = true
    · rw [if_pos hc, List.filter_cons_of_pos hc]; simp
    · rw [if_neg hc, List.filter_cons_of_neg hc]; simp
  have hcl : ∀ j, ((List.range j).filter (cntB l k i)).length ≤ j := fun j => by
    have := List.length_filter_le (cntB l k i) (List.range j); simpa using this
  have key : ∀ f, BehF f x i k (slK l k i) 0 0 → Post (evC oBehind 1000 r30_behind_s6 f S) fun e f' T => (e = .normal ∨ e = .ret) ∧ (T = S ∧ if headB l k i = true then e = .normal ∧ f'.get 8 = .int .i64 (behN l k i : Int) else e = .ret ∧ f'.get 6 = .int .i64 0 ∧ f'.get 7 = .bool false) := by
    intro f hf
    refine loop_measR (O := oBehind) (k := 1000) (id := 0) (b := r30_behind_l5) (m := l.length)
      (I := fun c f T => ∃ j, j + c = l.length ∧ T = S ∧ BehF f x i k (slK l k i) j ((List.range j).filter (cntB l k i)).length ∧ ∀ a, a < j → hitB l k i a = false)
      (Q := fun e f' T => T = S ∧ if headB l k i = true then e = .normal ∧ f'.get 8 = .int .i64 (behN l k i : Int) else e = .ret ∧ f'.get 6 = .int .i64 0 ∧ f'.get 7 = .bool false) ?_ (by omega) ⟨0, by omega, rfl, hf, by omega⟩
    rintro c f T ⟨j, hc, hT, hf, ha⟩
    rw [hT]
    by_cases hj : j < l.length
    · refine (behind_round h hl hn hi hj (by have := hcl j; omega) hf).mono ?_
      rintro e f' U ⟨hU, hq⟩
      by_cases hh : hitB l k i j = true
      · rw [if_pos hh] at hq
        obtain ⟨rfl, h6, h7⟩ := hq
        have hd : ¬ headB l k i = true := by
          rw [headB_hit]; simp only [List.all_eq_true, List.mem_range, Bool.not_eq_true']
          intro hx; rw [hx j hj] at hh; cases hh
        exact .inr (.inr ⟨rfl, hU, by rw [if_neg hd]; exact ⟨rfl, h6, h7⟩⟩)
      · rw [if_neg hh] at hq
        obtain ⟨rfl, hf'⟩ := hq
        rw [← cnt] at hf'
        refine .inl ⟨rfl, c - 1, by omega, j + 1, by omega, hU, hf', fun a ha' => ?_⟩
        by_cases e : a = j
        · subst e; simpa using hh
        · exact ha a (by omega)
    · have hd : headB l k i = true := by
        rw [headB_hit]; simp only [List.all_eq_true, List.mem_range, Bool.not_eq_true']
        intro a ha'; exact ha a (by omega)
      have hje : j = l.length := by omega
      subst hje
      obtain ⟨s0, s1, s2, s8, s9, s10⟩ := hf
      have hlen := h.len
      have c1 : binA .lss (.int .i64 (l.length : Int)) (.int .i64 (l.length : Int)) = some (.bool false) := lss_f (by omega)
      rw [← behN_cnt] at s8
      suffices hmid : Post (evC oBehind 1000 r30_behind_l5 f S) (fun e f' U => e = .exit 0 ∧ U = S ∧ f'.get 8 = .int .i64 (behN l k i : Int)) by
        refine hmid.mono ?_
        rintro e f' U ⟨rfl, hU, h8⟩
        exact .inr (.inl ⟨rfl, hU, by rw [if_pos hd]; exact ⟨rfl, h8⟩⟩)
      simp [r30_behind_l5, exM, orc, orcD, evF, evC_skip, evC_region, evC_cond, evC_exit, evC_ret, evOps, evOper, evAny, evOp, evCall, putR, putA, Fr.ev, Fr.of, Fr.get, Fr.set, stable, junkA, junkL, resultsA, resA, same, Post_seq, Post_block, Post_some, Fr.get_set, s0, s8, s10, hlen, c1]
  unfold xBehind exM
  refine evF_post (F := r30_behind) rfl rfl ?_
  simp only [oBehind] at key ⊢
  generalize slK l k i = sl at *
  simp [r30_behind, r30_behind_t7, exM, orc, orcD, evF, evC_skip, evC_region, evC_cond, evC_exit, evC_ret, evOps, evOper, evAny, evOp, evCall, putR, putA, Fr.ev, Fr.of, Fr.get, Fr.set, stable, junkA, junkL, resultsA, resA, same, Post_seq, Post_block, Post_some, b1, b2, q2']
  refine (key _ ?_).mono ?_
  · exact ⟨by simp [Fr.get], by simp [Fr.get], by simp [Fr.get], by simp [Fr.get], by simp [Fr.get], by simp [Fr.get]⟩
  rintro e f T ⟨_, rfl, hq⟩
  generalize headB l k i = hb at *
  cases hb
  · rw [if_neg (by simp)] at hq
    obtain ⟨rfl, h6, h7⟩ := hq
    simp [exM, orc, orcD, evF, evC_skip, evC_region, evC_cond, evC_exit, evC_ret, evOps, evOper, evAny, evOp, evCall, putR, putA, Fr.ev, Fr.of, Fr.get, Fr.set, stable, junkA, junkL, resultsA, resA, same, Post_seq, Post_block, Post_some, h6, h7]
  · rw [if_pos rfl] at hq
    obtain ⟨rfl, h8⟩ := hq
    simp [exM, orc, orcD, evF, evC_skip, evC_region, evC_cond, evC_exit, evC_ret, evOps, evOper, evAny, evOp, evCall, putR, putA, Fr.ev, Fr.of, Fr.get, Fr.set, stable, junkA, junkL, resultsA, resA, same, Post_seq, Post_block, Post_some, Fr.get_set, h8]
end Am.Pol
end

/- The document's stays. -/
section
namespace Am.Pol
open Am Go Am.Ir
set_option maxRecDepth 100000
attribute [local congr] Post_cg
attribute [local simp] ox oz kx kz og ogz kg kgz mo ai

def oStays : Orc := orc [xGreater, xBehind]

structure StyF (f : Fr) (x : AVal) (i rp : Nat) : Prop where
  s0 : f.get 0 = x
  s1 : f.get 1 = .int .i64 (i : Int)
  s5 : f.get 5 = .ptr rp 0 0

theorem rank_cnt (l : List Nat) (i j : Nat) : ((List.range (j + 1)).filter fun j => decide (bf (L0 l) j i)).length = ((List.range j).filter fun j => decide (bf (L0 l) j i)).length + if decide (bf (L0 l) j i) = true then 1 else 0 := by
  rw [List.range_succ, List.filter_append, List.length_append]
  congr 1
  by_cases hc : decide (bf (L0 l) j i) = true
  · rw [if_pos hc]; simp only [decide_eq_true_eq] at hc; simp [hc]
  · rw [if_neg hc]; simp only [decide_eq_true_eq] at hc; simp [hc]

theorem rank_loop {B : Nat} {x : AVal} {l : List Nat} {S : St} (h : Times B S x l) (hn : l.length < 900) {i rp : Nat} (hi : i < l.length) {f : Fr} (hf : StyF f x i rp) (f7 : f.get 7 = .int .i64 0) (f8 : f.get 8 = .int .i64 0) :
    ∃ f' T, evC oStays 1000 r30_stays_s1 f S = some (.normal, f', T) ∧ T = S ∧ StyF f' x i rp ∧ f'.get 7 = .int .i64 (rankN l i : Int) := by
  have hlen := h.len
  have hcl : ∀ j, ((List.range j).filter fun j => decide (bf (L0 l) j i)).length ≤ j := fun j => by
    have := List.length_filter_le (fun j => decide (bf (L0 l) j i)) (List.range j); simpa using this
  refine loop_post (O := oStays) (k := 1000) (id := 0) (b := r30_stays_l0)
    (I := fun j f T => T = S ∧ StyF f x i rp ∧ f.get 7 = .int .i64 (((List.range j).filter fun j => decide (bf (L0 l) j i)).length : Int) ∧ f.get 8 = .int .i64 (j : Int))
    (Q := fun f T => T = S ∧ StyF f x i rp ∧ f.get 7 = .int .i64 (rankN l i : Int)) l.length (by omega) ?_ ?_ ⟨rfl, hf, f7, f8⟩
  · rintro j hj f T ⟨hT, ⟨s0, s1, s5⟩, f7, f8⟩
    rw [hT]
    have q3 := greater_ok h hj hi
    have c1 : binA .lss (.int .i64 (j : Int)) (.int .i64 (l.length : Int)) = some (.bool true) := lss_t (by omega)
    have c2 : binA .add (.int .i64 (j : Int)) (.int .i64 1) = some (.int .i64 ((j + 1 : Nat) : Int)) := add_is (by omega) (by omega) (by omega)
    have hc := rank_cnt l i j
    have hb := hcl j
    generalize ((List.range (j + 1)).filter fun j => decide (bf (L0 l) j i)).length = n1 at *
    generalize ((List.range j).filter fun j => decide (bf (L0 l) j i)).length = n0 at *
    have c4 : binA .add (.int .i64 (n0 : Int)) (.int .i64 1) = some (.int .i64 ((n0 + 1 : Nat) : Int)) := add_is (by omega) (by omega) (by omega)
    suffices hmid : Post (evC oStays 1000 r30_stays_l0 f S) (fun e f' T => e = .normal ∧ T = S ∧ f'.get 0 = x ∧ f'.get 1 = .int .i64 (i : Int) ∧ f'.get 5 = .ptr rp 0 0 ∧ f'.get 7 = .int .i64 (n1 : Int) ∧ f'.get 8 = .int .i64 ((j + 1 : Nat) : Int)) by
      refine hmid.mono ?_
      rintro e f' T ⟨k1, k2, k3, k4, k5, k6, k7⟩
      exact ⟨k1, k2, ⟨k3, k4, k5⟩, k6, k7⟩
    generalize ((j + 1 : Nat) : Int) = z1 at *
    unfold oStays
    by_cases e : j = i
    · have c3 : binA .neq (.int .i64 (j : Int)) (.int .i64 (i : Int)) = some (.bool false) := neq_f (by omega)
      have hd : decide (bf (L0 l) j i) = false := by subst e; simpa using fun h : bf (L0 l) j j => h.irr
      rw [hd, if_neg (by simp), Nat.add_zero] at hc
      subst hc
      simp [r30_stays_l0, exM, orc, orcD, evF, evC_skip, evC_region, evC_cond, evC_exit, evC_ret, evOps, evOper, evAny, evOp, evCall, putR, putA, Fr.ev, Fr.of, Fr.get, Fr.set, stable, junkA, junkL, resultsA, resA, same, Post_seq, Post_block, Post_some, Fr.get_set, s0, s1, s5, f7, f8, hlen, c1, c2, c3]
    · have c3 : binA .neq (.int .i64 (j : Int)) (.int .i64 (i : Int)) = some (.bool true) := neq_t (by omega)
      generalize decide (bf (L0 l) j i) = w at *
      cases w
      · rw [if_neg (by simp), Nat.add_zero] at hc
        subst hc
        simp [r30_stays_l0, exM, orc, orcD, evF, evC_skip, evC_region, evC_cond, evC_exit, evC_ret, evOps, evOper, evAny, evOp, evCall, putR, putA, Fr.ev, Fr.of, Fr.get, Fr.set, stable, junkA, junkL, resultsA, resA, same, Post_seq, Post_block, Post_some, Fr.get_set, s0, s1, s5, f7, f8, hlen, c1, c2, c3, q3]
      · rw [if_pos rfl] at hc
        subst hc
        generalize ((n0 + 1 : Nat) : Int) = z2 at *
        simp [r30_stays_l0, exM, orc, orcD, evF, evC_skip, evC_region, evC_cond, evC_exit, evC_ret, evOps, evOper, evAny, evOp, evCall, putR, putA, Fr.ev, Fr.of, Fr.get, Fr.set, stable, junkA, junkL, resultsA, resA, same, Post_seq, Post_block, Post_some, Fr.get_set, s0, s1, s5, f7, f8, hlen, c1, c2, c3, c4, q3]
  · rintro f T ⟨hT, ⟨s0, s1, s5⟩, f7, f8⟩
    rw [hT]
    have c1 : binA .lss (.int .i64 (l.length : Int)) (.int .i64 (l.length : Int)) = some (.bool false) := lss_f (by omega)
    have f7' : f.get 7 = .int .i64 (rankN l i : Int) := f7
    suffices hmid : Post (evC oStays 1000 r30_stays_l0 f S) (fun e f' T => e = .exit 0 ∧ T = S ∧ f'.get 0 = x ∧ f'.get 1 = .int .i64 (i : Int) ∧ f'.get 5 = .ptr rp 0 0 ∧ f'.get 7 = .int .i64 (rankN l i : Int)) by
      refine hmid.mono ?_
      rintro e f' T ⟨k1, k2, k3, k4, k5, k6⟩
      exact ⟨k1, k2, ⟨k3, k4, k5⟩, k6⟩
    simp [r30_stays_l0, exM, orc, orcD, evF, evC_skip, evC_region, evC_cond, evC_exit, evC_ret, evOps, evOper, evAny, evOp, evCall, putR, putA, Fr.ev, Fr.of, Fr.get, Fr.set, stable, junkA, junkL, resultsA, resA, same, Post_seq, Post_block, Post_some, Fr.get_set, s0, s1, s5, f7', f8, hlen, c1]

def Pc.four (p : Pc) : List AVal := [.int .i64 p.hours, .int .i64 p.days, .int .i64 p.weeks, .int .i64 p.months]
/-- Whether some kind keeps a place. -/
def kindB (l : List Nat) (p : Pc) (i k : Nat) : Bool := headB l k i && decide ((behN l k i : Int) < p.many k)

theorem kinds_loop {B : Nat} {x : AVal} {l : List Nat} {S : St} (h : Times B S x l) (hl : U64 l) (hn : l.length < 900) {i rp rm : Nat} (hi : i < l.length) {p : Pc} (hm : S[rm]? = some (.live 0 p.four)) {f : Fr} (hf : StyF f x i rp) (f9 : f.get 9 = .ptr rm 0 0) (f10 : f.get 10 = .int .i64 0) :
    Post (evC oStays 1000 r30_stays_s3 f S) fun e f' T => (e = .normal ∨ e = .ret) ∧ (T = S ∧ if (List.range 4).any (kindB l p i) = true then e = .ret ∧ f'.get 6 = .bool true else e = .normal) := by
  refine loop_measR (O := oStays) (k := 1000) (id := 2) (b := r30_stays_l2) (m := 4)
    (I := fun c f T => ∃ k, k + c = 4 ∧ T = S ∧ StyF f x i rp ∧ f.get 9 = .ptr rm 0 0 ∧ f.get 10 = .int .i64 (k : Int) ∧ ∀ a, a < k → kindB l p i a = false)
    (Q := fun e f' T => T = S ∧ if (List.range 4).any (kindB l p i) = true then e = .ret ∧ f'.get 6 = .bool true else e = .normal) ?_ (by omega) ⟨0, by omega, rfl, hf, f9, f10, by omega⟩
  rintro c f T ⟨k, hc, hT, ⟨s0, s1, s5⟩, f9, f10, ha⟩
  rw [hT]
  by_cases hk : k < 4
  · have q := behind_ok h hl hn hi (k := k)
    have c1 : binA .lss (.int .i64 (k : Int)) (.int .i64 4) = some (.bool true) := lss_t (by omega)
    have c2 : binA .add (.int .i64 (k : Int)) (.int .i64 1) = some (.int .i64 ((k + 1 : Nat) : Int)) := add_is (by omega) (by omega) (by omega)
    have c3 : iaddrAA 1 4 (.ptr rm 0 0) (.int .i64 (k : Int)) = some (.ptr rm 0 k) := by rw [iaA (by omega) (by omega)]; simp
    have c4 : loadA none (.ptr rm 0 k) S = some (.int .i64 (p.many k)) := by
      rw [load_c hm]
      obtain rfl | rfl | rfl | rfl : k = 0 ∨ k = 1 ∨ k = 2 ∨ k = 3 := by omega
      all_goals rfl
    have hkb : kindB l p i k = (headB l k i && decide ((behN l k i : Int) < p.many k)) := rfl
    by_cases hh : headB l k i = true
    · rw [hh, if_pos rfl] at q
      have c5 : binA .lss (.int .i64 (behN l k i : Int)) (.int .i64 (p.many k)) = some (.bool (kindB l p i k)) := by rw [hkb, hh, Bool.true_and]; rfl
      by_cases hkk : kindB l p i k = true
      · rw [hkk] at c5
        suffices hmid : Post (evC oStays 1000 r30_stays_l2 f S) (fun e f' T => e = .ret ∧ T = S ∧ f'.get 6 = .bool true) by
          refine hmid.mono ?_
          rintro e f' U ⟨k1, k2, k3⟩
          refine .inr (.inr ⟨k1, k2, ?_⟩)
          rw [if_pos]; exact ⟨rfl, k3⟩
          simp only [List.any_eq_true, List.mem_range]; exact ⟨k, hk, hkk⟩
        unfold oStays
        simp [r30_stays_l2, exM, orc, orcD, evF, evC_skip, evC_region, evC_cond, evC_exit, evC_ret, evOps, evOper, evAny, evOp, evCall, putR, putA, Fr.ev, Fr.of, Fr.get, Fr.set, stable, junkA, junkL, resultsA, resA, same, Post_seq, Post_block, Post_some, Fr.get_set, s0, s1, s5, f9, f10, c1, q, c3, c4, c5]
      · rw [show kindB l p i k = false by simpa using hkk] at c5
        suffices hmid : Post (evC oStays 1000 r30_stays_l2 f S) (fun e f' T => e = .normal ∧ T = S ∧ f'.get 0 = x ∧ f'.get 1 = .int .i64 (i : Int) ∧ f'.get 5 = .ptr rp 0 0 ∧ f'.get 9 = .ptr rm 0 0 ∧ f'.get 10 = .int .i64 ((k + 1 : Nat) : Int)) by
          refine hmid.mono ?_
          rintro e f' U ⟨k1, k2, k3, k4, k5, k6, k7⟩
          refine .inl ⟨k1, c - 1, by omega, k + 1, by omega, k2, ⟨k3, k4, k5⟩, k6, k7, fun a ha' => ?_⟩
          by_cases e : a = k
          · subst e; simpa using hkk
          · exact ha a (by omega)
        unfold oStays
        generalize ((k + 1 : Nat) : Int) = z1 at *
        simp [r30_stays_l2, exM, orc, orcD, evF, evC_skip, evC_region, evC_cond, evC_exit, evC_ret, evOps, evOper, evAny, evOp, evCall, putR, putA, Fr.ev, Fr.of, Fr.get, Fr.set, stable, junkA, junkL, resultsA, resA, same, Post_seq, Post_block, Post_some, Fr.get_set, s0, s1, s5, f9, f10, c1, c2, q, c3, c4, c5]
    · have hh : headB l k i = false := by simpa using hh
      rw [hh, if_neg (by simp)] at q
      suffices hmid : Post (evC oStays 1000 r30_stays_l2 f S) (fun e f' T => e = .normal ∧ T = S ∧ f'.get 0 = x ∧ f'.get 1 = .int .i64 (i : Int) ∧ f'.get 5 = .ptr rp 0 0 ∧ f'.get 9 = .ptr rm 0 0 ∧ f'.get 10 = .int .i64 ((k + 1 : Nat) : Int)) by
        refine hmid.mono ?_
        rintro e f' U ⟨k1, k2, k3, k4, k5, k6, k7⟩
        refine .inl ⟨k1, c - 1, by omega, k + 1, by omega, k2, ⟨k3, k4, k5⟩, k6, k7, fun a ha' => ?_⟩
        by_cases e : a = k
        · subst e; rw [hkb, hh]; rfl
        · exact ha a (by omega)
      unfold oStays
      generalize ((k + 1 : Nat) : Int) = z1 at *
      generalize ((0 : Nat) : Int) = z0 at *
      simp [r30_stays_l2, exM, orc, orcD, evF, evC_skip, evC_region, evC_cond, evC_exit, evC_ret, evOps, evOper, evAny, evOp, evCall, putR, putA, Fr.ev, Fr.of, Fr.get, Fr.set, stable, junkA, junkL, resultsA, resA, same, Post_seq, Post_block, Post_some, Fr.get_set, s0, s1, s5, f9, f10, c1, c2, q]
  · have hk4 : k = 4 := by omega
    subst hk4
    have c1 : binA .lss (.int .i64 ((4 : Nat) : Int)) (.int .i64 4) = some (.bool false) := rfl
    have hno : ¬ (List.range 4).any (kindB l p i) = true := by
      simp only [List.any_eq_true, List.mem_range]
      rintro ⟨a, h1, h2⟩
      rw [ha a h1] at h2; cases h2
    suffices hmid : Post (evC oStays 1000 r30_stays_l2 f S) (fun e f' T => e = .exit 2 ∧ T = S) by
      refine hmid.mono ?_
      rintro e f' U ⟨rfl, k2⟩
      exact .inr (.inl ⟨rfl, k2, by rw [if_neg hno]⟩)
    generalize ((4 : Nat) : Int) = z1 at *
    simp [r30_stays_l2, exM, orc, orcD, evF, evC_skip, evC_region, evC_cond, evC_exit, evC_ret, evOps, evOper, evAny, evOp, evCall, putR, putA, Fr.ev, Fr.of, Fr.get, Fr.set, stable, junkA, junkL, resultsA, resA, same, Post_seq, Post_block, Post_some, Fr.get_set, f10, c1]

def xStays : Model := exM oStays r30_stays 1000

/-- More has been laid behind. -/
structure Grown (S T : St) : Prop where
  old : Old S.length S T
  len : S.length ≤ T.length
theorem Grown.refl (S : St) : Grown S S := ⟨Old.refl _ S, Nat.le_refl _⟩
theorem Grown.app (S T : St) : Grown S (S ++ T) := ⟨Old.app S T, by simp⟩
theorem Grown.trans {S T U : St} (h : Grown S T) (h' : Grown T U) : Grown S U := ⟨h.old.trans (h'.old.less h.len), Nat.le_trans h.len h'.len⟩

theorem stays_ok {B : Nat} {x : AVal} {l : List Nat} {S : St} (h : Times B S x l) (hB : B ≤ S.length) (hl : U64 l) (hn : l.length < 900) {i : Nat} (hi : i < l.length) (p : Pc) :
    ∃ T, xStays [x, .int .i64 (i : Int), .agg p.cells] S = some (.bool (stayB l p i), T) ∧ Grown S T := by
  have h1 : Times B (S ++ [.live 0 p.cells]) x l := h.go ((Old.app S _).less hB)
  have h2 : Times B (S ++ [.live 0 p.cells, .live 0 p.four]) x l := h.go ((Old.app S _).less hB)
  have hp1 : (S ++ [ABlock.live 0 p.cells])[S.length]? = some (.live 0 p.cells) := by simp
  have hp2 : (S ++ [ABlock.live 0 p.cells, .live 0 p.four])[S.length + 1]? = some (.live 0 p.four) := by simp
  unfold xStays exM
  refine evF_postX (F := r30_stays) (R := Grown S) rfl rfl ?_
  have r1 : Grown S (S ++ [ABlock.live 0 p.cells]) := Grown.app S _
  have r2 : Grown S (S ++ [ABlock.live 0 p.cells, .live 0 p.four]) := Grown.app S _
  have c2 : cells? (.agg p.cells) = some p.cells := rfl
  have m0 : loadA none (.ptr S.length 0 0) (S ++ [ABlock.live 0 p.cells]) = some (.int .i64 p.last) := by rw [load_c hp1]; rfl
  have m1 : loadA none (.ptr S.length 0 1) (S ++ [ABlock.live 0 p.cells]) = some (.int .i64 p.hours) := by rw [load_c hp1]; rfl
  have m2 : loadA none (.ptr S.length 0 2) (S ++ [ABlock.live 0 p.cells]) = some (.int .i64 p.days) := by rw [load_c hp1]; rfl
  have m3 : loadA none (.ptr S.length 0 3) (S ++ [ABlock.live 0 p.cells]) = some (.int .i64 p.weeks) := by rw [load_c hp1]; rfl
  have m4 : loadA none (.ptr S.length 0 4) (S ++ [ABlock.live 0 p.cells]) = some (.int .i64 p.months) := by rw [load_c hp1]; rfl
  have m5 : fillA [.int .i64 0, .int .i64 0, .int .i64 0, .int .i64 0] [(0, 1, .int .i64 p.hours), (1, 1, .int .i64 p.days), (2, 1, .int .i64 p.weeks), (3, 1, .int .i64 p.months)] = some p.four := by simp [fillA, cells?, splice, Pc.four]
  have m6 : storeA 4 (.ptr (S.length + 1) 0 0) (.agg p.four) (S ++ [ABlock.live 0 p.cells, .live 0 [.int .i64 0, .int .i64 0, .int .i64 0, .int .i64 0]]) = some (S ++ [ABlock.live 0 p.cells, .live 0 p.four]) := by
    simp [storeA, cells?, splice, Pc.four, List.set_append]
  have key1 := fun f hf f7 f8 => rank_loop (f := f) (rp := S.length) h1 hn hi hf f7 f8
  have key2 := fun f hf f9 f10 => kinds_loop (f := f) (rp := S.length) (rm := S.length + 1) h2 hl hn hi hp2 hf f9 f10
  have c3 : binA .lss (.int .i64 (rankN l i : Int)) (.int .i64 p.last) = some (.bool (decide ((rankN l i : Int) < p.last))) := rfl
  have hsb : stayB l p i = (decide ((rankN l i : Int) < p.last) || (List.range 4).any (kindB l p i)) := rfl
  generalize hR : Grown S = R at *
  unfold oStays at *
  generalize xBehind = mb at *
  generalize xGreater = mg at *
  simp [r30_stays, r30_stays_t5, exM, orc, orcD, evF, evC_skip, evC_region, evC_cond, evC_exit, evC_ret, evOps, evOper, evAny, evOp, evCall, putR, putA, Fr.ev, Fr.of, Fr.get, Fr.set, stable, junkA, junkL, resultsA, resA, same, Post_seq, Post_block, Post_some, c2]
  refine (Post.ran (key1 _ ?_ ?_ ?_)).mono ?_
  · exact ⟨by simp [Fr.get], by simp [Fr.get], by simp [Fr.get]⟩
  · simp [Fr.get]
  · simp [Fr.get]
  rintro _ f T ⟨rfl, rfl, ⟨s0, s1, s5⟩, f7⟩
  rw [if_pos rfl]
  generalize decide ((rankN l i : Int) < p.last) = b1 at *
  cases b1
  rotate_left
  · rw [Bool.true_or] at hsb
    simp [exM, orc, orcD, evF, evC_skip, evC_region, evC_cond, evC_exit, evC_ret, evOps, evOper, evAny, evOp, evCall, putR, putA, Fr.ev, Fr.of, Fr.get, Fr.set, stable, junkA, junkL, resultsA, resA, same, Post_seq, Post_block, Post_some, Fr.get_set, faddrA, s0, s1, s5, f7, m0, c3, hsb, r1]
  · rw [Bool.false_or] at hsb
    simp [r30_stays_t4, exM, orc, orcD, evF, evC_skip, evC_region, evC_cond, evC_exit, evC_ret, evOps, evOper, evAny, evOp, evCall, putR, putA, Fr.ev, Fr.of, Fr.get, Fr.set, stable, junkA, junkL, resultsA, resA, same, Post_seq, Post_block, Post_some, Fr.get_set, faddrA, s0, s1, s5, f7, m0, m1, m2, m3, m4, m5, m6, c3]
    refine (key2 _ ?_ ?_ ?_).mono ?_
    · exact ⟨by simp [Fr.get_set, s0], by simp [Fr.get_set, s1], by simp [Fr.get_set, s5]⟩
    · simp [Fr.get_set]
    · simp [Fr.get_set]
    rintro e f5 T ⟨_, rfl, hq⟩
    rw [← hsb] at hq
    generalize stayB l p i = b2 at *
    cases b2
    · rw [if_neg (by simp)] at hq
      subst hq
      simp [exM, orc, orcD, evF, evC_skip, evC_region, evC_cond, evC_exit, evC_ret, evOps, evOper, evAny, evOp, evCall, putR, putA, Fr.ev, Fr.of, Fr.get, Fr.set, stable, junkA, junkL, resultsA, resA, same, Post_seq, Post_block, Post_some, Fr.get_set, r2]
    · rw [if_pos rfl] at hq
      obtain ⟨rfl, h6⟩ := hq
      simp [exM, orc, orcD, evF, evC_skip, evC_region, evC_cond, evC_exit, evC_ret, evOps, evOper, evAny, evOp, evCall, putR, putA, Fr.ev, Fr.of, Fr.get, Fr.set, stable, junkA, junkL, resultsA, resA, same, Post_seq, Post_block, Post_some, Fr.get_set, h6, r2]
end Am.Pol
end

/- The document's Keep. -/
section
namespace Am.Pol
open Am Go Am.Ir
set_option maxRecDepth 100000
attribute [local congr] Post_cg
attribute [local simp] ox oz kx kz og ogz kg kgz mo ai

theorem append_gen {T : St} {r v i bt : Nat} {cs : List AVal} (hr : T[r]? = some (.live v cs)) (hl : cs.length = i) (hi : (i + 1) * bt ≤ 140737488355328) (c : AVal) :
    appendA 1 bt (.sl r v 0 i 1) (.sl T.length 0 0 1 1) (T ++ [.live 0 [c]]) = some (.sl r (v + 1) 0 (i + 1) 1, (T ++ [ABlock.live 0 [c]]).set r (ABlock.live (v + 1) (cs ++ [c]))) := by
  have h1 : (T ++ [ABlock.live 0 [c]])[r]? = some (.live v cs) := by rw [List.getElem?_append_left (live_lt hr)]; exact hr
  have h2 : (T ++ [ABlock.live 0 [c]])[T.length]? = some (.live 0 [c]) := by simp
  simp [appendA, cellsOf, h1, h2, hl, List.take_of_length_le, hi]

/-- A list of cells at a slice that is laid behind the first blocks. -/
def Out (B : Nat) (T : St) (out : AVal) (cs : List AVal) : Prop := ∃ r v, B ≤ r ∧ out = .sl r v 0 cs.length 1 ∧ T[r]? = some (.live v cs)
theorem Out.app {B bt : Nat} {S T : St} {out : AVal} {cs : List AVal} (h : Out B T out cs) (hS : Old B S T) (hi : (cs.length + 1) * bt ≤ 140737488355328) (c : AVal) :
    ∃ out' U, appendA 1 bt out (.sl T.length 0 0 1 1) (T ++ [.live 0 [c]]) = some (out', U) ∧ Out B U out' (cs ++ [c]) ∧ Old B S U ∧ T.length ≤ U.length := by
  obtain ⟨r, v, h1, rfl, h2⟩ := h
  have hlt := live_lt h2
  refine ⟨_, _, append_gen h2 rfl hi c, ⟨r, v + 1, h1, by simp, by rw [List.getElem?_set_self (by simp; omega)]⟩, ?_, by simp⟩
  intro q hq
  rw [List.getElem?_set, if_neg (by omega), List.getElem?_append_left (by omega)]; exact hS q hq
theorem Out.go {B : Nat} {T U : St} {out : AVal} {cs : List AVal} (h : Out B T out cs) (hg : Grown T U) : Out B U out cs := by
  obtain ⟨r, v, h1, rfl, h2⟩ := h
  exact ⟨r, v, h1, rfl, by rw [hg.old r (live_lt h2)]; exact h2⟩
theorem Out.lenA {B : Nat} {T : St} {out : AVal} {cs : List AVal} (h : Out B T out cs) : Am.lenA .sl out = some (.int .i64 (cs.length : Int)) := by
  obtain ⟨r, v, h1, rfl, h2⟩ := h; rfl
theorem Out.get {B : Nat} {T : St} {out : AVal} {cs : List AVal} (h : Out B T out cs) {i : Nat} {c : AVal} (hc : cs[i]? = some c) : ∃ a, iaddrSA 1 out (.int .i64 (i : Int)) = some a ∧ loadA none a T = some c := by
  obtain ⟨r, v, h1, rfl, h2⟩ := h
  have hi : i < cs.length := (List.getElem?_eq_some_iff.1 hc).1
  exact ⟨.ptr r v (0 + i * 1), by rw [iaS (by omega) (by omega), Int.toNat_natCast], by rw [load_c h2, Nat.zero_add, Nat.mul_one, hc]⟩

def xKeep2 : Model := exM (orc [xStays]) r30_Keep 1000

structure Kp2F (f : Fr) (x : AVal) (rp : Nat) (out : AVal) : Prop where
  s0 : f.get 0 = x
  s3 : f.get 3 = .ptr rp 0 0
  s5 : f.get 5 = out

theorem load_pol {S : St} {rp : Nat} {p : Pc} (h : S[rp]? = some (.live 0 p.cells)) : loadA (some 5) (.ptr rp 0 0) S = some (.agg p.cells) := by
  simp [loadA, h, partA, Pc.cells]

theorem keep2_round {B : Nat} {x : AVal} {l : List Nat} {S T : St} (h : Times B S x l) (hl : U64 l) (hn : l.length ≤ 30) {p : Pc} {B1 rp i : Nat} (hB : B ≤ B1) (hrp : rp < B1) (hBT : B1 ≤ T.length) (hS : Old B1 S T) (hp : S[rp]? = some (.live 0 p.cells)) (hi : i < l.length) {out : AVal} (ho : Out B1 T out (bc ((List.range i).map (stayB l p))))
    {f : Fr} (hf : Kp2F f x rp out) (f6 : f.get 6 = .int .i64 (i : Int)) :
    Post (evC (orc [xStays]) 1000 r30_Keep_l0 f T) fun e f' U => e = .normal ∧ ∃ out', Out B1 U out' (bc ((List.range (i + 1)).map (stayB l p))) ∧ Old B1 S U ∧ B1 ≤ U.length ∧ Kp2F f' x rp out' ∧ f'.get 6 = .int .i64 ((i + 1 : Nat) : Int) := by
  obtain ⟨s0, s3, s5⟩ := hf
  have hT : Times B T x l := h.go (hS.less hB)
  have hpT : T[rp]? = some (.live 0 p.cells) := by rw [hS rp hrp]; exact hp
  have l1 := load_pol hpT
  obtain ⟨T1, q1, q2⟩ := stays_ok hT (by omega) hl (by omega) hi p
  obtain ⟨out', U, c4, c5, c6, c7⟩ := (ho.go q2).app (bt := 1) (S := S) (hS.trans (q2.old.less hBT)) (by simp [bc]; omega) (.bool (stayB l p i))
  have e1 : bc ((List.range i).map (stayB l p)) ++ [.bool (stayB l p i)] = bc ((List.range (i + 1)).map (stayB l p)) := by rw [List.range_succ]; simp [bc]
  rw [e1] at c5
  have hlen := h.len
  have c1 : binA .lss (.int .i64 (i : Int)) (.int .i64 (l.length : Int)) = some (.bool true) := lss_t (by omega)
  have c2 : binA .add (.int .i64 (i : Int)) (.int .i64 1) = some (.int .i64 ((i + 1 : Nat) : Int)) := add_is (by omega) (by omega) (by omega)
  have c3 := fill_one (.bool false) (.bool (stayB l p i)) rfl
  have hL := q2.len
  suffices hmid : Post (evC (orc [xStays]) 1000 r30_Keep_l0 f T) (fun e f' V => e = .normal ∧ V = U ∧ f'.get 0 = x ∧ f'.get 3 = .ptr rp 0 0 ∧ f'.get 5 = out' ∧ f'.get 6 = .int .i64 ((i + 1 : Nat) : Int)) by
    refine hmid.mono ?_
    rintro e f' V ⟨k1, rfl, k2, k3, k4, k5⟩
    exact ⟨k1, out', c5, c6, by omega, ⟨k2, k3, k4⟩, k5⟩
  generalize ((i + 1 : Nat) : Int) = z1 at *
  generalize stayB l p i = sb at *
  generalize xStays = ms at *
  simp [r30_Keep_l0, exM, orc, orcD, evF, evC_skip, evC_region, evC_cond, evC_exit, evC_ret, evOps, evOper, evAny, evOp, evCall, putR, putA, Fr.ev, Fr.of, Fr.get, Fr.set, stable, junkA, junkL, resultsA, resA, same, Post_seq, Post_block, Post_some, Fr.get_set, s0, s3, s5, f6, hlen, c1, c2, c3, c4, l1, q1]

theorem keep2_ok {B : Nat} {x : AVal} {l : List Nat} {S : St} (h : Times B S x l) (hB : B ≤ S.length) (hl : U64 l) (hn : l.length ≤ 30) (p : Pc) :
    ∃ out T, xKeep2 [x, .agg p.cells] S = some (out, T) ∧ Grown S T ∧ Out (S.length + 1) T out (bc (stays l p)) := by
  have hp1 : (S ++ [ABlock.live 0 p.cells, .live 0 []])[S.length]? = some (.live 0 p.cells) := by simp
  have hx1 : Times B (S ++ [ABlock.live 0 p.cells, .live 0 []]) x l := h.go ((Old.app S _).less hB)
  have hlen := h.len
  have hl1 : (S ++ [ABlock.live 0 p.cells, .live 0 []]).length = S.length + 2 := by simp
  obtain ⟨f', T, g1, out, g2, g3, g4, ⟨s0, s3, s5⟩⟩ : ∃ f' T, evC (orc [xStays]) 1000 r30_Keep_s1 [(0, x), (1, .agg p.cells), (3, .ptr S.length 0 0), (4, .nils), (7, .sl (S.length + 1) 0 0 0 1), (5, .sl (S.length + 1) 0 0 0 1), (6, .int .i64 0)] (S ++ [ABlock.live 0 p.cells, .live 0 []]) = some (.normal, f', T) ∧
      ∃ out, Out (S.length + 1) T out (bc (stays l p)) ∧ Old (S.length + 1) (S ++ [ABlock.live 0 p.cells, .live 0 []]) T ∧ S.length + 1 ≤ T.length ∧ Kp2F f' x S.length out := by
    refine loop_post (O := orc [xStays]) (k := 1000) (id := 0) (b := r30_Keep_l0)
      (I := fun i f T => ∃ out, Out (S.length + 1) T out (bc ((List.range i).map (stayB l p))) ∧ Old (S.length + 1) (S ++ [ABlock.live 0 p.cells, .live 0 []]) T ∧ S.length + 1 ≤ T.length ∧ Kp2F f x S.length out ∧ f.get 6 = .int .i64 (i : Int))
      (Q := fun f T => ∃ out, Out (S.length + 1) T out (bc (stays l p)) ∧ Old (S.length + 1) (S ++ [ABlock.live 0 p.cells, .live 0 []]) T ∧ S.length + 1 ≤ T.length ∧ Kp2F f x S.length out) l.length (by omega) ?_ ?_ ?_
    · rintro i hi f T ⟨out, h1, h2, h3, h4, h5⟩
      exact keep2_round hx1 hl hn (by omega) (Nat.lt_succ_self _) h3 h2 hp1 hi h1 h4 h5
    · rintro f T ⟨out, h1, h2, h3, ⟨s0, s3, s5⟩, f6⟩
      have c1 : binA .lss (.int .i64 (l.length : Int)) (.int .i64 (l.length : Int)) = some (.bool false) := lss_f (by omega)
      suffices hmid : Post (evC (orc [xStays]) 1000 r30_Keep_l0 f T) (fun e f' V => e = .exit 0 ∧ V = T ∧ f'.get 0 = x ∧ f'.get 3 = .ptr S.length 0 0 ∧ f'.get 5 = out) by
        refine hmid.mono ?_
        rintro e f' V ⟨k1, rfl, k2, k3, k4⟩
        exact ⟨k1, out, h1, h2, h3, k2, k3, k4⟩
      simp [r30_Keep_l0, exM, orc, orcD, evF, evC_skip, evC_region, evC_cond, evC_exit, evC_ret, evOps, evOper, evAny, evOp, evCall, putR, putA, Fr.ev, Fr.of, Fr.get, Fr.set, stable, junkA, junkL, resultsA, resA, same, Post_seq, Post_block, Post_some, Fr.get_set, s0, s3, s5, f6, hlen, c1]
    · refine ⟨.sl (S.length + 1) 0 0 0 1, ⟨S.length + 1, 0, Nat.le_refl _, rfl, by simp [bc]⟩, Old.refl _ _, by simp, ⟨by simp [Fr.get], by simp [Fr.get], by simp [Fr.get]⟩, by simp [Fr.get]⟩
  refine ⟨out, T, ?_, ⟨fun q hq => ?_, by omega⟩, g2⟩
  · unfold xKeep2 exM
    refine evF_post (F := r30_Keep) rfl rfl ?_
    have c2 : cells? (.agg p.cells) = some p.cells := rfl
    have c3 : fillA [] [] = some [] := rfl
    simp only [orc] at g1
    generalize xStays = ms at *
    simp [r30_Keep, r30_Keep_t2, exM, orc, orcD, evF, evC_skip, evC_region, evC_cond, evC_exit, evC_ret, evOps, evOper, evAny, evOp, evCall, putR, putA, Fr.ev, Fr.of, Fr.get, Fr.set, stable, junkA, junkL, resultsA, resA, same, Post_seq, Post_block, Post_some, c2, c3]
    refine Post.of g1 ?_
    simp [exM, orc, orcD, evF, evC_skip, evC_region, evC_cond, evC_exit, evC_ret, evOps, evOper, evAny, evOp, evCall, putR, putA, Fr.ev, Fr.of, Fr.get, Fr.set, stable, junkA, junkL, resultsA, resA, same, Post_seq, Post_block, Post_some, Fr.get_set, s5]
  · rw [g3 q (by omega), List.getElem?_append_left hq]
end Am.Pol
end

/- Drop, the document's Drop, and whether two lists are the same. -/
section
namespace Am.Pol
open Am Go Am.Ir
set_option maxRecDepth 100000
attribute [local congr] Post_cg
attribute [local simp] ox oz kx kz og ogz kg kgz mo ai

/-- The places that do not stay. -/
def gone (l : List Nat) (p : Pc) : List Nat := (List.range l.length).filter fun i => !stayB l p i

/-- A list at a slice, or none. -/
def OutN (B : Nat) (T : St) (out : AVal) (cs : List AVal) : Prop := (out = .nils ∧ cs = []) ∨ Out B T out cs
theorem OutN.go {B : Nat} {T U : St} {out : AVal} {cs : List AVal} (h : OutN B T out cs) (hg : Grown T U) : OutN B U out cs := h.imp (fun h => h) fun h => h.go hg
theorem OutN.lenA {B : Nat} {T : St} {out : AVal} {cs : List AVal} (h : OutN B T out cs) : Am.lenA .sl out = some (.int .i64 (cs.length : Int)) := by
  rcases h with ⟨rfl, rfl⟩ | h
  · rfl
  · exact h.lenA
theorem OutN.get {B : Nat} {T : St} {out : AVal} {cs : List AVal} (h : OutN B T out cs) {i : Nat} {c : AVal} (hc : cs[i]? = some c) : ∃ a, iaddrSA 1 out (.int .i64 (i : Int)) = some a ∧ loadA none a T = some c := by
  rcases h with ⟨rfl, rfl⟩ | h
  · simp at hc
  · exact h.get hc
theorem OutN.app {B : Nat} {S T : St} {out : AVal} {cs : List AVal} (h : OutN B T out cs) (hBT : B ≤ T.length) (hS : Old B S T) (hi : cs.length < 1000000) (c : AVal) :
    ∃ out' U, appendA 1 8 out (.sl T.length 0 0 1 1) (T ++ [.live 0 [c]]) = some (out', U) ∧ OutN B U out' (cs ++ [c]) ∧ Old B S U ∧ T.length ≤ U.length := by
  rcases h with ⟨rfl, rfl⟩ | h
  · refine ⟨_, _, append_one T c, .inr ⟨T.length + 1, 0, by omega, rfl, by simp⟩, ?_, by simp⟩
    rw [List.append_assoc]
    exact hS.trans ((Old.app T _).less hBT)
  · obtain ⟨o, U, h1, h2, h3, h4⟩ := h.app (bt := 8) hS (by omega) c
    exact ⟨o, U, h1, .inr h2, h3, h4⟩

def xDrop (k g : Nat) : Model := exM (orc [xKeep k g]) policy_Drop 1000

theorem filter_up (q : Nat → Bool) (i : Nat) : (List.range (i + 1)).filter q = (List.range i).filter q ++ if q i = true then [i] else [] := by
  rw [List.range_succ, List.filter_append]
  congr 1
  by_cases h : q i = true
  · simp [h]
  · simp [h]
theorem filter_len (q : Nat → Bool) (i : Nat) : ((List.range i).filter q).length ≤ i := by
  have := List.length_filter_le q (List.range i); simpa using this

/-- The rounds of Drop: over what Keep has told. -/
theorem drop_round {B n i : Nat} {S T : St} {kp out : AVal} {ks : List Bool} (hk : ∀ U, Old B S U → ∀ j, j < n → ∃ a, iaddrSA 1 kp (.int .i64 (j : Int)) = some a ∧ loadA none a U = some (.bool (ks.getD j false))) (hn : n < 900) (hi : i < n) (hBT : B ≤ T.length) (hS : Old B S T)
    (ho : OutN B T out (pc ((List.range i).filter fun j => !ks.getD j false))) {f : Fr} (f5 : f.get 5 = out) (f10 : f.get 10 = kp) (f11 : f.get 11 = .int .i64 (n : Int)) (f12 : f.get 12 = .int .i64 (i : Int)) {O : Orc} :
    Post (evC O 1000 policy_Drop_l0 f T) fun e f' U => e = .normal ∧ ∃ out', OutN B U out' (pc ((List.range (i + 1)).filter fun j => !ks.getD j false)) ∧ Old B S U ∧ B ≤ U.length ∧ f'.get 5 = out' ∧ f'.get 10 = kp ∧ f'.get 11 = .int .i64 (n : Int) ∧ f'.get 12 = .int .i64 ((i + 1 : Nat) : Int) := by
  obtain ⟨a, a1, a2⟩ := hk T hS i hi
  have c1 : binA .lss (.int .i64 (i : Int)) (.int .i64 (n : Int)) = some (.bool true) := lss_t (by omega)
  have c2 : binA .add (.int .i64 (i : Int)) (.int .i64 1) = some (.int .i64 ((i + 1 : Nat) : Int)) := add_is (by omega) (by omega) (by omega)
  have c3 := fill_one (.int .i64 0) (.int .i64 (i : Int)) rfl
  have hup := filter_up (fun j => !ks.getD j false) i
  have hfl := filter_len (fun j => !ks.getD j false) i
  rw [hup]
  generalize ((List.range i).filter fun j => !ks.getD j false) = fl at *
  generalize ks.getD i false = b at *
  cases b
  · obtain ⟨out', U, c4, c5, c6, c7⟩ := ho.app hBT hS (by simp [pc]; omega) (.int .i64 (i : Int))
    have e1 : pc fl ++ [.int .i64 (i : Int)] = pc (fl ++ [i]) := by simp [pc]
    rw [e1] at c5
    suffices hmid : Post (evC O 1000 policy_Drop_l0 f T) (fun e f' V => e = .normal ∧ V = U ∧ f'.get 5 = out' ∧ f'.get 10 = kp ∧ f'.get 11 = .int .i64 (n : Int) ∧ f'.get 12 = .int .i64 ((i + 1 : Nat) : Int)) by
      refine hmid.mono ?_
      rintro e f' V ⟨k1, rfl, k2⟩
      exact ⟨k1, out', by simpa using c5, c6, by omega, k2⟩
    generalize ((i + 1 : Nat) : Int) = z1 at *
    simp [policy_Drop_l0, exM, orc, orcD, evF, evC_skip, evC_region, evC_cond, evC_exit, evC_ret, evOps, evOper, evAny, evOp, evCall, putR, putA, Fr.ev, Fr.of, Fr.get, Fr.set, stable, junkA, junkL, resultsA, resA, same, Post_seq, Post_block, Post_some, unA, Fr.get_set, f5, f10, f11, f12, c1, c2, c3, c4, a1, a2]
  · suffices hmid : Post (evC O 1000 policy_Drop_l0 f T) (fun e f' V => e = .normal ∧ V = T ∧ f'.get 5 = out ∧ f'.get 10 = kp ∧ f'.get 11 = .int .i64 (n : Int) ∧ f'.get 12 = .int .i64 ((i + 1 : Nat) : Int)) by
      refine hmid.mono ?_
      rintro e f' V ⟨k1, rfl, k2⟩
      exact ⟨k1, out, by simpa using ho, hS, hBT, k2⟩
    generalize ((i + 1 : Nat) : Int) = z1 at *
    simp [policy_Drop_l0, exM, orc, orcD, evF, evC_skip, evC_region, evC_cond, evC_exit, evC_ret, evOps, evOper, evAny, evOp, evCall, putR, putA, Fr.ev, Fr.of, Fr.get, Fr.set, stable, junkA, junkL, resultsA, resA, same, Post_seq, Post_block, Post_some, unA, Fr.get_set, f5, f10, f11, f12, c1, c2, a1, a2]

theorem stays_getD (l : List Nat) (p : Pc) {i : Nat} (hi : i < l.length) : (stays l p).getD i false = stayB l p i := by
  simp [stays, List.getD_eq_getElem?_getD, hi]

theorem drop_ok {B : Nat} {S : St} {x : AVal} {l : List Nat} (hx : Times B S x l) (hl : U64 l) (hB : B ≤ S.length) (hn : l.length ≤ 30) (k g : Nat) {p : Pc} (hok : p.Ok) :
    ∃ out T, xDrop k g [x, .agg p.cells] S = some (out, T) ∧ Grown S T ∧ OutN S.length T out (pc (gone l p)) := by
  have hx1 : Times (S.length + 1) (S ++ [ABlock.live 0 p.cells]) x l := (hx.go ((Old.app S _).less hB)).more (by omega)
  have hp1 : (S ++ [ABlock.live 0 p.cells])[S.length]? = some (.live 0 p.cells) := by simp
  obtain ⟨T1, d, q1, q2, q3, q4, q5⟩ := keep_ok hx1 hl (by simp) hn k g hok
  rw [keepL_eq q4] at q2
  have l1 := load_pol hp1
  have c2 : cells? (.agg p.cells) = some p.cells := rfl
  have hk : ∀ U, Old T1.length T1 U → ∀ j, j < l.length → ∃ a, iaddrSA 1 (.sl (S.length + 1 + 1) 0 0 l.length 1) (.int .i64 (j : Int)) = some a ∧ loadA none a U = some (.bool ((stays l p).getD j false)) := by
    intro U hU j hj
    refine ⟨.ptr (S.length + 1 + 1) 0 (0 + j * 1), by rw [iaS (by omega) (by omega), Int.toNat_natCast], ?_⟩
    have h3 : U[S.length + 1 + 1]? = some (.live 0 (bc (stays l p))) := by rw [hU _ q5]; exact q2
    rw [load_c h3, Nat.zero_add, Nat.mul_one, bc_get]
    have h4 : j < (stays l p).length := by simp [stays]; exact hj
    rw [List.getD_eq_getElem?_getD, List.getElem?_eq_getElem h4]; rfl
  obtain ⟨f', T, g1, out, g2, g3, g4, g5⟩ : ∃ f' T, evC (orc [xKeep k g]) 1000 policy_Drop_s1 [(0, x), (1, .agg p.cells), (3, .ptr S.length 0 0), (4, .nils), (5, .nils), (8, x), (9, .agg p.cells), (10, .sl (S.length + 1 + 1) 0 0 l.length 1), (11, .int .i64 (l.length : Int)), (12, .int .i64 0)] T1 = some (.normal, f', T) ∧
      ∃ out, OutN T1.length T out (pc ((List.range l.length).filter fun j => !(stays l p).getD j false)) ∧ Old T1.length T1 T ∧ T1.length ≤ T.length ∧ f'.get 5 = out := by
    refine loop_post (O := orc [xKeep k g]) (k := 1000) (id := 0) (b := policy_Drop_l0)
      (I := fun i f T => ∃ out, OutN T1.length T out (pc ((List.range i).filter fun j => !(stays l p).getD j false)) ∧ Old T1.length T1 T ∧ T1.length ≤ T.length ∧ f.get 5 = out ∧ f.get 10 = .sl (S.length + 1 + 1) 0 0 l.length 1 ∧ f.get 11 = .int .i64 (l.length : Int) ∧ f.get 12 = .int .i64 (i : Int))
      (Q := fun f T => ∃ out, OutN T1.length T out (pc ((List.range l.length).filter fun j => !(stays l p).getD j false)) ∧ Old T1.length T1 T ∧ T1.length ≤ T.length ∧ f.get 5 = out) l.length (by omega) ?_ ?_ ?_
    · rintro i hi f T ⟨out, h1, h2, h3, h4, h5, h6, h7⟩
      exact drop_round hk (by omega) hi h3 h2 h1 h4 h5 h6 h7
    · rintro f T ⟨out, h1, h2, h3, f5, f10, f11, f12⟩
      have c1 : binA .lss (.int .i64 (l.length : Int)) (.int .i64 (l.length : Int)) = some (.bool false) := lss_f (by omega)
      suffices hmid : Post (evC (orc [xKeep k g]) 1000 policy_Drop_l0 f T) (fun e f' V => e = .exit 0 ∧ V = T ∧ f'.get 5 = out) by
        refine hmid.mono ?_
        rintro e f' V ⟨k1, rfl, k2⟩
        exact ⟨k1, out, h1, h2, h3, k2⟩
      simp [policy_Drop_l0, exM, orc, orcD, evF, evC_skip, evC_region, evC_cond, evC_exit, evC_ret, evOps, evOper, evAny, evOp, evCall, putR, putA, Fr.ev, Fr.of, Fr.get, Fr.set, stable, junkA, junkL, resultsA, resA, same, Post_seq, Post_block, Post_some, Fr.get_set, f5, f10, f11, f12, c1]
    · exact ⟨.nils, .inl ⟨rfl, by simp [pc]⟩, Old.refl _ _, Nat.le_refl _, by simp [Fr.get], by simp [Fr.get], by simp [Fr.get], by simp [Fr.get]⟩
  have e1 : ((List.range l.length).filter fun j => !(stays l p).getD j false) = gone l p := by
    refine List.filter_congr fun j hj => ?_
    rw [stays_getD l p (by simpa using hj)]
  rw [e1] at g2
  have hlt : S.length ≤ T1.length := by omega
  have hold : Old S.length S T := by
    intro q hq
    rw [g3 q (by omega), q3 q (by omega), List.getElem?_append_left hq]
  refine ⟨out, T, ?_, ⟨hold, by omega⟩, ?_⟩
  · unfold xDrop exM
    refine evF_post (F := policy_Drop) rfl rfl ?_
    simp only [orc] at g1
    generalize xKeep k g = ms at *
    simp [policy_Drop, policy_Drop_t2, exM, orc, orcD, evF, evC_skip, evC_region, evC_cond, evC_exit, evC_ret, evOps, evOper, evAny, evOp, evCall, putR, putA, Fr.ev, Fr.of, Fr.get, Fr.set, stable, junkA, junkL, resultsA, resA, same, Post_seq, Post_block, Post_some, c2, l1, q1, lenA]
    refine Post.of g1 ?_
    simp [exM, orc, orcD, evF, evC_skip, evC_region, evC_cond, evC_exit, evC_ret, evOps, evOper, evAny, evOp, evCall, putR, putA, Fr.ev, Fr.of, Fr.get, Fr.set, stable, junkA, junkL, resultsA, resA, same, Post_seq, Post_block, Post_some, Fr.get_set, g5]
  · rcases g2 with h | ⟨r, v, h1, h2, h3⟩
    · exact .inl h
    · exact .inr ⟨r, v, by omega, h2, h3⟩
end Am.Pol
end

/- The document's Drop; whether two lists are the same; a policy as the document's. -/
section
namespace Am.Pol
open Am Go Am.Ir
set_option maxRecDepth 100000
attribute [local congr] Post_cg
attribute [local simp] ox oz kx kz og ogz kg kgz mo ai

def xDrop2 : Model := exM (orc [xStays]) r30_Drop 1000

theorem drop2_round {B : Nat} {x : AVal} {l : List Nat} {S T : St} (h : Times B S x l) (hl : U64 l) (hn : l.length ≤ 30) {p : Pc} {B1 rp i : Nat} (hB : B ≤ B1) (hrp : rp < B1) (hBT : B1 ≤ T.length) (hS : Old B1 S T) (hp : S[rp]? = some (.live 0 p.cells)) (hi : i < l.length) {out : AVal} (ho : Out B1 T out (pc ((List.range i).filter fun j => !stayB l p j)))
    {f : Fr} (hf : Kp2F f x rp out) (f6 : f.get 6 = .int .i64 (i : Int)) :
    Post (evC (orc [xStays]) 1000 r30_Drop_l0 f T) fun e f' U => e = .normal ∧ ∃ out', Out B1 U out' (pc ((List.range (i + 1)).filter fun j => !stayB l p j)) ∧ Old B1 S U ∧ B1 ≤ U.length ∧ Kp2F f' x rp out' ∧ f'.get 6 = .int .i64 ((i + 1 : Nat) : Int) := by
  obtain ⟨s0, s3, s5⟩ := hf
  have hT : Times B T x l := h.go (hS.less hB)
  have hpT : T[rp]? = some (.live 0 p.cells) := by rw [hS rp hrp]; exact hp
  have l1 := load_pol hpT
  obtain ⟨T1, q1, q2⟩ := stays_ok hT (by omega) hl (by omega) hi p
  have ho1 := ho.go q2
  have hS1 := hS.trans (q2.old.less hBT)
  have hL := q2.len
  have hlen := h.len
  have c1 : binA .lss (.int .i64 (i : Int)) (.int .i64 (l.length : Int)) = some (.bool true) := lss_t (by omega)
  have c2 : binA .add (.int .i64 (i : Int)) (.int .i64 1) = some (.int .i64 ((i + 1 : Nat) : Int)) := add_is (by omega) (by omega) (by omega)
  have c3 := fill_one (.int .i64 0) (.int .i64 (i : Int)) rfl
  have hup := filter_up (fun j => !stayB l p j) i
  have hfl := filter_len (fun j => !stayB l p j) i
  rw [hup]
  generalize ((List.range i).filter fun j => !stayB l p j) = fl at *
  generalize stayB l p i = sb at *
  cases sb
  · obtain ⟨out', U, c4, c5, c6, c7⟩ := ho1.app (bt := 8) (S := S) hS1 (by simp [pc]; omega) (.int .i64 (i : Int))
    have e1 : pc fl ++ [.int .i64 (i : Int)] = pc (fl ++ [i]) := by simp [pc]
    rw [e1] at c5
    suffices hmid : Post (evC (orc [xStays]) 1000 r30_Drop_l0 f T) (fun e f' V => e = .normal ∧ V = U ∧ f'.get 0 = x ∧ f'.get 3 = .ptr rp 0 0 ∧ f'.get 5 = out' ∧ f'.get 6 = .int .i64 ((i + 1 : Nat) : Int)) by
      refine hmid.mono ?_
      rintro e f' V ⟨k1, rfl, k2, k3, k4, k5⟩
      exact ⟨k1, out', by simpa using c5, c6, by omega, ⟨k2, k3, k4⟩, k5⟩
    generalize ((i + 1 : Nat) : Int) = z1 at *
    generalize xStays = ms at *
    simp [r30_Drop_l0, exM, orc, orcD, evF, evC_skip, evC_region, evC_cond, evC_exit, evC_ret, evOps, evOper, evAny, evOp, evCall, putR, putA, Fr.ev, Fr.of, Fr.get, Fr.set, stable, junkA, junkL, resultsA, resA, same, Post_seq, Post_block, Post_some, unA, Fr.get_set, s0, s3, s5, f6, hlen, c1, c2, c3, c4, l1, q1]
  · suffices hmid : Post (evC (orc [xStays]) 1000 r30_Drop_l0 f T) (fun e f' V => e = .normal ∧ V = T1 ∧ f'.get 0 = x ∧ f'.get 3 = .ptr rp 0 0 ∧ f'.get 5 = out ∧ f'.get 6 = .int .i64 ((i + 1 : Nat) : Int)) by
      refine hmid.mono ?_
      rintro e f' V ⟨k1, rfl, k2, k3, k4, k5⟩
      exact ⟨k1, out, by simpa using ho1, hS1, by omega, ⟨k2, k3, k4⟩, k5⟩
    generalize ((i + 1 : Nat) : Int) = z1 at *
    generalize xStays = ms at *
    simp [r30_Drop_l0, exM, orc, orcD, evF, evC_skip, evC_region, evC_cond, evC_exit, evC_ret, evOps, evOper, evAny, evOp, evCall, putR, putA, Fr.ev, Fr.of, Fr.get, Fr.set, stable, junkA, junkL, resultsA, resA, same, Post_seq, Post_block, Post_some, unA, Fr.get_set, s0, s3, s5, f6, hlen, c1, c2, l1, q1]

theorem drop2_ok {B : Nat} {x : AVal} {l : List Nat} {S : St} (h : Times B S x l) (hB : B ≤ S.length) (hl : U64 l) (hn : l.length ≤ 30) (p : Pc) :
    ∃ out T, xDrop2 [x, .agg p.cells] S = some (out, T) ∧ Grown S T ∧ Out (S.length + 1) T out (pc (gone l p)) := by
  have hp1 : (S ++ [ABlock.live 0 p.cells, .live 0 []])[S.length]? = some (.live 0 p.cells) := by simp
  have hx1 : Times B (S ++ [ABlock.live 0 p.cells, .live 0 []]) x l := h.go ((Old.app S _).less hB)
  have hlen := h.len
  have hl1 : (S ++ [ABlock.live 0 p.cells, .live 0 []]).length = S.length + 2 := by simp
  obtain ⟨f', T, g1, out, g2, g3, g4, ⟨s0, s3, s5⟩⟩ : ∃ f' T, evC (orc [xStays]) 1000 r30_Drop_s1 [(0, x), (1, .agg p.cells), (3, .ptr S.length 0 0), (4, .nils), (7, .sl (S.length + 1) 0 0 0 1), (5, .sl (S.length + 1) 0 0 0 1), (6, .int .i64 0)] (S ++ [ABlock.live 0 p.cells, .live 0 []]) = some (.normal, f', T) ∧
      ∃ out, Out (S.length + 1) T out (pc (gone l p)) ∧ Old (S.length + 1) (S ++ [ABlock.live 0 p.cells, .live 0 []]) T ∧ S.length + 1 ≤ T.length ∧ Kp2F f' x S.length out := by
    refine loop_post (O := orc [xStays]) (k := 1000) (id := 0) (b := r30_Drop_l0)
      (I := fun i f T => ∃ out, Out (S.length + 1) T out (pc ((List.range i).filter fun j => !stayB l p j)) ∧ Old (S.length + 1) (S ++ [ABlock.live 0 p.cells, .live 0 []]) T ∧ S.length + 1 ≤ T.length ∧ Kp2F f x S.length out ∧ f.get 6 = .int .i64 (i : Int))
      (Q := fun f T => ∃ out, Out (S.length + 1) T out (pc (gone l p)) ∧ Old (S.length + 1) (S ++ [ABlock.live 0 p.cells, .live 0 []]) T ∧ S.length + 1 ≤ T.length ∧ Kp2F f x S.length out) l.length (by omega) ?_ ?_ ?_
    · rintro i hi f T ⟨out, h1, h2, h3, h4, h5⟩
      exact drop2_round hx1 hl hn (by omega) (Nat.lt_succ_self _) h3 h2 hp1 hi h1 h4 h5
    · rintro f T ⟨out, h1, h2, h3, ⟨s0, s3, s5⟩, f6⟩
      have c1 : binA .lss (.int .i64 (l.length : Int)) (.int .i64 (l.length : Int)) = some (.bool false) := lss_f (by omega)
      suffices hmid : Post (evC (orc [xStays]) 1000 r30_Drop_l0 f T) (fun e f' V => e = .exit 0 ∧ V = T ∧ f'.get 0 = x ∧ f'.get 3 = .ptr S.length 0 0 ∧ f'.get 5 = out) by
        refine hmid.mono ?_
        rintro e f' V ⟨k1, rfl, k2, k3, k4⟩
        exact ⟨k1, out, h1, h2, h3, k2, k3, k4⟩
      simp [r30_Drop_l0, exM, orc, orcD, evF, evC_skip, evC_region, evC_cond, evC_exit, evC_ret, evOps, evOper, evAny, evOp, evCall, putR, putA, Fr.ev, Fr.of, Fr.get, Fr.set, stable, junkA, junkL, resultsA, resA, same, Post_seq, Post_block, Post_some, Fr.get_set, s0, s3, s5, f6, hlen, c1]
    · refine ⟨.sl (S.length + 1) 0 0 0 1, ⟨S.length + 1, 0, Nat.le_refl _, rfl, by simp [pc]⟩, Old.refl _ _, by simp, ⟨by simp [Fr.get], by simp [Fr.get], by simp [Fr.get]⟩, by simp [Fr.get]⟩
  refine ⟨out, T, ?_, ⟨fun q hq => ?_, by omega⟩, g2⟩
  · unfold xDrop2 exM
    refine evF_post (F := r30_Drop) rfl rfl ?_
    have c2 : cells? (.agg p.cells) = some p.cells := rfl
    have c3 : fillA [] [] = some [] := rfl
    simp only [orc] at g1
    generalize xStays = ms at *
    simp [r30_Drop, r30_Drop_t2, exM, orc, orcD, evF, evC_skip, evC_region, evC_cond, evC_exit, evC_ret, evOps, evOper, evAny, evOp, evCall, putR, putA, Fr.ev, Fr.of, Fr.get, Fr.set, stable, junkA, junkL, resultsA, resA, same, Post_seq, Post_block, Post_some, c2, c3]
    refine Post.of g1 ?_
    simp [exM, orc, orcD, evF, evC_skip, evC_region, evC_cond, evC_exit, evC_ret, evOps, evOper, evAny, evOp, evCall, putR, putA, Fr.ev, Fr.of, Fr.get, Fr.set, stable, junkA, junkL, resultsA, resA, same, Post_seq, Post_block, Post_some, Fr.get_set, s5]
  · rw [g3 q (by omega), List.getElem?_append_left hq]

def xSame : Model := exM (orc []) r09_SameInts 1000

theorem same_ok {S : St} {a b : AVal} {d : List Nat} {B C : Nat} (ha : OutN B S a (pc d)) (hb : OutN C S b (pc d)) (hd : d.length < 900) : xSame [a, b] S = some (.bool true, S) := by
  have la := ha.lenA; have lb := hb.lenA
  rw [pc_len] at la lb
  have c0 : binA .neq (.int .i64 (d.length : Int)) (.int .i64 (d.length : Int)) = some (.bool false) := neq_f rfl
  obtain ⟨f', T, g1, g2⟩ : ∃ f' T, evC (orc []) 1000 r09_SameInts_s1 [(0, a), (1, b), (4, .bool false), (6, a), (7, .int .i64 (d.length : Int)), (8, b), (9, .int .i64 (d.length : Int)), (10, .bool false), (5, .int .i64 0)] S = some (.normal, f', T) ∧ T = S := by
    refine loop_post (O := orc []) (k := 1000) (id := 0) (b := r09_SameInts_l0)
      (I := fun i f T => T = S ∧ f.get 0 = a ∧ f.get 1 = b ∧ f.get 5 = .int .i64 (i : Int)) (Q := fun _ T => T = S) d.length (by omega) ?_ ?_ ⟨rfl, by simp [Fr.get], by simp [Fr.get], by simp [Fr.get]⟩
    · rintro i hi f T ⟨hT, f0, f1, f5⟩
      rw [hT]
      have hc : (pc d)[i]? = some (.int .i64 (L0 d i : Int)) := by rw [pc_get, List.getElem?_eq_getElem hi]; simp [L0, List.getD_eq_getElem?_getD, List.getElem?_eq_getElem hi]
      obtain ⟨p, p1, p2⟩ := ha.get hc
      obtain ⟨q, q1, q2⟩ := hb.get hc
      have c1 : binA .lss (.int .i64 (i : Int)) (.int .i64 (d.length : Int)) = some (.bool true) := lss_t (by omega)
      have c2 : binA .add (.int .i64 (i : Int)) (.int .i64 1) = some (.int .i64 ((i + 1 : Nat) : Int)) := add_is (by omega) (by omega) (by omega)
      have c3 : binA .neq (.int .i64 (L0 d i : Int)) (.int .i64 (L0 d i : Int)) = some (.bool false) := neq_f rfl
      generalize ((i + 1 : Nat) : Int) = z1 at *
      simp [r09_SameInts_l0, exM, orc, orcD, evF, evC_skip, evC_region, evC_cond, evC_exit, evC_ret, evOps, evOper, evAny, evOp, evCall, putR, putA, Fr.ev, Fr.of, Fr.get, Fr.set, stable, junkA, junkL, resultsA, resA, same, Post_seq, Post_block, Post_some, Fr.get_set, f0, f1, f5, la, c1, c2, c3, p1, p2, q1, q2]
    · rintro f T ⟨hT, f0, f1, f5⟩
      have c1 : binA .lss (.int .i64 (d.length : Int)) (.int .i64 (d.length : Int)) = some (.bool false) := lss_f (by omega)
      simp [r09_SameInts_l0, exM, orc, orcD, evF, evC_skip, evC_region, evC_cond, evC_exit, evC_ret, evOps, evOper, evAny, evOp, evCall, putR, putA, Fr.ev, Fr.of, Fr.get, Fr.set, stable, junkA, junkL, resultsA, resA, same, Post_seq, Post_block, Post_some, Fr.get_set, f0, f1, f5, la, c1, hT]
  unfold xSame exM
  refine evF_post (F := r09_SameInts) rfl rfl ?_
  simp only [orc] at g1
  simp [r09_SameInts, r09_SameInts_t2, exM, orc, orcD, evF, evC_skip, evC_region, evC_cond, evC_exit, evC_ret, evOps, evOper, evAny, evOp, evCall, putR, putA, Fr.ev, Fr.of, Fr.get, Fr.set, stable, junkA, junkL, resultsA, resA, same, Post_seq, Post_block, Post_some, la, lb, c0]
  refine Post.of g1 ?_
  simp [exM, orc, orcD, evF, evC_skip, evC_region, evC_cond, evC_exit, evC_ret, evOps, evOper, evAny, evOp, evCall, putR, putA, Fr.ev, Fr.of, Fr.get, Fr.set, stable, junkA, junkL, resultsA, resA, same, Post_seq, Post_block, Post_some, Fr.get_set, g2]

def mPlain : Model := pureM 3 (exM (orc []) l30_plain 10)
theorem plain_ok (p : Pc) (S : St) : mPlain [.agg p.cells] S = some (.agg p.cells, S) := by
  have h : exM (orc []) l30_plain 10 [.agg p.cells] [] = some (.agg p.cells, [.live 0 p.cells, .live 0 p.cells]) := by
    unfold exM
    refine evF_post (F := l30_plain) rfl rfl ?_
    simp [l30_plain, exM, orc, orcD, evF, evC_skip, evC_region, evC_cond, evC_exit, evC_ret, evOps, evOper, evAny, evOp, evCall, putR, putA, Fr.ev, Fr.of, Fr.get, Fr.set, stable, junkA, junkL, resultsA, resA, same, Post_seq, Post_block, Post_some, cells?, Pc.cells, faddrA, loadA, partA, fillA, splice, storeA]
  exact pureM_run rfl h rfl
end Am.Pol
end

/- The law on Keep: the rounds. -/
section
namespace Am.Pol
open Am Go Am.Ir
set_option maxRecDepth 100000
attribute [local congr] Post_cg
attribute [local simp] ox oz kx kz og ogz kg kgz mo ai

/-- Times in cells. -/
def uc (l : List Nat) : List AVal := l.map fun (t : Nat) => .int .u64 (t : Int)
theorem uc_len (l : List Nat) : (uc l).length = l.length := by simp [uc]
theorem uc_get {l : List Nat} {i : Nat} (h : i < l.length) : (uc l)[i]? = some (.int .u64 (L0 l i : Int)) := by
  simp [uc, L0, List.getD_eq_getElem?_getD, List.getElem?_eq_getElem h]

/-- Times as the law is given them. -/
def ArgU (x : AVal) (l : List Nat) : Prop := (x = .nils ∧ l = []) ∨ x = .fz false l.length (uc l)
theorem ArgU.times {x : AVal} {l : List Nat} (h : ArgU x l) (S : St) : Times 0 S x l := by
  rcases h with ⟨rfl, rfl⟩ | rfl
  · exact ⟨rfl, fun T _ i hi => by simp at hi, rfl⟩
  · refine ⟨rfl, fun T _ i hi => ⟨.fq (((uc l).drop (i * 1)).take 1), ?_, ?_⟩, rfl⟩
    · simp [iaddrSA, uc_len, hi]
    · have := uc_get hi
      simp [loadA, partA, this]
theorem ArgU.cells {x : AVal} {l : List Nat} (h : ArgU x l) (S : St) : cellsOf 1 x S = some (l.length, uc l) := by
  rcases h with ⟨rfl, rfl⟩ | rfl
  · rfl
  · simp [cellsOf, uc_len]

theorem own_times {T : St} {r v B : Nat} {l : List Nat} (h : T[r]? = some (.live v (uc l))) (hr : r < B) : Times B T (.sl r v 0 l.length 1) l := by
  refine ⟨rfl, fun U hU i hi => ⟨.ptr r v (0 + i * 1), by rw [iaS (by omega) (by omega), Int.toNat_natCast], ?_⟩, rfl⟩
  rw [load_c (v := v) (cs := uc l) (by rw [hU r hr]; exact h), Nat.zero_add, Nat.mul_one, uc_get hi]

def oLaw (al : Model) (k g : Nat) : Orc := orc [al, xKeep k g, mPlain, xKeep2, xSlot g, mSlot2, xDrop k g, xDrop2, xSame]

structure LwF (f : Fr) (x own a b : AVal) (kind : Int) : Prop where
  s0 : f.get 0 = x
  s2 : f.get 2 = .int .i64 kind
  s4 : f.get 4 = .ptr 0 0 0
  s7 : f.get 7 = own
  s8 : f.get 8 = a
  s9 : f.get 9 = b

theorem law_loop {al : Model} {k g B C : Nat} {T : St} {x own a b : AVal} {l : List Nat} {ks : List Bool} {kind : Int} (hx : Times 0 T x l) (ho : Times B T own l) (hl : U64 l) (hn : l.length ≤ 30) (hks : ks.length = l.length)
    (ha : Out C T a (bc ks)) {D : Nat} (hb : Out D T b (bc ks)) {f : Fr} (hf : LwF f x own a b kind) (f10 : f.get 10 = .int .i64 0) :
    ∃ f' U, evC (oLaw al k g) 1000 l30_PolicyKeep_s1 f T = some (.normal, f', U) ∧ U = T ∧ LwF f' x own a b kind := by
  have la := ha.lenA
  rw [bc_len, hks] at la
  refine loop_post (O := oLaw al k g) (k := 1000) (id := 0) (b := l30_PolicyKeep_l0)
    (I := fun i f U => U = T ∧ LwF f x own a b kind ∧ f.get 10 = .int .i64 (i : Int)) (Q := fun f U => U = T ∧ LwF f x own a b kind) l.length (by omega) ?_ ?_ ⟨rfl, hf, f10⟩
  · rintro i hi f U ⟨hU, ⟨s0, s2, s4, s7, s8, s9⟩, f10⟩
    rw [hU]
    have hc : (bc ks)[i]? = some (.bool (ks.getD i false)) := by rw [bc_get, List.getElem?_eq_getElem (by omega)]; simp [List.getD_eq_getElem?_getD, List.getElem?_eq_getElem (show i < ks.length by omega)]
    obtain ⟨a1, p1, p2⟩ := ha.get hc
    obtain ⟨a2, p3, p4⟩ := hb.get hc
    obtain ⟨a3, p5, p6⟩ := ho.get T (Old.refl _ _) i hi
    obtain ⟨a4, p7, p8⟩ := hx.get T (Old.refl _ _) i hi
    have q1 := slot_ok g (L0 l i) (hl.get _) kind T
    have q2 := slot2_ok (L0 l i) (hl.get _) kind T
    have c1 : binA .lss (.int .i64 (i : Int)) (.int .i64 (l.length : Int)) = some (.bool true) := lss_t (by omega)
    have c2 : binA .add (.int .i64 (i : Int)) (.int .i64 1) = some (.int .i64 ((i + 1 : Nat) : Int)) := add_is (by omega) (by omega) (by omega)
    have c3 : binA .neq (.int .u64 (L0 l i : Int)) (.int .u64 (L0 l i : Int)) = some (.bool false) := neq_f rfl
    have c4 : binA .neq (.int .u64 (slotN (L0 l i) kind : Int)) (.int .u64 (slotN (L0 l i) kind : Int)) = some (.bool false) := neq_f rfl
    suffices hmid : Post (evC (oLaw al k g) 1000 l30_PolicyKeep_l0 f T) (fun e f' U => e = .normal ∧ U = T ∧ (f'.get 0 = x ∧ f'.get 2 = .int .i64 kind ∧ f'.get 4 = .ptr 0 0 0 ∧ f'.get 7 = own ∧ f'.get 8 = a ∧ f'.get 9 = b) ∧ f'.get 10 = .int .i64 ((i + 1 : Nat) : Int)) by
      refine hmid.mono ?_
      rintro e f' U ⟨k1, k2, ⟨k3, k4, k5, k6, k7, k8⟩, k9⟩
      exact ⟨k1, k2, ⟨k3, k4, k5, k6, k7, k8⟩, k9⟩
    generalize ((i + 1 : Nat) : Int) = z1 at *
    generalize ks.getD i false = w at *
    unfold oLaw
    generalize xSlot g = m1 at *
    generalize mSlot2 = m2 at *
    simp [l30_PolicyKeep_l0, exM, orc, orcD, evF, evC_skip, evC_region, evC_cond, evC_exit, evC_ret, evOps, evOper, evAny, evOp, evCall, putR, putA, Fr.ev, Fr.of, Fr.get, Fr.set, stable, junkA, junkL, resultsA, resA, same, Post_seq, Post_block, Post_some, eq2, Fr.get_set, s0, s2, s4, s7, s8, s9, f10, la, c1, c2, c3, c4, p1, p2, p3, p4, p5, p6, p7, p8, q1, q2, trL, sameRead, sameVal, beqV]
  · rintro f U ⟨hU, ⟨s0, s2, s4, s7, s8, s9⟩, f10⟩
    have c1 : binA .lss (.int .i64 (l.length : Int)) (.int .i64 (l.length : Int)) = some (.bool false) := lss_f (by omega)
    suffices hmid : Post (evC (oLaw al k g) 1000 l30_PolicyKeep_l0 f U) (fun e f' V => e = .exit 0 ∧ V = T ∧ (f'.get 0 = x ∧ f'.get 2 = .int .i64 kind ∧ f'.get 4 = .ptr 0 0 0 ∧ f'.get 7 = own ∧ f'.get 8 = a ∧ f'.get 9 = b)) by
      refine hmid.mono ?_
      rintro e f' U ⟨k1, k2, ⟨k3, k4, k5, k6, k7, k8⟩⟩
      exact ⟨k1, k2, ⟨k3, k4, k5, k6, k7, k8⟩⟩
    simp [l30_PolicyKeep_l0, exM, orc, orcD, evF, evC_skip, evC_region, evC_cond, evC_exit, evC_ret, evOps, evOper, evAny, evOp, evCall, putR, putA, Fr.ev, Fr.of, Fr.get, Fr.set, stable, junkA, junkL, resultsA, resA, same, Post_seq, Post_block, Post_some, Fr.get_set, s0, s2, s4, s7, s8, s9, f10, la, c1, hU]

def xLawKeep (al : Model) (k g : Nat) : Model := exM (oLaw al k g) l30_PolicyKeep 1000

theorem lawKeep_ok {al : Model} (hal : ∀ S, al [] S = some (.bool true, S)) (k g : Nat) {x : AVal} {l : List Nat} (hx : ArgU x l) (hl : U64 l) (hlen : l.length ≤ 9223372036854775807) (p : Pc) (hok : p.Ok) (kind : Int) :
    ∃ T, xLawKeep al k g [x, .agg p.cells, .int .i64 kind] [] = some (.bool true, T) := by
  have c0 : cells? (.agg p.cells) = some p.cells := rfl
  have l0 := (hx.times []).len
  suffices h : ∃ T, evF (oLaw al k g) 1000 l30_PolicyKeep [x, .agg p.cells, .int .i64 kind] [] = some (.bool true, T) ∧ True by
    obtain ⟨T, h, _⟩ := h; exact ⟨T, h⟩
  refine evF_postX (F := l30_PolicyKeep) (R := fun _ => True) rfl rfl ?_
  by_cases h30 : 30 < l.length
  · have c1 : binA .gtr (.int .i64 (l.length : Int)) (.int .i64 30) = some (.bool true) := gtr_t (by omega)
    unfold oLaw
    simp [l30_PolicyKeep, exM, orc, orcD, evF, evC_skip, evC_region, evC_cond, evC_exit, evC_ret, evOps, evOper, evAny, evOp, evCall, putR, putA, Fr.ev, Fr.of, Fr.get, Fr.set, stable, junkA, junkL, resultsA, resA, same, Post_seq, Post_block, Post_some, c0, l0, c1, hal]
  have c1 : binA .gtr (.int .i64 (l.length : Int)) (.int .i64 30) = some (.bool false) := gtr_f (by omega)
  have c2 : fillA [] [] = some [] := rfl
  have c3 : appendA 1 8 (.sl 1 0 0 0 1) x [.live 0 p.cells, .live 0 []] = some (.sl 1 1 0 l.length 1, [.live 0 p.cells, .live 1 (uc l)]) := by
    have := hx.cells [.live 0 p.cells, .live 0 []]
    have h4 : l.length * 8 ≤ 140737488355328 := by omega
    simp [appendA, this, h4]
  have ho : Times 2 [ABlock.live 0 p.cells, .live 1 (uc l)] (.sl 1 1 0 l.length 1) l := own_times (by simp) (by omega)
  obtain ⟨T1, d, q1, q2, q3, q4, q5⟩ := keep_ok ho hl rfl (by omega) k g hok
  rw [keepL_eq q4] at q2
  have l1 : loadA (some 5) (.ptr 0 0 0) [ABlock.live 0 p.cells, .live 1 (uc l)] = some (.agg p.cells) := load_pol (by simp)
  have l2 : loadA (some 5) (.ptr 0 0 0) T1 = some (.agg p.cells) := load_pol (by rw [q3 0 (by omega)]; simp)
  obtain ⟨b, T2, r1, r2, r3⟩ := keep2_ok (hx.times T1) (by omega) hl (by omega) p
  have hpl := fun S => plain_ok p S
  have ho2 : Times 2 T2 (.sl 1 1 0 l.length 1) l := (ho.go q3).go (r2.old.less (by omega))
  have ha2 : Out 0 T2 (.sl 3 0 0 l.length 1) (bc (stays l p)) := ⟨3, 0, by omega, by simp [bc, stays], by rw [r2.old 3 (by omega)]; exact q2⟩
  have e0 : T2[0]? = some (.live 0 p.cells) := by rw [r2.old 0 (by omega), q3 0 (by omega)]; simp
  have l3 : loadA (some 5) (.ptr 0 0 0) T2 = some (.agg p.cells) := load_pol e0
  have lb := r3.lenA
  rw [bc_len, show (stays l p).length = l.length by simp [stays]] at lb
  have c4 : binA .neq (.int .i64 (l.length : Int)) (.int .i64 (l.length : Int)) = some (.bool false) := neq_f rfl
  have hL2 := r2.len
  have la3 : lenA .sl (.sl 3 0 0 l.length 1) = some (.int .i64 (l.length : Int)) := rfl
  obtain ⟨o1, T3, u1, u2, u3⟩ := drop_ok ho2 hl (by omega) (by omega) k g hok
  have l4 : loadA (some 5) (.ptr 0 0 0) T3 = some (.agg p.cells) := load_pol (by rw [u2.old 0 (by omega)]; exact e0)
  obtain ⟨o2, T4, w1, w2, w3⟩ := drop2_ok (hx.times T3) (by omega) hl (by omega) p
  have hsame := same_ok (u3.go w2) (.inr w3) (by have := filter_len (fun i => !stayB l p i) l.length; unfold gone; omega)
  have key := fun f hf f10 => law_loop (al := al) (k := k) (g := g) (kind := kind) (f := f) (hx.times T2) ho2 hl (by omega) (by simp [stays]) ha2 r3 hf f10
  unfold oLaw at *
  generalize xKeep k g = m1 at *
  generalize xKeep2 = m2 at *
  generalize mPlain = m3 at *
  generalize xDrop k g = m4 at *
  generalize xDrop2 = m5 at *
  generalize xSame = m6 at *
  simp [l30_PolicyKeep, l30_PolicyKeep_t2, exM, orc, orcD, evF, evC_skip, evC_region, evC_cond, evC_exit, evC_ret, evOps, evOper, evAny, evOp, evCall, putR, putA, Fr.ev, Fr.of, Fr.get, Fr.set, stable, junkA, junkL, resultsA, resA, same, Post_seq, Post_block, Post_some, c0, c1, c2, c3, c4, l0, l1, l2, q1, r1, hpl, lb, la3, trL, sameRead, sameVal, beqV, beqL_refl]
  refine (Post.ran (key _ ?_ ?_)).mono ?_
  · exact ⟨by simp [Fr.get], by simp [Fr.get], by simp [Fr.get], by simp [Fr.get], by simp [Fr.get], by simp [Fr.get]⟩
  · simp [Fr.get]
  rintro _ f U ⟨rfl, rfl, ⟨s0, s2, s4, s7, s8, s9⟩⟩
  rw [if_pos rfl]
  simp [exM, orc, orcD, evF, evC_skip, evC_region, evC_cond, evC_exit, evC_ret, evOps, evOper, evAny, evOp, evCall, putR, putA, Fr.ev, Fr.of, Fr.get, Fr.set, stable, junkA, junkL, resultsA, resA, same, Post_seq, Post_block, Post_some, Fr.get_set, s0, s2, s4, s7, s8, s9, hal, l3, l4, u1, hpl, w1, hsame, trL, sameRead, sameVal, beqV, beqL_refl]
end Am.Pol
end

