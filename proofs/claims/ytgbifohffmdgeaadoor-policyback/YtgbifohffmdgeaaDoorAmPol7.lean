import Derived.Test.YtgbifohffmdgeaaDoorAmPol1
import Derived.Test.YtgbifohffmdgeaaDoorAmIrPolX
set_option linter.all false
/- The clock: Split, as the document does it. -/
section
namespace Am
theorem Post.loop {O : Orc} {k : Nat} {b : ACode} {I : Nat → Fr → St → Prop} {Q : Ex → Fr → St → Prop} (n : Nat) (hk : n < k)
    (hs : ∀ j, j < n → ∀ f S, I j f S → Post (evC O k b f S) fun e f' S' => (e = .normal ∧ I (j + 1) f' S') ∨ (e ≠ .normal ∧ Q e f' S'))
    (he : ∀ f S, I n f S → Post (evC O k b f S) fun e f' S' => e ≠ .normal ∧ Q e f' S') {f : Fr} {S : St} (hI : I 0 f S) : Post (evC O k (.loop b) f S) Q := by
  obtain ⟨e, f', S', h1, _, h3⟩ := iter_post n hs he hk hI
  exact Post.of (by simpa [evC] using h1) h3
end Am
namespace Am.Pol
open Am Go Am.Ir
set_option maxRecDepth 100000
attribute [local simp] ox oz kx kz og ogz kg kgz mo ai

def xDays2 : Model := exM (orc []) r29_Days 10

theorem days2_ok (y m : Nat) (hy : 2000 ≤ y) (hy' : y ≤ 2199) (hm : 1 ≤ m) (hm' : m ≤ 12) (S : St) : xDays2 [.int .i64 (y : Int), .int .i64 (m : Int)] S = some (.int .i64 (daysN y m : Int), S) := by
  have h1 : binA .lss (.int .i64 (y : Int)) (.int .i64 2000) = some (.bool false) := lss_f (by omega)
  have h2 : binA .gtr (.int .i64 (y : Int)) (.int .i64 2199) = some (.bool false) := gtr_f (by omega)
  have h3 : binA .lss (.int .i64 (m : Int)) (.int .i64 1) = some (.bool false) := lss_f (by omega)
  have h4 : binA .gtr (.int .i64 (m : Int)) (.int .i64 12) = some (.bool false) := gtr_f (by omega)
  have r1 : binA .rem (.int .i64 (y : Int)) (.int .i64 400) = some (.int .i64 ((y % 400 : Nat) : Int)) := by rw [rem_i (by omega) (by omega)]; simp
  have r2 : binA .rem (.int .i64 (y : Int)) (.int .i64 4) = some (.int .i64 ((y % 4 : Nat) : Int)) := by rw [rem_i (by omega) (by omega)]; simp
  have r3 : binA .rem (.int .i64 (y : Int)) (.int .i64 100) = some (.int .i64 ((y % 100 : Nat) : Int)) := by rw [rem_i (by omega) (by omega)]; simp
  have e1 : binA .eql (.int .i64 ((y % 400 : Nat) : Int)) (.int .i64 0) = some (.bool (y % 400 == 0)) := by
    by_cases h : y % 400 = 0
    · rw [eql_t (by omega)]; simp [h]
    · rw [eql_f (by omega)]; simp [h]
  have e2 : binA .eql (.int .i64 ((y % 4 : Nat) : Int)) (.int .i64 0) = some (.bool (y % 4 == 0)) := by
    by_cases h : y % 4 = 0
    · rw [eql_t (by omega)]; simp [h]
    · rw [eql_f (by omega)]; simp [h]
  have e3 : binA .neq (.int .i64 ((y % 100 : Nat) : Int)) (.int .i64 0) = some (.bool (y % 100 != 0)) := by
    by_cases h : y % 100 = 0
    · rw [neq_f (by omega)]; simp [h]
    · rw [neq_t (by omega)]; simp [h]
  unfold daysN leapB
  generalize ((y % 400 : Nat) : Int) = a1 at *
  generalize ((y % 4 : Nat) : Int) = a2 at *
  generalize ((y % 100 : Nat) : Int) = a3 at *
  generalize (y % 400 == 0) = b1 at *
  generalize (y % 4 == 0) = b2 at *
  generalize (y % 100 != 0) = b3 at *
  generalize (y : Int) = y0 at *
  by_cases hm2 : m = 2
  · subst hm2
    have h3' : binA .lss (.int .i64 2) (.int .i64 1) = some (.bool false) := rfl
    have h4' : binA .gtr (.int .i64 2) (.int .i64 12) = some (.bool false) := rfl
    clear h3 h4
    cases b1 <;> cases b2 <;> cases b3 <;> simp [xDays2, r29_Days, exM, orc, orcD, evF, evC, evOps, evOper, evAny, evOp, evCall, putR, putA, Fr.ev, Fr.of, Fr.get, Fr.set, stable, junkA, junkL, resultsA, resA, same, h1, h2, h3', h4', r1, r2, r3, e1, e2, e3, eql_g]
  · have d2 : binA .eql (.int .i64 (m : Int)) (.int .i64 2) = some (.bool false) := eql_f (by omega)
    have d4 : binA .eql (.int .i64 (m : Int)) (.int .i64 4) = some (.bool (decide (m = 4))) := by rw [eql_g]; congr 3; exact propext (by omega)
    have d6 : binA .eql (.int .i64 (m : Int)) (.int .i64 6) = some (.bool (decide (m = 6))) := by rw [eql_g]; congr 3; exact propext (by omega)
    have d9 : binA .eql (.int .i64 (m : Int)) (.int .i64 9) = some (.bool (decide (m = 9))) := by rw [eql_g]; congr 3; exact propext (by omega)
    have d11 : binA .eql (.int .i64 (m : Int)) (.int .i64 11) = some (.bool (decide (m = 11))) := by rw [eql_g]; congr 3; exact propext (by omega)
    rw [if_neg hm2]
    generalize (m : Int) = m0 at *
    by_cases c4 : m = 4
    · simp [xDays2, r29_Days, exM, orc, orcD, evF, evC, evOps, evOper, evAny, evOp, evCall, putR, putA, Fr.ev, Fr.of, Fr.get, Fr.set, stable, junkA, junkL, resultsA, resA, same, h1, h2, h3, h4, d2, d4, c4]
    by_cases c6 : m = 6
    · simp [xDays2, r29_Days, exM, orc, orcD, evF, evC, evOps, evOper, evAny, evOp, evCall, putR, putA, Fr.ev, Fr.of, Fr.get, Fr.set, stable, junkA, junkL, resultsA, resA, same, h1, h2, h3, h4, d2, d4, d6, c6]
    by_cases c9 : m = 9
    · simp [xDays2, r29_Days, exM, orc, orcD, evF, evC, evOps, evOper, evAny, evOp, evCall, putR, putA, Fr.ev, Fr.of, Fr.get, Fr.set, stable, junkA, junkL, resultsA, resA, same, h1, h2, h3, h4, d2, d4, d6, d9, c9]
    by_cases c11 : m = 11
    · simp [xDays2, r29_Days, exM, orc, orcD, evF, evC, evOps, evOper, evAny, evOp, evCall, putR, putA, Fr.ev, Fr.of, Fr.get, Fr.set, stable, junkA, junkL, resultsA, resA, same, h1, h2, h3, h4, d2, d4, d6, d9, d11, c11]
    simp [xDays2, r29_Days, exM, orc, orcD, evF, evC, evOps, evOper, evAny, evOp, evCall, putR, putA, Fr.ev, Fr.of, Fr.get, Fr.set, stable, junkA, junkL, resultsA, resA, same, h1, h2, h3, h4, d2, d4, d6, d9, d11, c4, c6, c9, c11]
end Am.Pol
end

/- The clock: Split and a time's slot, as the document does them. -/
section
namespace Am.Pol
open Am Go Am.Ir
set_option maxRecDepth 100000
attribute [local simp] ox oz kx kz og ogz kg kgz mo ai

theorem lss_g {k : IntKind} (a b : Int) : binA .lss (.int k a) (.int k b) = some (.bool (decide (a < b))) := by simp [binA, intBin]
theorem sub_u {a b : Nat} (h : b ≤ a) (ha : a < 18446744073709551616) : binA .sub (.int .u64 (a : Int)) (.int .u64 (b : Int)) = some (.int .u64 ((a - b : Nat) : Int)) := by
  have h1 : (a : Int) - (b : Int) = ((a - b : Nat) : Int) := by omega
  simp only [binA, intBin, h1]
  rw [if_neg (by simp), wrapU64 (by omega), if_pos trivial]

def oSplit2 : Orc := orc [xDays2]

/-- In a month. -/
structure R29 (q left s : Nat) (f : Fr) (S : St) : Prop where
  hS : S = [.live 0 zero6]
  s2 : f.get 2 = .ptr 0 0 0
  s4 : f.get 4 = .int .u64 (left : Int)
  s5 : f.get 5 = .int .i64 (s : Int)

def F29 (q l s : Nat) (f : Fr) (S : St) : Prop := S = [.live 0 (dateC q l s)] ∧ f.get 2 = .ptr 0 0 0 ∧ f.get 3 = .int .i64 0

theorem split2_round {y j left s : Nat} (hy : y < 200) (hj : j < 12) (hl : left < 18446744073709551616) (hs : s < 86400) {f : Fr} {S : St} (h : R29 (y * 12 + j) left s f S)
    (h6 : f.get 6 = .int .i64 ((2000 + y : Nat) : Int)) (h7 : f.get 7 = .int .i64 ((j + 1 : Nat) : Int)) :
    Post (evC oSplit2 10000 r29_Split_l0 f S) fun e f' S' => if left < mlen (y * 12 + j) then e = .ret ∧ F29 (y * 12 + j) left s f' S' else
      e = .normal ∧ R29 (y * 12 + (j + 1)) (left - mlen (y * 12 + j)) s f' S' ∧ f'.get 6 = .int .i64 ((2000 + y : Nat) : Int) ∧ f'.get 7 = .int .i64 ((j + 1 + 1 : Nat) : Int) := by
  obtain ⟨rfl, h2, h4, h5⟩ := h
  have hm := mlen_at (y := y) hj
  have h31 := daysN_31 (2000 + y) (j + 1)
  rw [hm]
  have a0 : binA .leq (.int .i64 ((j + 1 : Nat) : Int)) (.int .i64 12) = some (.bool true) := leq_t (by omega)
  have a1 := days2_ok (2000 + y) (j + 1) (by omega) (by omega) (by omega) (by omega) [.live 0 zero6]
  have a2 : IntKind.u64.wrap (daysN (2000 + y) (j + 1) : Int) = (daysN (2000 + y) (j + 1) : Int) := conv_u64 (by omega) (by omega)
  by_cases hc : left < daysN (2000 + y) (j + 1)
  · rw [show (fun (e : Ex) (f' : Fr) (S' : St) => if left < daysN (2000 + y) (j + 1) then e = .ret ∧ F29 (y * 12 + j) left s f' S' else
      e = .normal ∧ R29 (y * 12 + (j + 1)) (left - daysN (2000 + y) (j + 1)) s f' S' ∧ f'.get 6 = .int .i64 ((2000 + y : Nat) : Int) ∧ f'.get 7 = .int .i64 ((j + 1 + 1 : Nat) : Int)) = fun e f' S' => e = .ret ∧ F29 (y * 12 + j) left s f' S' from by simp only [if_pos hc]]
    have c0 : binA .lss (.int .u64 (left : Int)) (.int .u64 (daysN (2000 + y) (j + 1) : Int)) = some (.bool true) := lss_t (by omega)
    have cw : IntKind.i64.wrap (left : Int) = (left : Int) := conv_i64 (by omega) (by omega)
    have c1 : binA .add (.int .i64 (left : Int)) (.int .i64 1) = some (.int .i64 ((left + 1 : Nat) : Int)) := add_is (by omega) (by omega) (by omega)
    have c2 : binA .quo (.int .i64 (s : Int)) (.int .i64 3600) = some (.int .i64 ((s / 3600 : Nat) : Int)) := by rw [quo_i (by omega) (by omega) (by omega)]; simp
    have c3 : binA .quo (.int .i64 (s : Int)) (.int .i64 60) = some (.int .i64 ((s / 60 : Nat) : Int)) := by rw [quo_i (by omega) (by omega) (by omega)]; simp
    have c4 : binA .rem (.int .i64 ((s / 60 : Nat) : Int)) (.int .i64 60) = some (.int .i64 ((s / 60 % 60 : Nat) : Int)) := by rw [rem_i (by omega) (by omega)]; simp
    have c5 : binA .rem (.int .i64 (s : Int)) (.int .i64 60) = some (.int .i64 ((s % 60 : Nat) : Int)) := by rw [rem_i (by omega) (by omega)]; simp
    have hd : dateC (y * 12 + j) left s = [.int .i64 ((2000 + y : Nat) : Int), .int .i64 ((j + 1 : Nat) : Int), .int .i64 ((left + 1 : Nat) : Int), .int .i64 ((s / 3600 : Nat) : Int), .int .i64 ((s / 60 % 60 : Nat) : Int), .int .i64 ((s % 60 : Nat) : Int)] := by
      unfold dateC
      rw [show (y * 12 + j) / 12 = y by omega, show (y * 12 + j) % 12 = j by omega]
    unfold F29
    rw [hd]
    clear hd hc h31 hm
    unfold zero6 at *
    generalize ((2000 + y : Nat) : Int) = z1 at *
    generalize ((j + 1 : Nat) : Int) = z2 at *
    generalize ((left + 1 : Nat) : Int) = z3 at *
    generalize ((s / 3600 : Nat) : Int) = z4 at *
    generalize ((s / 60 % 60 : Nat) : Int) = z5 at *
    generalize ((s % 60 : Nat) : Int) = z6 at *
    generalize ((s / 60 : Nat) : Int) = z7 at *
    generalize (daysN (2000 + y) (j + 1) : Int) = z8 at *
    simp [r29_Split_l0, oSplit2, exM, orc, orcD, evF, evC, evOps, evOper, evAny, evOp, evCall, putR, putA, Fr.ev, Fr.of, Fr.get, Fr.set, stable, junkA, junkL, resultsA, resA, same, Fr.get_set, h2, h4, h5, h6, h7, a0, a1, a2, c0, cw, c1, c2, c3, c4, c5, storeA, cells?, splice, fillA, Post_some]
  · rw [show (fun (e : Ex) (f' : Fr) (S' : St) => if left < daysN (2000 + y) (j + 1) then e = .ret ∧ F29 (y * 12 + j) left s f' S' else
      e = .normal ∧ R29 (y * 12 + (j + 1)) (left - daysN (2000 + y) (j + 1)) s f' S' ∧ f'.get 6 = .int .i64 ((2000 + y : Nat) : Int) ∧ f'.get 7 = .int .i64 ((j + 1 + 1 : Nat) : Int)) = fun e f' S' => e = .normal ∧ R29 (y * 12 + (j + 1)) (left - daysN (2000 + y) (j + 1)) s f' S' ∧ f'.get 6 = .int .i64 ((2000 + y : Nat) : Int) ∧ f'.get 7 = .int .i64 ((j + 1 + 1 : Nat) : Int) from by simp only [if_neg hc]]
    have c0 : binA .lss (.int .u64 (left : Int)) (.int .u64 (daysN (2000 + y) (j + 1) : Int)) = some (.bool false) := lss_f (by omega)
    have c1 : binA .sub (.int .u64 (left : Int)) (.int .u64 (daysN (2000 + y) (j + 1) : Int)) = some (.int .u64 ((left - daysN (2000 + y) (j + 1) : Nat) : Int)) := sub_u (by omega) hl
    have c2 : binA .add (.int .i64 ((j + 1 : Nat) : Int)) (.int .i64 1) = some (.int .i64 ((j + 1 + 1 : Nat) : Int)) := add_is (by omega) (by omega) (by omega)
    suffices hmid : Post (evC oSplit2 10000 r29_Split_l0 f [.live 0 zero6]) (fun e f' S' => e = .normal ∧ S' = [.live 0 zero6] ∧ f'.get 2 = .ptr 0 0 0 ∧ f'.get 4 = .int .u64 ((left - daysN (2000 + y) (j + 1) : Nat) : Int) ∧ f'.get 5 = .int .i64 (s : Int)
        ∧ f'.get 6 = .int .i64 ((2000 + y : Nat) : Int) ∧ f'.get 7 = .int .i64 ((j + 1 + 1 : Nat) : Int)) by
      refine hmid.mono ?_
      rintro e f' S' ⟨k1, k2, k3, k4, k5, k6, k7⟩
      exact ⟨k1, ⟨k2, k3, k4, k5⟩, k6, k7⟩
    clear hc h31 hm
    generalize ((2000 + y : Nat) : Int) = z1 at *
    generalize ((j + 1 + 1 : Nat) : Int) = z3 at *
    generalize ((j + 1 : Nat) : Int) = z2 at *
    generalize ((left - daysN (2000 + y) (j + 1) : Nat) : Int) = z4 at *
    generalize (daysN (2000 + y) (j + 1) : Int) = z8 at *
    simp [r29_Split_l0, oSplit2, exM, orc, orcD, evF, evC, evOps, evOper, evAny, evOp, evCall, putR, putA, Fr.ev, Fr.of, Fr.get, Fr.set, stable, junkA, junkL, resultsA, resA, same, Fr.get_set, h2, h4, h5, h6, h7, a0, a1, a2, c0, c1, c2, Post_some]
end Am.Pol
end

/- The clock: all of the document's Split. -/
section
namespace Am.Pol
open Am Go Am.Ir
set_option maxRecDepth 100000
attribute [local simp] ox oz kx kz og ogz kg kgz mo ai

theorem mof_at (k q left : Nat) : mof (k + 1) q left = if left < mlen q then (q, left) else mof k (q + 1) (left - mlen q) := by rw [mof]

/-- The rounds of a year: what the whole is, is what the rest is. -/
structure Y29 (day s y j : Nat) (f : Fr) (S : St) : Prop where
  ex : ∃ left, left < 18446744073709551616 ∧ mof 2400 0 day = mof (2400 - (y * 12 + j)) (y * 12 + j) left ∧ R29 (y * 12 + j) left s f S
  s6 : f.get 6 = .int .i64 ((2000 + y : Nat) : Int)

/-- Found, or all is over. -/
def Fin29 (day s : Nat) (f : Fr) (S : St) : Prop := (mof 2400 0 day).1 < 2400 ∧ F29 (mof 2400 0 day).1 (mof 2400 0 day).2 s f S

theorem year29 {day s y : Nat} (hy : y < 200) (hs : s < 86400) {f : Fr} {S : St} (h : Y29 day s y 0 f S) :
    Post (evC oSplit2 10000 r29_Split_b2 f S) fun e f' S' => (e = .normal ∧ Y29 day s y 12 f' S') ∨ (e = .ret ∧ Fin29 day s f' S') := by
  unfold r29_Split_b2
  refine Post.block ?_
  rw [Post_seq]
  obtain ⟨⟨left, hl, hmof, h0, h2, h4, h5⟩, h6⟩ := h
  subst h0
  suffices hmid : ∀ f, Y29 day s y 0 f [.live 0 zero6] ∧ f.get 7 = .int .i64 ((0 + 1 : Nat) : Int) → Post (evC oSplit2 10000 r29_Split_s1 f [.live 0 zero6]) (fun e f' S' => (e = .normal ∧ Y29 day s y 12 f' S') ∨ (e = .ret ∧ Fin29 day s f' S')) by
    simp [exM, orc, orcD, evF, evC, evOps, evOper, evAny, evOp, evCall, putR, putA, Fr.ev, Fr.of, Fr.get, Fr.set, stable, junkA, junkL, resultsA, resA, same, Post_some]
    refine Post.mono (hmid (f.set 7 (.int .i64 1)) ⟨⟨⟨left, hl, hmof, rfl, ?_, ?_, ?_⟩, ?_⟩, ?_⟩) ?_
    · simpa [Fr.get_set] using h2
    · simpa [Fr.get_set] using h4
    · simpa [Fr.get_set] using h5
    · simpa [Fr.get_set] using h6
    · simp [Fr.get_set]
    · rintro e f' S' (⟨rfl, k⟩ | ⟨rfl, k⟩)
      · exact .inl ⟨by simp, k⟩
      · exact .inr ⟨by simp, k⟩
  rintro f1 ⟨hY, h7⟩
  unfold r29_Split_s1
  refine Post.block ?_
  refine Post.mono (Post.loop (I := fun j f S => Y29 day s y j f S ∧ f.get 7 = .int .i64 ((j + 1 : Nat) : Int)) (Q := fun e f S => (e = .exit 2 ∧ Y29 day s y 12 f S) ∨ (e = .ret ∧ Fin29 day s f S)) 12 (by omega) ?_ ?_ ⟨hY, h7⟩) ?_
  · rintro j hj f S ⟨⟨⟨left, hl, hmof, hR⟩, h6⟩, h7⟩
    refine (split2_round hy hj hl hs hR h6 h7).mono ?_
    rintro e f' S' hq
    rw [show 2400 - (y * 12 + j) = (2400 - (y * 12 + (j + 1))) + 1 by omega, mof_at (2400 - (y * 12 + (j + 1))) (y * 12 + j) left] at hmof
    by_cases hc : left < mlen (y * 12 + j)
    · rw [if_pos hc] at hq hmof
      obtain ⟨rfl, hF⟩ := hq
      exact .inr ⟨by simp, .inr ⟨rfl, by rw [hmof]; show y * 12 + j < 2400; omega, by rw [hmof]; exact hF⟩⟩
    · rw [if_neg hc] at hq hmof
      obtain ⟨rfl, hR', k6, k7⟩ := hq
      exact .inl ⟨rfl, ⟨⟨_, by omega, hmof, hR'⟩, k6⟩, k7⟩
  · rintro f S ⟨⟨⟨left, hl, hmof, rfl, h2, h4, h5⟩, h6⟩, h7⟩
    have a0 : binA .leq (.int .i64 ((12 + 1 : Nat) : Int)) (.int .i64 12) = some (.bool false) := leq_f (by omega)
    suffices hmid : Post (evC oSplit2 10000 r29_Split_l0 f [.live 0 zero6]) (fun e f' S' => e = .exit 2 ∧ S' = [.live 0 zero6] ∧ f'.get 2 = .ptr 0 0 0 ∧ f'.get 4 = .int .u64 (left : Int) ∧ f'.get 5 = .int .i64 (s : Int) ∧ f'.get 6 = .int .i64 ((2000 + y : Nat) : Int)) by
      refine hmid.mono ?_
      rintro e f' S' ⟨rfl, rfl, k2, k4, k5, k6⟩
      exact ⟨by simp, .inl ⟨rfl, ⟨⟨left, hl, hmof, rfl, k2, k4, k5⟩, k6⟩⟩⟩
    generalize ((12 + 1 : Nat) : Int) = z at *
    simp [r29_Split_l0, oSplit2, exM, orc, orcD, evF, evC, evOps, evOper, evAny, evOp, evCall, putR, putA, Fr.ev, Fr.of, Fr.get, Fr.set, stable, junkA, junkL, resultsA, resA, same, Fr.get_set, h2, h4, h5, h6, h7, a0, Post_some]
  · rintro e f' S' (⟨rfl, k⟩ | ⟨rfl, k⟩)
    · exact .inl ⟨rfl, k⟩
    · exact .inr ⟨rfl, k⟩
end Am.Pol
end

/- The document's Split and Slot are the program's. -/
section
namespace Am.Pol
open Am Go Am.Ir
set_option maxRecDepth 100000
attribute [local simp] ox oz kx kz og ogz kg kgz mo ai

theorem mof_0 (q left : Nat) : mof 0 q left = (q, left) := by rw [mof]

/-- The year that a round begins with. -/
def A29 (day s y : Nat) (f : Fr) (S : St) : Prop := Y29 day s y 0 f S

theorem turn29 {day s y : Nat} (hy : y < 200) {f : Fr} {S : St} (h : Y29 day s y 12 f S) {f' : Fr} (h2 : f'.get 2 = f.get 2) (h4 : f'.get 4 = f.get 4) (h5 : f'.get 5 = f.get 5) (h6 : f'.get 6 = .int .i64 ((2000 + (y + 1) : Nat) : Int)) : Y29 day s (y + 1) 0 f' S := by
  obtain ⟨⟨left, hl, hmof, h0, k2, k4, k5⟩, k6⟩ := h
  refine ⟨⟨left, hl, ?_, h0, by rw [h2, k2], by rw [h4, k4], by rw [h5, k5]⟩, h6⟩
  rw [hmof, show y * 12 + 12 = (y + 1) * 12 + 0 by omega]

theorem years29 {day s : Nat} (hs : s < 86400) {f : Fr} {S : St} (h : Y29 day s 0 0 f S) :
    Post (evC oSplit2 10000 r29_Split_s5 f S) fun e f' S' => (e = .normal ∧ Y29 day s 200 0 f' S') ∨ (e = .ret ∧ Fin29 day s f' S') := by
  unfold r29_Split_s5
  refine Post.block ?_
  refine Post.mono (Post.loop (I := fun y f S => Y29 day s y 0 f S) (Q := fun e f S => (e = .exit 0 ∧ Y29 day s 200 0 f S) ∨ (e = .ret ∧ Fin29 day s f S)) 200 (by omega) ?_ ?_ h) ?_
  · intro y hy f S h
    have h6 := h.s6
    have a0 : binA .leq (.int .i64 ((2000 + y : Nat) : Int)) (.int .i64 2199) = some (.bool true) := leq_t (by omega)
    have a1 : binA .add (.int .i64 ((2000 + y : Nat) : Int)) (.int .i64 1) = some (.int .i64 ((2000 + (y + 1) : Nat) : Int)) := add_is (by omega) (by omega) (by omega)
    have hgo : ∀ f', f'.get 2 = f.get 2 → f'.get 4 = f.get 4 → f'.get 5 = f.get 5 → f'.get 6 = f.get 6 → Y29 day s y 0 f' S := by
      intro f' e2 e4 e5 e6
      obtain ⟨⟨left, hl, hmof, h0, k2, k4, k5⟩, k6⟩ := h
      exact ⟨⟨left, hl, hmof, h0, by rw [e2, k2], by rw [e4, k4], by rw [e5, k5]⟩, by rw [e6, k6]⟩
    simp only [r29_Split_l4, r29_Split_t3, Post_seq]
    obtain ⟨z, hz⟩ : ∃ z, ((2000 + y : Nat) : Int) = z := ⟨_, rfl⟩
    obtain ⟨z', hz'⟩ : ∃ z, ((2000 + (y + 1) : Nat) : Int) = z := ⟨_, rfl⟩
    have hz2 : ∀ k : Fr, k.get 6 = .int .i64 ((2000 + y : Nat) : Int) → k.get 6 = .int .i64 z := fun k h => by rw [h, hz]
    rw [hz] at h6 a0 a1
    rw [hz'] at a1
    simp [exM, orc, orcD, evF, evC, evOps, evOper, evAny, evOp, evCall, putR, putA, Fr.ev, Fr.of, Fr.get, Fr.set, stable, junkA, junkL, resultsA, resA, same, Fr.get_set, h6, a0, Post_some]
    refine Post.mono (year29 hy hs (hgo _ ?_ ?_ ?_ ?_)) ?_
    · simp [Fr.get_set]
    · simp [Fr.get_set]
    · simp [Fr.get_set]
    · simp [Fr.get_set]
    · rintro e f1 S1 (⟨rfl, k⟩ | ⟨rfl, k⟩)
      · have k6 := hz2 _ k.s6
        have ht : ∀ f', f'.get 2 = f1.get 2 → f'.get 4 = f1.get 4 → f'.get 5 = f1.get 5 → f'.get 6 = .int .i64 z' → Y29 day s (y + 1) 0 f' S1 := fun f' e2 e4 e5 e6 => turn29 hy k e2 e4 e5 (by rw [e6, hz'])
        simp [exM, orc, orcD, evF, evC, evOps, evOper, evAny, evOp, evCall, putR, putA, Fr.ev, Fr.of, Fr.get, Fr.set, stable, junkA, junkL, resultsA, resA, same, Fr.get_set, k6, a1, Post_some]
        apply ht <;> simp [Fr.get_set]
      · simp [k]
  · intro f S h
    have h6 := h.s6
    have a0 : binA .leq (.int .i64 ((2000 + 200 : Nat) : Int)) (.int .i64 2199) = some (.bool false) := leq_f (by omega)
    have hgo : ∀ f', f'.get 2 = f.get 2 → f'.get 4 = f.get 4 → f'.get 5 = f.get 5 → f'.get 6 = f.get 6 → Y29 day s 200 0 f' S := by
      intro f' e2 e4 e5 e6
      obtain ⟨⟨left, hl, hmof, h0, k2, k4, k5⟩, k6⟩ := h
      exact ⟨⟨left, hl, hmof, h0, by rw [e2, k2], by rw [e4, k4], by rw [e5, k5]⟩, by rw [e6, k6]⟩
    simp only [r29_Split_l4, r29_Split_t3, Post_seq]
    generalize ((2000 + 200 : Nat) : Int) = z at *
    simp [exM, orc, orcD, evF, evC, evOps, evOper, evAny, evOp, evCall, putR, putA, Fr.ev, Fr.of, Fr.get, Fr.set, stable, junkA, junkL, resultsA, resA, same, Fr.get_set, h6, a0, Post_some]
    apply hgo <;> simp [Fr.get_set]
  · rintro e f' S' (⟨rfl, k⟩ | ⟨rfl, k⟩)
    · exact .inl ⟨by simp, k⟩
    · exact .inr ⟨by simp, k⟩
end Am.Pol
end

/- The document's Split and Slot are the program's. -/
section
namespace Am.Pol
open Am Go Am.Ir
set_option maxRecDepth 100000
attribute [local simp] ox oz kx kz og ogz kg kgz mo ai

def xSplit2 : Model := exM oSplit2 r29_Split 10000
def mSplit2 : Model := pureM 3 xSplit2

theorem mof_lt {day : Nat} (h : (mof 2400 0 day).1 < 2400) : day < 73049 := by
  by_cases h' : day < 73049
  · exact h'
  · have := mof_late (day := day) (by rw [ydN_2200]; omega)
    omega

theorem split2_run (t : Nat) (ht : t < 18446744073709551616) : ∃ T, xSplit2 [.int .u64 (t : Int)] [] = some (splitA t, T) := by
  have b1 : binA .rem (.int .u64 (t : Int)) (.int .u64 86400) = some (.int .u64 ((t % 86400 : Nat) : Int)) := rem_u (b := 86400) (by omega)
  have b2 : IntKind.i64.wrap ((t % 86400 : Nat) : Int) = ((t % 86400 : Nat) : Int) := conv_i64 (by omega) (by omega)
  have b3 : binA .quo (.int .u64 (t : Int)) (.int .u64 86400) = some (.int .u64 ((t / 86400 : Nat) : Int)) := quo_u (b := 86400) ht (by omega)
  obtain ⟨day, hday⟩ : ∃ day, t / 86400 = day := ⟨_, rfl⟩
  obtain ⟨s, hs⟩ : ∃ s, t % 86400 = s := ⟨_, rfl⟩
  have hs' : s < 86400 := by omega
  have hd' : day < 18446744073709551616 := by omega
  unfold splitA
  rw [hday] at b3 ⊢
  rw [hs] at b1 b2 ⊢
  suffices hm : Post (evC oSplit2 10000 r29_Split.body (Fr.of [.int .u64 (t : Int)]) []) (fun e f S1 => (e = .normal ∨ e = .ret) ∧ resultsA f S1 r29_Split.results = some (if day < 73049 then .tup [.agg (dateC (mof 2400 0 day).1 (mof 2400 0 day).2 s), .int .i64 0] else .tup [.agg zero6, .int .i64 4])) by
    obtain ⟨e, f, S1, g1, g2, g3⟩ := hm.ex
    refine ⟨S1, ?_⟩
    unfold xSplit2 exM
    refine evF_post (F := r29_Split) rfl rfl ?_
    exact Post.of g1 ⟨g2, g3, rfl⟩
  have hgo : ∀ f : Fr, f.get 2 = .ptr 0 0 0 → f.get 4 = .int .u64 (day : Int) → f.get 5 = .int .i64 (s : Int) → f.get 6 = .int .i64 2000 → Y29 day s 0 0 f [.live 0 zero6] := fun f e2 e4 e5 e6 => ⟨⟨day, hd', rfl, rfl, e2, e4, e5⟩, e6⟩
  have hz6 : zero6 = [.int .i64 0, .int .i64 0, .int .i64 0, .int .i64 0, .int .i64 0, .int .i64 0] := rfl
  simp only [r29_Split, r29_Split_t6, Post_seq]
  rw [← hz6]
  simp [exM, orc, orcD, evF, evC, evOps, evOper, evAny, evOp, evCall, putR, putA, Fr.ev, Fr.of, Fr.get, Fr.set, stable, junkA, junkL, resultsA, resA, same, Fr.get_set, b1, b2, b3, Post_some]
  refine Post.mono (years29 hs' (hgo _ rfl rfl rfl rfl)) ?_
  rintro e f S1 (⟨rfl, k⟩ | ⟨rfl, hlt, hF⟩)
  · obtain ⟨⟨left, _, hmof, rfl, k2, _, _⟩, _⟩ := k
    have hge : ¬ day < 73049 := by
      intro h
      obtain ⟨y, j, l, hym⟩ := ym_find (day := day) (by rw [ydN_2200]; exact h)
      have h1 := hym.mof
      rw [h1, show 2400 - (200 * 12 + 0) = 0 by omega, mof_0] at hmof
      have := hym.hy; have := hym.hj
      simp only [Prod.mk.injEq] at hmof
      omega
    rw [if_neg hge]
    have hst : storeA 6 (.ptr 0 0 0) (.agg zero6) [.live 0 zero6] = some [.live 0 zero6] := rfl
    have hb : fillA zero6 [] = some zero6 := rfl
    have hld : loadA (some 6) (.ptr 0 0 0) [.live 0 zero6] = some (.agg zero6) := rfl
    simp [exM, orc, orcD, evF, evC, evOps, evOper, evAny, evOp, evCall, putR, putA, Fr.ev, Fr.of, Fr.get, Fr.set, stable, junkA, junkL, resultsA, resA, same, Fr.get_set, k2, hb, hst, hld, Post_some]
  · have hday' := mof_lt hlt
    obtain ⟨rfl, k2, k3⟩ := hF
    rw [if_pos hday']
    have hld : ∀ a b c, loadA (some 6) (.ptr 0 0 0) [.live 0 (dateC a b c)] = some (.agg (dateC a b c)) := fun _ _ _ => rfl
    simp [exM, orc, orcD, evF, evC, evOps, evOper, evAny, evOp, evCall, putR, putA, Fr.ev, Fr.of, Fr.get, Fr.set, stable, junkA, junkL, resultsA, resA, same, k2, k3, hld]

theorem split2_ok (t : Nat) (ht : t < 18446744073709551616) (S : St) : mSplit2 [.int .u64 (t : Int)] S = some (splitA t, S) := by
  obtain ⟨T, hT⟩ := split2_run t ht
  refine pureM_run rfl hT ?_
  unfold splitA
  split <;> rfl
end Am.Pol
end

/- A time's slot, as the document does it. -/
section
namespace Am.Pol
open Am Go Am.Ir
set_option maxRecDepth 100000
attribute [local simp] ox oz kx kz og ogz kg kgz mo ai

theorem week_same : r29_Week = clock_Week := rfl

def mSlot2 : Model := pureM 1 (exM (orc [xWeek, mSplit2]) r30_Slot 10)

theorem slot2_ok (t : Nat) (ht : t < 18446744073709551616) (k : Int) (S : St) : mSlot2 [.int .u64 (t : Int), .int .i64 k] S = some (.int .u64 (slotN t k : Int), S) := by
  have c0 : binA .quo (.int .u64 (t : Int)) (.int .u64 3600) = some (.int .u64 ((t / 3600 : Nat) : Int)) := quo_u (b := 3600) ht (by omega)
  have c1 : binA .quo (.int .u64 (t : Int)) (.int .u64 86400) = some (.int .u64 ((t / 86400 : Nat) : Int)) := quo_u (b := 86400) ht (by omega)
  have c2 := week_ok t ht []
  by_cases h0 : k = 0
  · subst h0
    refine pureM_run (T := []) (v := .int .u64 (slotN t 0 : Int)) rfl ?_ rfl
    rw [show slotN t 0 = t / 3600 from rfl]
    generalize ((t / 3600 : Nat) : Int) = z1 at *
    simp [exM, r30_Slot, exM, orc, orcD, evF, evC, evOps, evOper, evAny, evOp, evCall, putR, putA, Fr.ev, Fr.of, Fr.get, Fr.set, stable, junkA, junkL, resultsA, resA, same, eql_g, c0]
  by_cases h1 : k = 1
  · subst h1
    refine pureM_run (T := []) (v := .int .u64 (slotN t 1 : Int)) rfl ?_ rfl
    rw [show slotN t 1 = t / 86400 from rfl]
    generalize ((t / 86400 : Nat) : Int) = z1 at *
    simp [exM, r30_Slot, exM, orc, orcD, evF, evC, evOps, evOper, evAny, evOp, evCall, putR, putA, Fr.ev, Fr.of, Fr.get, Fr.set, stable, junkA, junkL, resultsA, resA, same, eql_g, c1]
  by_cases h2 : k = 2
  · subst h2
    refine pureM_run (T := []) (v := .int .u64 (slotN t 2 : Int)) rfl ?_ rfl
    rw [show slotN t 2 = weekN t from rfl]
    simp [exM, r30_Slot, exM, orc, orcD, evF, evC, evOps, evOper, evAny, evOp, evCall, putR, putA, Fr.ev, Fr.of, Fr.get, Fr.set, stable, junkA, junkL, resultsA, resA, same, eql_g, c2]
  by_cases h3 : k = 3
  · subst h3
    have hs := split2_ok t ht []
    have hle := monthN_le t
    by_cases hl : t / 86400 < 73049
    · rw [splitA, if_pos hl] at hs
      refine pureM_run (T := [.live 0 (dateC (monthN t) (mof 2400 0 (t / 86400)).2 (t % 86400))]) (v := .int .u64 (slotN t 3 : Int)) rfl ?_ rfl
      rw [show slotN t 3 = monthN t from rfl]
      have e : (mof 2400 0 (t / 86400)).1 = monthN t := rfl
      rw [e] at hs
      generalize (mof 2400 0 (t / 86400)).2 = l at *
      generalize monthN t = q at *
      have c1 : binA .sub (.int .i64 ((2000 + q / 12 : Nat) : Int)) (.int .i64 2000) = some (.int .i64 ((q / 12 : Nat) : Int)) := sub_is (by omega) (by omega) (by omega)
      have c2 : binA .mul (.int .i64 ((q / 12 : Nat) : Int)) (.int .i64 12) = some (.int .i64 ((q / 12 * 12 : Nat) : Int)) := mul_is (by omega) (by omega) (by omega)
      have c3 : binA .add (.int .i64 ((q / 12 * 12 : Nat) : Int)) (.int .i64 ((q % 12 + 1 : Nat) : Int)) = some (.int .i64 ((q + 1 : Nat) : Int)) := add_is (by omega) (by omega) (by omega)
      have c4 : binA .sub (.int .i64 ((q + 1 : Nat) : Int)) (.int .i64 1) = some (.int .i64 (q : Int)) := sub_is (by omega) (by omega) (by omega)
      have c5 : IntKind.u64.wrap (q : Int) = (q : Int) := conv_u64 (by omega) (by omega)
      have c6 : binA .neq (.int .i64 0) (.int .i64 0) = some (.bool false) := rfl
      unfold dateC at *
      generalize ((2000 + q / 12 : Nat) : Int) = z1 at *
      generalize ((q % 12 + 1 : Nat) : Int) = z2 at *
      generalize ((l + 1 : Nat) : Int) = z3 at *
      generalize ((t % 86400 / 3600 : Nat) : Int) = z4 at *
      generalize ((t % 86400 / 60 % 60 : Nat) : Int) = z5 at *
      generalize ((t % 86400 % 60 : Nat) : Int) = z6 at *
      generalize ((q / 12 : Nat) : Int) = z7 at *
      generalize ((q / 12 * 12 : Nat) : Int) = z8 at *
      generalize ((q + 1 : Nat) : Int) = z9 at *
      simp [r30_Slot, exM, exM, orc, orcD, evF, evC, evOps, evOper, evAny, evOp, evCall, putR, putA, Fr.ev, Fr.of, Fr.get, Fr.set, stable, junkA, junkL, resultsA, resA, same, eql_g, hs, c1, c2, c3, c4, c5, c6, storeA, cells?, splice, fillA, loadA, partA, faddrA]
    · rw [splitA, if_neg hl] at hs
      have e : monthN t = 2400 := mof_late (by rw [ydN_2200]; omega)
      refine pureM_run (T := [.live 0 zero6]) (v := .int .u64 (slotN t 3 : Int)) rfl ?_ rfl
      rw [show slotN t 3 = monthN t from rfl, e]
      have c6 : binA .neq (.int .i64 4) (.int .i64 0) = some (.bool true) := rfl
      unfold zero6 at *
      simp [r30_Slot, exM, exM, orc, orcD, evF, evC, evOps, evOper, evAny, evOp, evCall, putR, putA, Fr.ev, Fr.of, Fr.get, Fr.set, stable, junkA, junkL, resultsA, resA, same, eql_g, hs, c6, storeA, cells?, splice, fillA, loadA, partA, faddrA]
  refine pureM_run (T := []) (v := .int .u64 (slotN t k : Int)) rfl ?_ rfl
  have e : slotN t k = 0 := by unfold slotN; rw [if_neg h0, if_neg h1, if_neg h2, if_neg h3]
  rw [e]
  simp [exM, r30_Slot, exM, orc, orcD, evF, evC, evOps, evOper, evAny, evOp, evCall, putR, putA, Fr.ev, Fr.of, Fr.get, Fr.set, stable, junkA, junkL, resultsA, resA, same, eql_g, h0, h1, h2, h3]
end Am.Pol
end

