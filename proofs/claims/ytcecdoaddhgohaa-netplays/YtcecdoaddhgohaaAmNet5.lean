/- The net over its heap: Take, twice and spoilt. -/
import Derived.Test.YtcecdoaddhgohaaAmNet4
set_option linter.all false
namespace Am.Net
open Am Go Am.Ir
set_option maxRecDepth 100000

theorem append_line1 {S : St} {c x0 L fp} (h : LineI S c (x0 :: L) fp) {m : AVal} {x : List UInt8} {r : Nat} (hm : MsgI S m x r) (h0 : x ≠ []) (h6 : x.length ≤ 600) (hl : L.length < 1000) (hr : r ∉ fp) (tr : Nat) (hS : S[tr]? = some (.live 0 [m])) (hnd : fp.Nodup) :
    ∃ q v off m0 rm0 fm S', c = .sl q v off (L.length + 1) 1 ∧ fp = q :: rm0 :: fm ∧ MsgI S m0 x0 rm0 ∧ loadA none (.ptr q v off) S = some m0 ∧
      appendA 1 24 c (.sl tr 0 0 1 1) S = some (.sl q (v + 1) 0 (L.length + 2) 1, S') ∧ LineI S' (.sl q (v + 1) 1 (L.length + 1) 1) (L ++ [x]) (q :: (fm ++ [r])) ∧
      LineI S' (.sl q (v + 1) 0 (L.length + 2) 1) (x0 :: (L ++ [x])) (q :: rm0 :: (fm ++ [r])) ∧ Keeps S S' [q] := by
  have hc : cellsOf 1 (.sl tr 0 0 1 1) S = some (1, [m]) := by simp [cellsOf, hS]
  rcases h with ⟨_, h, _⟩ | ⟨q, v, off, pre, ms, rest, fm, rfl, ho, hq, hms, rfl⟩
  · simp at h
  · have hlen := hms.len
    have hcells : ((pre ++ ms ++ rest).drop off).take ((x0 :: L).length * 1) = ms := by
      rw [ho, List.append_assoc, List.drop_left]
      rw [Nat.mul_one, ← hlen.1, List.take_left]
    have hqlt := live_lt hq
    simp only [List.mem_cons, not_or] at hr
    simp only [List.nodup_cons] at hnd
    have hk := Keeps.set S q (.live (v + 1) (ms ++ [m]))
    have hall : MsgsI (S.set q (.live (v + 1) (ms ++ [m]))) (ms ++ [m]) (x0 :: L ++ [x]) (fm ++ [r]) :=
      (hms.keep hk (fun z hz => by simp; rintro rfl; exact hnd.1 hz)).append (.cons (hm.keep hk (by simp; exact hr.1)) h0 h6 .nil)
    cases hms with
    | cons hm0 h00 h60 t =>
      rename_i m0 rm0 ms fm
      refine ⟨q, v, off, m0, rm0, fm, S.set q (.live (v + 1) (m0 :: ms ++ [m])), rfl, rfl, hm0, ?_, ?_, ?_, ?_, hk⟩
      · simp [loadA, hq, partA, ho]
      · simp only [appendA, hc, hq, hcells]
        rw [if_pos]
        · simp
        refine ⟨by simp, by simp, ?_, by simp; omega⟩
        simp only [List.length_append]; simp at hlen ⊢; omega
      · cases hall with
        | cons _ _ _ t' =>
          refine .inr ⟨q, v + 1, 1, [m0], ms ++ [m], [], fm ++ [r], by simp, rfl, by simp [List.getElem?_set, hqlt], t', rfl⟩
      · exact .inr ⟨q, v + 1, 0, [], m0 :: ms ++ [m], [], rm0 :: fm ++ [r], by simp, rfl, by simp [List.getElem?_set, hqlt], hall, rfl⟩

theorem take_twice {S : St} {p c L f} (h : NetI S p c L f) (b : Bool) {x L'} (hL : L b = x :: L') (hlen : L'.length < 999) (h0 : x ≠ []) (h6 : x.length ≤ 600) :
    ∃ S' c' f' m rm K, xTake [.ptr p 0 0, .bool b, .int .i64 2] S = some (.tup [m, .bool true], S') ∧
      NetI S' p (up c b c') (up L b (L' ++ [x])) (up f b f') ∧ Keeps S S' K ∧ (∀ q ∈ K, q = p ∨ q ∈ f b) ∧ (∀ q ∈ f', q ∈ f b ∨ S.length ≤ q) ∧ rm ∈ f b ∧ rm ∉ f' ∧ MsgI S' m x rm := by
  have hl := h.line b
  have hnd := h.nodup b
  rw [hL] at hl
  obtain ⟨r, v, off, m, rm, fm, e1, e2, e3, _, _, e6, e7⟩ := line_first hl
  have hload := load_ok h b
  have hw := wrap_len (n := L'.length) (by omega)
  have h2 : ¬ ((L'.length : Int) + 1 = 0) := by omega
  have h3 : (1 : Int) ≤ (L'.length : Int) + 2 := by omega
  have h8 : ((L'.length : Int) + 2).toNat - 1 = L'.length + 1 := by omega
  have hcl := clone_ok e3.isSl e3.cells (by omega)
  have hplt := live_lt h.at'
  obtain ⟨S2, hS2⟩ : ∃ S2, S ++ [.live 1 (bcells x)] ++ [.live 0 [.sl S.length 1 0 x.length 1]] = S2 := ⟨_, rfl⟩
  have hk2 : Keeps S S2 [] := by subst hS2; rw [List.append_assoc]; exact Keeps.append S _
  have hm2 : MsgI S2 (.sl S.length 1 0 x.length 1) x S.length := ⟨1, rfl, by subst hS2; simp⟩
  have h' := h.keep hk2 (by simp)
  have hlen2 : S2.length = S.length + 2 := by subst hS2; simp
  have hnew : S.length ∉ f b := fun hm => by have := (h.line b).lt _ hm; omega
  have hl2 := h'.line b
  rw [hL] at hl2
  obtain ⟨q, v1, off1, m1, rm1, fm1, S3, a1, a2, a3, a4, a5, a6, a7, a8⟩ := append_line1 hl2 hm2 h0 h6 (by omega) hnew (S.length + 1) (by subst hS2; simp) (h.nodup b)
  rw [e1] at a1
  simp only [AVal.sl.injEq] at a1
  obtain ⟨rfl, rfl, rfl, _⟩ := a1
  rw [e2] at a2
  simp only [List.cons.injEq, true_and] at a2
  obtain ⟨rfl, rfl⟩ := a2
  rw [e2] at hnd hnew
  simp only [List.nodup_cons, List.mem_cons, not_or] at hnd hnew
  have hqp : p ≠ r := fun e => h.notp b (by rw [e2, e]; simp)
  have hat3 : S3[p]? = some (.live 0 [c false, c true]) := a8.get h'.at' (by simpa using hqp)
  -- the net behind the append
  have hn3 : NetI (setL S3 p c b (.sl r (v + 1) 0 (L'.length + 2) 1)) p (up c b (.sl r (v + 1) 0 (L'.length + 2) 1)) (up L b (x :: (L' ++ [x]))) (up f b (r :: rm :: (fm ++ [S.length]))) := by
    refine h.upd b (K := [p, r]) ⟨?_, ?_⟩ ?_ ?_ ?_ ?_ ?_
    · simp only [setL, List.length_set]; exact Nat.le_trans hk2.1 a8.1
    · intro z hz hn
      simp only [List.mem_cons, List.not_mem_nil, or_false, not_or] at hn
      simp only [setL]
      rw [List.getElem?_set, if_neg (fun e => hn.1 e.symm), a8.2 z (by omega) (by simpa using hn.2)]
      exact hk2.2 z hz (by simp)
    · intro z hz
      simp only [List.mem_cons, List.not_mem_nil, or_false] at hz
      rcases hz with rfl | rfl
      · exact .inl rfl
      · exact .inr (.inl (by rw [e2]; simp))
    · simp [setL, List.getElem?_set, live_lt hat3]
    · refine a7.keep (keeps_setL S3 p c b _) (fun z hz => ?_)
      simp only [List.mem_cons, List.mem_append, List.not_mem_nil, or_false] at hz ⊢
      rintro rfl
      rcases hz with rfl | rfl | hz | rfl
      · exact hqp rfl
      · exact h.notp b (by rw [e2]; simp)
      · exact h.notp b (by rw [e2]; simp [hz])
      · omega
    · intro z hz
      rw [e2]
      simp only [List.mem_cons, List.mem_append, List.not_mem_nil, or_false] at hz ⊢
      rcases hz with rfl | rfl | hz | rfl
      · simp
      · simp
      · simp [hz]
      · right; omega
    · simp only [List.nodup_cons, List.mem_cons, List.mem_append, List.not_mem_nil, or_false, not_or, List.nodup_append]
      refine ⟨⟨hnd.1.1, hnd.1.2, fun e => hnew.1 e.symm⟩, ⟨hnd.2.1, fun e => hnew.2.1 e.symm⟩, hnd.2.2, by simp, fun a ha b hb e => by subst hb; subst e; exact hnew.2.2 ha⟩
  have hs1 : storeA 1 (.ptr p 0 (sel b 0 1)) (.sl r (v + 1) 0 (L'.length + 2) 1) S3 = some (setL S3 p c b (.sl r (v + 1) 0 (L'.length + 2) 1)) := by
    cases b <;> simp [storeA, cells?, hat3, sel, splice, setL]
  have hl4 := load_ok hn3 b
  rw [up_self] at hl4
  have hk4 := keeps_setL S3 p c b (.sl r (v + 1) 0 (L'.length + 2) 1)
  have hs2 := store_line hn3 b (c' := .sl r (v + 1) 1 (L'.length + 1) 1) rfl
  have hn4 := upd_line hn3 b (c' := .sl r (v + 1) 1 (L'.length + 1) 1) (L' := L' ++ [x]) (f' := r :: (fm ++ [S.length]))
    (a6.keep hk4 (fun z hz => by
      simp only [List.mem_cons, List.mem_append, List.not_mem_nil, or_false] at hz ⊢
      rintro rfl
      rcases hz with rfl | hz | rfl
      · exact hqp rfl
      · exact h.notp b (by rw [e2]; simp [hz])
      · omega))
    (fun z hz => by
      rw [up_self]
      simp only [List.mem_cons, List.mem_append, List.not_mem_nil, or_false] at hz ⊢
      rcases hz with rfl | hz | rfl <;> simp [*])
    (by
      simp only [List.nodup_cons, List.mem_append, List.mem_cons, List.not_mem_nil, or_false, not_or, List.nodup_append]
      exact ⟨⟨hnd.1.2, fun e => hnew.1 e.symm⟩, hnd.2.2, by simp, fun a ha b hb e => by subst hb; subst e; exact hnew.2.2 ha⟩)
  have upup : ∀ {α : Type} (g : Bool → α) (u w : α), up (up g b u) b w = up g b w := by
    intro α g u w; funext z; simp only [up]; split <;> simp_all
  rw [upup, upup, upup] at hn4
  refine ⟨_, _, _, m, rm, [p, r], ?_, hn4, ⟨?_, ?_⟩, ?_, ?_, by rw [e2]; simp, ?_, ?_⟩
  · have hload2 : loadA none (.ptr p 0 (sel b 0 1)) S2 = some (c b) := load_ok h' b
    have hload1 : loadA none (.ptr p 0 (sel b 0 1)) (S ++ [.live 1 (bcells x)]) = some (c b) := load_ok (h.keep (Keeps.append S _) (by simp)) b
    rw [← hS2] at a5 hload2
    simp only [List.append_assoc, List.cons_append, List.nil_append] at a5 hload2
    rw [e1] at hload hload1 hload2 a5
    simp [xTake, exM, orc, net_Take, evF, evC, evOps, evOper, evAny, evOp, evCall, putR, putA, Fr.ev, Fr.of, Fr.get, Fr.set, stable, resultsA, resA, same, eq2, binA, intBin, waits_ok h, hL, h2, h3, h8, line_ok, hload, iaddrSA, e6, slcSA, bounds, lenA, hw,
      hcl, fillA, cells?, splice, trL, sameRead, sameVal, beqV_refl, a5, hload1, hload2, hs1, hl4, hs2]
  · simp only [setL, List.length_set]; exact Nat.le_trans hk2.1 a8.1
  · intro z hz hn
    simp only [List.mem_cons, List.not_mem_nil, or_false, not_or] at hn
    simp only [setL]
    rw [List.getElem?_set, if_neg (fun e => hn.1 e.symm), List.getElem?_set, if_neg (fun e => hn.1 e.symm), a8.2 z (by omega) (by simpa using hn.2)]
    exact hk2.2 z hz (by simp)
  · intro z hz
    simp only [List.mem_cons, List.not_mem_nil, or_false] at hz
    rcases hz with rfl | rfl
    · exact .inl rfl
    · exact .inr (by rw [e2]; simp)
  · intro z hz
    rw [e2]
    simp only [List.mem_cons, List.mem_append, List.not_mem_nil, or_false] at hz ⊢
    rcases hz with rfl | hz | rfl
    · simp
    · simp [hz]
    · right; omega
  · simp only [List.mem_cons, List.mem_append, List.not_mem_nil, or_false, not_or]
    exact ⟨fun e => hnd.1.1 e.symm, hnd.2.1, fun e => hnew.2.1 e.symm⟩
  · have : rm ≠ p := fun e => h.notp b (by rw [e2, ← e]; simp)
    exact (((e3.keep hk2 (by simp)).keep a8 (by simpa using fun e => hnd.1.1 e.symm)).keep hk4 (by simpa using this)).keep (keeps_setL _ p _ b _) (by simpa using this)
end Am.Net
