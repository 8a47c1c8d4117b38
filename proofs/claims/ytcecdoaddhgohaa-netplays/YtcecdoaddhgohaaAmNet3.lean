/- The net over its heap: Send. -/
import Derived.Test.YtcecdoaddhgohaaAmNet2
set_option linter.all false
namespace Am.Net
open Am Go Am.Ir
set_option maxRecDepth 100000

/-- An argument of bytes. -/
def BytesA (S : St) (x : AVal) (u : List UInt8) : Prop :=
  (x = .nils ∧ u = []) ∨ (isSl x = true ∧ cellsOf 1 x S = some (u.length, bcells u) ∧ lenA .sl x = some (.int .i64 u.length))

theorem BytesA.len {S : St} {x : AVal} {u : List UInt8} (h : BytesA S x u) : lenA .sl x = some (.int .i64 u.length) := by
  rcases h with ⟨rfl, rfl⟩ | ⟨_, _, h⟩
  · rfl
  · exact h

theorem send_bad {S : St} {p c L f} (h : NetI S p c L f) (b : Bool) {x : AVal} {u : List UInt8} (hx : BytesA S x u) (hu : u = [] ∨ 600 < u.length) :
    xSend [.ptr p 0 0, .bool b, x] S = some (.int .i64 4, S) := by
  by_cases h0 : u.length = 0
  · simp [xSend, exM, orc, net_Send, evF, evC, evOps, evOper, evAny, evOp, evCall, putR, putA, Fr.ev, Fr.of, Fr.get, Fr.set, stable, resultsA, resA, same, eq2, hx.len, binA, intBin, h0]
  · have h1 : (600 : Int) < u.length := by
      rcases hu with rfl | h1
      · simp at h0
      · omega
    have h2 : ¬ (u.length : Int) = 0 := by omega
    simp [xSend, exM, orc, net_Send, evF, evC, evOps, evOper, evAny, evOp, evCall, putR, putA, Fr.ev, Fr.of, Fr.get, Fr.set, stable, resultsA, resA, same, eq2, hx.len, binA, intBin, h0, h1, h2]

theorem send_full {S : St} {p c L f} (h : NetI S p c L f) (b : Bool) {x : AVal} {u : List UInt8} (hx : BytesA S x u) (h0 : u ≠ []) (h6 : u.length ≤ 600) (hf : 100 ≤ (L b).length) :
    xSend [.ptr p 0 0, .bool b, x] S = some (.int .i64 7, S) := by
  have h2 : ¬ (u.length : Int) = 0 := by cases u <;> simp at h0 ⊢; omega
  have h1 : ¬ (600 : Int) < u.length := by omega
  have h3 : (100 : Int) ≤ (L b).length := by omega
  simp [xSend, exM, orc, net_Send, evF, evC, evOps, evOper, evAny, evOp, evCall, putR, putA, Fr.ev, Fr.of, Fr.get, Fr.set, stable, resultsA, resA, same, eq2, hx.len, binA, intBin, h0, h1, h2, waits_ok h, h3]

/-- A line with one more. -/
theorem append_line {S : St} {c L fp} (h : LineI S c L fp) {m : AVal} {x : List UInt8} {r : Nat} (hm : MsgI S m x r) (h0 : x ≠ []) (h6 : x.length ≤ 600) (hl : L.length < 1000) (hr : r ∉ fp) (tr : Nat) (hS : S[tr]? = some (.live 0 [m])) (hnd : fp.Nodup) :
    ∃ c' S' f' K, appendA 1 24 c (.sl tr 0 0 1 1) S = some (c', S') ∧ LineI S' c' (L ++ [x]) f' ∧ Keeps S S' K ∧ (∀ q ∈ K, q ∈ fp) ∧ (∀ q ∈ f', q ∈ fp ∨ q = r ∨ S.length ≤ q) ∧ f'.Nodup := by
  have hc : cellsOf 1 (.sl tr 0 0 1 1) S = some (1, [m]) := by simp [cellsOf, hS]
  rcases h with ⟨rfl, rfl, rfl⟩ | ⟨q, v, off, pre, ms, rest, fm, rfl, ho, hq, hms, rfl⟩
  · refine ⟨.sl S.length 0 0 1 1, S ++ [.live 0 [m]], [S.length, r], [], by simp [appendA, hc], ?_, Keeps.append S _, by simp, by simp, by have := hm.lt; simp; omega⟩
    refine .inr ⟨S.length, 0, 0, [], [m], [], [r], rfl, rfl, by simp, ?_, rfl⟩
    exact .cons (hm.keep (Keeps.append S _) (by simp)) h0 h6 .nil
  · have hlen := hms.len
    have hcells : ((pre ++ ms ++ rest).drop off).take (L.length * 1) = ms := by
      rw [ho, List.append_assoc, List.drop_left]
      rw [Nat.mul_one, ← hlen.1, List.take_left]
    have hqlt := live_lt hq
    refine ⟨.sl q (v + 1) 0 (L.length + 1) 1, S.set q (.live (v + 1) (ms ++ [m])), q :: (fm ++ [r]), [q], ?_, ?_, Keeps.set S q _, by simp, ?_, ?_⟩
    · simp only [appendA, hc, hq, hcells]
      rw [if_pos]
      refine ⟨by simp, by simp, ?_, by omega⟩
      simp only [List.length_append]; omega
    · have hk := Keeps.set S q (.live (v + 1) (ms ++ [m]))
      refine .inr ⟨q, v + 1, 0, [], ms ++ [m], [], fm ++ [r], by simp, rfl, ?_, ?_, rfl⟩
      · simp [List.getElem?_set, hqlt]
      · simp only [List.mem_cons, not_or] at hr
        simp only [List.nodup_cons] at hnd
        exact (hms.keep hk (fun z hz => by simp; rintro rfl; exact hnd.1 hz)).append (.cons (hm.keep hk (by simp; exact hr.1)) h0 h6 .nil)
    · intro z hz
      simp only [List.mem_cons, List.mem_append, List.not_mem_nil, or_false] at hz ⊢
      rcases hz with rfl | hz | rfl
      · simp
      · simp [hz]
      · simp
    · simp only [List.nodup_cons, List.mem_append, List.mem_cons, List.not_mem_nil, or_false, not_or] at hnd hr ⊢
      refine ⟨⟨hnd.1, fun e => hr.1 e.symm⟩, ?_⟩
      rw [List.nodup_append]
      exact ⟨hnd.2, by simp, fun a ha b hb e => by simp at hb; subst hb; subst e; exact hr.2 ha⟩

theorem send_ok {S : St} {p c L f} (h : NetI S p c L f) (b : Bool) {x : AVal} {u : List UInt8} (hx : BytesA S x u) (h0 : u ≠ []) (h6 : u.length ≤ 600) (hf : (L b).length < 100) :
    ∃ S' c' f' K, xSend [.ptr p 0 0, .bool b, x] S = some (.int .i64 0, S') ∧ NetI S' p (up c b c') (up L b (L b ++ [u])) (up f b f') ∧ Keeps S S' K ∧ (∀ q ∈ K, q = p ∨ q ∈ f b) ∧
      (∀ q ∈ f', q ∈ f b ∨ S.length ≤ q) := by
  have h2 : ¬ (u.length : Int) = 0 := by cases u <;> simp at h0 ⊢; omega
  have h1 : ¬ (600 : Int) < u.length := by omega
  have h3 : ¬ (100 : Int) ≤ (L b).length := by omega
  have hx' : isSl x = true ∧ cellsOf 1 x S = some (u.length, bcells u) := by
    rcases hx with ⟨_, rfl⟩ | ⟨a, b, _⟩
    · exact absurd rfl h0
    · exact ⟨a, b⟩
  have hcl := clone_ok hx'.1 hx'.2 (by omega)
  have hload := load_ok h b
  have hplt := live_lt h.at'
  have hS2 : ∃ S2, S ++ [.live 1 (bcells u)] ++ [.live 0 [.sl S.length 1 0 u.length 1]] = S2 := ⟨_, rfl⟩
  obtain ⟨S2, hS2⟩ := hS2
  have hk2 : Keeps S S2 [] := by subst hS2; rw [List.append_assoc]; exact Keeps.append S _
  have hm2 : MsgI S2 (.sl S.length 1 0 u.length 1) u S.length := ⟨1, rfl, by subst hS2; simp⟩
  have h' := h.keep hk2 (by simp)
  have hlen2 : S2.length = S.length + 2 := by subst hS2; simp
  have hnew : S.length ∉ f b := fun hm => by have := (h.line b).lt _ hm; omega
  obtain ⟨c', S', f', K, e1, e2, e3, e4, e5, e6⟩ := append_line (h'.line b) hm2 h0 h6 (by omega) hnew (S.length + 1) (by subst hS2; simp) (h.nodup b)
  have hnp : p ∉ K := fun hm => h.notp b (e4 p hm)
  have hp' : S'[p]? = some (.live 0 [c false, c true]) := e3.get h'.at' hnp
  have hp'' := live_lt hp'
  have hk3 := Keeps.set S' p (.live 0 (sel b [c', c true] [c false, c']))
  have hc' : cells? c' = some [c'] := by
    rcases e2 with ⟨rfl, _⟩ | ⟨r, v, off, pre, ms, rest, fm, rfl, _⟩ <;> rfl
  have hst : storeA 1 (.ptr p 0 (sel b 0 1)) c' S' = some (S'.set p (.live 0 (sel b [c', c true] [c false, c']))) := by
    cases b <;> simp [storeA, hc', hp', sel, splice]
  have hlp' : p ∉ f' := by
    intro hm
    rcases e5 p hm with h4 | h4 | h4
    · exact h.notp b h4
    · omega
    · omega
  refine ⟨S'.set p (.live 0 (sel b [c', c true] [c false, c'])), c', f', p :: K, ?_, ?_, ?_, ?_, ?_⟩
  · have hload2 : loadA none (.ptr p 0 (sel b 0 1)) S2 = some (c b) := load_ok h' b
    have hload1 : loadA none (.ptr p 0 (sel b 0 1)) (S ++ [.live 1 (bcells u)]) = some (c b) := load_ok (h.keep (Keeps.append S _) (by simp)) b
    rw [← hS2] at e1 hload2
    simp only [List.append_assoc, List.cons_append, List.nil_append] at e1 hload2
    simp [xSend, exM, orc, net_Send, evF, evC, evOps, evOper, evAny, evOp, evCall, putR, putA, Fr.ev, Fr.of, Fr.get, Fr.set, stable, resultsA, resA, same, eq2, hx.len, binA, intBin, h0, h1, h2, waits_ok h, h3,
      line_ok, hcl, hload, fillA, cells?, splice, trL, sameRead, sameVal, beqV_refl, e1, hload1, hload2, hst]
  · refine h.upd b (K := p :: K) ⟨?_, ?_⟩ ?_ ?_ ?_ ?_ e6
    · rw [List.length_set]; exact Nat.le_trans hk2.1 e3.1
    · intro q hq hn
      simp only [List.mem_cons, not_or] at hn
      rw [List.getElem?_set, if_neg (fun e => hn.1 e.symm), e3.2 q (by omega) hn.2]
      exact hk2.2 q hq (by simp)
    · intro q hq
      rcases List.mem_cons.1 hq with rfl | hq
      · exact .inl rfl
      · exact .inr (.inl (e4 q hq))
    · simp [List.getElem?_set, hp'']
    · exact e2.keep hk3 (fun q hq => by simp; rintro rfl; exact hlp' hq)
    · intro q hq
      rcases e5 q hq with h4 | h4 | h4
      · exact .inl h4
      · exact .inr (by omega)
      · exact .inr (by omega)
  · refine ⟨?_, ?_⟩
    · rw [List.length_set]; exact Nat.le_trans hk2.1 e3.1
    · intro q hq hn
      simp only [List.mem_cons, not_or] at hn
      rw [List.getElem?_set, if_neg (fun e => hn.1 e.symm), e3.2 q (by omega) hn.2]
      exact hk2.2 q hq (by simp)
  · intro q hq
    rcases List.mem_cons.1 hq with rfl | hq
    · exact .inl rfl
    · exact .inr (e4 q hq)
  · intro q hq
    rcases e5 q hq with h4 | h4 | h4
    · exact .inl h4
    · exact .inr (by omega)
    · exact .inr (by omega)
end Am.Net
