/- The net over its heap: Take. -/
import Derived.Test.YtcecdoaddhgohaaAmNet3
set_option linter.all false
namespace Am.Net
open Am Go Am.Ir
set_option maxRecDepth 100000

def setL (S : St) (p : Nat) (c : Bool → AVal) (b : Bool) (c' : AVal) : St := S.set p (.live 0 (sel b [c', c true] [c false, c']))

theorem store_line {S : St} {p c L f} (h : NetI S p c L f) (b : Bool) {c' : AVal} (hc : cells? c' = some [c']) :
    storeA 1 (.ptr p 0 (sel b 0 1)) c' S = some (setL S p c b c') := by
  cases b <;> simp [storeA, hc, h.at', sel, splice, setL]

theorem keeps_setL (S : St) (p : Nat) (c : Bool → AVal) (b : Bool) (c' : AVal) : Keeps S (setL S p c b c') [p] := Keeps.set _ _ _

theorem upd_line {S : St} {p c L f} (h : NetI S p c L f) (b : Bool) {c' : AVal} {L' f'} (hl : LineI S c' L' f') (hf : ∀ q ∈ f', q ∈ f b) (hnd : f'.Nodup) :
    NetI (setL S p c b c') p (up c b c') (up L b L') (up f b f') := by
  refine h.upd b (K := [p]) (keeps_setL S p c b c') (by simp) ?_ ?_ (fun q hq => .inl (hf q hq)) hnd
  · simp [setL, List.getElem?_set, live_lt h.at']
  · exact hl.keep (keeps_setL S p c b c') (fun q hq => by simp; rintro rfl; exact h.notp b (hf q hq))

/-- The first of a line. -/
theorem line_first {S : St} {c x L fp} (h : LineI S c (x :: L) fp) : ∃ r v off m rm fm, c = .sl r v off (L.length + 1) 1 ∧ fp = r :: rm :: fm ∧ MsgI S m x rm ∧ x ≠ [] ∧ x.length ≤ 600 ∧
    loadA none (.ptr r v off) S = some m ∧ LineI S (.sl r v (off + 1) L.length 1) L (r :: fm) := by
  rcases h with ⟨_, h, _⟩ | ⟨r, v, off, pre, ms, rest, fm, rfl, ho, hS, hm, rfl⟩
  · simp at h
  · cases hm with
    | cons h h0 h6 t =>
      rename_i m rm ms fm
      refine ⟨r, v, off, m, rm, fm, rfl, rfl, h, h0, h6, ?_, .inr ⟨r, v, off + 1, pre ++ [m], ms, rest, fm, rfl, by simp [ho], by simpa using hS, t, rfl⟩⟩
      simp [loadA, hS, partA, ho]

/-- The last of a line. -/
theorem line_last {S : St} {c x L fp} (h : LineI S c (L ++ [x]) fp) : ∃ r v off m rm fm, c = .sl r v off (L.length + 1) 1 ∧ fp = r :: (fm ++ [rm]) ∧ MsgI S m x rm ∧
    loadA none (.ptr r v (off + L.length)) S = some m ∧ LineI S (.sl r v off L.length 1) L (r :: fm) := by
  rcases h with ⟨_, h, _⟩ | ⟨r, v, off, pre, ms, rest, fm, rfl, ho, hS, hm, rfl⟩
  · simp at h
  · obtain ⟨m1, m2, f1, f2, rfl, rfl, a, b⟩ := hm.split
    cases b with
    | cons h h0 h6 t =>
      cases t
      rename_i m rm
      refine ⟨r, v, off, m, rm, f1, by simp, rfl, h, ?_, .inr ⟨r, v, off, pre, m1, [m] ++ rest, f1, rfl, ho, by simpa using hS, a, rfl⟩⟩
      have := a.len.1
      simp [loadA, hS, partA, ho, ← this]

theorem take_none {S : St} {p c L f} (h : NetI S p c L f) (b : Bool) {n : Int} (hn : L b = [] ∨ n < 0) : xTake [.ptr p 0 0, .bool b, .int .i64 n] S = some (.tup [.nils, .bool false], S) := by
  by_cases h0 : L b = []
  · simp [xTake, exM, orc, net_Take, evF, evC, evOps, evOper, evAny, evOp, evCall, putR, putA, Fr.ev, Fr.of, Fr.get, Fr.set, stable, resultsA, resA, same, eq2, binA, intBin, waits_ok h, h0]
  · have h1 : n < 0 := by rcases hn with h1 | h1; exact absurd h1 h0; exact h1
    have h2 : ¬ ((L b).length : Int) = 0 := by cases h3 : L b <;> simp [h3] at h0 ⊢; omega
    simp [xTake, exM, orc, net_Take, evF, evC, evOps, evOper, evAny, evOp, evCall, putR, putA, Fr.ev, Fr.of, Fr.get, Fr.set, stable, resultsA, resA, same, eq2, binA, intBin, waits_ok h, h0, h1, h2]

theorem wrap_len {n : Nat} (h : n < 1000) : IntKind.i64.wrap (n : Int) = n := by
  simp [IntKind.wrap, IntKind.bits, IntKind.signed]
  omega

theorem take_first {S : St} {p c L f} (h : NetI S p c L f) (b : Bool) {x L'} (hL : L b = x :: L') (hlen : L'.length < 1000) (n : Int) (hn : n = 0 ∨ n = 1) :
    ∃ c' f' m rm, xTake [.ptr p 0 0, .bool b, .int .i64 n] S = some (.tup [if n = 1 then .nils else m, .bool (n != 1)], setL S p c b c') ∧
      NetI (setL S p c b c') p (up c b c') (up L b L') (up f b f') ∧ (∀ q ∈ f', q ∈ f b) ∧ rm ∈ f b ∧ rm ∉ f' ∧ MsgI S m x rm := by
  have hl := h.line b
  have hnd := h.nodup b
  rw [hL] at hl
  obtain ⟨r, v, off, m, rm, fm, e1, e2, e3, e4, e5, e6, e7⟩ := line_first hl
  rw [e2] at hnd
  simp only [List.nodup_cons, List.mem_cons, not_or] at hnd
  have hf' : ∀ q ∈ r :: fm, q ∈ f b := by rw [e2]; intro q hq; simp at hq ⊢; rcases hq with rfl | hq <;> simp [*]
  have hnd' : (r :: fm).Nodup := by simp only [List.nodup_cons]; exact ⟨hnd.1.2, hnd.2.2⟩
  have hst := store_line h b (c' := .sl r v (off + 1) L'.length 1) rfl
  have hload := load_ok h b
  rw [e1] at hload
  have hw := wrap_len hlen
  have h2 : ¬ ((L'.length : Int) + 1 = 0) := by omega
  have h3 : (1 : Int) ≤ (L'.length : Int) + 1 := by omega
  refine ⟨.sl r v (off + 1) L'.length 1, r :: fm, m, rm, ?_, upd_line h b e7 hf' hnd', hf', by rw [e2]; simp, by simp only [List.mem_cons, not_or]; exact ⟨fun e => hnd.1.1 e.symm, hnd.2.1⟩, e3⟩
  rcases hn with rfl | rfl
  · simp [xTake, exM, orc, net_Take, evF, evC, evOps, evOper, evAny, evOp, evCall, putR, putA, Fr.ev, Fr.of, Fr.get, Fr.set, stable, resultsA, resA, same, eq2, binA, intBin, waits_ok h, hL, h2, h3, line_ok, hload, iaddrSA, e6, slcSA, bounds, hst, lenA, hw]
  · simp [xTake, exM, orc, net_Take, evF, evC, evOps, evOper, evAny, evOp, evCall, putR, putA, Fr.ev, Fr.of, Fr.get, Fr.set, stable, resultsA, resA, same, eq2, binA, intBin, waits_ok h, hL, h2, h3, line_ok, hload, iaddrSA, e6, slcSA, bounds, hst, lenA, hw]

theorem take_last {S : St} {p c L f} (h : NetI S p c L f) (b : Bool) {x L'} (hL : L b = L' ++ [x]) (hlen : L'.length < 1000) :
    ∃ c' f' m rm, xTake [.ptr p 0 0, .bool b, .int .i64 3] S = some (.tup [m, .bool true], setL S p c b c') ∧
      NetI (setL S p c b c') p (up c b c') (up L b L') (up f b f') ∧ (∀ q ∈ f', q ∈ f b) ∧ rm ∈ f b ∧ rm ∉ f' ∧ MsgI S m x rm := by
  have hl := h.line b
  have hnd := h.nodup b
  rw [hL] at hl
  obtain ⟨r, v, off, m, rm, fm, e1, e2, e3, e6, e7⟩ := line_last hl
  rw [e2] at hnd
  simp only [List.nodup_cons, List.mem_append, List.mem_cons, List.not_mem_nil, or_false, not_or, List.nodup_append] at hnd
  have hf' : ∀ q ∈ r :: fm, q ∈ f b := by rw [e2]; intro q hq; simp at hq ⊢; rcases hq with rfl | hq <;> simp [*]
  have hnd' : (r :: fm).Nodup := by simp only [List.nodup_cons]; exact ⟨hnd.1.1, hnd.2.1⟩
  have hrm : rm ∉ fm := fun hm => hnd.2.2.2 rm hm rm rfl rfl
  have hst := store_line h b (c' := .sl r v off L'.length 1) rfl
  have hload := load_ok h b
  rw [e1] at hload
  have hw := wrap_len hlen
  have h2 : ¬ ((L'.length : Int) + 1 = 0) := by omega
  have h3 : (0 : Int) < (L'.length : Int) + 1 := by omega
  have h4 : (L'.length : Int) < (L'.length : Int) + 1 := by omega
  have h5 : (L'.length : Int) ≤ (L'.length : Int) + 1 := by omega
  have h6 : ∃ m0, loadA none (.ptr r v off) S = some m0 := by
    rcases hl with ⟨_, h, _⟩ | ⟨r, v, off, pre, ms, rest, fm, h7, ho, hS, hm, _⟩
    · simp at h
    · rw [h7] at e1; simp only [AVal.sl.injEq] at e1; obtain ⟨rfl, rfl, rfl, _⟩ := e1
      have := hm.len.1
      cases ms with
      | nil => simp at this
      | cons m0 ms => exact ⟨m0, by simp [loadA, hS, partA, ho]⟩
  obtain ⟨m0, h6⟩ := h6
  refine ⟨.sl r v off L'.length 1, r :: fm, m, rm, ?_, upd_line h b e7 hf' hnd', hf', by rw [e2]; simp, by simp only [List.mem_cons, not_or]; exact ⟨fun e => hnd.1.2 e.symm, hrm⟩, e3⟩
  simp [xTake, exM, orc, net_Take, evF, evC, evOps, evOper, evAny, evOp, evCall, putR, putA, Fr.ev, Fr.of, Fr.get, Fr.set, stable, resultsA, resA, same, eq2, binA, intBin, waits_ok h, hL, h2, h3, h4, h5, line_ok, hload, iaddrSA, e6, h6, slcSA, bounds, hst, lenA, hw]
end Am.Net
