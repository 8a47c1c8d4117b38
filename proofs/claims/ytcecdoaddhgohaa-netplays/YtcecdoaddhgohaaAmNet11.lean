/- NetPlays: both nets, side by side. -/
import Derived.Test.YtcecdoaddhgohaaAmNet10
import Derived.Test.YtcecdoaddhgohaaAmNet8
set_option linter.all false
namespace Am.Net
open Am Go Am.Ir
set_option maxRecDepth 100000

theorem sel_up {α : Type} (c : Bool → α) (b : Bool) (c' : α) : sel b [c', c true] [c false, c'] = [up c b c' false, up c b c' true] := by
  cases b <;> simp [sel, up]

theorem sel_at {α : Type} (c : Bool → α) (b : Bool) : sel b (c false) (c true) = c b := by cases b <;> rfl

theorem up_ref {cr : Bool → AVal} {L : Bool → List (List UInt8)} (h : ∀ b, RefC (cr b) (L b)) (b : Bool) {c' L'} (h' : RefC c' L') : ∀ b', RefC (up cr b c' b') (up L b L' b') := by
  intro b'
  by_cases e : b' = b
  · subst e; simpa [up] using h'
  · simpa [up, e] using h b'

theorem up_len {L : Bool → List (List UInt8)} {m : Nat} (h : ∀ b, (L b).length ≤ m) (b : Bool) {L' : List (List UInt8)} (h' : L'.length ≤ m) : ∀ b', (up L b L' b').length ≤ m := by
  intro b'
  by_cases e : b' = b
  · subst e; simpa [up] using h'
  · simpa [up, e] using h b'

theorem MsgsI.bound {S : St} {ms L fp} (h : MsgsI S ms L fp) : ∀ x ∈ L, x.length ≤ 600 := by
  induction h with
  | nil => simp
  | cons _ _ h6 _ ih =>
    intro x hx
    rcases List.mem_cons.1 hx with rfl | hx
    · exact h6
    · exact ih x hx

theorem line_bound {S : St} {c : AVal} {L : List (List UInt8)} {fp : List Nat} (h : LineI S c L fp) : ∀ x ∈ L, x.length ≤ 600 := by
  rcases h with ⟨_, rfl, _⟩ | ⟨r, v, off, pre, ms, rest, fm, _, _, _, hm, _⟩
  · simp
  · exact hm.bound

/-- What both tell of what comes. -/
theorem take_both {S : St} {c : Bool → AVal} {L : Bool → List (List UInt8)} {fn : Bool → List Nat} {cr : Bool → AVal} (N : NetI S 0 c L fn) (hR : ∀ b, RefC (cr b) (L b)) (hlen : ∀ b, (L b).length ≤ 100) (b : Bool) {n : Int} (hn' : n ≤ 9223372036854775807) :
    ∃ (S' : St) (c' : Bool → AVal) (L' : Bool → List (List UInt8)) (fn' : Bool → List Nat) (cr' : Bool → AVal) (x y : AVal) (ok : Bool) (z : List UInt8) (K : List Nat), xTake [.ptr 0 0 0, .bool b, .int .i64 n] S = some (.tup [x, .bool ok], S') ∧ (∀ T, mRefTake [.agg [cr false, cr true], .bool b, .int .i64 n] T = some (.tup [.agg [cr' false, cr' true], y, .bool ok], T)) ∧
      NetI S' 0 c' L' fn' ∧ Keeps S S' K ∧ (∀ q ∈ K, q ∈ fps 0 fn) ∧ (∀ q ∈ fps 0 fn', q ∈ fps 0 fn ∨ S.length ≤ q) ∧ (∀ b, RefC (cr' b) (L' b)) ∧ (∀ b, (L' b).length ≤ 100) ∧ (∀ T, bytesA y T = some z) ∧ z.length ≤ 600 ∧
      ((x = .nils ∧ z = []) ∨ ∃ rx, MsgI S' x z rx ∧ rx ∉ fps 0 fn' ∧ rx ∈ fps 0 fn) := by
  have hby : ∀ (u : List UInt8) (T : St), bytesA (.fz false u.length (bcells u)) T = some u := fun u T => IsB.bytes (.inr rfl) T
  by_cases h0 : L b = [] ∨ n < 0
  · refine ⟨S, c, L, fn, cr, .nils, .nils, false, [], [], take_none N b h0, fun T => refTake_none (hR false) (hR true) b (by rw [sel_at]; exact h0) T, N, Keeps.refl _ _, by simp, fun q hq => .inl hq, hR, hlen, fun T => rfl, by simp, .inl ⟨rfl, rfl⟩⟩
  · simp only [not_or] at h0
    obtain ⟨x, L', hL⟩ : ∃ x L', L b = x :: L' := by cases h : L b with
      | nil => exact absurd h h0.1
      | cons x L' => exact ⟨x, L', rfl⟩
    have hl := hlen b
    rw [hL] at hl
    simp only [List.length_cons] at hl
    have hsl : sel b (L false) (L true) = x :: L' := by rw [sel_at]; exact hL
    have hline := N.line b
    rw [hL] at hline
    obtain ⟨_, _, _, _, _, _, _, _, _, hx0, hx6, _, _⟩ := line_first hline
    have inf : ∀ {rm : Nat} {f'}, (∀ q ∈ f', q ∈ fn b) → rm ∈ fn b → rm ∉ f' → (rm ∉ fps 0 (up fn b f') ∧ rm ∈ fps 0 fn) := by
      intro rm f' h1 h2 h3
      refine ⟨fun hm => ?_, mem_fps.2 (.inr ⟨_, h2⟩)⟩
      rcases mem_fps.1 hm with rfl | ⟨b', hb⟩
      · exact N.notp b h2
      · by_cases e : b' = b
        · subst e; rw [up_self] at hb; exact h3 hb
        · have e' : b' = !b := by cases b <;> cases b' <;> simp_all
          subst e'; rw [up_other] at hb; exact N.other hb h2
    have fu : ∀ {f' : List Nat}, (∀ q ∈ f', q ∈ fn b) → ∀ q ∈ fps 0 (up fn b f'), q ∈ fps 0 fn ∨ S.length ≤ q := fun h1 => fps_up (fun q hq => .inl (h1 q hq))
    have k0 : ∀ q ∈ [0], q ∈ fps 0 fn := by intro q hq; simp at hq; subst hq; simp [fps]
    by_cases h1 : n = 0 ∨ n = 1
    · obtain ⟨c', f', m, rm, s1, N1, i1, p1, n1, M1⟩ := take_first N b hL (by omega) n h1
      obtain ⟨c'', r1, r2⟩ := refTake_some (hR false) (hR true) b hsl (by omega) n h1
      simp only [sel_up] at r2
      have hk := keeps_setL S 0 c b c'
      have hrm : rm ≠ 0 := fun e => N.notp b (e ▸ p1)
      have M1' := M1.keep hk (by simpa using hrm)
      obtain ⟨q1, q2⟩ := inf i1 p1 n1
      rcases h1 with rfl | rfl
      · exact ⟨_, _, _, _, _, m, _, true, x, [0], by simpa using s1, by simpa using r2, N1, hk, k0, fu i1, up_ref hR b r1, up_len hlen b (by omega), hby x, hx6, .inr ⟨rm, M1', q1, q2⟩⟩
      · exact ⟨_, _, _, _, _, .nils, _, false, [], [0], by simpa using s1, by simpa using r2, N1, hk, k0, fu i1, up_ref hR b r1, up_len hlen b (by omega), fun T => rfl, by simp, .inl ⟨rfl, rfl⟩⟩
    · by_cases h2 : n = 2
      · subst h2
        obtain ⟨S', c', f', m, rm, K, s1, N1, k1, k2, k3, p1, n1, M1⟩ := take_twice N b hL (by omega) hx0 hx6
        obtain ⟨c'', r1, r2⟩ := refTake_twice (hR false) (hR true) b hsl (by omega)
        simp only [sel_up] at r2
        refine ⟨_, _, _, _, _, m, _, true, x, K, s1, r2, N1, k1, fun q hq => ?_, fps_up k3, up_ref hR b r1, up_len hlen b (by simp; omega), hby x, hx6, .inr ⟨rm, M1, fun hm => ?_, mem_fps.2 (.inr ⟨_, p1⟩)⟩⟩
        · rcases k2 q hq with rfl | h
          · simp [fps]
          · exact mem_fps.2 (.inr ⟨_, h⟩)
        · rcases mem_fps.1 hm with rfl | ⟨b', hb⟩
          · exact N.notp b p1
          · by_cases e : b' = b
            · subst e; rw [up_self] at hb; exact n1 hb
            · have e' : b' = !b := by cases b <;> cases b' <;> simp_all
              subst e'; rw [up_other] at hb; exact N.other hb p1
      · by_cases h3 : n = 3
        · subst h3
          obtain ⟨L2, y, hy⟩ : ∃ L2 y, x :: L' = L2 ++ [y] := ⟨(x :: L').dropLast, (x :: L').getLast (by simp), (List.dropLast_concat_getLast _).symm⟩
          have hy6 : y.length ≤ 600 := line_bound (N.line b) y (by rw [hL, hy]; simp)
          have hL2 : L2.length = L'.length := by have := congrArg List.length hy; simp at this; omega
          obtain ⟨c', f', m, rm, s1, N1, i1, p1, n1, M1⟩ := take_last N b (hL.trans hy) (by omega)
          obtain ⟨c'', r1, r2⟩ := refTake_last (hR false) (hR true) b hsl hy (by omega)
          simp only [sel_up] at r2
          have hk := keeps_setL S 0 c b c'
          have hrm : rm ≠ 0 := fun e => N.notp b (e ▸ p1)
          have M1' := M1.keep hk (by simpa using hrm)
          obtain ⟨q1, q2⟩ := inf i1 p1 n1
          exact ⟨_, _, _, _, _, m, _, true, y, [0], s1, r2, N1, hk, k0, fu i1, up_ref hR b r1, up_len hlen b (by omega), hby y, hy6, .inr ⟨rm, M1', q1, q2⟩⟩
        · have h4 : 4 ≤ n := by omega
          obtain ⟨S', c', f', m, rm, s1, N1, k1, i1, p1, n1, M1⟩ := take_spoil N b hL (by omega) hx0 h4 hn'
          obtain ⟨c'', r1, r2⟩ := refTake_spoil (hR false) (hR true) b hsl (by omega) hx0 hx6 h4 hn'
          simp only [sel_up] at r2
          obtain ⟨q1, q2⟩ := inf i1 p1 n1
          refine ⟨_, _, _, _, _, m, _, true, _, [0, rm], s1, r2, N1, k1, fun q hq => ?_, fu i1, up_ref hR b r1, up_len hlen b (by omega), fun T => ?_, by rw [flip_len]; exact hx6, .inr ⟨rm, M1, q1, q2⟩⟩
          · simp at hq
            rcases hq with rfl | rfl
            · simp [fps]
            · exact q2
          · have := hby (flip x ((n - 4) % (x.length : Int)).toNat) T
            rwa [flip_len] at this

/-- What both tell of what is sent. -/
theorem send_both {S : St} {c : Bool → AVal} {L : Bool → List (List UInt8)} {fn : Bool → List Nat} {cr : Bool → AVal} (N : NetI S 0 c L fn) (hR : ∀ b, RefC (cr b) (L b)) (hlen : ∀ b, (L b).length ≤ 100) (b : Bool) {xa xb : AVal} {u : List UInt8} (ha : BytesA S xa u) (hb : IsB xb u) :
    ∃ (S' : St) (c' : Bool → AVal) (L' : Bool → List (List UInt8)) (fn' : Bool → List Nat) (cr' : Bool → AVal) (e : Int) (K : List Nat), xSend [.ptr 0 0 0, .bool b, xa] S = some (.int .i64 e, S') ∧ (∀ T, mRefSend [.agg [cr false, cr true], .bool b, xb] T = some (.tup [.agg [cr' false, cr' true], .int .i64 e], T)) ∧
      NetI S' 0 c' L' fn' ∧ Keeps S S' K ∧ (∀ q ∈ K, q ∈ fps 0 fn) ∧ (∀ q ∈ fps 0 fn', q ∈ fps 0 fn ∨ S.length ≤ q) ∧ (∀ b, RefC (cr' b) (L' b)) ∧ (∀ b, (L' b).length ≤ 100) := by
  have hs : sel b (L false) (L true) = L b := sel_at L b
  by_cases hu : u = [] ∨ 600 < u.length
  · exact ⟨S, c, L, fn, cr, 4, [], send_bad N b ha hu, refSend_bad (hR false) (hR true) b hb hu, N, Keeps.refl _ _, by simp, fun q hq => .inl hq, hR, hlen⟩
  · simp only [not_or] at hu
    by_cases hf : 100 ≤ (L b).length
    · exact ⟨S, c, L, fn, cr, 7, [], send_full N b ha hu.1 (by omega) hf, refSend_full (hR false) (hR true) b hb hu.1 (by omega) (by rw [hs]; exact hf), N, Keeps.refl _ _, by simp, fun q hq => .inl hq, hR, hlen⟩
    · obtain ⟨S', c', f', K, s1, N1, k1, k2, k3⟩ := send_ok N b ha hu.1 (by omega) (by omega)
      obtain ⟨c'', r1, r2⟩ := refSend_ok (hR false) (hR true) b hb hu.1 (by omega) (by rw [hs]; omega)
      rw [hs] at r1
      simp only [sel_up] at r2
      refine ⟨_, _, _, _, _, 0, K, s1, r2, N1, k1, fun q hq => ?_, fps_up k3, up_ref hR b r1, up_len hlen b (by simp; omega)⟩
      rcases k2 q hq with rfl | h
      · simp [fps]
      · exact mem_fps.2 (.inr ⟨_, h⟩)

theorem clear_ok {S : St} {c : Bool → AVal} {L : Bool → List (List UInt8)} {fn : Bool → List Nat} (N : NetI S 0 c L fn) :
    ∃ S', xClear [.ptr 0 0 0] S = some (.tup [], S') ∧ NetI S' 0 (fun _ => .nils) (fun _ => []) (fun _ => []) ∧ Keeps S S' [0] := by
  have hlt := live_lt N.at'
  refine ⟨(S.set 0 (.live 0 [.nils, c true])).set 0 (.live 0 [.nils, .nils]), ?_, ⟨by simp [List.getElem?_set, hlt], fun _ => .inl ⟨rfl, rfl, rfl⟩, by simp⟩, ⟨by simp, fun q hq hn => ?_⟩⟩
  · have h1 : storeA 1 (.ptr 0 0 0) .nils S = some (S.set 0 (.live 0 [.nils, c true])) := by simp [storeA, cells?, N.at', splice]
    have h2 : storeA 1 (.ptr 0 0 1) .nils (S.set 0 (.live 0 [.nils, c true])) = some ((S.set 0 (.live 0 [.nils, c true])).set 0 (.live 0 [.nils, .nils])) := by
      simp [storeA, cells?, List.getElem?_set, hlt, splice]
    simp [xClear, exM, orc, net_Clear, evF, evC, evOps, evOper, evAny, evOp, evCall, putR, putA, Fr.ev, Fr.of, Fr.get, Fr.set, stable, resultsA, resA, same, eq2, faddrA, h1, h2]
  · simp at hn
    simp [List.getElem?_set, Ne.symm hn]
end Am.Net
