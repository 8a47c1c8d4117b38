/- The net over its heap: what waits, what is sent. -/
import Derived.Test.YtcecdoaddhgohaaAmHeap
set_option linter.all false
namespace Am.Net
open Am Go Am.Ir
set_option maxRecDepth 100000

/-- What waits on a line: the messages' blocks, in order. -/
inductive MsgsI (S : St) : List AVal → List (List UInt8) → List Nat → Prop where
  | nil : MsgsI S [] [] []
  | cons {m x r ms L fp} (h : MsgI S m x r) (h0 : x ≠ []) (h6 : x.length ≤ 600) (t : MsgsI S ms L fp) : MsgsI S (m :: ms) (x :: L) (r :: fp)

theorem MsgsI.len {S : St} {ms L fp} (h : MsgsI S ms L fp) : ms.length = L.length ∧ fp.length = L.length := by
  induction h with
  | nil => simp
  | cons _ _ _ _ ih => simp [ih]

theorem MsgsI.keep {S S' : St} {K : List Nat} {ms L fp} (h : MsgsI S ms L fp) (hk : Keeps S S' K) (hn : ∀ r ∈ fp, r ∉ K) : MsgsI S' ms L fp := by
  induction h with
  | nil => exact .nil
  | cons h h0 h6 _ ih => exact .cons (h.keep hk (hn _ (by simp))) h0 h6 (ih fun r hr => hn r (by simp [hr]))

theorem MsgsI.lt {S : St} {ms L fp} (h : MsgsI S ms L fp) : ∀ r ∈ fp, r < S.length := by
  induction h with
  | nil => simp
  | cons h _ _ _ ih =>
    intro r hr
    rcases List.mem_cons.1 hr with rfl | hr
    · exact h.lt
    · exact ih r hr

theorem MsgsI.append {S : St} {ms L fp ms' L' fp'} (h : MsgsI S ms L fp) (h' : MsgsI S ms' L' fp') : MsgsI S (ms ++ ms') (L ++ L') (fp ++ fp') := by
  induction h with
  | nil => exact h'
  | cons h h0 h6 _ ih => exact .cons h h0 h6 ih

theorem MsgsI.split {S : St} : ∀ {L L' : List (List UInt8)} {ms fp}, MsgsI S ms (L ++ L') fp → ∃ m1 m2 f1 f2, ms = m1 ++ m2 ∧ fp = f1 ++ f2 ∧ MsgsI S m1 L f1 ∧ MsgsI S m2 L' f2
  | [], L', ms, fp, h => ⟨[], ms, [], fp, rfl, rfl, .nil, h⟩
  | x :: L, L', _, _, .cons h h0 h6 t => by
    obtain ⟨m1, m2, f1, f2, rfl, rfl, a, b⟩ := MsgsI.split t
    exact ⟨_ :: m1, m2, _ :: f1, f2, rfl, rfl, .cons h h0 h6 a, b⟩

/-- A line: its slice, what waits, its blocks. -/
def LineI (S : St) (c : AVal) (L : List (List UInt8)) (fp : List Nat) : Prop :=
  (c = .nils ∧ L = [] ∧ fp = []) ∨
  ∃ r v off pre ms rest fm, c = .sl r v off L.length 1 ∧ off = pre.length ∧ S[r]? = some (.live v (pre ++ ms ++ rest)) ∧ MsgsI S ms L fm ∧ fp = r :: fm

theorem LineI.keep {S S' : St} {K : List Nat} {c L fp} (h : LineI S c L fp) (hk : Keeps S S' K) (hn : ∀ r ∈ fp, r ∉ K) : LineI S' c L fp := by
  rcases h with h | ⟨r, v, off, pre, ms, rest, fm, rfl, ho, hS, hm, rfl⟩
  · exact .inl h
  · exact .inr ⟨r, v, off, pre, ms, rest, fm, rfl, ho, hk.get hS (hn r (by simp)), hm.keep hk (fun q hq => hn q (by simp [hq])), rfl⟩

theorem LineI.lt {S : St} {c L fp} (h : LineI S c L fp) : ∀ r ∈ fp, r < S.length := by
  rcases h with ⟨_, _, rfl⟩ | ⟨r, v, off, pre, ms, rest, fm, rfl, ho, hS, hm, rfl⟩
  · simp
  · intro q hq
    rcases List.mem_cons.1 hq with rfl | hq
    · exact live_lt hS
    · exact hm.lt q hq

theorem LineI.lenA {S : St} {c L fp} (h : LineI S c L fp) : lenA .sl c = some (.int .i64 L.length) := by
  rcases h with ⟨rfl, rfl, rfl⟩ | ⟨r, v, off, pre, ms, rest, fm, rfl, ho, hS, hm, rfl⟩ <;> rfl

def sel {α : Type} (b : Bool) (x y : α) : α := if b = true then y else x

/-- A net. -/
structure NetI (S : St) (p : Nat) (c : Bool → AVal) (L : Bool → List (List UInt8)) (f : Bool → List Nat) : Prop where
  at' : S[p]? = some (.live 0 [c false, c true])
  line : ∀ b, LineI S (c b) (L b) (f b)
  nd : (p :: (f false ++ f true)).Nodup

def fps (p : Nat) (f : Bool → List Nat) : List Nat := p :: (f false ++ f true)

theorem mem_fps {p : Nat} {f : Bool → List Nat} {r : Nat} : r ∈ fps p f ↔ r = p ∨ ∃ b, r ∈ f b := by
  simp only [fps, List.mem_cons, List.mem_append, Bool.exists_bool]

theorem NetI.lt {S : St} {p c L f} (h : NetI S p c L f) : ∀ r ∈ fps p f, r < S.length := by
  intro r hr
  rcases mem_fps.1 hr with rfl | ⟨b, hb⟩
  · exact live_lt h.at'
  · exact (h.line b).lt r hb

theorem NetI.keep {S S' : St} {K : List Nat} {p c L f} (h : NetI S p c L f) (hk : Keeps S S' K) (hn : ∀ r ∈ fps p f, r ∉ K) : NetI S' p c L f :=
  ⟨hk.get h.at' (hn p (by simp [fps])), fun b => (h.line b).keep hk (fun r hr => hn r (mem_fps.2 (.inr ⟨b, hr⟩))), h.nd⟩

def up {α : Type} (f : Bool → α) (b : Bool) (x : α) : Bool → α := fun b' => if b' = b then x else f b'
theorem up_self {α : Type} {f : Bool → α} {b : Bool} {x : α} : up f b x b = x := by simp [up]
theorem up_other {α : Type} {f : Bool → α} {b : Bool} {x : α} : up f b x (!b) = f (!b) := by cases b <;> simp [up]

theorem NetI.notp {S : St} {p c L f} (h : NetI S p c L f) (b : Bool) : p ∉ f b := by
  have := h.nd
  simp only [List.nodup_cons, List.mem_append, not_or] at this
  cases b
  · exact this.1.1
  · exact this.1.2

theorem NetI.other {S : St} {p c L f} (h : NetI S p c L f) {b : Bool} {r : Nat} (hr : r ∈ f (!b)) : r ∉ f b := by
  have := h.nd
  simp only [List.nodup_cons, List.nodup_append] at this
  cases b
  · intro h'; exact this.2.2.2 r h' r hr rfl
  · intro h'; exact this.2.2.2 r hr r h' rfl

theorem NetI.nodup {S : St} {p c L f} (h : NetI S p c L f) (b : Bool) : (f b).Nodup := by
  have := h.nd
  simp only [List.nodup_cons, List.nodup_append] at this
  cases b
  · exact this.2.1
  · exact this.2.2.1

/-- A line is laid anew. -/
theorem NetI.upd {S S' : St} {K : List Nat} {p c L f} (h : NetI S p c L f) (b : Bool) {c' L' f'} (hk : Keeps S S' K) (hK : ∀ r ∈ K, r = p ∨ r ∈ f b ∨ S.length ≤ r)
    (hp : S'[p]? = some (.live 0 (sel b [c', c true] [c false, c']))) (hl : LineI S' c' L' f') (hf : ∀ r ∈ f', r ∈ f b ∨ S.length ≤ r) (hnd : f'.Nodup) :
    NetI S' p (up c b c') (up L b L') (up f b f') := by
  have hlt := h.lt
  have hno : ∀ r ∈ f (!b), r ∉ K := by
    intro r hr hm
    rcases hK r hm with rfl | h1 | h1
    · exact h.notp _ hr
    · exact h.other hr h1
    · have := hlt r (mem_fps.2 (.inr ⟨_, hr⟩)); omega
  have hp' : p ∉ f' := by
    intro hm
    rcases hf p hm with h1 | h1
    · exact h.notp b h1
    · have := hlt p (by simp [fps]); omega
  have hdis : ∀ r ∈ f (!b), r ∉ f' := by
    intro r hr hm
    rcases hf r hm with h1 | h1
    · exact h.other hr h1
    · have := hlt r (mem_fps.2 (.inr ⟨_, hr⟩)); omega
  have hother := (h.line (!b)).keep hk hno
  refine ⟨?_, ?_, ?_⟩
  · rw [hp]; cases b <;> simp [sel, up]
  · intro b'
    by_cases e : b' = b
    · subst e; simpa [up] using hl
    · have e' : b' = !b := by cases b <;> cases b' <;> simp_all
      subst e'
      rw [up_other, up_other, up_other]
      exact hother
  · have h1 := h.nodup (!b)
    have h2 := h.notp (!b)
    cases b
    · show (p :: (f' ++ f true)).Nodup
      simp only [List.nodup_cons, List.nodup_append, List.mem_append, not_or]
      exact ⟨⟨hp', h2⟩, hnd, h1, fun a ha b' hb' e => hdis b' hb' (e ▸ ha)⟩
    · show (p :: (f false ++ f')).Nodup
      simp only [List.nodup_cons, List.nodup_append, List.mem_append, not_or]
      exact ⟨⟨h2, hp'⟩, h1, hnd, fun a ha b' hb' e => hdis a ha (e ▸ hb')⟩

theorem new_ok (S : St) : xNew [] S = some (.ptr S.length 0 0, S ++ [.live 0 [.nils, .nils]]) := by
  simp [xNew, exM, orc, net_New, evF, evC, evOps, evOper, evAny, evOp, putR, putA, Fr.ev, Fr.of, Fr.get, Fr.set, stable, resultsA, resA, same, fillA, cells?]

theorem new_net (S : St) : NetI (S ++ [.live 0 [.nils, .nils]]) S.length (fun _ => .nils) (fun _ => []) (fun _ => []) :=
  ⟨by simp, fun _ => .inl ⟨rfl, rfl, rfl⟩, by simp⟩

theorem line_ok (p : Nat) (b : Bool) (S : St) : xLine [.ptr p 0 0, .bool b] S = some (.ptr p 0 (sel b 0 1), S) := by
  cases b <;> simp [xLine, exM, orc, net_line, evF, evC, evOps, evOper, evAny, evOp, putR, putA, Fr.ev, Fr.of, Fr.get, Fr.set, stable, resultsA, resA, same, faddrA, sel]

theorem load_ok {S : St} {p c L f} (h : NetI S p c L f) (b : Bool) : loadA none (.ptr p 0 (sel b 0 1)) S = some (c b) := by
  cases b <;> simp [loadA, h.at', partA, sel]

theorem waits_ok {S : St} {p c L f} (h : NetI S p c L f) (b : Bool) : xWaits [.ptr p 0 0, .bool b] S = some (.int .i64 (L b).length, S) := by
  simp [xWaits, exM, orc, net_Waits, evF, evC, evOps, evOper, evAny, evOp, evCall, putR, putA, Fr.ev, Fr.of, Fr.get, Fr.set, stable, resultsA, resA, same, eq2, line_ok, load_ok h, (h.line b).lenA]
end Am.Net
