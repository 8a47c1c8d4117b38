/- Loops whose rounds make a measure less. -/
import Derived.Test.YtffhiphcmohjdaaGreatDoorAmKeep
set_option linter.all false
namespace Am

theorem iter_meas {step : Fr → St → Option Out} {I : Nat → Fr → St → Prop} {Q : Ex → Fr → St → Prop}
    (hs : ∀ m f S, I m f S → Post (step f S) fun e f' S' => (e = .normal ∧ ∃ m', m' < m ∧ I m' f' S') ∨ (e ≠ .normal ∧ Q e f' S')) :
    ∀ (fuel m : Nat), m < fuel → ∀ f S, I m f S → ∃ e f' S', iter step fuel f S = some (e, f', S') ∧ e ≠ .normal ∧ Q e f' S'
  | 0, m, h, _, _, _ => by omega
  | fuel + 1, m, hf, f, S, hI => by
    obtain ⟨e, f', S', h1, h2 | h2⟩ := (hs m f S hI).ex
    · obtain ⟨rfl, m', hm, hI'⟩ := h2
      obtain ⟨e, f2, S2, a, b, c⟩ := iter_meas hs fuel m' (by omega) f' S' hI'
      exact ⟨e, f2, S2, by simp only [iter, h1, a], b, c⟩
    · refine ⟨e, f', S', ?_, h2.1, h2.2⟩
      simp only [iter, h1]
      cases e with
      | normal => exact absurd rfl h2.1
      | _ => rfl

/-- A loop in its block, by a measure. -/
theorem loop_meas {O : Orc} {k id : Nat} {b : ACode} {I : Nat → Fr → St → Prop} {Q : Fr → St → Prop}
    (hs : ∀ m f S, I m f S → Post (evC O k b f S) fun e f' S' => (e = .normal ∧ ∃ m', m' < m ∧ I m' f' S') ∨ (e = .exit id ∧ Q f' S')) {m : Nat} (hk : m < k) {f : Fr} {S : St} (hI : I m f S) :
    ∃ f' S', evC O k (.block id (.loop b)) f S = some (.normal, f', S') ∧ Q f' S' := by
  obtain ⟨e, f', S', h1, _, rfl, h3⟩ := iter_meas (step := evC O k b) (I := I) (Q := fun e f S => e = .exit id ∧ Q f S)
    (fun m f S h => (hs m f S h).mono fun e f' S' hq => hq.imp (fun h => h) fun hq => ⟨by rw [hq.1]; simp, hq⟩) k m hk f S hI
  exact ⟨f', S', by simp [evC, h1], h3⟩

theorem Post_block {O : Orc} {k id : Nat} {b : ACode} {f : Fr} {S : St} {Q : Ex → Fr → St → Prop} :
    Post (evC O k (.block id b) f S) Q = Post (evC O k b f S) (fun e f' S' => Q (if e = .exit id then .normal else e) f' S') := by
  simp only [evC]
  cases h : evC O k b f S with
  | none => simp [Post_none]
  | some r =>
    obtain ⟨e, f', S'⟩ := r
    cases e with
    | exit i =>
      by_cases e : i = id
      · subst e; simp [Post_some]
      · simp [Post_some, e]
    | _ => simp [Post_some]

theorem Post_loop {O : Orc} {k id : Nat} {b : ACode} {f : Fr} {S : St} {R : Fr → St → Prop} {Q : Ex → Fr → St → Prop} (h : ∃ f' S', evC O k (.block id (.loop b)) f S = some (.normal, f', S') ∧ R f' S') (hq : ∀ f' S', R f' S' → Q .normal f' S') :
    Post (evC O k (.block id (.loop b)) f S) Q := by
  obtain ⟨f', S', h1, h2⟩ := h
  exact Post.of h1 (hq _ _ h2)

theorem Post.ran {o : Option Out} {R : Fr → St → Prop} (h : ∃ f' T, o = some (.normal, f', T) ∧ R f' T) : Post o (fun e f T => e = .normal ∧ R f T) := by
  obtain ⟨f', T, h1, h2⟩ := h
  exact Post.of h1 ⟨rfl, h2⟩

theorem Post_cg {o o' : Option Out} {Q : Ex → Fr → St → Prop} (h : o = o') : Post o Q = Post o' Q := by rw [h]
theorem evC_skip {O : Orc} {n : Nat} {f : Fr} {S : St} : evC O n .skip f S = some (.normal, f, S) := by simp only [evC]
theorem evC_region {O : Orc} {n : Nat} {d : Option (List (Nat × List Nat))} {ops : List AOper} {f : Fr} {S : St} : evC O n (.region d ops) f S = match evOps O ops (junkA d ops f) S with
    | some (f', S') => if stable O d ops (junkA d ops f) S = true then some (.normal, f', S') else none
    | none => none := by rw [evC]; rfl
theorem evC_cond {O : Orc} {n : Nat} {c : Arg} {x y : ACode} {f : Fr} {S : St} : evC O n (.cond c x y) f S = match f.ev c with
    | .bool b => if b = true then evC O n x f S else evC O n y f S
    | _ => none := by rw [evC]; rfl
theorem evC_exit {O : Orc} {n id : Nat} {f : Fr} {S : St} : evC O n (.exit id) f S = some (.exit id, f, S) := by simp only [evC]
theorem evC_ret {O : Orc} {n : Nat} {f : Fr} {S : St} : evC O n .ret f S = some (.ret, f, S) := by simp only [evC]

/-- A loop in its block, by a measure, whose rounds may return. -/
theorem loop_measR {O : Orc} {k id : Nat} {b : ACode} {I : Nat → Fr → St → Prop} {Q : Ex → Fr → St → Prop}
    (hs : ∀ m f S, I m f S → Post (evC O k b f S) fun e f' S' => (e = .normal ∧ ∃ m', m' < m ∧ I m' f' S') ∨ (e = .exit id ∧ Q .normal f' S') ∨ (e = .ret ∧ Q .ret f' S')) {m : Nat} (hk : m < k) {f : Fr} {S : St} (hI : I m f S) :
    Post (evC O k (.block id (.loop b)) f S) fun e f' S' => (e = .normal ∨ e = .ret) ∧ Q e f' S' := by
  obtain ⟨e, f', S', h1, _, h3⟩ := iter_meas (step := evC O k b) (I := I) (Q := fun e f S => (e = .exit id ∧ Q .normal f S) ∨ (e = .ret ∧ Q .ret f S))
    (fun m f S h => (hs m f S h).mono fun e f' S' hq => by
      rcases hq with h | ⟨rfl, h⟩ | ⟨rfl, h⟩
      · exact .inl h
      · exact .inr ⟨by simp, .inl ⟨rfl, h⟩⟩
      · exact .inr ⟨by simp, .inr ⟨rfl, h⟩⟩) k m hk f S hI
  rcases h3 with ⟨rfl, h3⟩ | ⟨rfl, h3⟩
  · exact Post.of (e := .normal) (by simp [evC, h1]) ⟨.inl rfl, h3⟩
  · exact Post.of (e := .ret) (by simp [evC, h1]) ⟨.inr rfl, h3⟩
end Am
