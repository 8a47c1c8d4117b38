/- From a row's laid variables to what the machine asks of a world. -/
import Derived.Test.YtgbifohffmdgeaaGreatDoorAmTopL
import Derived.Lib.LaidU8
set_option linter.all false
namespace Am
open Go Go.RowKit Go.Lib Go.Proofs

/-- A table that stands on the list. -/
structure TabOk (P : Program) (l : List (String × DataW Unit)) (x : String × IntKind × List Int) : Prop where
  has : (x.1, tabData x.2.1 x.2.2) ∈ l
  typ : ∃ g t m e, P.globalNamed x.1 = some g ∧ (P.globals[g]?).map (·.type) = some t ∧ P.underlying t = some (.array m e) ∧ P.underlying e = some (.int x.2.1) ∧ P.cellsOf e = 1 ∧ P.cellsOf t = m

theorem TabOk.is {P : Program} {l : List (String × DataW Unit)} {x : String × IntKind × List Int} {W : World} (h : TabOk P l x) (hl : laidMet P l W) : TabIs P W x.1 x.2.1 x.2.2 := by
  obtain ⟨g, t, cs, fuel, p, hg, ht, hv, hd⟩ := laidMet.reads hl h.has
  obtain ⟨g', t', m, e, hg', ht', hu, he, hce, hct⟩ := h.typ
  obtain rfl := Option.some.inj (hg.symm.trans hg')
  obtain rfl := Option.some.inj (ht.symm.trans ht')
  unfold TabIs
  rw [hv, ← cells_of_tab hu he hce hct hd]

/-- An error that stands on the list. -/
structure ErrOk (P : Program) (l : List (String × DataW Unit)) (n : String) : Prop where
  has : ∃ nm d, (n, .iface nm d) ∈ l
  typ : ∃ g t ms, P.globalNamed n = some g ∧ (P.globals[g]?).map (·.type) = some t ∧ P.underlying t = some (.interface ms)

theorem ErrOk.is {P : Program} {l : List (String × DataW Unit)} {n : String} {W : World} (h : ErrOk P l n) (hl : laidMet P l W) : ∃ t p, W.var? P n = some #[.iface t p] := by
  obtain ⟨nm, d, hm⟩ := h.has
  obtain ⟨g, t, cs, fuel, p, hg, ht, hv, hd⟩ := laidMet.reads hl hm
  obtain ⟨g', t', ms, hg', ht', hu⟩ := h.typ
  obtain rfl := Option.some.inj (hg.symm.trans hg')
  obtain rfl := Option.some.inj (ht.symm.trans ht')
  obtain ⟨l0⟩ := cs
  cases fuel with
  | zero => simp [DataW.trod] at hd
  | succ fuel =>
    simp only [DataW.trod, hu] at hd
    split at hd
    all_goals first
      | (rename_i heq; cases heq; done)
      | (cases hd; done)
      | exact ⟨_, _, hv⟩

theorem wok_of {P : Program} {l : List (String × DataW Unit)} {W : World} (hl : laidMet P l W) (he : e0 P = none) (hT : ∀ x ∈ wTabs, P.globalNamed x.1 ≠ none → TabOk P l x) (hE : ∀ n ∈ wErrs, P.globalNamed n ≠ none → ErrOk P l n) : WOk P W :=
  ⟨fun y hy => (by rw [he] at hy; cases hy), fun x hx hn => (hT x hx hn).is hl, fun n hn hg => (hE n hn hg).is hl⟩
end Am
