/- errors.Is: its model is the truth. -/
import Derived.Test.YtgkkggfhnlhbiaaDoorAmFas1
import Derived.Test.YtgkkggfhnlhbiaaDoorAmFas2
set_option linter.all false
namespace Am.Fault
open Am Go Go.Proofs Go.RowKit
set_option maxRecDepth 100000

/-- errors.Is at a link and a code: errors' own search. -/
def isM (g : Model) : Model := fun args S => match args with
  | [.iface 46 x, .iface 47 n] => g [.iface 46 x, .iface 47 n, .bool true] S
  | _ => none

theorem is_callable : Callable Tryd.prog 24 := ⟨_, Tryd.func24, by kernel_rfl, by kernel_rfl⟩

theorem sIs {g : Model} (hg : Sound Tryd.prog 28 g) : Sound Tryd.prog 24 (isM g) := by
  intro W hW args S v S' hm
  refine ⟨is_callable, ?_⟩
  unfold isM at hm
  split at hm
  · rename_i x n
    intro κ w args' hr ha
    obtain ⟨y, ys, rfl, h1, h2⟩ := ha.uncons
    obtain ⟨z, zs, rfl, h3, h4⟩ := h2.uncons
    have := h4.unnil; subst this
    cases h1 with
    | iface _ _ xx hxx =>
    cases h3 with
    | iface _ _ zz hzz =>
    have hc := (hg W hW _ _ _ _ hm).2 κ w [.iface 46 xx, .iface 47 zz, .bool true] hr (.cons (.iface 46 x xx hxx) (.cons (.iface 47 n zz hzz) (.cons (.bool true) (.nil κ))))
    refine (Fas.is_of xx zz w (R := fun v' w' => ∃ u T κ', (u = v ∧ T = S') ∧ VRel κ' u v' ∧ Rel W κ' T w' ∧ κ.le κ') (hc.mono ?_)).mono ?_
    · rintro e w' ⟨u, v', T, κ', rfl, h5, h6, h7, h8⟩
      exact ⟨v', rfl, u, T, κ', h5, h6, h7, h8⟩
    · rintro e w' ⟨v', rfl, u, T, κ', h5, h6, h7, h8⟩
      exact ⟨u, v', T, κ', rfl, h5, h6, h7, h8⟩
  · simp at hm
end Am.Fault
