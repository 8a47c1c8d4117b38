/- Faults: what the laid variable gives, a world that meets it, the arguments. -/
import Derived.Test.YtgkkggfhnlhbiaaDoorAmFaultS
import Derived.Test.YtgkkggfhnlhbiaaDoorAmTopL
import Derived.Test.YtgkkggfhnlhbiaaDoorRows
import Derived.Test.YtgkkggfhnlhbiaaDoorTie
import Derived.Test.YtgkkggfhnlhbiaaDoorCards
set_option linter.all false
namespace Am.Fault
open Am Go Am.Ir Go.Proofs Go.Proofs.YtgkkggfhnlhbiaaDoor Go.RowKit
set_option maxRecDepth 100000

theorem own : ownKnob Tryd.prog.godebug = none := by kernel_rfl
theorem laidOut : laidOutB Tryd.prog = true := by kernel_rfl
theorem et : Tryd.prog.globalNamed "errors.errorType" = some 0 := by kernel_rfl
theorem rt : (Tryd.prog.cutTypes.find? (·.1 == "internal/reflectlite.rtype")).map (·.2) = some 61 := by kernel_rfl
theorem size : Tryd.prog.types.size = 117 := by kernel_rfl
theorem oneRow : ((List.range 117).filter fun t => Tryd.prog.rowNamed t [101, 114, 114, 111, 114]) = [52] := by kernel_rfl
noncomputable def laid (H : Type) : List (String × DataW H) := [("errors.errorType", Rows.laid_errors_errorType)]

theorem wok {W : World} (h : laidMetH Tryd.prog Rows.faultHasRow.laid W) : WOk Tryd.prog W := by
  have h' : laidMet Tryd.prog [] W ∧ handlesMet Tryd.prog Rows.faultHasRow.laid W := h
  obtain ⟨name, u, ty, e1, e2, e3, e4, e5⟩ := h'.2 _ (List.mem_singleton.2 rfl)
  have en : name = [101, 114, 114, 111, 114] := (Option.some.inj e1).symm
  subst en
  obtain rfl := Option.some.inj (rt.symm.trans e2)
  have hm : ty ∈ (List.range 117).filter fun t => Tryd.prog.rowNamed t [101, 114, 114, 111, 114] := List.mem_filter.2 ⟨List.mem_range.2 (by rw [← size]; exact e3), e4⟩
  rw [oneRow] at hm
  obtain rfl := List.mem_singleton.1 hm
  have hh : typeHandle Tryd.prog 52 = .pointer (some ⟨1, 52, none⟩) := by kernel_rfl
  rw [hh] at e5
  intro y hy
  rw [e0_val] at hy
  obtain rfl := Option.some.inj hy
  simpa using World.var?_cell et e5 0

noncomputable def laidWorld (os : Os) : World :=
  let w0 := World.holding Tryd.prog os ⟨#[], #[], []⟩
  { w0 with heap := w0.heap.modify 0 fun
      | .cells _ t frozen => .cells #[.iface 61 (.agg #[.pointer (some ⟨1, 52, none⟩)])] t frozen
      | o => o }
theorem laidWorld_met (os : Os) (args : Array Value) : laidMetH Tryd.prog Rows.faultHasRow.laid ((laidWorld os).forCall (fun _ _ => 0) ⟨#[], args, []⟩).memory :=
  laidMetH_of_parts (laidMet_nil _ _) (by kernel_rfl)

@[reducible] def opsT : DT := .sl .str
theorem flat_str : ∀ l : List (List UInt8), l.flatMap DT.str.enc = scells l
  | [] => rfl
  | x :: l => by rw [List.flatMap_cons, flat_str l]; rfl
theorem ops_arg (x : Option (List (List UInt8))) (h : opsT.Wf x) : ∃ l, OpsV (opsT.one x) l ∧ l.length ≤ 9223372036854775807 := by
  cases x with
  | none => exact ⟨[], .inl ⟨rfl, rfl⟩, by simp⟩
  | some l =>
    have h1 : l.length ≤ 9223372036854775807 := h.1
    refine ⟨l, .inr ?_, h1⟩
    have e : opsT.one (some l) = .fz false l.length (l.flatMap DT.str.enc) := rfl
    rw [e, flat_str]; rfl
end Am.Fault
