/- errors.Is at a link and a code, at the world. -/
import Derived.Test.YtgkkggfhnlhbiaaDoorProg
import Derived.WalkKit
import Derived.LaidEql
import Derived.Stop.Asserts
import Derived.RowKitTokens
set_option linter.all false
namespace Go.Proofs.Fas
open Go.RowKit Go.Extern.Stop Go.Stop Go.Extern
set_option maxRecDepth 100000

theorem isTypeOf (v : Value) (w : World) : (Extern.ReflectliteType.typeOf #[.iface 47 v]).run Tryd.prog w = .ok (.iface 61 (.agg #[.pointer (some ⟨1, 47, none⟩)])) w := by kernel_rfl
noncomputable def compFn : Array Value → Sem Value := Extern.ReflectliteType.method fun t => do Extern.Rtype.noPackHeld "Comparable" t; pure (.bool (← typeInfo t).comparable)
theorem isComparable (w : World) : (compFn #[.agg #[.pointer (some ⟨1, 47, none⟩)]]).run Tryd.prog w = .ok (.bool true) w := by kernel_rfl
theorem isMethodComparable (v : Value) (w : World) : (Go.method 217 61 v "Comparable").run Tryd.prog w = .ok (60, v) w := by kernel_rfl

set_option maxHeartbeats 4000000 in
theorem is_of (x n : Value) (w : World) {R : Value → World → Prop} (h : Calls Tryd.prog 28 #[.iface 46 x, .iface 47 n, .bool true] w fun e w' => ∃ v, e = .returned v ∧ R v w') :
    Calls Tryd.prog 24 #[.iface 46 x, .iface 47 n] w fun e w' => ∃ v, e = .returned v ∧ R v w' := by
  have h8 := @run_callFunc_extern Tryd.prog 27 _ Extern.ReflectliteType.typeOf Tryd.func27 (by kernel_rfl) (by kernel_rfl) (by kernel_rfl) (by kernel_rfl)
  have h32 := @run_callFunc_extern Tryd.prog 60 _ compFn Tryd.func60 (by kernel_rfl) (by kernel_rfl) (by kernel_rfl) (by kernel_rfl)
  have tT := isTypeOf
  have cT := isComparable
  have mR := isMethodComparable
  go_enter Tryd.func24, Tryd.ntmps24
  go_wp2_with (go_at_call 28; refine h.mono ?_; rintro e w' ⟨v, rfl, hr⟩)
  go_ret
  exact ⟨v, rfl, hr⟩
end Go.Proofs.Fas
