/- The printed code is the model's, translated. -/
import Derived.Test.YtffhiphcmohjdaaGreatDoorAmIrNil14
import Derived.Test.YtffhiphcmohjdaaGreatDoorProg
import Derived.KernelRfl
set_option linter.all false
namespace Am.Ir
open Am Go
set_option maxRecDepth 100000
theorem l14_small_ok : compF Go.Proofs.Tryz.prog [] (fun _ _ => false) Go.Proofs.Tryz.f6 = some l14_small := by kernel_rfl
theorem l14_call_ok : compF Go.Proofs.Tryz.prog [34, 37, 35, 38, 39, 40, 41, 42, 43, 36] (fun _ _ => false) Go.Proofs.Tryz.f8 = some l14_call := by kernel_rfl
theorem l14_PoolNil_ok : compF Go.Proofs.Tryz.prog [6, 7, 8, 9, 10, 11, 12, 13, 14, 15] (fun _ _ => false) Go.Proofs.Tryz.f3 = some l14_PoolNil := by kernel_rfl
end Am.Ir
