/- The printed code is the model's, translated. -/
import Derived.Test.YtcecdoaddhgohaaAmIrNet
import Derived.Test.YtcecdoaddhgohaaProg
import Derived.KernelRfl
set_option linter.all false
namespace Am.Ir
open Am Go
set_option maxRecDepth 100000
theorem net_New_ok : compF Go.Proofs.Try.prog [] (fun _ _ => false) Go.Proofs.Try.f7 = some net_New := by kernel_rfl
theorem net_line_ok : compF Go.Proofs.Try.prog [] (fun _ _ => false) Go.Proofs.Try.f16 = some net_line := by kernel_rfl
theorem net_Waits_ok : compF Go.Proofs.Try.prog [16] (fun _ _ => false) Go.Proofs.Try.f11 = some net_Waits := by kernel_rfl
theorem bytes_Clone_ok : compF Go.Proofs.Try.prog [] (fun r i => (r == 99 && i == 99)) Go.Proofs.Try.f17 = some bytes_Clone := by kernel_rfl
theorem net_Send_ok : compF Go.Proofs.Try.prog [11, 16, 17] (fun _ _ => false) Go.Proofs.Try.f9 = some net_Send := by kernel_rfl
theorem net_Take_ok : compF Go.Proofs.Try.prog [11, 16, 17] (fun _ _ => false) Go.Proofs.Try.f10 = some net_Take := by kernel_rfl
theorem net_Clear_ok : compF Go.Proofs.Try.prog [] (fun _ _ => false) Go.Proofs.Try.f14 = some net_Clear := by kernel_rfl
theorem net_alive_ok : compF Go.Proofs.Try.prog [7, 9, 10] (fun _ _ => false) Go.Proofs.Try.f8 = some net_alive := by kernel_rfl
theorem NetOrder_ok : compF Go.Proofs.Try.prog [7, 8, 9, 10, 11] (fun _ _ => false) Go.Proofs.Try.f3 = some NetOrder := by kernel_rfl
theorem NetFates_ok : compF Go.Proofs.Try.prog [7, 8, 9, 10, 11] (fun _ _ => false) Go.Proofs.Try.f4 = some NetFates := by kernel_rfl
theorem NetNil_ok : compF Go.Proofs.Try.prog [10, 14, 8, 9, 11] (fun _ _ => false) Go.Proofs.Try.f6 = some NetNil := by kernel_rfl
theorem ref22_line_ok : compF Go.Proofs.Try.prog [] (fun _ _ => false) Go.Proofs.Try.f18 = some ref22_line := by kernel_rfl
theorem ref22_with_ok : compF Go.Proofs.Try.prog [] (fun _ _ => false) Go.Proofs.Try.f19 = some ref22_with := by kernel_rfl
theorem ref22_Send_ok : compF Go.Proofs.Try.prog [18, 19] (fun _ _ => false) Go.Proofs.Try.f12 = some ref22_Send := by kernel_rfl
theorem ref22_Take_ok : compF Go.Proofs.Try.prog [18, 19] (fun _ _ => false) Go.Proofs.Try.f13 = some ref22_Take := by kernel_rfl
theorem ref22_Waits_ok : compF Go.Proofs.Try.prog [18] (fun _ _ => false) Go.Proofs.Try.f15 = some ref22_Waits := by kernel_rfl
theorem NetPlays_ok : compF Go.Proofs.Try.prog [7, 8, 9, 12, 10, 13, 14, 11, 15] (fun _ _ => false) Go.Proofs.Try.f5 = some NetPlays := by kernel_rfl
end Am.Ir
