/- The printed code is the model's, translated. -/
import Derived.Test.YtgkkggfhnlhbiaaDoorAmIrFault
import Derived.Test.YtgkkggfhnlhbiaaDoorProg
import Derived.KernelRfl
set_option linter.all false
namespace Am.Ir
open Am Go
set_option maxRecDepth 100000
theorem l03_small_ok : compF Go.Proofs.Tryd.prog [] (fun _ _ => false) Go.Proofs.Tryd.f6 = some l03_small := by kernel_rfl
theorem fault_Of_ok : compF Go.Proofs.Tryd.prog [] (fun _ _ => false) Go.Proofs.Tryd.f19 = some fault_Of := by kernel_rfl
theorem fault_Wrap_ok : compF Go.Proofs.Tryd.prog [] (fun _ _ => false) Go.Proofs.Tryd.f9 = some fault_Wrap := by kernel_rfl
theorem fault_link_Unwrap_ok : compF Go.Proofs.Tryd.prog [] (fun _ _ => false) Go.Proofs.Tryd.f56 = some fault_link_Unwrap := by kernel_rfl
theorem errors_Unwrap_ok : compF Go.Proofs.Tryd.prog [56] (fun _ _ => false) Go.Proofs.Tryd.f30 = some errors_Unwrap := by kernel_rfl
theorem fault_next_ok : compF Go.Proofs.Tryd.prog [30, 29] (fun _ _ => false) Go.Proofs.Tryd.f26 = some fault_next := by kernel_rfl
theorem fault_each_ok : compF Go.Proofs.Tryd.prog [26] (fun _ _ => false) Go.Proofs.Tryd.f20 = some fault_each := by kernel_rfl
theorem fault_Name_ok : compF Go.Proofs.Tryd.prog [] (fun _ _ => false) Go.Proofs.Tryd.f17 = some fault_Name := by kernel_rfl
theorem fault_Text_1_ok : compF Go.Proofs.Tryd.prog [] (fun _ _ => false) Go.Proofs.Tryd.f23 = some fault_Text_1 := by kernel_rfl
theorem fault_Text_ok : compF Go.Proofs.Tryd.prog [20, 17] (fun _ _ => false) Go.Proofs.Tryd.f13 = some fault_Text := by kernel_rfl
theorem fault_Code_ok : compF Go.Proofs.Tryd.prog [] (fun _ _ => false) Go.Proofs.Tryd.f10 = some fault_Code := by kernel_rfl
theorem l03_alive_ok : compF Go.Proofs.Tryd.prog [19, 9, 13, 10] (fun _ _ => false) Go.Proofs.Tryd.f7 = some l03_alive := by kernel_rfl
theorem l03_made_ok : compF Go.Proofs.Tryd.prog [19, 9] (fun _ _ => false) Go.Proofs.Tryd.f8 = some l03_made := by kernel_rfl
theorem fault_Root_1_ok : compF Go.Proofs.Tryd.prog [] (fun _ _ => false) Go.Proofs.Tryd.f21 = some fault_Root_1 := by kernel_rfl
theorem fault_Root_ok : compF Go.Proofs.Tryd.prog [20] (fun _ _ => false) Go.Proofs.Tryd.f11 = some fault_Root := by kernel_rfl
theorem fault_Depth_1_ok : compF Go.Proofs.Tryd.prog [] (fun _ _ => false) Go.Proofs.Tryd.f22 = some fault_Depth_1 := by kernel_rfl
theorem fault_Depth_ok : compF Go.Proofs.Tryd.prog [20] (fun _ _ => false) Go.Proofs.Tryd.f12 = some fault_Depth := by kernel_rfl
theorem fault_Fault_Error_ok : compF Go.Proofs.Tryd.prog [13] (fun _ _ => false) Go.Proofs.Tryd.f14 = some fault_Fault_Error := by kernel_rfl
theorem r03_Names_ok : compF Go.Proofs.Tryd.prog [] (fun _ _ => false) Go.Proofs.Tryd.f25 = some r03_Names := by kernel_rfl
theorem r03_Name_ok : compF Go.Proofs.Tryd.prog [25] (fun _ _ => false) Go.Proofs.Tryd.f18 = some r03_Name := by kernel_rfl
theorem r03_Text_ok : compF Go.Proofs.Tryd.prog [18] (fun _ _ => false) Go.Proofs.Tryd.f15 = some r03_Text := by kernel_rfl
theorem l03_FaultTold_ok : compF Go.Proofs.Tryd.prog [6, 7, 8, 10, 13, 11, 12, 14, 15] (fun _ _ => false) Go.Proofs.Tryd.f4 = some l03_FaultTold := by kernel_rfl
theorem fault_link_Is_ok : compF Go.Proofs.Tryd.prog [] (fun _ _ => false) Go.Proofs.Tryd.f55 = some fault_link_Is := by kernel_rfl
theorem errors_is_ok : compF Go.Proofs.Tryd.prog [55, 56] (fun _ _ => false) Go.Proofs.Tryd.f28 = some errors_is := by kernel_rfl
theorem fault_Has_ok : compF Go.Proofs.Tryd.prog [24] (fun _ _ => false) Go.Proofs.Tryd.f16 = some fault_Has := by kernel_rfl
theorem l03_FaultHas_ok : compF Go.Proofs.Tryd.prog [6, 7, 8, 16, 17, 18] (fun _ _ => false) Go.Proofs.Tryd.f5 = some l03_FaultHas := by kernel_rfl
theorem l03_FaultWrapped_ok : compF Go.Proofs.Tryd.prog [6, 7, 8, 9, 10, 11, 12, 13] (fun _ _ => false) Go.Proofs.Tryd.f3 = some l03_FaultWrapped := by kernel_rfl
end Am.Ir
