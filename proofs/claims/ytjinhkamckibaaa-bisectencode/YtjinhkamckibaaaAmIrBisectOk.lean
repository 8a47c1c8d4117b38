/- The printed code is the model's, translated. -/
import Derived.Test.YtjinhkamckibaaaAmIrBisect
import Derived.Test.YtjinhkamckibaaaProg
import Derived.KernelRfl
set_option linter.all false
namespace Am.Ir
open Am Go
set_option maxRecDepth 100000
theorem l21_small_ok : compF Go.Proofs.Try.prog [] (fun _ _ => false) Go.Proofs.Try.f6 = some l21_small := by kernel_rfl
theorem sha_New_ok : compF Go.Proofs.Try.prog [] (fun _ _ => false) Go.Proofs.Try.f37 = some sha_New := by kernel_rfl
theorem sha_load_ok : compF Go.Proofs.Try.prog [] (fun _ _ => false) Go.Proofs.Try.f48 = some sha_load := by kernel_rfl
theorem sha_steps_ok : compF Go.Proofs.Try.prog [] (fun _ _ => false) Go.Proofs.Try.f49 = some sha_steps := by kernel_rfl
theorem bits_RotateLeft32_ok : compF Go.Proofs.Try.prog [] (fun _ _ => false) Go.Proofs.Try.f50 = some bits_RotateLeft32 := by kernel_rfl
theorem sha_wheel_next_ok : compF Go.Proofs.Try.prog [50] (fun _ _ => false) Go.Proofs.Try.f51 = some sha_wheel_next := by kernel_rfl
theorem sha_Hash_take_ok : compF Go.Proofs.Try.prog [48, 49, 50, 51] (fun _ _ => false) Go.Proofs.Try.f45 = some sha_Hash_take := by kernel_rfl
theorem sha_Hash_Write_ok : compF Go.Proofs.Try.prog [45] (fun _ _ => false) Go.Proofs.Try.f38 = some sha_Hash_Write := by kernel_rfl
theorem sha_Hash_Sum_ok : compF Go.Proofs.Try.prog [38] (fun _ _ => false) Go.Proofs.Try.f39 = some sha_Hash_Sum := by kernel_rfl
theorem sha_All_ok : compF Go.Proofs.Try.prog [37, 38, 39] (fun _ _ => false) Go.Proofs.Try.f26 = some sha_All := by kernel_rfl
theorem sha_Sum_ok : compF Go.Proofs.Try.prog [26] (fun _ _ => false) Go.Proofs.Try.f17 = some sha_Sum := by kernel_rfl
theorem bisect_May_ok : compF Go.Proofs.Try.prog [20, 17] (fun _ _ => false) Go.Proofs.Try.f11 = some bisect_May := by kernel_rfl
theorem num_grown_ok : compF Go.Proofs.Try.prog [] (fun _ _ => false) Go.Proofs.Try.f36 = some num_grown := by kernel_rfl
theorem num_Put_ok : compF Go.Proofs.Try.prog [36] (fun _ _ => false) Go.Proofs.Try.f25 = some num_Put := by kernel_rfl
theorem num_PutString_ok : compF Go.Proofs.Try.prog [25] (fun _ _ => false) Go.Proofs.Try.f16 = some num_PutString := by kernel_rfl
theorem bisect_Encode_ok : compF Go.Proofs.Try.prog [11, 16, 17] (fun _ _ => false) Go.Proofs.Try.f8 = some bisect_Encode := by kernel_rfl
theorem bytes_Equal_ok : compF Go.Proofs.Try.prog [] (fun _ _ => false) Go.Proofs.Try.f22 = some bytes_Equal := by kernel_rfl
theorem num_isShort_ok : compF Go.Proofs.Try.prog [] (fun _ _ => false) Go.Proofs.Try.f46 = some num_isShort := by kernel_rfl
theorem bytes_Clone_ok : compF Go.Proofs.Try.prog [] (fun _ _ => false) Go.Proofs.Try.f47 = some bytes_Clone := by kernel_rfl
theorem num_Take_ok : compF Go.Proofs.Try.prog [46, 47] (fun _ _ => false) Go.Proofs.Try.f42 = some num_Take := by kernel_rfl
theorem num_TakeBytes_ok : compF Go.Proofs.Try.prog [47] (fun _ _ => false) Go.Proofs.Try.f43 = some num_TakeBytes := by kernel_rfl
theorem num_TakeString_ok : compF Go.Proofs.Try.prog [42, 43] (fun _ _ => false) Go.Proofs.Try.f33 = some num_TakeString := by kernel_rfl
theorem bisect_parse_ok : compF Go.Proofs.Try.prog [33, 11] (fun _ _ => false) Go.Proofs.Try.f23 = some bisect_parse := by kernel_rfl
theorem bisect_Decode_ok : compF Go.Proofs.Try.prog [17, 22, 23] (fun _ _ => false) Go.Proofs.Try.f13 = some bisect_Decode := by kernel_rfl
theorem l21_alive_ok : compF Go.Proofs.Try.prog [8, 13, 11] (fun _ _ => false) Go.Proofs.Try.f7 = some l21_alive := by kernel_rfl
theorem l21_plain_ok : compF Go.Proofs.Try.prog [] (fun _ _ => false) Go.Proofs.Try.f10 = some l21_plain := by kernel_rfl
theorem r12_IsName_ok : compF Go.Proofs.Try.prog [] (fun _ _ => false) Go.Proofs.Try.f21 = some r12_IsName := by kernel_rfl
theorem r02_start_ok : compF Go.Proofs.Try.prog [] (fun _ _ => false) Go.Proofs.Try.f28 = some r02_start := by kernel_rfl
theorem r02_steps_ok : compF Go.Proofs.Try.prog [] (fun _ _ => false) Go.Proofs.Try.f29 = some r02_steps := by kernel_rfl
theorem r02_padded_ok : compF Go.Proofs.Try.prog [] (fun _ _ => false) Go.Proofs.Try.f30 = some r02_padded := by kernel_rfl
theorem r02_turn_ok : compF Go.Proofs.Try.prog [] (fun _ _ => false) Go.Proofs.Try.f41 = some r02_turn := by kernel_rfl
theorem r02_block_ok : compF Go.Proofs.Try.prog [41] (fun _ _ => false) Go.Proofs.Try.f31 = some r02_block := by kernel_rfl
theorem r02_Sum_ok : compF Go.Proofs.Try.prog [28, 29, 30, 31] (fun _ _ => false) Go.Proofs.Try.f19 = some r02_Sum := by kernel_rfl
theorem r21_May_ok : compF Go.Proofs.Try.prog [21, 19] (fun _ _ => false) Go.Proofs.Try.f12 = some r21_May := by kernel_rfl
theorem r01_Put_ok : compF Go.Proofs.Try.prog [] (fun _ _ => false) Go.Proofs.Try.f40 = some r01_Put := by kernel_rfl
theorem r01_PutString_ok : compF Go.Proofs.Try.prog [40] (fun _ _ => false) Go.Proofs.Try.f27 = some r01_PutString := by kernel_rfl
theorem r21_ahead_ok : compF Go.Proofs.Try.prog [27] (fun _ _ => false) Go.Proofs.Try.f18 = some r21_ahead := by kernel_rfl
theorem r21_Encode_ok : compF Go.Proofs.Try.prog [12, 18, 19] (fun _ _ => false) Go.Proofs.Try.f9 = some r21_Encode := by kernel_rfl
theorem l21_BisectEncode_ok : compF Go.Proofs.Try.prog [6, 7, 8, 10, 9, 11, 12] (fun _ _ => false) Go.Proofs.Try.f3 = some l21_BisectEncode := by kernel_rfl
theorem r01_TakeBytes_ok : compF Go.Proofs.Try.prog [] (fun _ _ => false) Go.Proofs.Try.f34 = some r01_TakeBytes := by kernel_rfl
theorem r01_Take_ok : compF Go.Proofs.Try.prog [40] (fun _ _ => false) Go.Proofs.Try.f44 = some r01_Take := by kernel_rfl
theorem r01_TakeString_ok : compF Go.Proofs.Try.prog [44] (fun _ _ => false) Go.Proofs.Try.f35 = some r01_TakeString := by kernel_rfl
theorem r21_parse_ok : compF Go.Proofs.Try.prog [34, 35, 12] (fun _ _ => false) Go.Proofs.Try.f24 = some r21_parse := by kernel_rfl
theorem r21_Decode_ok : compF Go.Proofs.Try.prog [19, 24] (fun _ _ => false) Go.Proofs.Try.f14 = some r21_Decode := by kernel_rfl
theorem r21_Same_ok : compF Go.Proofs.Try.prog [] (fun _ _ => false) Go.Proofs.Try.f15 = some r21_Same := by kernel_rfl
theorem l21_BisectDecode_ok : compF Go.Proofs.Try.prog [7, 13, 14, 10, 15] (fun _ _ => false) Go.Proofs.Try.f4 = some l21_BisectDecode := by kernel_rfl
theorem l21_BisectBack_ok : compF Go.Proofs.Try.prog [6, 7, 8, 13, 11, 10, 15] (fun _ _ => false) Go.Proofs.Try.f5 = some l21_BisectBack := by kernel_rfl
end Am.Ir
