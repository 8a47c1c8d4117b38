/- The printed code is the model's, translated. -/
import Derived.Test.YtohopanblpgldaaAmIrDigest
import Derived.Test.YtohopanblpgldaaProg
import Derived.KernelRfl
set_option linter.all false
namespace Am.Ir
open Am Go
set_option maxRecDepth 100000
theorem digest_isRange_ok : compF Go.Proofs.Try.prog [] (fun _ _ => false) Go.Proofs.Try.f20 = some digest_isRange := by kernel_rfl
theorem bits_Len32_ok : compF Go.Proofs.Try.prog [] (fun _ _ => false) Go.Proofs.Try.f29 = some bits_Len32 := by kernel_rfl
theorem bits_Len64_ok : compF Go.Proofs.Try.prog [] (fun _ _ => false) Go.Proofs.Try.f30 = some bits_Len64 := by kernel_rfl
theorem bits_Len_ok : compF Go.Proofs.Try.prog [29, 30] (fun _ _ => false) Go.Proofs.Try.f23 = some bits_Len := by kernel_rfl
theorem sha_New_ok : compF Go.Proofs.Try.prog [] (fun _ _ => false) Go.Proofs.Try.f31 = some sha_New := by kernel_rfl
theorem sha_load_ok : compF Go.Proofs.Try.prog [] (fun _ _ => false) Go.Proofs.Try.f40 = some sha_load := by kernel_rfl
theorem sha_steps_ok : compF Go.Proofs.Try.prog [] (fun _ _ => false) Go.Proofs.Try.f41 = some sha_steps := by kernel_rfl
theorem bits_RotateLeft32_ok : compF Go.Proofs.Try.prog [] (fun _ _ => false) Go.Proofs.Try.f42 = some bits_RotateLeft32 := by kernel_rfl
theorem sha_wheel_next_ok : compF Go.Proofs.Try.prog [42] (fun _ _ => false) Go.Proofs.Try.f43 = some sha_wheel_next := by kernel_rfl
theorem sha_Hash_take_ok : compF Go.Proofs.Try.prog [40, 41, 42, 43] (fun _ _ => false) Go.Proofs.Try.f38 = some sha_Hash_take := by kernel_rfl
theorem sha_Hash_Write_ok : compF Go.Proofs.Try.prog [38] (fun _ _ => false) Go.Proofs.Try.f32 = some sha_Hash_Write := by kernel_rfl
theorem sha_Hash_Sum_ok : compF Go.Proofs.Try.prog [32] (fun _ _ => false) Go.Proofs.Try.f33 = some sha_Hash_Sum := by kernel_rfl
theorem sha_All_ok : compF Go.Proofs.Try.prog [31, 32, 33] (fun _ _ => false) Go.Proofs.Try.f26 = some sha_All := by kernel_rfl
theorem sha_Tree_ok : compF Go.Proofs.Try.prog [23, 21, 26] (fun _ _ => false) Go.Proofs.Try.f21 = some sha_Tree := by kernel_rfl
theorem digest_Range_ok : compF Go.Proofs.Try.prog [20, 21] (fun _ _ => false) Go.Proofs.Try.f6 = some digest_Range := by kernel_rfl
theorem r02_Joined_ok : compF Go.Proofs.Try.prog [] (fun _ _ => false) Go.Proofs.Try.f28 = some r02_Joined := by kernel_rfl
theorem r02_start_ok : compF Go.Proofs.Try.prog [] (fun _ _ => false) Go.Proofs.Try.f34 = some r02_start := by kernel_rfl
theorem r02_steps_ok : compF Go.Proofs.Try.prog [] (fun _ _ => false) Go.Proofs.Try.f35 = some r02_steps := by kernel_rfl
theorem r02_padded_ok : compF Go.Proofs.Try.prog [] (fun _ _ => false) Go.Proofs.Try.f36 = some r02_padded := by kernel_rfl
theorem r02_turn_ok : compF Go.Proofs.Try.prog [] (fun _ _ => false) Go.Proofs.Try.f39 = some r02_turn := by kernel_rfl
theorem r02_block_ok : compF Go.Proofs.Try.prog [39] (fun _ _ => false) Go.Proofs.Try.f37 = some r02_block := by kernel_rfl
theorem r02_Sum_ok : compF Go.Proofs.Try.prog [34, 35, 36, 37] (fun _ _ => false) Go.Proofs.Try.f27 = some r02_Sum := by kernel_rfl
theorem r02_Tree_ok : compF Go.Proofs.Try.prog [22, 28, 27] (fun _ _ => false) Go.Proofs.Try.f22 = some r02_Tree := by kernel_rfl
theorem r20_Range_ok : compF Go.Proofs.Try.prog [22] (fun _ _ => false) Go.Proofs.Try.f7 = some r20_Range := by kernel_rfl
theorem digest_Middle_ok : compF Go.Proofs.Try.prog [20, 23] (fun _ _ => false) Go.Proofs.Try.f8 = some digest_Middle := by kernel_rfl
theorem r20_Middle_ok : compF Go.Proofs.Try.prog [] (fun _ _ => false) Go.Proofs.Try.f9 = some r20_Middle := by kernel_rfl
theorem digest_Search_1_ok : compF Go.Proofs.Try.prog [6, 8] (fun _ _ => false) Go.Proofs.Try.f24 = some digest_Search_1 := by kernel_rfl
theorem digest_Search_ok : compF Go.Proofs.Try.prog [] (fun _ _ => false) Go.Proofs.Try.f15 = some digest_Search := by kernel_rfl
theorem digest_Has_ok : compF Go.Proofs.Try.prog [] (fun _ _ => false) Go.Proofs.Try.f11 = some digest_Has := by kernel_rfl
theorem l20_alive_ok : compF Go.Proofs.Try.prog [8, 15, 11] (fun _ _ => false) Go.Proofs.Try.f10 = some l20_alive := by kernel_rfl
theorem r20_Has_ok : compF Go.Proofs.Try.prog [] (fun _ _ => false) Go.Proofs.Try.f12 = some r20_Has := by kernel_rfl
theorem manifest_Digest_ok : compF Go.Proofs.Try.prog [21] (fun _ _ => false) Go.Proofs.Try.f13 = some manifest_Digest := by kernel_rfl
theorem l20_DigestRange_ok : compF Go.Proofs.Try.prog [6, 7, 8, 9, 10, 11, 12, 13] (fun _ _ => false) Go.Proofs.Try.f3 = some l20_DigestRange := by kernel_rfl
theorem l20_mixed_ok : compF Go.Proofs.Try.prog [] (fun _ _ => false) Go.Proofs.Try.f14 = some l20_mixed := by kernel_rfl
theorem r20_search_ok : compF Go.Proofs.Try.prog [7, 9, 25] (fun _ _ => false) Go.Proofs.Try.f25 = some r20_search := by kernel_rfl
theorem r20_Search_ok : compF Go.Proofs.Try.prog [25] (fun _ _ => false) Go.Proofs.Try.f16 = some r20_Search := by kernel_rfl
theorem r09_SameInts_ok : compF Go.Proofs.Try.prog [] (fun _ _ => false) Go.Proofs.Try.f17 = some r09_SameInts := by kernel_rfl
theorem digest_Unlike_ok : compF Go.Proofs.Try.prog [] (fun _ _ => false) Go.Proofs.Try.f18 = some digest_Unlike := by kernel_rfl
theorem r20_Unlike_ok : compF Go.Proofs.Try.prog [] (fun _ _ => false) Go.Proofs.Try.f19 = some r20_Unlike := by kernel_rfl
theorem l20_DigestSearch_ok : compF Go.Proofs.Try.prog [14, 15, 16, 10, 17, 18, 19] (fun _ _ => false) Go.Proofs.Try.f4 = some l20_DigestSearch := by kernel_rfl
theorem l20_DigestFound_ok : compF Go.Proofs.Try.prog [14, 15, 10, 18] (fun _ _ => false) Go.Proofs.Try.f5 = some l20_DigestFound := by kernel_rfl
end Am.Ir
