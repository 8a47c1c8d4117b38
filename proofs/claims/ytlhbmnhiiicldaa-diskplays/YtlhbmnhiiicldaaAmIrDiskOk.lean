/- The printed code is the model's, translated. -/
import Derived.Test.YtlhbmnhiiicldaaAmIrDisk
import Derived.Test.YtlhbmnhiiicldaaProg
import Derived.KernelRfl
set_option linter.all false
namespace Am.Ir
open Am Go
set_option maxRecDepth 100000
theorem disk_New_ok : compF Go.Proofs.Try.prog [] (fun _ _ => false) Go.Proofs.Try.f7 = some disk_New := by kernel_rfl
theorem disk_Len_ok : compF Go.Proofs.Try.prog [] (fun _ _ => false) Go.Proofs.Try.f21 = some disk_Len := by kernel_rfl
theorem disk_Waits_ok : compF Go.Proofs.Try.prog [] (fun _ _ => false) Go.Proofs.Try.f16 = some disk_Waits := by kernel_rfl
theorem disk_has_ok : compF Go.Proofs.Try.prog [21] (fun _ _ => false) Go.Proofs.Try.f23 = some disk_has := by kernel_rfl
theorem disk_sector_ok : compF Go.Proofs.Try.prog [] (fun _ _ => false) Go.Proofs.Try.f26 = some disk_sector := by kernel_rfl
theorem disk_newest_ok : compF Go.Proofs.Try.prog [] (fun _ _ => false) Go.Proofs.Try.f27 = some disk_newest := by kernel_rfl
theorem bytes_Clone_ok : compF Go.Proofs.Try.prog [] (fun r i => (r == 99 && i == 99)) Go.Proofs.Try.f25 = some bytes_Clone := by kernel_rfl
theorem disk_Read_ok : compF Go.Proofs.Try.prog [23, 26, 25] (fun _ _ => false) Go.Proofs.Try.f14 = some disk_Read := by kernel_rfl
theorem disk_spend_ok : compF Go.Proofs.Try.prog [] (fun _ _ => false) Go.Proofs.Try.f24 = some disk_spend := by kernel_rfl
theorem disk_Write_ok : compF Go.Proofs.Try.prog [23, 24, 25] (fun _ _ => false) Go.Proofs.Try.f9 = some disk_Write := by kernel_rfl
theorem disk_Flush_ok : compF Go.Proofs.Try.prog [24, 26] (fun _ _ => false) Go.Proofs.Try.f10 = some disk_Flush := by kernel_rfl
theorem disk_Crash_ok : compF Go.Proofs.Try.prog [26] (fun _ _ => false) Go.Proofs.Try.f13 = some disk_Crash := by kernel_rfl
theorem disk_Rot_ok : compF Go.Proofs.Try.prog [23, 26] (fun _ _ => false) Go.Proofs.Try.f22 = some disk_Rot := by kernel_rfl
theorem disk_Fuse_ok : compF Go.Proofs.Try.prog [] (fun _ _ => false) Go.Proofs.Try.f15 = some disk_Fuse := by kernel_rfl
theorem disk_Dump_ok : compF Go.Proofs.Try.prog [25] (fun _ _ => false) Go.Proofs.Try.f17 = some disk_Dump := by kernel_rfl
theorem disk_alive_ok : compF Go.Proofs.Try.prog [7, 9, 14, 13] (fun _ _ => false) Go.Proofs.Try.f8 = some disk_alive := by kernel_rfl
theorem disk_small_ok : compF Go.Proofs.Try.prog [] (fun _ _ => false) Go.Proofs.Try.f11 = some disk_small := by kernel_rfl
theorem disk_lsector_ok : compF Go.Proofs.Try.prog [] (fun _ _ => false) Go.Proofs.Try.f12 = some disk_lsector := by kernel_rfl
theorem DiskNil_ok : compF Go.Proofs.Try.prog [8, 14, 9, 10, 22, 13, 15, 21, 16, 17] (fun _ _ => false) Go.Proofs.Try.f6 = some DiskNil := by kernel_rfl
theorem DiskFlushed_ok : compF Go.Proofs.Try.prog [7, 8, 9, 10, 11, 12, 13, 14] (fun _ _ => false) Go.Proofs.Try.f3 = some DiskFlushed := by kernel_rfl
theorem DiskFuse_ok : compF Go.Proofs.Try.prog [7, 15, 9, 14, 16, 13, 8, 17] (fun _ _ => false) Go.Proofs.Try.f4 = some DiskFuse := by kernel_rfl
theorem r04_blank_ok : compF Go.Proofs.Try.prog [] (fun _ _ => false) Go.Proofs.Try.f28 = some r04_blank := by kernel_rfl
theorem r04_New_ok : compF Go.Proofs.Try.prog [28] (fun _ _ => false) Go.Proofs.Try.f18 = some r04_New := by kernel_rfl
theorem r04_Read_ok : compF Go.Proofs.Try.prog [] (fun _ _ => false) Go.Proofs.Try.f34 = some r04_Read := by kernel_rfl
theorem r04_spend_ok : compF Go.Proofs.Try.prog [] (fun _ _ => false) Go.Proofs.Try.f35 = some r04_spend := by kernel_rfl
theorem r04_Put_ok : compF Go.Proofs.Try.prog [35] (fun _ _ => false) Go.Proofs.Try.f29 = some r04_Put := by kernel_rfl
theorem r04_lay_ok : compF Go.Proofs.Try.prog [] (fun _ _ => false) Go.Proofs.Try.f36 = some r04_lay := by kernel_rfl
theorem r04_Flush_ok : compF Go.Proofs.Try.prog [35] (fun _ _ => false) Go.Proofs.Try.f30 = some r04_Flush := by kernel_rfl
theorem r04_Crash_ok : compF Go.Proofs.Try.prog [36] (fun _ _ => false) Go.Proofs.Try.f31 = some r04_Crash := by kernel_rfl
theorem r04_Rot_ok : compF Go.Proofs.Try.prog [] (fun _ _ => false) Go.Proofs.Try.f32 = some r04_Rot := by kernel_rfl
theorem r04_Fuse_ok : compF Go.Proofs.Try.prog [] (fun _ _ => false) Go.Proofs.Try.f33 = some r04_Fuse := by kernel_rfl
theorem r04_Dump_ok : compF Go.Proofs.Try.prog [] (fun _ _ => false) Go.Proofs.Try.f20 = some r04_Dump := by kernel_rfl
theorem disk_do_ok : compF Go.Proofs.Try.prog [12, 9, 29, 10, 30, 13, 31, 22, 32, 15, 33, 14, 34, 16] (fun _ _ => false) Go.Proofs.Try.f19 = some disk_do := by kernel_rfl
theorem DiskPlays_ok : compF Go.Proofs.Try.prog [7, 18, 8, 11, 19, 17, 20, 21] (fun _ _ => false) Go.Proofs.Try.f5 = some DiskPlays := by kernel_rfl
end Am.Ir
