/- The calls that all inputs share: run by the kernel; printed by a program. -/
import Derived.Test.YtkeckbmhaplkpaaGreatDoorTabs
namespace Go.Proofs.YtkeckbmhaplkpaaGreatDoor.Ev
open Go
noncomputable section
theorem ck1 : okC orcS 7 [] .lf 0 (.tuple [vEd, .bool true]) hp1 12 = true := by kernel_rfl
theorem con1 : Con Tryz.prog 7 [] .lf 0 ⟨(.tuple [vEd, .bool true]), hp1, 12⟩ := con_of orcS_ok (by kernel_rfl) ck1
theorem ck2 : okC orcS 8 [vEd, opV 7 [36, 123, 49, 58, 120, 125, 124, 36, 123, 49, 47, 94, 40, 97, 124, 97, 41, 42, 98, 36, 47, 47, 125]] hp1 12 (.int .i64 (.ofNat 0)) hp2 1465 = true := by kernel_rfl
theorem con2 : Con Tryz.prog 8 [vEd, opV 7 [36, 123, 49, 58, 120, 125, 124, 36, 123, 49, 47, 94, 40, 97, 124, 97, 41, 42, 98, 36, 47, 47, 125]] hp1 12 ⟨(.int .i64 (.ofNat 0)), hp2, 1465⟩ := con_of orcS_ok (by kernel_rfl) ck2
theorem ck3 : okC orcS 9 [vEd] hp2 1465 vWas hp3 1543 = true := by kernel_rfl
theorem con3 : Con Tryz.prog 9 [vEd] hp2 1465 ⟨vWas, hp3, 1543⟩ := con_of orcS_ok (by kernel_rfl) ck3
theorem ckB : okC orcS 9 [vEd] hp3 4000 vNow hp5 4078 = true := by kernel_rfl
theorem conB : Con Tryz.prog 9 [vEd] hp3 4000 ⟨vNow, hp5, 4078⟩ := con_of orcS_ok (by kernel_rfl) ckB
theorem ckC : okC orcS 11 [vNow, vWas] hp5 4078 (.bool true) .lf 4144 = true := by kernel_rfl
theorem conC : Con Tryz.prog 11 [vNow, vWas] hp5 4078 ⟨(.bool true), .lf, 4144⟩ := con_of orcS_ok (by kernel_rfl) ckC
theorem ckW : okC orcS 12 [] .lf 0 (.bool true) .lf 1855 = true := by kernel_rfl
theorem conW : Con Tryz.prog 12 [] .lf 0 ⟨(.bool true), .lf, 1855⟩ := con_of orcS_ok (by kernel_rfl) ckW
end
end Go.Proofs.YtkeckbmhaplkpaaGreatDoor.Ev
