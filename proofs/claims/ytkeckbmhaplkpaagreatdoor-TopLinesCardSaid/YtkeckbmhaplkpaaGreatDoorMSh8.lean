/- Texts of 8 bytes, 1 to 12 lines: run by the kernel. -/
import Derived.Test.YtkeckbmhaplkpaaGreatDoorMOr
namespace Go.Proofs.YtkeckbmhaplkpaaGreatDoor.Ln
open Go
theorem sh8a : sh 0 8 (sh 1 8 (sh 2 8 (sh 3 8 (sh 5 8 (sh 6 8 (sh 7 8 (some d0))))))) = some d0 := by kernel_rfl
theorem sh8b : sh 8 8 (sh 10 8 (some d0)) = some d0 := by kernel_rfl
theorem sh8c : sh 11 8 (some d0) = some d0 := by kernel_rfl
end Go.Proofs.YtkeckbmhaplkpaaGreatDoor.Ln
