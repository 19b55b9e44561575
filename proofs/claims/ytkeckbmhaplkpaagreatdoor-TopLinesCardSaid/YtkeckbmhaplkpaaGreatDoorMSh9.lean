/- Texts of 9 bytes, 1 to 12 lines: run by the kernel. -/
import Derived.Test.YtkeckbmhaplkpaaGreatDoorMOr
namespace Go.Proofs.YtkeckbmhaplkpaaGreatDoor.Ln
open Go
theorem sh9a : sh 0 9 (sh 1 9 (sh 2 9 (sh 3 9 (sh 5 9 (sh 6 9 (sh 7 9 (some d0))))))) = some d0 := by kernel_rfl
theorem sh9b : sh 8 9 (sh 9 9 (some d0)) = some d0 := by kernel_rfl
theorem sh9c : sh 10 9 (some d0) = some d0 := by kernel_rfl
theorem sh9d : sh 11 9 (some d0) = some d0 := by kernel_rfl
end Go.Proofs.YtkeckbmhaplkpaaGreatDoor.Ln
