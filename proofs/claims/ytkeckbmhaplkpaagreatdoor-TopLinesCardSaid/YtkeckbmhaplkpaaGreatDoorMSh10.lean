/- Texts of 10 bytes, 1 to 12 lines: run by the kernel. -/
import Derived.Test.YtkeckbmhaplkpaaGreatDoorMOr
namespace Go.Proofs.YtkeckbmhaplkpaaGreatDoor.Ln
open Go
theorem sh10a : sh 0 10 (sh 1 10 (sh 2 10 (sh 3 10 (sh 5 10 (sh 6 10 (sh 7 10 (some d0))))))) = some d0 := by kernel_rfl
theorem sh10b : sh 9 10 (sh 10 10 (some d0)) = some d0 := by kernel_rfl
theorem sh10c : sh 11 10 (some d0) = some d0 := by kernel_rfl
end Go.Proofs.YtkeckbmhaplkpaaGreatDoor.Ln
