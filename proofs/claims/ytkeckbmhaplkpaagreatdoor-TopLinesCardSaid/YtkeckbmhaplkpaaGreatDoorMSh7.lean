/- Texts of 7 bytes, 1 to 12 lines: run by the kernel. -/
import Derived.Test.YtkeckbmhaplkpaaGreatDoorMOr
namespace Go.Proofs.YtkeckbmhaplkpaaGreatDoor.Ln
open Go
theorem sh7a : sh 0 7 (sh 1 7 (sh 2 7 (sh 3 7 (sh 4 7 (sh 6 7 (sh 7 7 (some d0))))))) = some d0 := by kernel_rfl
theorem sh7b : sh 9 7 (sh 11 7 (some d0)) = some d0 := by kernel_rfl
end Go.Proofs.YtkeckbmhaplkpaaGreatDoor.Ln
