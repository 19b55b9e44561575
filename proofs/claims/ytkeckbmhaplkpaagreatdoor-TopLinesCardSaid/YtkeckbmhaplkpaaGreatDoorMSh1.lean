/- Texts of 1 bytes, 1 to 12 lines: run by the kernel. -/
import Derived.Test.YtkeckbmhaplkpaaGreatDoorMOr
namespace Go.Proofs.YtkeckbmhaplkpaaGreatDoor.Ln
open Go
theorem sh1a : sh 0 1 (sh 1 1 (sh 2 1 (sh 3 1 (sh 4 1 (sh 5 1 (sh 6 1 (sh 7 1 (sh 8 1 (sh 9 1 (sh 10 1 (some d0))))))))))) = some d0 := by kernel_rfl
theorem sh1b : sh 11 1 (some d0) = some d0 := by kernel_rfl
end Go.Proofs.YtkeckbmhaplkpaaGreatDoor.Ln
