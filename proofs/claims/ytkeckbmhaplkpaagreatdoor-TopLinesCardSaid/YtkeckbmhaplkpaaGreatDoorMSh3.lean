/- Texts of 3 bytes, 1 to 12 lines: run by the kernel. -/
import Derived.Test.YtkeckbmhaplkpaaGreatDoorMOr
namespace Go.Proofs.YtkeckbmhaplkpaaGreatDoor.Ln
open Go
theorem sh3a : sh 0 3 (sh 1 3 (sh 2 3 (sh 3 3 (sh 4 3 (sh 5 3 (sh 6 3 (sh 7 3 (sh 8 3 (sh 9 3 (some d0)))))))))) = some d0 := by kernel_rfl
theorem sh3b : sh 10 3 (sh 11 3 (some d0)) = some d0 := by kernel_rfl
end Go.Proofs.YtkeckbmhaplkpaaGreatDoor.Ln
