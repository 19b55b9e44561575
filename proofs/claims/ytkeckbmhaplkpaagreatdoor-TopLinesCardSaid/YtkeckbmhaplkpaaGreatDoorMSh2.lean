/- Texts of 2 bytes, 1 to 12 lines: run by the kernel. -/
import Derived.Test.YtkeckbmhaplkpaaGreatDoorMOr
namespace Go.Proofs.YtkeckbmhaplkpaaGreatDoor.Ln
open Go
theorem sh2a : sh 0 2 (sh 1 2 (sh 2 2 (sh 3 2 (sh 4 2 (sh 5 2 (sh 6 2 (sh 7 2 (sh 8 2 (sh 9 2 (some d0)))))))))) = some d0 := by kernel_rfl
theorem sh2b : sh 10 2 (sh 11 2 (some d0)) = some d0 := by kernel_rfl
end Go.Proofs.YtkeckbmhaplkpaaGreatDoor.Ln
