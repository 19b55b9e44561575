/- Texts of 4 bytes, 1 to 12 lines: run by the kernel. -/
import Derived.Test.YtkeckbmhaplkpaaGreatDoorMOr
namespace Go.Proofs.YtkeckbmhaplkpaaGreatDoor.Ln
open Go
theorem sh4a : sh 0 4 (sh 1 4 (sh 2 4 (sh 3 4 (sh 4 4 (sh 5 4 (sh 6 4 (sh 7 4 (sh 8 4 (some d0))))))))) = some d0 := by kernel_rfl
theorem sh4b : sh 9 4 (sh 10 4 (sh 11 4 (some d0))) = some d0 := by kernel_rfl
end Go.Proofs.YtkeckbmhaplkpaaGreatDoor.Ln
