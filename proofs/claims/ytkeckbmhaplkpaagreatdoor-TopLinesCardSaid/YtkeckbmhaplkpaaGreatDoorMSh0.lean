/- Texts of 0 bytes, 1 to 12 lines: run by the kernel. -/
import Derived.Test.YtkeckbmhaplkpaaGreatDoorMOr
namespace Go.Proofs.YtkeckbmhaplkpaaGreatDoor.Ln
open Go
theorem sh0a : sh 0 0 (sh 1 0 (sh 2 0 (sh 3 0 (sh 4 0 (sh 5 0 (sh 6 0 (sh 7 0 (sh 8 0 (sh 9 0 (sh 10 0 (some d0))))))))))) = some d0 := by kernel_rfl
theorem sh0b : sh 11 0 (some d0) = some d0 := by kernel_rfl
end Go.Proofs.YtkeckbmhaplkpaaGreatDoor.Ln
