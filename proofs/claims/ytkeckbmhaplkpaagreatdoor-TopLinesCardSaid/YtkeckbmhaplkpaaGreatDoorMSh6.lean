/- Texts of 6 bytes, 1 to 12 lines: run by the kernel. -/
import Derived.Test.YtkeckbmhaplkpaaGreatDoorMOr
namespace Go.Proofs.YtkeckbmhaplkpaaGreatDoor.Ln
open Go
theorem sh6a : sh 0 6 (sh 1 6 (sh 2 6 (sh 3 6 (sh 4 6 (sh 6 6 (sh 7 6 (sh 8 6 (some d0)))))))) = some d0 := by kernel_rfl
theorem sh6b : sh 9 6 (sh 10 6 (some d0)) = some d0 := by kernel_rfl
theorem sh6c : sh 11 6 (some d0) = some d0 := by kernel_rfl
end Go.Proofs.YtkeckbmhaplkpaaGreatDoor.Ln
