/- Texts of 5 bytes, 1 to 12 lines: run by the kernel. -/
import Derived.Test.YtkeckbmhaplkpaaGreatDoorMOr
namespace Go.Proofs.YtkeckbmhaplkpaaGreatDoor.Ln
open Go
theorem sh5a : sh 0 5 (sh 1 5 (sh 2 5 (sh 3 5 (sh 4 5 (sh 5 5 (sh 7 5 (sh 8 5 (some d0)))))))) = some d0 := by kernel_rfl
theorem sh5b : sh 9 5 (sh 10 5 (some d0)) = some d0 := by kernel_rfl
theorem sh5c : sh 11 5 (some d0) = some d0 := by kernel_rfl
end Go.Proofs.YtkeckbmhaplkpaaGreatDoor.Ln
