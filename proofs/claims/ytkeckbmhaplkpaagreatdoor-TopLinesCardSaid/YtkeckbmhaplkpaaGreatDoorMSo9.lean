/- Texts of 7 bytes, 11 lines, each way of the first bytes alone: run by the kernel. -/
import Derived.Test.YtkeckbmhaplkpaaGreatDoorMOr
namespace Go.Proofs.YtkeckbmhaplkpaaGreatDoor.Ln
open Go
theorem so10_7 : shc 0 10 7 (shc 1 10 7 (shc 2 10 7 (shc 3 10 7 (some d0)))) = some d0 := by kernel_rfl
end Go.Proofs.YtkeckbmhaplkpaaGreatDoor.Ln
