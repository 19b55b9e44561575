/- Texts of 7 bytes, 6 lines, each way of the first bytes alone: run by the kernel. -/
import Derived.Test.YtkeckbmhaplkpaaGreatDoorMOr
namespace Go.Proofs.YtkeckbmhaplkpaaGreatDoor.Ln
open Go
theorem so5_7 : shc 0 5 7 (shc 1 5 7 (shc 2 5 7 (shc 3 5 7 (some d0)))) = some d0 := by kernel_rfl
end Go.Proofs.YtkeckbmhaplkpaaGreatDoor.Ln
