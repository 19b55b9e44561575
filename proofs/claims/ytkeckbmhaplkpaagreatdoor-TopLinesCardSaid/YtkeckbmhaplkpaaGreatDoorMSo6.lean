/- Texts of 7 bytes, 9 lines, each way of the first bytes alone: run by the kernel. -/
import Derived.Test.YtkeckbmhaplkpaaGreatDoorMOr
namespace Go.Proofs.YtkeckbmhaplkpaaGreatDoor.Ln
open Go
theorem so8_7 : shc 0 8 7 (shc 1 8 7 (shc 2 8 7 (shc 3 8 7 (some d0)))) = some d0 := by kernel_rfl
end Go.Proofs.YtkeckbmhaplkpaaGreatDoor.Ln
