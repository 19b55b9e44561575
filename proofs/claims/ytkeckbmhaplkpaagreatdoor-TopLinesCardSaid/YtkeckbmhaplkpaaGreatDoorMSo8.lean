/- Texts of 8 bytes, 10 lines, each way of the first bytes alone: run by the kernel. -/
import Derived.Test.YtkeckbmhaplkpaaGreatDoorMOr
namespace Go.Proofs.YtkeckbmhaplkpaaGreatDoor.Ln
open Go
theorem so9_8 : shc 0 9 8 (shc 1 9 8 (shc 2 9 8 (shc 3 9 8 (some d0)))) = some d0 := by kernel_rfl
end Go.Proofs.YtkeckbmhaplkpaaGreatDoor.Ln
