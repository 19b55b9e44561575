/- Texts of 10 bytes, 5 lines, each way of the first bytes alone: run by the kernel. -/
import Derived.Test.YtkeckbmhaplkpaaGreatDoorMOr
namespace Go.Proofs.YtkeckbmhaplkpaaGreatDoor.Ln
open Go
theorem so4_10 : shc 0 4 10 (shc 1 4 10 (shc 2 4 10 (shc 3 4 10 (some d0)))) = some d0 := by kernel_rfl
end Go.Proofs.YtkeckbmhaplkpaaGreatDoor.Ln
