/- 3 to 5 blanks and tabs: run by the kernel. -/
import Derived.Test.YtkeckbmhaplkpaaGreatDoorNEnd
namespace Go.Proofs.YtkeckbmhaplkpaaGreatDoor.Ln
open Go
theorem sh3 : shE 3 (shI 3 1 61 (shI 3 62 64 (shI 3 65 128 (shI 3 129 192 (shI 3 193 256 (shI 3 257 320 (shI 3 321 384 (shI 3 385 448 (shI 3 449 512 (shI 3 513 576 (shI 3 577 640 (shI 3 641 660 (some d0))))))))))))) = some d0 := by kernel_rfl
theorem sh4 : shE 4 (shI 4 1 60 (shI 4 61 64 (shI 4 65 128 (shI 4 129 192 (shI 4 193 256 (shI 4 257 320 (shI 4 321 384 (shI 4 385 448 (shI 4 449 512 (shI 4 513 576 (shI 4 577 640 (shI 4 641 660 (some d0))))))))))))) = some d0 := by kernel_rfl
theorem sh5 : shE 5 (shI 5 1 59 (shI 5 60 64 (shI 5 65 128 (shI 5 129 192 (shI 5 193 256 (shI 5 257 320 (shI 5 321 384 (shI 5 385 448 (shI 5 449 512 (shI 5 513 576 (shI 5 577 640 (shI 5 641 660 (some d0))))))))))))) = some d0 := by kernel_rfl
end Go.Proofs.YtkeckbmhaplkpaaGreatDoor.Ln
