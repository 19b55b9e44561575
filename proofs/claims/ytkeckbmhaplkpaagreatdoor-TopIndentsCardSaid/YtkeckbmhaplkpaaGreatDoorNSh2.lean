/- 6 to 8 blanks and tabs: run by the kernel. -/
import Derived.Test.YtkeckbmhaplkpaaGreatDoorNEnd
namespace Go.Proofs.YtkeckbmhaplkpaaGreatDoor.Ln
open Go
theorem sh6 : shE 6 (shI 6 1 58 (shI 6 59 64 (shI 6 65 128 (shI 6 129 192 (shI 6 193 256 (shI 6 257 320 (shI 6 321 384 (shI 6 385 448 (shI 6 449 512 (shI 6 513 576 (shI 6 577 640 (shI 6 641 660 (some d0))))))))))))) = some d0 := by kernel_rfl
theorem sh7 : shE 7 (shI 7 1 57 (shI 7 58 64 (shI 7 65 128 (shI 7 129 192 (shI 7 193 256 (shI 7 257 320 (shI 7 321 384 (shI 7 385 448 (shI 7 449 512 (shI 7 513 576 (shI 7 577 640 (shI 7 641 660 (some d0))))))))))))) = some d0 := by kernel_rfl
theorem sh8 : shE 8 (shI 8 1 56 (shI 8 57 64 (shI 8 65 128 (shI 8 129 192 (shI 8 193 256 (shI 8 257 320 (shI 8 321 384 (shI 8 385 448 (shI 8 449 512 (shI 8 513 576 (shI 8 577 640 (shI 8 641 660 (some d0))))))))))))) = some d0 := by kernel_rfl
end Go.Proofs.YtkeckbmhaplkpaaGreatDoor.Ln
