/- 0 to 2 blanks and tabs: run by the kernel. -/
import Derived.Test.YtkeckbmhaplkpaaGreatDoorNEnd
namespace Go.Proofs.YtkeckbmhaplkpaaGreatDoor.Ln
open Go
theorem sh0 : shE 0 (shI 0 1 64 (shI 0 65 128 (shI 0 129 192 (shI 0 193 256 (shI 0 257 320 (shI 0 321 384 (shI 0 385 448 (shI 0 449 512 (shI 0 513 576 (shI 0 577 640 (shI 0 641 660 (some d0)))))))))))) = some d0 := by kernel_rfl
theorem sh1 : shE 1 (shI 1 1 63 (shI 1 64 64 (shI 1 65 128 (shI 1 129 192 (shI 1 193 256 (shI 1 257 320 (shI 1 321 384 (shI 1 385 448 (shI 1 449 512 (shI 1 513 576 (shI 1 577 640 (shI 1 641 660 (some d0))))))))))))) = some d0 := by kernel_rfl
theorem sh2 : shE 2 (shI 2 1 62 (shI 2 63 64 (shI 2 65 128 (shI 2 129 192 (shI 2 193 256 (shI 2 257 320 (shI 2 321 384 (shI 2 385 448 (shI 2 449 512 (shI 2 513 576 (shI 2 577 640 (shI 2 641 660 (some d0))))))))))))) = some d0 := by kernel_rfl
end Go.Proofs.YtkeckbmhaplkpaaGreatDoor.Ln
