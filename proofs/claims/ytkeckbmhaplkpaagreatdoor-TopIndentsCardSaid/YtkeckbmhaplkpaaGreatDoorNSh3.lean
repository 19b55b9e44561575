/- 9 to 10 blanks and tabs: run by the kernel. -/
import Derived.Test.YtkeckbmhaplkpaaGreatDoorNEnd
namespace Go.Proofs.YtkeckbmhaplkpaaGreatDoor.Ln
open Go
theorem sh9 : shE 9 (shI 9 1 55 (shI 9 56 64 (shI 9 65 128 (shI 9 129 192 (shI 9 193 256 (shI 9 257 320 (shI 9 321 384 (shI 9 385 448 (shI 9 449 512 (shI 9 513 576 (shI 9 577 640 (shI 9 641 660 (some d0))))))))))))) = some d0 := by kernel_rfl
theorem sh10 : shE 10 (shI 10 1 54 (shI 10 55 64 (shI 10 65 128 (shI 10 129 192 (shI 10 193 256 (shI 10 257 320 (shI 10 321 384 (shI 10 385 448 (shI 10 449 512 (shI 10 513 576 (shI 10 577 640 (shI 10 641 660 (some d0))))))))))))) = some d0 := by kernel_rfl
end Go.Proofs.YtkeckbmhaplkpaaGreatDoor.Ln
