/- All runs of TopIndents by the kernel, joined: the walk of TopIndents. -/
import Derived.Test.YtkeckbmhaplkpaaGreatDoorNWalk
import Derived.Test.YtkeckbmhaplkpaaGreatDoorNSh0
import Derived.Test.YtkeckbmhaplkpaaGreatDoorNSh1
import Derived.Test.YtkeckbmhaplkpaaGreatDoorNSh2
import Derived.Test.YtkeckbmhaplkpaaGreatDoorNSh3
namespace Go.Proofs.YtkeckbmhaplkpaaGreatDoor.Ln
open Go Go.RowKit
theorem runE0 : RunsTrue (tE 0) 0 (.str []) := (shE_ok sh0).1
theorem runI0 : ∀ L, 1 ≤ L → L ≤ 660 → ∃ lo hi, lo ≤ L ∧ L ≤ hi ∧ (wholeT 3 lo hi).wf = true ∧ linB lo hi 0 = true ∧ RunsTrue (tI 0 lo hi) 0 (.txt tS) := by
  intro L h1 h2
  have r0 := shI_ok (m := 0) (lo := 1) (hi := 64) (shE_ok sh0).2
  have r1 := shI_ok (m := 0) (lo := 65) (hi := 128) r0.2
  have r2 := shI_ok (m := 0) (lo := 129) (hi := 192) r1.2
  have r3 := shI_ok (m := 0) (lo := 193) (hi := 256) r2.2
  have r4 := shI_ok (m := 0) (lo := 257) (hi := 320) r3.2
  have r5 := shI_ok (m := 0) (lo := 321) (hi := 384) r4.2
  have r6 := shI_ok (m := 0) (lo := 385) (hi := 448) r5.2
  have r7 := shI_ok (m := 0) (lo := 449) (hi := 512) r6.2
  have r8 := shI_ok (m := 0) (lo := 513) (hi := 576) r7.2
  have r9 := shI_ok (m := 0) (lo := 577) (hi := 640) r8.2
  have r10 := shI_ok (m := 0) (lo := 641) (hi := 660) r9.2
  by_cases g0 : L ≤ 64
  · exact ⟨1, 64, by omega, by omega, by decide, by decide, r0.1⟩
  by_cases g1 : L ≤ 128
  · exact ⟨65, 128, by omega, by omega, by decide, by decide, r1.1⟩
  by_cases g2 : L ≤ 192
  · exact ⟨129, 192, by omega, by omega, by decide, by decide, r2.1⟩
  by_cases g3 : L ≤ 256
  · exact ⟨193, 256, by omega, by omega, by decide, by decide, r3.1⟩
  by_cases g4 : L ≤ 320
  · exact ⟨257, 320, by omega, by omega, by decide, by decide, r4.1⟩
  by_cases g5 : L ≤ 384
  · exact ⟨321, 384, by omega, by omega, by decide, by decide, r5.1⟩
  by_cases g6 : L ≤ 448
  · exact ⟨385, 448, by omega, by omega, by decide, by decide, r6.1⟩
  by_cases g7 : L ≤ 512
  · exact ⟨449, 512, by omega, by omega, by decide, by decide, r7.1⟩
  by_cases g8 : L ≤ 576
  · exact ⟨513, 576, by omega, by omega, by decide, by decide, r8.1⟩
  by_cases g9 : L ≤ 640
  · exact ⟨577, 640, by omega, by omega, by decide, by decide, r9.1⟩
  exact ⟨641, 660, by omega, by omega, by decide, by decide, r10.1⟩
theorem runE1 : RunsTrue (tE 1) 1 (.str []) := (shE_ok sh1).1
theorem runI1 : ∀ L, 1 ≤ L → L ≤ 660 → ∃ lo hi, lo ≤ L ∧ L ≤ hi ∧ (wholeT 3 lo hi).wf = true ∧ linB lo hi 0 = true ∧ RunsTrue (tI 1 lo hi) 1 (.txt tS) := by
  intro L h1 h2
  have r0 := shI_ok (m := 1) (lo := 1) (hi := 63) (shE_ok sh1).2
  have r1 := shI_ok (m := 1) (lo := 64) (hi := 64) r0.2
  have r2 := shI_ok (m := 1) (lo := 65) (hi := 128) r1.2
  have r3 := shI_ok (m := 1) (lo := 129) (hi := 192) r2.2
  have r4 := shI_ok (m := 1) (lo := 193) (hi := 256) r3.2
  have r5 := shI_ok (m := 1) (lo := 257) (hi := 320) r4.2
  have r6 := shI_ok (m := 1) (lo := 321) (hi := 384) r5.2
  have r7 := shI_ok (m := 1) (lo := 385) (hi := 448) r6.2
  have r8 := shI_ok (m := 1) (lo := 449) (hi := 512) r7.2
  have r9 := shI_ok (m := 1) (lo := 513) (hi := 576) r8.2
  have r10 := shI_ok (m := 1) (lo := 577) (hi := 640) r9.2
  have r11 := shI_ok (m := 1) (lo := 641) (hi := 660) r10.2
  by_cases g0 : L ≤ 63
  · exact ⟨1, 63, by omega, by omega, by decide, by decide, r0.1⟩
  by_cases g1 : L ≤ 64
  · exact ⟨64, 64, by omega, by omega, by decide, by decide, r1.1⟩
  by_cases g2 : L ≤ 128
  · exact ⟨65, 128, by omega, by omega, by decide, by decide, r2.1⟩
  by_cases g3 : L ≤ 192
  · exact ⟨129, 192, by omega, by omega, by decide, by decide, r3.1⟩
  by_cases g4 : L ≤ 256
  · exact ⟨193, 256, by omega, by omega, by decide, by decide, r4.1⟩
  by_cases g5 : L ≤ 320
  · exact ⟨257, 320, by omega, by omega, by decide, by decide, r5.1⟩
  by_cases g6 : L ≤ 384
  · exact ⟨321, 384, by omega, by omega, by decide, by decide, r6.1⟩
  by_cases g7 : L ≤ 448
  · exact ⟨385, 448, by omega, by omega, by decide, by decide, r7.1⟩
  by_cases g8 : L ≤ 512
  · exact ⟨449, 512, by omega, by omega, by decide, by decide, r8.1⟩
  by_cases g9 : L ≤ 576
  · exact ⟨513, 576, by omega, by omega, by decide, by decide, r9.1⟩
  by_cases g10 : L ≤ 640
  · exact ⟨577, 640, by omega, by omega, by decide, by decide, r10.1⟩
  exact ⟨641, 660, by omega, by omega, by decide, by decide, r11.1⟩
theorem runE2 : RunsTrue (tE 2) 2 (.str []) := (shE_ok sh2).1
theorem runI2 : ∀ L, 1 ≤ L → L ≤ 660 → ∃ lo hi, lo ≤ L ∧ L ≤ hi ∧ (wholeT 3 lo hi).wf = true ∧ linB lo hi 0 = true ∧ RunsTrue (tI 2 lo hi) 2 (.txt tS) := by
  intro L h1 h2
  have r0 := shI_ok (m := 2) (lo := 1) (hi := 62) (shE_ok sh2).2
  have r1 := shI_ok (m := 2) (lo := 63) (hi := 64) r0.2
  have r2 := shI_ok (m := 2) (lo := 65) (hi := 128) r1.2
  have r3 := shI_ok (m := 2) (lo := 129) (hi := 192) r2.2
  have r4 := shI_ok (m := 2) (lo := 193) (hi := 256) r3.2
  have r5 := shI_ok (m := 2) (lo := 257) (hi := 320) r4.2
  have r6 := shI_ok (m := 2) (lo := 321) (hi := 384) r5.2
  have r7 := shI_ok (m := 2) (lo := 385) (hi := 448) r6.2
  have r8 := shI_ok (m := 2) (lo := 449) (hi := 512) r7.2
  have r9 := shI_ok (m := 2) (lo := 513) (hi := 576) r8.2
  have r10 := shI_ok (m := 2) (lo := 577) (hi := 640) r9.2
  have r11 := shI_ok (m := 2) (lo := 641) (hi := 660) r10.2
  by_cases g0 : L ≤ 62
  · exact ⟨1, 62, by omega, by omega, by decide, by decide, r0.1⟩
  by_cases g1 : L ≤ 64
  · exact ⟨63, 64, by omega, by omega, by decide, by decide, r1.1⟩
  by_cases g2 : L ≤ 128
  · exact ⟨65, 128, by omega, by omega, by decide, by decide, r2.1⟩
  by_cases g3 : L ≤ 192
  · exact ⟨129, 192, by omega, by omega, by decide, by decide, r3.1⟩
  by_cases g4 : L ≤ 256
  · exact ⟨193, 256, by omega, by omega, by decide, by decide, r4.1⟩
  by_cases g5 : L ≤ 320
  · exact ⟨257, 320, by omega, by omega, by decide, by decide, r5.1⟩
  by_cases g6 : L ≤ 384
  · exact ⟨321, 384, by omega, by omega, by decide, by decide, r6.1⟩
  by_cases g7 : L ≤ 448
  · exact ⟨385, 448, by omega, by omega, by decide, by decide, r7.1⟩
  by_cases g8 : L ≤ 512
  · exact ⟨449, 512, by omega, by omega, by decide, by decide, r8.1⟩
  by_cases g9 : L ≤ 576
  · exact ⟨513, 576, by omega, by omega, by decide, by decide, r9.1⟩
  by_cases g10 : L ≤ 640
  · exact ⟨577, 640, by omega, by omega, by decide, by decide, r10.1⟩
  exact ⟨641, 660, by omega, by omega, by decide, by decide, r11.1⟩
theorem runE3 : RunsTrue (tE 3) 3 (.str []) := (shE_ok sh3).1
theorem runI3 : ∀ L, 1 ≤ L → L ≤ 660 → ∃ lo hi, lo ≤ L ∧ L ≤ hi ∧ (wholeT 3 lo hi).wf = true ∧ linB lo hi 0 = true ∧ RunsTrue (tI 3 lo hi) 3 (.txt tS) := by
  intro L h1 h2
  have r0 := shI_ok (m := 3) (lo := 1) (hi := 61) (shE_ok sh3).2
  have r1 := shI_ok (m := 3) (lo := 62) (hi := 64) r0.2
  have r2 := shI_ok (m := 3) (lo := 65) (hi := 128) r1.2
  have r3 := shI_ok (m := 3) (lo := 129) (hi := 192) r2.2
  have r4 := shI_ok (m := 3) (lo := 193) (hi := 256) r3.2
  have r5 := shI_ok (m := 3) (lo := 257) (hi := 320) r4.2
  have r6 := shI_ok (m := 3) (lo := 321) (hi := 384) r5.2
  have r7 := shI_ok (m := 3) (lo := 385) (hi := 448) r6.2
  have r8 := shI_ok (m := 3) (lo := 449) (hi := 512) r7.2
  have r9 := shI_ok (m := 3) (lo := 513) (hi := 576) r8.2
  have r10 := shI_ok (m := 3) (lo := 577) (hi := 640) r9.2
  have r11 := shI_ok (m := 3) (lo := 641) (hi := 660) r10.2
  by_cases g0 : L ≤ 61
  · exact ⟨1, 61, by omega, by omega, by decide, by decide, r0.1⟩
  by_cases g1 : L ≤ 64
  · exact ⟨62, 64, by omega, by omega, by decide, by decide, r1.1⟩
  by_cases g2 : L ≤ 128
  · exact ⟨65, 128, by omega, by omega, by decide, by decide, r2.1⟩
  by_cases g3 : L ≤ 192
  · exact ⟨129, 192, by omega, by omega, by decide, by decide, r3.1⟩
  by_cases g4 : L ≤ 256
  · exact ⟨193, 256, by omega, by omega, by decide, by decide, r4.1⟩
  by_cases g5 : L ≤ 320
  · exact ⟨257, 320, by omega, by omega, by decide, by decide, r5.1⟩
  by_cases g6 : L ≤ 384
  · exact ⟨321, 384, by omega, by omega, by decide, by decide, r6.1⟩
  by_cases g7 : L ≤ 448
  · exact ⟨385, 448, by omega, by omega, by decide, by decide, r7.1⟩
  by_cases g8 : L ≤ 512
  · exact ⟨449, 512, by omega, by omega, by decide, by decide, r8.1⟩
  by_cases g9 : L ≤ 576
  · exact ⟨513, 576, by omega, by omega, by decide, by decide, r9.1⟩
  by_cases g10 : L ≤ 640
  · exact ⟨577, 640, by omega, by omega, by decide, by decide, r10.1⟩
  exact ⟨641, 660, by omega, by omega, by decide, by decide, r11.1⟩
theorem runE4 : RunsTrue (tE 4) 4 (.str []) := (shE_ok sh4).1
theorem runI4 : ∀ L, 1 ≤ L → L ≤ 660 → ∃ lo hi, lo ≤ L ∧ L ≤ hi ∧ (wholeT 3 lo hi).wf = true ∧ linB lo hi 0 = true ∧ RunsTrue (tI 4 lo hi) 4 (.txt tS) := by
  intro L h1 h2
  have r0 := shI_ok (m := 4) (lo := 1) (hi := 60) (shE_ok sh4).2
  have r1 := shI_ok (m := 4) (lo := 61) (hi := 64) r0.2
  have r2 := shI_ok (m := 4) (lo := 65) (hi := 128) r1.2
  have r3 := shI_ok (m := 4) (lo := 129) (hi := 192) r2.2
  have r4 := shI_ok (m := 4) (lo := 193) (hi := 256) r3.2
  have r5 := shI_ok (m := 4) (lo := 257) (hi := 320) r4.2
  have r6 := shI_ok (m := 4) (lo := 321) (hi := 384) r5.2
  have r7 := shI_ok (m := 4) (lo := 385) (hi := 448) r6.2
  have r8 := shI_ok (m := 4) (lo := 449) (hi := 512) r7.2
  have r9 := shI_ok (m := 4) (lo := 513) (hi := 576) r8.2
  have r10 := shI_ok (m := 4) (lo := 577) (hi := 640) r9.2
  have r11 := shI_ok (m := 4) (lo := 641) (hi := 660) r10.2
  by_cases g0 : L ≤ 60
  · exact ⟨1, 60, by omega, by omega, by decide, by decide, r0.1⟩
  by_cases g1 : L ≤ 64
  · exact ⟨61, 64, by omega, by omega, by decide, by decide, r1.1⟩
  by_cases g2 : L ≤ 128
  · exact ⟨65, 128, by omega, by omega, by decide, by decide, r2.1⟩
  by_cases g3 : L ≤ 192
  · exact ⟨129, 192, by omega, by omega, by decide, by decide, r3.1⟩
  by_cases g4 : L ≤ 256
  · exact ⟨193, 256, by omega, by omega, by decide, by decide, r4.1⟩
  by_cases g5 : L ≤ 320
  · exact ⟨257, 320, by omega, by omega, by decide, by decide, r5.1⟩
  by_cases g6 : L ≤ 384
  · exact ⟨321, 384, by omega, by omega, by decide, by decide, r6.1⟩
  by_cases g7 : L ≤ 448
  · exact ⟨385, 448, by omega, by omega, by decide, by decide, r7.1⟩
  by_cases g8 : L ≤ 512
  · exact ⟨449, 512, by omega, by omega, by decide, by decide, r8.1⟩
  by_cases g9 : L ≤ 576
  · exact ⟨513, 576, by omega, by omega, by decide, by decide, r9.1⟩
  by_cases g10 : L ≤ 640
  · exact ⟨577, 640, by omega, by omega, by decide, by decide, r10.1⟩
  exact ⟨641, 660, by omega, by omega, by decide, by decide, r11.1⟩
theorem runE5 : RunsTrue (tE 5) 5 (.str []) := (shE_ok sh5).1
theorem runI5 : ∀ L, 1 ≤ L → L ≤ 660 → ∃ lo hi, lo ≤ L ∧ L ≤ hi ∧ (wholeT 3 lo hi).wf = true ∧ linB lo hi 0 = true ∧ RunsTrue (tI 5 lo hi) 5 (.txt tS) := by
  intro L h1 h2
  have r0 := shI_ok (m := 5) (lo := 1) (hi := 59) (shE_ok sh5).2
  have r1 := shI_ok (m := 5) (lo := 60) (hi := 64) r0.2
  have r2 := shI_ok (m := 5) (lo := 65) (hi := 128) r1.2
  have r3 := shI_ok (m := 5) (lo := 129) (hi := 192) r2.2
  have r4 := shI_ok (m := 5) (lo := 193) (hi := 256) r3.2
  have r5 := shI_ok (m := 5) (lo := 257) (hi := 320) r4.2
  have r6 := shI_ok (m := 5) (lo := 321) (hi := 384) r5.2
  have r7 := shI_ok (m := 5) (lo := 385) (hi := 448) r6.2
  have r8 := shI_ok (m := 5) (lo := 449) (hi := 512) r7.2
  have r9 := shI_ok (m := 5) (lo := 513) (hi := 576) r8.2
  have r10 := shI_ok (m := 5) (lo := 577) (hi := 640) r9.2
  have r11 := shI_ok (m := 5) (lo := 641) (hi := 660) r10.2
  by_cases g0 : L ≤ 59
  · exact ⟨1, 59, by omega, by omega, by decide, by decide, r0.1⟩
  by_cases g1 : L ≤ 64
  · exact ⟨60, 64, by omega, by omega, by decide, by decide, r1.1⟩
  by_cases g2 : L ≤ 128
  · exact ⟨65, 128, by omega, by omega, by decide, by decide, r2.1⟩
  by_cases g3 : L ≤ 192
  · exact ⟨129, 192, by omega, by omega, by decide, by decide, r3.1⟩
  by_cases g4 : L ≤ 256
  · exact ⟨193, 256, by omega, by omega, by decide, by decide, r4.1⟩
  by_cases g5 : L ≤ 320
  · exact ⟨257, 320, by omega, by omega, by decide, by decide, r5.1⟩
  by_cases g6 : L ≤ 384
  · exact ⟨321, 384, by omega, by omega, by decide, by decide, r6.1⟩
  by_cases g7 : L ≤ 448
  · exact ⟨385, 448, by omega, by omega, by decide, by decide, r7.1⟩
  by_cases g8 : L ≤ 512
  · exact ⟨449, 512, by omega, by omega, by decide, by decide, r8.1⟩
  by_cases g9 : L ≤ 576
  · exact ⟨513, 576, by omega, by omega, by decide, by decide, r9.1⟩
  by_cases g10 : L ≤ 640
  · exact ⟨577, 640, by omega, by omega, by decide, by decide, r10.1⟩
  exact ⟨641, 660, by omega, by omega, by decide, by decide, r11.1⟩
theorem runE6 : RunsTrue (tE 6) 6 (.str []) := (shE_ok sh6).1
theorem runI6 : ∀ L, 1 ≤ L → L ≤ 660 → ∃ lo hi, lo ≤ L ∧ L ≤ hi ∧ (wholeT 3 lo hi).wf = true ∧ linB lo hi 0 = true ∧ RunsTrue (tI 6 lo hi) 6 (.txt tS) := by
  intro L h1 h2
  have r0 := shI_ok (m := 6) (lo := 1) (hi := 58) (shE_ok sh6).2
  have r1 := shI_ok (m := 6) (lo := 59) (hi := 64) r0.2
  have r2 := shI_ok (m := 6) (lo := 65) (hi := 128) r1.2
  have r3 := shI_ok (m := 6) (lo := 129) (hi := 192) r2.2
  have r4 := shI_ok (m := 6) (lo := 193) (hi := 256) r3.2
  have r5 := shI_ok (m := 6) (lo := 257) (hi := 320) r4.2
  have r6 := shI_ok (m := 6) (lo := 321) (hi := 384) r5.2
  have r7 := shI_ok (m := 6) (lo := 385) (hi := 448) r6.2
  have r8 := shI_ok (m := 6) (lo := 449) (hi := 512) r7.2
  have r9 := shI_ok (m := 6) (lo := 513) (hi := 576) r8.2
  have r10 := shI_ok (m := 6) (lo := 577) (hi := 640) r9.2
  have r11 := shI_ok (m := 6) (lo := 641) (hi := 660) r10.2
  by_cases g0 : L ≤ 58
  · exact ⟨1, 58, by omega, by omega, by decide, by decide, r0.1⟩
  by_cases g1 : L ≤ 64
  · exact ⟨59, 64, by omega, by omega, by decide, by decide, r1.1⟩
  by_cases g2 : L ≤ 128
  · exact ⟨65, 128, by omega, by omega, by decide, by decide, r2.1⟩
  by_cases g3 : L ≤ 192
  · exact ⟨129, 192, by omega, by omega, by decide, by decide, r3.1⟩
  by_cases g4 : L ≤ 256
  · exact ⟨193, 256, by omega, by omega, by decide, by decide, r4.1⟩
  by_cases g5 : L ≤ 320
  · exact ⟨257, 320, by omega, by omega, by decide, by decide, r5.1⟩
  by_cases g6 : L ≤ 384
  · exact ⟨321, 384, by omega, by omega, by decide, by decide, r6.1⟩
  by_cases g7 : L ≤ 448
  · exact ⟨385, 448, by omega, by omega, by decide, by decide, r7.1⟩
  by_cases g8 : L ≤ 512
  · exact ⟨449, 512, by omega, by omega, by decide, by decide, r8.1⟩
  by_cases g9 : L ≤ 576
  · exact ⟨513, 576, by omega, by omega, by decide, by decide, r9.1⟩
  by_cases g10 : L ≤ 640
  · exact ⟨577, 640, by omega, by omega, by decide, by decide, r10.1⟩
  exact ⟨641, 660, by omega, by omega, by decide, by decide, r11.1⟩
theorem runE7 : RunsTrue (tE 7) 7 (.str []) := (shE_ok sh7).1
theorem runI7 : ∀ L, 1 ≤ L → L ≤ 660 → ∃ lo hi, lo ≤ L ∧ L ≤ hi ∧ (wholeT 3 lo hi).wf = true ∧ linB lo hi 0 = true ∧ RunsTrue (tI 7 lo hi) 7 (.txt tS) := by
  intro L h1 h2
  have r0 := shI_ok (m := 7) (lo := 1) (hi := 57) (shE_ok sh7).2
  have r1 := shI_ok (m := 7) (lo := 58) (hi := 64) r0.2
  have r2 := shI_ok (m := 7) (lo := 65) (hi := 128) r1.2
  have r3 := shI_ok (m := 7) (lo := 129) (hi := 192) r2.2
  have r4 := shI_ok (m := 7) (lo := 193) (hi := 256) r3.2
  have r5 := shI_ok (m := 7) (lo := 257) (hi := 320) r4.2
  have r6 := shI_ok (m := 7) (lo := 321) (hi := 384) r5.2
  have r7 := shI_ok (m := 7) (lo := 385) (hi := 448) r6.2
  have r8 := shI_ok (m := 7) (lo := 449) (hi := 512) r7.2
  have r9 := shI_ok (m := 7) (lo := 513) (hi := 576) r8.2
  have r10 := shI_ok (m := 7) (lo := 577) (hi := 640) r9.2
  have r11 := shI_ok (m := 7) (lo := 641) (hi := 660) r10.2
  by_cases g0 : L ≤ 57
  · exact ⟨1, 57, by omega, by omega, by decide, by decide, r0.1⟩
  by_cases g1 : L ≤ 64
  · exact ⟨58, 64, by omega, by omega, by decide, by decide, r1.1⟩
  by_cases g2 : L ≤ 128
  · exact ⟨65, 128, by omega, by omega, by decide, by decide, r2.1⟩
  by_cases g3 : L ≤ 192
  · exact ⟨129, 192, by omega, by omega, by decide, by decide, r3.1⟩
  by_cases g4 : L ≤ 256
  · exact ⟨193, 256, by omega, by omega, by decide, by decide, r4.1⟩
  by_cases g5 : L ≤ 320
  · exact ⟨257, 320, by omega, by omega, by decide, by decide, r5.1⟩
  by_cases g6 : L ≤ 384
  · exact ⟨321, 384, by omega, by omega, by decide, by decide, r6.1⟩
  by_cases g7 : L ≤ 448
  · exact ⟨385, 448, by omega, by omega, by decide, by decide, r7.1⟩
  by_cases g8 : L ≤ 512
  · exact ⟨449, 512, by omega, by omega, by decide, by decide, r8.1⟩
  by_cases g9 : L ≤ 576
  · exact ⟨513, 576, by omega, by omega, by decide, by decide, r9.1⟩
  by_cases g10 : L ≤ 640
  · exact ⟨577, 640, by omega, by omega, by decide, by decide, r10.1⟩
  exact ⟨641, 660, by omega, by omega, by decide, by decide, r11.1⟩
theorem runE8 : RunsTrue (tE 8) 8 (.str []) := (shE_ok sh8).1
theorem runI8 : ∀ L, 1 ≤ L → L ≤ 660 → ∃ lo hi, lo ≤ L ∧ L ≤ hi ∧ (wholeT 3 lo hi).wf = true ∧ linB lo hi 0 = true ∧ RunsTrue (tI 8 lo hi) 8 (.txt tS) := by
  intro L h1 h2
  have r0 := shI_ok (m := 8) (lo := 1) (hi := 56) (shE_ok sh8).2
  have r1 := shI_ok (m := 8) (lo := 57) (hi := 64) r0.2
  have r2 := shI_ok (m := 8) (lo := 65) (hi := 128) r1.2
  have r3 := shI_ok (m := 8) (lo := 129) (hi := 192) r2.2
  have r4 := shI_ok (m := 8) (lo := 193) (hi := 256) r3.2
  have r5 := shI_ok (m := 8) (lo := 257) (hi := 320) r4.2
  have r6 := shI_ok (m := 8) (lo := 321) (hi := 384) r5.2
  have r7 := shI_ok (m := 8) (lo := 385) (hi := 448) r6.2
  have r8 := shI_ok (m := 8) (lo := 449) (hi := 512) r7.2
  have r9 := shI_ok (m := 8) (lo := 513) (hi := 576) r8.2
  have r10 := shI_ok (m := 8) (lo := 577) (hi := 640) r9.2
  have r11 := shI_ok (m := 8) (lo := 641) (hi := 660) r10.2
  by_cases g0 : L ≤ 56
  · exact ⟨1, 56, by omega, by omega, by decide, by decide, r0.1⟩
  by_cases g1 : L ≤ 64
  · exact ⟨57, 64, by omega, by omega, by decide, by decide, r1.1⟩
  by_cases g2 : L ≤ 128
  · exact ⟨65, 128, by omega, by omega, by decide, by decide, r2.1⟩
  by_cases g3 : L ≤ 192
  · exact ⟨129, 192, by omega, by omega, by decide, by decide, r3.1⟩
  by_cases g4 : L ≤ 256
  · exact ⟨193, 256, by omega, by omega, by decide, by decide, r4.1⟩
  by_cases g5 : L ≤ 320
  · exact ⟨257, 320, by omega, by omega, by decide, by decide, r5.1⟩
  by_cases g6 : L ≤ 384
  · exact ⟨321, 384, by omega, by omega, by decide, by decide, r6.1⟩
  by_cases g7 : L ≤ 448
  · exact ⟨385, 448, by omega, by omega, by decide, by decide, r7.1⟩
  by_cases g8 : L ≤ 512
  · exact ⟨449, 512, by omega, by omega, by decide, by decide, r8.1⟩
  by_cases g9 : L ≤ 576
  · exact ⟨513, 576, by omega, by omega, by decide, by decide, r9.1⟩
  by_cases g10 : L ≤ 640
  · exact ⟨577, 640, by omega, by omega, by decide, by decide, r10.1⟩
  exact ⟨641, 660, by omega, by omega, by decide, by decide, r11.1⟩
theorem runE9 : RunsTrue (tE 9) 9 (.str []) := (shE_ok sh9).1
theorem runI9 : ∀ L, 1 ≤ L → L ≤ 660 → ∃ lo hi, lo ≤ L ∧ L ≤ hi ∧ (wholeT 3 lo hi).wf = true ∧ linB lo hi 0 = true ∧ RunsTrue (tI 9 lo hi) 9 (.txt tS) := by
  intro L h1 h2
  have r0 := shI_ok (m := 9) (lo := 1) (hi := 55) (shE_ok sh9).2
  have r1 := shI_ok (m := 9) (lo := 56) (hi := 64) r0.2
  have r2 := shI_ok (m := 9) (lo := 65) (hi := 128) r1.2
  have r3 := shI_ok (m := 9) (lo := 129) (hi := 192) r2.2
  have r4 := shI_ok (m := 9) (lo := 193) (hi := 256) r3.2
  have r5 := shI_ok (m := 9) (lo := 257) (hi := 320) r4.2
  have r6 := shI_ok (m := 9) (lo := 321) (hi := 384) r5.2
  have r7 := shI_ok (m := 9) (lo := 385) (hi := 448) r6.2
  have r8 := shI_ok (m := 9) (lo := 449) (hi := 512) r7.2
  have r9 := shI_ok (m := 9) (lo := 513) (hi := 576) r8.2
  have r10 := shI_ok (m := 9) (lo := 577) (hi := 640) r9.2
  have r11 := shI_ok (m := 9) (lo := 641) (hi := 660) r10.2
  by_cases g0 : L ≤ 55
  · exact ⟨1, 55, by omega, by omega, by decide, by decide, r0.1⟩
  by_cases g1 : L ≤ 64
  · exact ⟨56, 64, by omega, by omega, by decide, by decide, r1.1⟩
  by_cases g2 : L ≤ 128
  · exact ⟨65, 128, by omega, by omega, by decide, by decide, r2.1⟩
  by_cases g3 : L ≤ 192
  · exact ⟨129, 192, by omega, by omega, by decide, by decide, r3.1⟩
  by_cases g4 : L ≤ 256
  · exact ⟨193, 256, by omega, by omega, by decide, by decide, r4.1⟩
  by_cases g5 : L ≤ 320
  · exact ⟨257, 320, by omega, by omega, by decide, by decide, r5.1⟩
  by_cases g6 : L ≤ 384
  · exact ⟨321, 384, by omega, by omega, by decide, by decide, r6.1⟩
  by_cases g7 : L ≤ 448
  · exact ⟨385, 448, by omega, by omega, by decide, by decide, r7.1⟩
  by_cases g8 : L ≤ 512
  · exact ⟨449, 512, by omega, by omega, by decide, by decide, r8.1⟩
  by_cases g9 : L ≤ 576
  · exact ⟨513, 576, by omega, by omega, by decide, by decide, r9.1⟩
  by_cases g10 : L ≤ 640
  · exact ⟨577, 640, by omega, by omega, by decide, by decide, r10.1⟩
  exact ⟨641, 660, by omega, by omega, by decide, by decide, r11.1⟩
theorem runE10 : RunsTrue (tE 10) 10 (.str []) := (shE_ok sh10).1
theorem runI10 : ∀ L, 1 ≤ L → L ≤ 660 → ∃ lo hi, lo ≤ L ∧ L ≤ hi ∧ (wholeT 3 lo hi).wf = true ∧ linB lo hi 0 = true ∧ RunsTrue (tI 10 lo hi) 10 (.txt tS) := by
  intro L h1 h2
  have r0 := shI_ok (m := 10) (lo := 1) (hi := 54) (shE_ok sh10).2
  have r1 := shI_ok (m := 10) (lo := 55) (hi := 64) r0.2
  have r2 := shI_ok (m := 10) (lo := 65) (hi := 128) r1.2
  have r3 := shI_ok (m := 10) (lo := 129) (hi := 192) r2.2
  have r4 := shI_ok (m := 10) (lo := 193) (hi := 256) r3.2
  have r5 := shI_ok (m := 10) (lo := 257) (hi := 320) r4.2
  have r6 := shI_ok (m := 10) (lo := 321) (hi := 384) r5.2
  have r7 := shI_ok (m := 10) (lo := 385) (hi := 448) r6.2
  have r8 := shI_ok (m := 10) (lo := 449) (hi := 512) r7.2
  have r9 := shI_ok (m := 10) (lo := 513) (hi := 576) r8.2
  have r10 := shI_ok (m := 10) (lo := 577) (hi := 640) r9.2
  have r11 := shI_ok (m := 10) (lo := 641) (hi := 660) r10.2
  by_cases g0 : L ≤ 54
  · exact ⟨1, 54, by omega, by omega, by decide, by decide, r0.1⟩
  by_cases g1 : L ≤ 64
  · exact ⟨55, 64, by omega, by omega, by decide, by decide, r1.1⟩
  by_cases g2 : L ≤ 128
  · exact ⟨65, 128, by omega, by omega, by decide, by decide, r2.1⟩
  by_cases g3 : L ≤ 192
  · exact ⟨129, 192, by omega, by omega, by decide, by decide, r3.1⟩
  by_cases g4 : L ≤ 256
  · exact ⟨193, 256, by omega, by omega, by decide, by decide, r4.1⟩
  by_cases g5 : L ≤ 320
  · exact ⟨257, 320, by omega, by omega, by decide, by decide, r5.1⟩
  by_cases g6 : L ≤ 384
  · exact ⟨321, 384, by omega, by omega, by decide, by decide, r6.1⟩
  by_cases g7 : L ≤ 448
  · exact ⟨385, 448, by omega, by omega, by decide, by decide, r7.1⟩
  by_cases g8 : L ≤ 512
  · exact ⟨449, 512, by omega, by omega, by decide, by decide, r8.1⟩
  by_cases g9 : L ≤ 576
  · exact ⟨513, 576, by omega, by omega, by decide, by decide, r9.1⟩
  by_cases g10 : L ≤ 640
  · exact ⟨577, 640, by omega, by omega, by decide, by decide, r10.1⟩
  exact ⟨641, 660, by omega, by omega, by decide, by decide, r11.1⟩
theorem runs : Runs := by
  refine ⟨fun m hm => ?_, fun m hm => ?_⟩
  · match m, hm with
    | 0, _ => exact runE0
    | 1, _ => exact runE1
    | 2, _ => exact runE2
    | 3, _ => exact runE3
    | 4, _ => exact runE4
    | 5, _ => exact runE5
    | 6, _ => exact runE6
    | 7, _ => exact runE7
    | 8, _ => exact runE8
    | 9, _ => exact runE9
    | 10, _ => exact runE10
    | _ + 11, h => exact absurd h (by omega)
  · match m, hm with
    | 0, _ => exact runI0
    | 1, _ => exact runI1
    | 2, _ => exact runI2
    | 3, _ => exact runI3
    | 4, _ => exact runI4
    | 5, _ => exact runI5
    | 6, _ => exact runI6
    | 7, _ => exact runI7
    | 8, _ => exact runI8
    | 9, _ => exact runI9
    | 10, _ => exact runI10
    | _ + 11, h => exact absurd h (by omega)
theorem walk (a : Option Addr) (len cap : Nat) (zs : List Int) (u s : ByteArray) (w : World) (hr : IsRow .i64 w a len cap zs) :
    Calls Tryz.prog 5 #[.slice a len cap, .string u, .string s] w fun e w' => e = .returned (.bool true) ∧ Below w.heap.size w w' := walk_of runs a len cap zs u s w hr
end Go.Proofs.YtkeckbmhaplkpaaGreatDoor.Ln
