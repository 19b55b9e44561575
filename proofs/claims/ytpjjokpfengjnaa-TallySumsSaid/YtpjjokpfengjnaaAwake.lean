/- What every program answers that is one: 'awake' answers true. -/
import Derived.Test.YtpjjokpfengjnaaUpto
namespace Go.Proofs.Ytpjjokpfengjnaa
open Go.RowKit Go.Sort
open M

theorem bt {W w1 w2 : World} (h : Below W.heap.size W w1) (h2 : Below w1.heap.size w1 w2) : Below W.heap.size W w2 := h.trans (h2.mono h.size)
theorem ba {W w1 : World} (h : Below W.heap.size W w1) (o : Obj) : Below W.heap.size W (w1.alloc o) := h.alloc h.size o
theorem bd {W w1 : World} (h : Below W.heap.size W w1) : Below W.heap.size W w1.drew := h.drew
theorem size_c : (ByteArray.mk #[97, 10, 240, 159, 152, 128]).size ≤ 1048576 := by
  rw [show (ByteArray.mk #[97, 10, 240, 159, 152, 128]).size = 6 from rfl]
  decide
theorem size_d : (ByteArray.mk #[97, 10, 98]).size ≤ 1048576 := by
  rw [show (ByteArray.mk #[97, 10, 98]).size = 3 from rfl]
  decide
theorem tot_c0 : tot one [97, 10, 240, 159, 152, 128] = 6 := by decide
theorem tot_c1 : tot wK [97, 10, 240, 159, 152, 128] = 1 := by decide
theorem tot_c2 : tot wR [97, 10, 240, 159, 152, 128] = 3 := by decide
theorem tot_c3 : tot wU [97, 10, 240, 159, 152, 128] = 4 := by decide
theorem of_c (w : World) : Calls Try.prog 12 #[.string ⟨#[97, 10, 240, 159, 152, 128]⟩] w fun e w' => e = .returned (.agg #[.int .i64 6, .int .i64 1, .int .i64 3, .int .i64 4]) ∧ Below w.heap.size w w' :=
  (of_any ⟨#[97, 10, 240, 159, 152, 128]⟩ w size_c).mono fun _ _ ⟨he, hb⟩ => ⟨by
    rw [he]
    show Ending.returned (.agg #[.int .i64 (tot one [97, 10, 240, 159, 152, 128]), .int .i64 (tot wK [97, 10, 240, 159, 152, 128]), .int .i64 (tot wR [97, 10, 240, 159, 152, 128]), .int .i64 (tot wU [97, 10, 240, 159, 152, 128])]) = _
    rw [tot_c0, tot_c1, tot_c2, tot_c3], hb⟩
theorem upto_d : uptoR ⟨#[97, 10, 98]⟩ 3 0 = 1 := by decide
theorem upto_c (w : World) : Calls Try.prog 18 #[.string ⟨#[97, 10, 98]⟩, .int .i64 3, .int .i64 0] w fun e w' => e = .returned (.int .i64 1) ∧ Below w.heap.size w w' :=
  (upto_any ⟨#[97, 10, 98]⟩ 3 0 w size_d (by omega)).mono fun _ _ ⟨he, hb⟩ => ⟨by rw [he, upto_d], hb⟩
theorem awake_any (w : World) : Calls Try.prog 11 #[] w fun e w' => e = .returned (.bool true) ∧ Below w.heap.size w w' := by
  go_enter Try.func11, Try.ntmps11
  go_wp2_with fail
  refine (of_c _).mono ?_
  rintro e w1 ⟨rfl, hb1⟩
  go_wp2_with fail
  refine (upto_c _).mono ?_
  rintro e w2 ⟨rfl, hb2⟩
  go_wp2
  go_ret
  exact ⟨rfl, hb1.trans (hb2.mono hb1.size)⟩
end Go.Proofs.Ytpjjokpfengjnaa
