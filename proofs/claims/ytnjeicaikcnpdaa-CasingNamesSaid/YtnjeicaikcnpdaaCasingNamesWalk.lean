/- The walk of CasingNames: whatever the way and the name, it answers true; nothing that was there has turned. -/
import Derived.Test.YtnjeicaikcnpdaaNames
import Derived.OpenShut
namespace Go.Proofs.Ytnjeicaikcnpdaa.casingNames
open Go.RowKit
open M

theorem Nb_some (a0 : Int) (h1 : 1 ≤ a0) (h2 : a0 ≤ 5) : (Nb a0).toList.isEmpty = false := by
  have h5 : a0 = 1 ∨ a0 = 2 ∨ a0 = 3 ∨ a0 = 4 ∨ a0 = 5 := by omega
  rw [Lib.toList_data]
  rcases h5 with rfl | rfl | rfl | rfl | rfl <;> rfl
theorem walk (a0 : Int) (a1 : ByteArray) (_w0 : (Lit.int .i64 a0).wf = true) (_w1 : a1.size ≤ maxLen) (w : World) :
    Calls Try.prog 4 #[.int .i64 a0, .string a1] w fun e w' => e = .returned (.bool true) ∧ Below w.heap.size w w' := by
  clear _w0 _w1
  by_cases hw : 1 ≤ a0 ∧ a0 ≤ 5
  · have hk := Lib.hid (wy_Nb a0 hw.1 hw.2)
    have hz := Nb_some a0 hw.1 hw.2
    have hz2 : (!(Nb a0).toList.isEmpty) = true := by rw [hz]; rfl
    have hz3 : (Nb a0).toList ≠ [] := by intro h; rw [h] at hz; cases hz
    by_cases h0 : wy a1 = 0
    · have H0 := Lib.hid h0
      clear h0
      go_enter Try.func4, Try.ntmps4
      go_wp2_with fail
      refine (name_any _ _).mono ?_
      rintro e w1 ⟨rfl, hb1⟩
      go_wp2_with fail
      refine (rname_any _ _).mono ?_
      rintro e w2 ⟨rfl, hb2⟩
      go_wp2_with fail
      refine (way_any _ _).mono ?_
      rw [hk.out]
      rintro e w3 ⟨rfl, hb3⟩
      go_wp2_with fail
      refine (way_any _ _).mono ?_
      rw [H0.out]
      rintro e w4 ⟨rfl, hb4⟩
      go_wp2_with fail
      refine (rway_any _ _).mono ?_
      rw [H0.out]
      rintro e w5 ⟨rfl, hb5⟩
      go_wp2_with fail
      refine (awake_any _).mono ?_
      rintro e w6 ⟨rfl, hb6⟩
      go_wp2
      go_ret
      exact ⟨rfl, bt (bt (bt (bt (bt hb1 hb2) hb3) hb4) hb5) hb6⟩
    · have HN := Lib.hid (Nb_wy a1 h0)
      have hne : (wy a1 == 0) = false := by simpa using h0
      clear h0
      go_enter Try.func4, Try.ntmps4
      go_wp2_with fail
      refine (name_any _ _).mono ?_
      rintro e w1 ⟨rfl, hb1⟩
      go_wp2_with fail
      refine (rname_any _ _).mono ?_
      rintro e w2 ⟨rfl, hb2⟩
      go_wp2_with fail
      refine (way_any _ _).mono ?_
      rw [hk.out]
      rintro e w3 ⟨rfl, hb3⟩
      go_wp2_with fail
      refine (way_any _ _).mono ?_
      rintro e w4 ⟨rfl, hb4⟩
      go_wp2_with fail
      refine (name_any _ _).mono ?_
      rw [HN.out]
      rintro e w5 ⟨rfl, hb5⟩
      go_wp2_with fail
      refine (awake_any _).mono ?_
      rintro e w6 ⟨rfl, hb6⟩
      go_wp2
      go_ret
      exact ⟨rfl, bt (bt (bt (bt (bt hb1 hb2) hb3) hb4) hb5) hb6⟩
  · have hk := Lib.hid (Nb_none a0 (by omega))
    by_cases h0 : wy a1 = 0
    · have H0 := Lib.hid h0
      clear h0 hw
      go_enter Try.func4, Try.ntmps4
      go_wp2_with fail
      refine (name_any _ _).mono ?_
      rw [hk.out]
      rintro e w1 ⟨rfl, hb1⟩
      go_wp2_with fail
      refine (rname_any _ _).mono ?_
      rw [hk.out]
      rintro e w2 ⟨rfl, hb2⟩
      go_wp2_with fail
      refine (way_any _ _).mono ?_
      rw [H0.out]
      rintro e w4 ⟨rfl, hb4⟩
      go_wp2_with fail
      refine (rway_any _ _).mono ?_
      rw [H0.out]
      rintro e w5 ⟨rfl, hb5⟩
      go_wp2_with fail
      refine (awake_any _).mono ?_
      rintro e w6 ⟨rfl, hb6⟩
      go_wp2
      go_ret
      exact ⟨rfl, bt (bt (bt (bt hb1 hb2) hb4) hb5) hb6⟩
    · have HN := Lib.hid (Nb_wy a1 h0)
      have hne : (wy a1 == 0) = false := by simpa using h0
      clear h0 hw
      go_enter Try.func4, Try.ntmps4
      go_wp2_with fail
      refine (name_any _ _).mono ?_
      rw [hk.out]
      rintro e w1 ⟨rfl, hb1⟩
      go_wp2_with fail
      refine (rname_any _ _).mono ?_
      rw [hk.out]
      rintro e w2 ⟨rfl, hb2⟩
      go_wp2_with fail
      refine (way_any _ _).mono ?_
      rintro e w4 ⟨rfl, hb4⟩
      go_wp2_with fail
      refine (name_any _ _).mono ?_
      rw [HN.out]
      rintro e w5 ⟨rfl, hb5⟩
      go_wp2_with fail
      refine (awake_any _).mono ?_
      rintro e w6 ⟨rfl, hb6⟩
      go_wp2
      go_ret
      exact ⟨rfl, bt (bt (bt (bt hb1 hb2) hb4) hb5) hb6⟩
end Go.Proofs.Ytnjeicaikcnpdaa.casingNames
