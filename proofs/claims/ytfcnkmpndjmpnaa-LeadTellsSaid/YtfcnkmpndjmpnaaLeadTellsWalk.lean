/- The walk of LeadTells: whatever the texts and the variables, it answers true; nothing that was there has turned. -/
import Derived.Test.YtfcnkmpndjmpnaaTellsEnv
import Derived.Test.YtfcnkmpndjmpnaaTellsRef
import Derived.OpenShut
namespace Go.Proofs.Ytfcnkmpndjmpnaa.leadTells
open Go.RowKit
open M

/-- The slice is empty; or it leads to pairs. -/
def IsPairs (w : World) (a : Option Addr) (len : Nat) : Prop :=
  len = 0 ∨ ∃ (b off : Nat) (ps : Pairs), a = some ⟨b, off, none⟩ ∧ ps.length = len ∧ PRow w b off ps ∧ len ≤ maxLen
theorem PRow.at_ {w w' : World} {b off : Nat} {ps : Pairs} (h : PRow w b off ps) (hb : Below w.heap.size w w') : PRow w' b off ps :=
  ⟨Nat.lt_of_lt_of_le h.1 hb.size, fun k hk => h.below hb k hk⟩
theorem env_all (w : World) (a : Option Addr) (len cap : Nat) (h : IsPairs w a len) : ∃ (V : ByteArray) (f : Bool),
    (∀ w', Below w.heap.size w w' → Calls Try.prog 8 #[.int .i64 8, .int .i64 100, .slice a len cap] w' fun e w'' => (∃ y : Bool, e = .returned (.bool y) ∧ (y = false → len ≤ 8)) ∧ Below w'.heap.size w' w'') ∧
    (len ≤ 8 → ∀ w', Below w.heap.size w w' → Calls Try.prog 10 #[.string ⟨#[73, 78, 68, 69, 78, 84]⟩, .slice a len cap] w' fun e w'' => e = .returned (.tuple #[.string V, .bool f]) ∧ Below w'.heap.size w' w'') ∧
    (len ≤ 8 → ∀ w', Below w.heap.size w w' → Calls Try.prog 13 #[.slice a len cap] w' fun e w'' => e = .returned (.string V) ∧ Below w'.heap.size w' w'') := by
  rcases h with rfl | ⟨b, off, ps, rfl, rfl, hR, hl⟩
  · refine ⟨⟨#[]⟩, false, fun w' _ => ?_, fun _ w' _ => rget_none _ a cap w', fun _ w' _ => unit_none a cap w'⟩
    exact (env_none a cap w').mono fun e w'' ⟨⟨y, he, _⟩, hb⟩ => ⟨⟨y, he, fun _ => Nat.zero_le _⟩, hb⟩
  · refine ⟨(look indent ps).1, (look indent ps).2, fun w' hb => env_some b off cap ps w' (PRow.at_ hR hb) ?_, fun hl w' hb => rget_some indent b off cap ps w' (PRow.at_ hR hb) (by omega), fun hl w' hb => unit_some b off cap ps w' (PRow.at_ hR hb) (by omega)⟩
    unfold maxLen at hl; omega

set_option maxHeartbeats 2000000 in
theorem walk (a0 a1 a2 : ByteArray) (a3 : Option Addr) (n3 c3 : Nat) (w0 : a0.size ≤ maxLen) (w1 : a1.size ≤ maxLen) (w2 : a2.size ≤ maxLen) (w : World) (h3 : IsPairs w a3 n3) :
    Calls Try.prog 3 #[.string a0, .string a1, .string a2, .slice a3 n3 c3] w fun e w' => e = .returned (.bool true) ∧ Below w.heap.size w w' := by
  unfold maxLen at w0 w1 w2
  by_cases h0 : 100 < a0.size
  · clear h3
    go_enter Try.func3, Try.ntmps3
    go_wp2_with fail
    refine (awake_any _).mono ?_
    rintro e w1 ⟨rfl, hb1⟩
    go_wp2
    go_ret
    exact ⟨rfl, hb1⟩
  have h0' : decide (100 < (a0.size : Int)) = false := by simp; omega
  by_cases h1 : 30 < a1.size
  · clear h3
    go_enter Try.func3, Try.ntmps3
    go_wp2_with fail
    refine (awake_any _).mono ?_
    rintro e w1 ⟨rfl, hb1⟩
    go_wp2
    go_ret
    exact ⟨rfl, hb1⟩
  have h1' : decide (30 < (a1.size : Int)) = false := by simp; omega
  by_cases h2 : 30 < a2.size
  · clear h3
    go_enter Try.func3, Try.ntmps3
    go_wp2_with fail
    refine (awake_any _).mono ?_
    rintro e w1 ⟨rfl, hb1⟩
    go_wp2
    go_ret
    exact ⟨rfl, hb1⟩
  have h2' : decide (30 < (a2.size : Int)) = false := by simp; omega
  have g0 : a0.size ≤ 100 := by omega
  have g1 : a1.size ≤ 30 := by omega
  have g2 : a2.size ≤ 30 := by omega
  clear w0 w1 w2 h0 h1 h2
  obtain ⟨V, f, E8, E10, E13⟩ := env_all w a3 n3 c3 h3
  have H8 := Lib.hid E8
  have H10 := Lib.hid E10
  have H13 := Lib.hid E13
  clear h3 E8 E10 E13
  go_enter Try.func3, Try.ntmps3
  go_wp2_with fail
  refine (H8.out _ (Below.refl _ _)).mono ?_
  rintro e w1 ⟨⟨y, rfl, hy⟩, hb1⟩
  cases y
  · have hn := hy rfl
    clear hy
    go_wp2_with fail
    refine (H10.out hn _ hb1).mono ?_
    rintro e w2 ⟨rfl, hb2⟩
    go_wp2_with fail
    refine (adapt_any a0 a1 a2 _ (by omega) (by omega) (by omega)).mono ?_
    rintro e w3 ⟨rfl, hb3⟩
    go_wp2_with fail
    refine (radapt_any a0 a1 a2 _ g0 g1 g2).mono ?_
    rintro e w4 ⟨rfl, hb4⟩
    have hb := bt (bt (bt hb1 hb2) hb3) hb4
    go_wp2_with fail
    refine (H13.out hn _ hb).mono ?_
    rintro e w5 ⟨rfl, hb5⟩
    go_wp2_with fail
    refine (awake_any _).mono ?_
    rintro e w6 ⟨rfl, hb6⟩
    go_wp2
    go_ret
    exact ⟨rfl, bt (bt hb hb5) hb6⟩
  · clear hy
    go_wp2_with fail
    refine (awake_any _).mono ?_
    rintro e w2 ⟨rfl, hb2⟩
    go_wp2
    go_ret
    exact ⟨rfl, bt hb1 hb2⟩
end Go.Proofs.Ytfcnkmpndjmpnaa.leadTells
