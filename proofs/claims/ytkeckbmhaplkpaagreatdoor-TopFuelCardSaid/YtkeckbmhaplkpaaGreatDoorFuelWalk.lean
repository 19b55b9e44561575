/- The walk of TopFuel: whatever the number, long or not, it answers true; nothing that was there has turned. -/
import Derived.Test.YtkeckbmhaplkpaaGreatDoorTail
import Derived.Lib.Hide
namespace Go.Proofs.YtkeckbmhaplkpaaGreatDoor.Ev
open Go Go.RowKit

def low (x n : Int) : Int := (x % 18446744073709551616) % n
theorem low_bd (x n : Int) (h : 1 ≤ n) : 0 ≤ low x n ∧ low x n < n := by
  unfold low
  exact ⟨Int.emod_nonneg _ (by omega), Int.emod_lt_of_pos _ (by omega)⟩
theorem low_eq (x n : Int) (h1 : 1 ≤ n) (h2 : n ≤ 1048576) : wrap64 ((IntKind.u64.wrap x).tmod n) = low x n := by
  have e : IntKind.u64.wrap x = x % 18446744073709551616 := IntKind.wrap_u64 x
  have h := low_bd x n h1
  unfold low at h ⊢
  rw [e, Int.tmod_eq_emod_of_nonneg (Int.emod_nonneg _ (by omega))]
  generalize x % 18446744073709551616 % n = r at *
  unfold wrap64
  omega
theorem low_any (x n : Int) (h1 : 1 ≤ n) (h2 : n ≤ 1048576) (w : World) :
    Calls Tryz.prog 6 #[.int .i64 x, .int .i64 n] w fun e w' => e = .returned (.int .i64 (low x n)) ∧ w = w' := by
  go_enter Tryz.func6, Tryz.ntmps6
  go_wp2
  go_ret
  exact ⟨congrArg (fun z => Ending.returned (.int .i64 z)) (low_eq x n h1 h2), rfl⟩
theorem typed_any (s : ByteArray) (w : World) : Calls Tryz.prog 10 #[.string s] w fun e w' => e = .returned (op 2 s) ∧ Below w.heap.size w w' := by
  go_enter Tryz.func10, Tryz.ntmps10
  go_wp2
  refine bodyPost_ret (results_cell_row rfl _ _ _ _ _ _ _ rfl (heap_alloc_new _ _) Tryz.underlying31 rfl (by kernel_rfl)) rfl ?_
  exact ⟨rfl, (Below.refl _ _).alloc (Nat.le_refl _) _⟩
theorem cut (N : Nat) (h : N ≤ 40) : (⟨#[97, 97, 97, 97, 97, 97, 97, 97, 97, 97, 97, 97, 97, 97, 97, 97, 97, 97, 97, 97, 97, 97, 97, 97, 97, 97, 97, 97, 97, 97, 97, 97, 97, 97, 97, 97, 97, 97, 97, 97]⟩ : ByteArray).extract 0 N = ⟨((List.replicate N 97).map UInt8.ofNat).toArray⟩ := by
  refine ByteArray.ext ?_
  rw [ByteArray.data_extract]
  show (List.replicate 40 (97 : UInt8)).toArray.extract 0 N = _
  rw [List.extract_toArray, List.extract_eq_take_drop, List.drop_zero, Nat.sub_zero, List.take_replicate, List.map_replicate, Nat.min_eq_left h]
  rfl
theorem long_con : ∀ k, k < 20 → ∃ n', n' ≤ 4000 ∧ Con Tryz.prog 8 [vEd, opV 2 (List.replicate (20 + k) 97)] hp3 1543 ⟨.int .i64 (.ofNat 9), hp3, n'⟩
  | 0, _ => ⟨_, by decide, conA20⟩
  | 1, _ => ⟨_, by decide, conA21⟩
  | 2, _ => ⟨_, by decide, conA22⟩
  | 3, _ => ⟨_, by decide, conA23⟩
  | 4, _ => ⟨_, by decide, conA24⟩
  | 5, _ => ⟨_, by decide, conA25⟩
  | 6, _ => ⟨_, by decide, conA26⟩
  | 7, _ => ⟨_, by decide, conA27⟩
  | 8, _ => ⟨_, by decide, conA28⟩
  | 9, _ => ⟨_, by decide, conA29⟩
  | 10, _ => ⟨_, by decide, conA30⟩
  | 11, _ => ⟨_, by decide, conA31⟩
  | 12, _ => ⟨_, by decide, conA32⟩
  | 13, _ => ⟨_, by decide, conA33⟩
  | 14, _ => ⟨_, by decide, conA34⟩
  | 15, _ => ⟨_, by decide, conA35⟩
  | 16, _ => ⟨_, by decide, conA36⟩
  | 17, _ => ⟨_, by decide, conA37⟩
  | 18, _ => ⟨_, by decide, conA38⟩
  | 19, _ => ⟨_, by decide, conA39⟩
  | k + 20, h => absurd h (by omega)
theorem long_c {w0 w : World} {p q : Value} {F : List (Nat × Obj)} (N : Nat) (h1 : 20 ≤ N) (h2 : N < 40) (hE : Ed w0 hp3 1543 [(vWas, q), (vEd, p)] F w) :
    Calls Tryz.prog 8 #[p, op 2 ⟨((List.replicate N 97).map UInt8.ofNat).toArray⟩] w fun e w' => e = .returned (.int .i64 9) ∧ Ed w0 hp3 4000 [(vWas, q), (vEd, p)] F w' := by
  obtain ⟨k, rfl⟩ : ∃ k, N = 20 + k := ⟨N - 20, by omega⟩
  obtain ⟨n', hn, con⟩ := long_con k (by omega)
  refine (Ed.call con hE (pairVals (fun b hb => ?_) (by simp))).mono ?_
  · obtain rfl := (List.mem_replicate.1 hb).2
    decide
  · rintro e w' ⟨u, rfl, h3⟩
    obtain ⟨D, θ, _, rfl⟩ := h3.val
    exact ⟨by simp [MV.real], (h3.sub fun x hx => List.mem_cons_of_mem _ hx).raise hn⟩
set_option maxRecDepth 100000 in
set_option maxHeartbeats 1000000 in
theorem walk_long (a0 L : Int) (N : Nat) (c : ByteArray) (hc : c = ⟨((List.replicate N 97).map UInt8.ofNat).toArray⟩) (hL : low a0 20 = L) (hN : wrap64 (20 + L) = (N : Int)) (h1 : 20 ≤ N) (h2 : N < 40) (w : World) :
    Calls Tryz.prog 3 #[.int .i64 a0, .bool true] w fun e w' => e = .returned (.bool true) ∧ Below w.heap.size w w' := by
  have hb : (0 : Int) ≤ (N : Int) ∧ (N : Int) ≤ 40 := by omega
  have ht : ∀ w0 w p q F, Ed w0 hp3 1543 [(vWas, q), (vEd, p)] F w → Calls Tryz.prog 8 #[p, op 2 c] w fun e w' => e = .returned (.int .i64 9) ∧ Ed w0 hp3 4000 [(vWas, q), (vEd, p)] F w' := fun w0 w p q F hE => by
    rw [hc]; exact long_c N h1 h2 hE
  have hcut := cut N (by omega)
  rw [← hc] at hcut
  have HT := Lib.hid ht
  have HC := Lib.hid hcut
  clear ht hcut hc
  go_enter Tryz.func3, Tryz.ntmps3
  go_wp2_with fail
  refine (low_any _ _ (by omega) (by omega) _).mono ?_
  rintro e w1 ⟨rfl, rfl⟩
  go_wp2_with fail
  refine (low_any _ _ (by omega) (by omega) _).mono ?_
  rw [hL]
  rintro e w1 ⟨rfl, rfl⟩
  go_wp2_with fail
  refine (fresh_c _).mono ?_
  rintro e w1 ⟨p, rfl, hE1⟩
  go_wp2_with fail
  refine (insert_c hE1).mono ?_
  rintro e w2 ⟨rfl, hE2⟩
  go_wp2_with fail
  refine (state_c hE2).mono ?_
  rintro e w3 ⟨x1, c1, x2, c2, rfl, hE3⟩
  have hE4 := hE3.box (w' := w3.alloc (.cells #[.string ⟨#[120, 124, 120]⟩, .slice (some x1) 1 c1, .slice (some x2) 1 c2] 34)) ((Below.refl _ _).alloc (Nat.le_refl _) _) (heap_alloc_new _ _)
  go_wp2_with fail
  rw [HC.out]
  refine (typed_any _ _).mono ?_
  rintro e w4 ⟨rfl, hb4⟩
  have hE5 := hE4.other hb4
  go_wp2_with fail
  refine (HT.out _ _ _ _ _ hE5).mono ?_
  rintro e w5 ⟨rfl, hE6⟩
  clear hE1 hE2 hE3 hE4 hE5
  go_wp2_with fail
  refine tail_c rfl hE6 _ (by kernel_rfl) _ rfl rfl rfl rfl rfl (by simp) _ fun A' w' h4 hd hb => ?_
  go_wp2
  refine bodyPost_ret (results_tmp rfl _ _ _) hd ⟨?_, hb⟩
  rw [h4]
theorem field0 (s : ByteArray) (u1 u2 : Value) (w : World) : (Instr.field 34 (.agg #[.string s, u1, u2]) 0).run Tryz.prog w = .ok (.string s) w := by kernel_rfl
theorem short_con : ∀ k, k < 7 → ∃ n' g n2 s1 s2, n' ≤ 4000 ∧ Con Tryz.prog 8 [vEd, opV 2 (List.replicate k 97)] hp3 1543 ⟨.int .i64 (.ofNat 0), g, n'⟩ ∧ Con Tryz.prog 9 [vEd] g 4000 ⟨.agg [.str (List.replicate k 97 ++ 124 :: List.replicate k 97), s1, s2], .lf, n2⟩
  | 0, _ => ⟨_, _, _, _, _, by decide, conA0, conB0⟩
  | 1, _ => ⟨_, _, _, _, _, by decide, conA1, conB1⟩
  | 2, _ => ⟨_, _, _, _, _, by decide, conA2, conB2⟩
  | 3, _ => ⟨_, _, _, _, _, by decide, conA3, conB3⟩
  | 4, _ => ⟨_, _, _, _, _, by decide, conA4, conB4⟩
  | 5, _ => ⟨_, _, _, _, _, by decide, conA5, conB5⟩
  | 6, _ => ⟨_, _, _, _, _, by decide, conA6, conB6⟩
  | k + 7, h => absurd h (by omega)
theorem typedS_c (N : Nat) (h2 : N < 7) : ∃ g, (∀ w0 w p q F, Ed w0 hp3 1543 [(vWas, q), (vEd, p)] F w →
    Calls Tryz.prog 8 #[p, op 2 ⟨((List.replicate N 97).map UInt8.ofNat).toArray⟩] w fun e w' => e = .returned (.int .i64 0) ∧ Ed w0 g 4000 [(vWas, q), (vEd, p)] F w') ∧
    ∀ w0 w p q F, Ed w0 g 4000 [(vWas, q), (vEd, p)] F w → Calls Tryz.prog 9 #[p] w fun e w' => ∃ u1 u2, e = .returned (.agg #[.string ⟨((List.replicate N 97 ++ 124 :: List.replicate N 97).map UInt8.ofNat).toArray⟩, u1, u2]) ∧ Below w0.heap.size w0 w' := by
  obtain ⟨n', g, n2, s1, s2, hn, con1, con2⟩ := short_con N h2
  refine ⟨g, fun w0 w p q F hE => ?_, fun w0 w p q F hE => ?_⟩
  · refine (Ed.call con1 hE (pairVals (fun b hb => ?_) (by simp))).mono ?_
    · obtain rfl := (List.mem_replicate.1 hb).2
      decide
    · rintro e w' ⟨u, rfl, h3⟩
      obtain ⟨D, θ, _, rfl⟩ := h3.val
      exact ⟨by simp [MV.real], (h3.sub fun x hx => List.mem_cons_of_mem _ hx).raise hn⟩
  · refine (Ed.call con2 hE (oneVal (by simp))).mono ?_
    rintro e w' ⟨u, rfl, h3⟩
    obtain ⟨D, θ, _, rfl⟩ := h3.val
    exact ⟨s1.real θ, s2.real θ, by simp only [MV.real, reals], h3.below⟩
set_option maxRecDepth 100000 in
set_option maxHeartbeats 1000000 in
theorem walk_short (a0 : Int) (N : Nat) (c : ByteArray) (hc : c = ⟨((List.replicate N 97).map UInt8.ofNat).toArray⟩) (hL : low a0 7 = (N : Int)) (h2 : N < 7) (w : World) :
    Calls Tryz.prog 3 #[.int .i64 a0, .bool false] w fun e w' => e = .returned (.bool true) ∧ Below w.heap.size w w' := by
  have hb : (0 : Int) ≤ (N : Int) ∧ (N : Int) ≤ 40 := by omega
  obtain ⟨g, t1, t2⟩ := typedS_c N h2
  rw [← hc] at t1
  have hcut := cut N (by omega)
  rw [← hc] at hcut
  have hsz : c.size = N := by
    rw [hc]
    show ((List.replicate N 97).map UInt8.ofNat).toArray.size = N
    simp
  have e3 : List.replicate N (97 : UInt8) ++ 124 :: List.replicate N 97 = (c ++ ⟨#[124]⟩ ++ c).toList := by
    rw [Lib.toList_data, ByteArray.data_append, ByteArray.data_append, hc]
    simp
  have HE := Lib.hid e3
  have e1 : ¬ 9223372036854775807 < c.size + 1 := by omega
  have e2 : ¬ 9223372036854775807 < c.size + 1 + c.size := by omega
  clear e3 hsz
  have HT := Lib.hid t1
  have HS := Lib.hid t2
  have HC := Lib.hid hcut
  have HN := Lib.hid hc
  clear t1 t2 hcut hc
  go_enter Tryz.func3, Tryz.ntmps3
  go_wp2_with fail
  refine (low_any _ _ (by omega) (by omega) _).mono ?_
  rw [hL]
  rintro e w1 ⟨rfl, rfl⟩
  go_wp2_with fail
  refine (fresh_c _).mono ?_
  rintro e w1 ⟨p, rfl, hE1⟩
  go_wp2_with fail
  refine (insert_c hE1).mono ?_
  rintro e w2 ⟨rfl, hE2⟩
  go_wp2_with fail
  refine (state_c hE2).mono ?_
  rintro e w3 ⟨x1, c1, x2, c2, rfl, hE3⟩
  have hE4 := hE3.box (w' := w3.alloc (.cells #[.string ⟨#[120, 124, 120]⟩, .slice (some x1) 1 c1, .slice (some x2) 1 c2] 34)) ((Below.refl _ _).alloc (Nat.le_refl _) _) (heap_alloc_new _ _)
  go_wp2_with fail
  rw [HC.out]
  refine (typed_any _ _).mono ?_
  rintro e w4 ⟨rfl, hb4⟩
  have hE5 := hE4.other hb4
  go_wp2_with fail
  refine (HT.out _ _ _ _ _ hE5).mono ?_
  rintro e w5 ⟨rfl, hE6⟩
  clear hE1 hE2 hE3 hE4 hE5
  go_wp2_with fail
  refine (HS.out _ _ _ _ _ hE6).mono ?_
  rintro e w6 ⟨u1, u2, rfl, hb6⟩
  go_wp2_with fail
  rw [field0]
  simp only [Result.andThen]
  rw [Oper.upon_value]
  have e3 := HE.out
  go_wp2_with fail
  refine (awake_c _).mono ?_
  rintro e w7 ⟨rfl, hb7⟩
  go_wp2
  go_ret
  exact ⟨rfl, hb6.trans (hb7.mono hb6.size)⟩
theorem walk (a0 : Int) (a1 : Bool) (w : World) : Calls Tryz.prog 3 #[.int .i64 a0, .bool a1] w fun e w' => e = .returned (.bool true) ∧ Below w.heap.size w w' := by
  cases a1
  · have := low_bd a0 7 (by omega)
    exact walk_short a0 (low a0 7).toNat _ rfl (by omega) (by omega) w
  · have := low_bd a0 20 (by omega)
    refine walk_long a0 (low a0 20) (20 + (low a0 20).toNat) _ rfl rfl ?_ (by omega) (by omega) w
    unfold wrap64
    omega
end Go.Proofs.YtkeckbmhaplkpaaGreatDoor.Ev
