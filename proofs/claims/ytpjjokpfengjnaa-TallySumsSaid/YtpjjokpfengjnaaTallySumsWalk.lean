/- The walk of TallySums: whatever the numbers, it answers true; nothing that was there has turned. -/
import Derived.Test.YtpjjokpfengjnaaFoldTwo
namespace Go.Proofs.Ytpjjokpfengjnaa.tallySums
open Go.RowKit Go.Sort
open M

theorem fold_new (a0 a1 a2 a3 b0 b1 b2 b3 : Int) (w : World)
    (p0 : -1099511627776 ≤ a0 ∧ a0 ≤ 1099511627776) (p1 : -1099511627776 ≤ a1 ∧ a1 ≤ 1099511627776) (p2 : -1099511627776 ≤ a2 ∧ a2 ≤ 1099511627776) (p3 : -1099511627776 ≤ a3 ∧ a3 ≤ 1099511627776)
    (q0 : -1099511627776 ≤ b0 ∧ b0 ≤ 1099511627776) (q1 : -1099511627776 ≤ b1 ∧ b1 ≤ 1099511627776) (q2 : -1099511627776 ≤ b2 ∧ b2 ≤ 1099511627776) (q3 : -1099511627776 ≤ b3 ∧ b3 ≤ 1099511627776) :
    Calls Try.prog 21 #[.slice (some ⟨w.heap.size, 0, none⟩) 2 2] (w.alloc (.cells #[.int .i64 a0, .int .i64 a1, .int .i64 a2, .int .i64 a3, .int .i64 b0, .int .i64 b1, .int .i64 b2, .int .i64 b3] 24)) fun e w' =>
      e = .returned (.agg #[.int .i64 (a0 + b0), .int .i64 (a1 + b1), .int .i64 (a2 + b2), .int .i64 (a3 + b3)]) ∧ Below (w.alloc (.cells #[.int .i64 a0, .int .i64 a1, .int .i64 a2, .int .i64 a3, .int .i64 b0, .int .i64 b1, .int .i64 b2, .int .i64 b3] 24)).heap.size (w.alloc (.cells #[.int .i64 a0, .int .i64 a1, .int .i64 a2, .int .i64 a3, .int .i64 b0, .int .i64 b1, .int .i64 b2, .int .i64 b3] 24)) w' := by
  have h := heap_alloc_new w (.cells #[.int .i64 a0, .int .i64 a1, .int .i64 a2, .int .i64 a3, .int .i64 b0, .int .i64 b1, .int .i64 b2, .int .i64 b3] 24)
  exact fold_two a0 a1 a2 a3 b0 b1 b2 b3 w.heap.size 2 _ (by simp) (by simp only [World.cell?, h]; rfl) (by simp only [World.cell?, h]; rfl) (by simp only [World.cell?, h]; rfl) (by simp only [World.cell?, h]; rfl) (by simp only [World.cell?, h]; rfl) (by simp only [World.cell?, h]; rfl) (by simp only [World.cell?, h]; rfl) (by simp only [World.cell?, h]; rfl) p0 p1 p2 p3 q0 q1 q2 q3
/-- Three structs of four numbers, one behind the other. -/
def Three (w : World) (h : Nat) (a0 a1 a2 a3 b0 b1 b2 b3 c0 c1 c2 c3 : Int) : Prop := Tly w 24 h a0 a1 a2 a3 ∧ Tly w 24 (h + 1) b0 b1 b2 b3 ∧ Tly w 24 (h + 1 + 1) c0 c1 c2 c3
/-- The cells that the region reads, and the rest that is carried through it. -/
def Rest (W : World) (h : Nat) (a0 a1 a2 a3 b0 b1 b2 b3 c0 c1 c2 c3 : Int) (w : World) : Prop := Three w h a0 a1 a2 a3 b0 b1 b2 b3 c0 c1 c2 c3 ∧ Below W.heap.size W w
theorem Rest.cells {W w : World} {h : Nat} {a0 a1 a2 a3 b0 b1 b2 b3 c0 c1 c2 c3 : Int} (r : Rest W h a0 a1 a2 a3 b0 b1 b2 b3 c0 c1 c2 c3 w) :
    (w.cell? ⟨h, 0, none⟩ = some (.int .i64 a0) ∧ w.cell? ⟨h, 1, none⟩ = some (.int .i64 a1) ∧ w.cell? ⟨h, 2, none⟩ = some (.int .i64 a2) ∧ w.cell? ⟨h, 3, none⟩ = some (.int .i64 a3) ∧
    w.cell? ⟨h + 1, 0, none⟩ = some (.int .i64 b0) ∧ w.cell? ⟨h + 1, 1, none⟩ = some (.int .i64 b1) ∧ w.cell? ⟨h + 1, 2, none⟩ = some (.int .i64 b2) ∧ w.cell? ⟨h + 1, 3, none⟩ = some (.int .i64 b3) ∧
    w.cell? ⟨h + 1 + 1, 0, none⟩ = some (.int .i64 c0) ∧ w.cell? ⟨h + 1 + 1, 1, none⟩ = some (.int .i64 c1) ∧ w.cell? ⟨h + 1 + 1, 2, none⟩ = some (.int .i64 c2) ∧ w.cell? ⟨h + 1 + 1, 3, none⟩ = some (.int .i64 c3)) ∧
    Rest W h a0 a1 a2 a3 b0 b1 b2 b3 c0 c1 c2 c3 w := by
  obtain ⟨x0, x1, x2, x3⟩ := r.1.1.cell
  obtain ⟨y0, y1, y2, y3⟩ := r.1.2.1.cell
  obtain ⟨z0, z1, z2, z3⟩ := r.1.2.2.cell
  exact ⟨⟨x0, x1, x2, x3, y0, y1, y2, y3, z0, z1, z2, z3⟩, r⟩
theorem Rest.drew {W w : World} {h : Nat} {a0 a1 a2 a3 b0 b1 b2 b3 c0 c1 c2 c3 : Int} (r : Rest W h a0 a1 a2 a3 b0 b1 b2 b3 c0 c1 c2 c3 w) : Rest W h a0 a1 a2 a3 b0 b1 b2 b3 c0 c1 c2 c3 w.drew :=
  ⟨⟨r.1.1.drew, r.1.2.1.drew, r.1.2.2.drew⟩, r.2.drew⟩
theorem Rest.alloc {W w : World} {h : Nat} {a0 a1 a2 a3 b0 b1 b2 b3 c0 c1 c2 c3 : Int} (r : Rest W h a0 a1 a2 a3 b0 b1 b2 b3 c0 c1 c2 c3 w) (o : Obj) : Rest W h a0 a1 a2 a3 b0 b1 b2 b3 c0 c1 c2 c3 (w.alloc o) :=
  ⟨⟨r.1.1.alloc o, r.1.2.1.alloc o, r.1.2.2.alloc o⟩, r.2.alloc r.2.size _⟩
theorem Rest.after {W w w' : World} {h : Nat} {a0 a1 a2 a3 b0 b1 b2 b3 c0 c1 c2 c3 : Int} (hb : Below w.heap.size w w') (r : Rest W h a0 a1 a2 a3 b0 b1 b2 b3 c0 c1 c2 c3 w) : Rest W h a0 a1 a2 a3 b0 b1 b2 b3 c0 c1 c2 c3 w' :=
  ⟨⟨r.1.1.after hb, r.1.2.1.after hb, r.1.2.2.after hb⟩, bt r.2 hb⟩
/-- Within the bounds. -/
def In (x : Int) : Prop := -1099511627776 ≤ x ∧ x ≤ 1099511627776
set_option maxHeartbeats 8000000 in
set_option maxRecDepth 100000 in
theorem walk (a0 a1 a2 a3 b0 b1 b2 b3 : Int) (w : World) :
    Calls Try.prog 10 #[.agg #[.int .i64 a0, .int .i64 a1, .int .i64 a2, .int .i64 a3], .agg #[.int .i64 b0, .int .i64 b1, .int .i64 b2, .int .i64 b3]] w fun e w' => e = .returned (.bool true) ∧ Below w.heap.size w w' := by
  have hB := two_new w (.cells #[.int .i64 a0, .int .i64 a1, .int .i64 a2, .int .i64 a3] 42) (.cells #[.int .i64 b0, .int .i64 b1, .int .i64 b2, .int .i64 b3] 42)
  have hc := (Tly.new w 42 a0 a1 a2 a3).alloc (.cells #[.int .i64 b0, .int .i64 b1, .int .i64 b2, .int .i64 b3] 42)
  have hd := Tly.new (w.alloc (.cells #[.int .i64 a0, .int .i64 a1, .int .i64 a2, .int .i64 a3] 42)) 42 b0 b1 b2 b3
  rw [World.size_alloc] at hd
  go_enter Try.func10, Try.ntmps10
  go_wp2
  generalize (w.alloc (.cells #[.int .i64 a0, .int .i64 a1, .int .i64 a2, .int .i64 a3] 42)).alloc (.cells #[.int .i64 b0, .int .i64 b1, .int .i64 b2, .int .i64 b3] 42) = W at *
  obtain ⟨c0, c1, c2, c3⟩ := hc.cell
  obtain ⟨d0, d1, d2, d3⟩ := hd.cell
  have l0 := hc.lt
  have l1 := hd.lt
  go_loopw [5] (fun i wr => ∃ k : Nat, k ≤ 4 ∧ i = .int .i64 k ∧ (1 ≤ k → In a0 ∧ In b0) ∧ (2 ≤ k → In a1 ∧ In b1) ∧ (3 ≤ k → In a2 ∧ In b2) ∧ (4 ≤ k → In a3 ∧ In b3) ∧ wr = W) (fun i _ => 4 - (intOf i).toNat)
  case atStart => exact ⟨0, Nat.zero_le _, rfl, fun h => by omega, fun h => by omega, fun h => by omega, fun h => by omega, rfl⟩
  case round =>
    obtain ⟨k, hk, rfl, i0, i1, i2, i3, rfl⟩ := hrel
    match k, hk with
    | 0, _ =>
      by_cases h0 : a0 < -1099511627776
      · go_wp2_with fail
        refine (awake_any _).mono ?_
        rintro e w1 ⟨rfl, hb1⟩
        go_wp2
        go_ret
        exact ⟨rfl, bt hB hb1⟩
      have h0' : decide (a0 < -1099511627776) = false := by simp; omega
      by_cases h1 : 1099511627776 < a0
      · go_wp2_with fail
        refine (awake_any _).mono ?_
        rintro e w1 ⟨rfl, hb1⟩
        go_wp2
        go_ret
        exact ⟨rfl, bt hB hb1⟩
      have h1' : decide (1099511627776 < a0) = false := by simp; omega
      by_cases h2 : b0 < -1099511627776
      · go_wp2_with fail
        refine (awake_any _).mono ?_
        rintro e w1 ⟨rfl, hb1⟩
        go_wp2
        go_ret
        exact ⟨rfl, bt hB hb1⟩
      have h2' : decide (b0 < -1099511627776) = false := by simp; omega
      by_cases h3 : 1099511627776 < b0
      · go_wp2_with fail
        refine (awake_any _).mono ?_
        rintro e w1 ⟨rfl, hb1⟩
        go_wp2
        go_ret
        exact ⟨rfl, bt hB hb1⟩
      have h3' : decide (1099511627776 < b0) = false := by simp; omega
      have hin : In a0 ∧ In b0 := ⟨⟨by omega, by omega⟩, ⟨by omega, by omega⟩⟩
      go_wp2
      go_roundw
      case rel => exact ⟨1, by omega, by go_num, fun _ => hin, fun h => by omega, fun h => by omega, fun h => by omega, trivial⟩
      case measure => simp [intOf]
    | 1, _ =>
      by_cases h0 : a1 < -1099511627776
      · go_wp2_with fail
        refine (awake_any _).mono ?_
        rintro e w1 ⟨rfl, hb1⟩
        go_wp2
        go_ret
        exact ⟨rfl, bt hB hb1⟩
      have h0' : decide (a1 < -1099511627776) = false := by simp; omega
      by_cases h1 : 1099511627776 < a1
      · go_wp2_with fail
        refine (awake_any _).mono ?_
        rintro e w1 ⟨rfl, hb1⟩
        go_wp2
        go_ret
        exact ⟨rfl, bt hB hb1⟩
      have h1' : decide (1099511627776 < a1) = false := by simp; omega
      by_cases h2 : b1 < -1099511627776
      · go_wp2_with fail
        refine (awake_any _).mono ?_
        rintro e w1 ⟨rfl, hb1⟩
        go_wp2
        go_ret
        exact ⟨rfl, bt hB hb1⟩
      have h2' : decide (b1 < -1099511627776) = false := by simp; omega
      by_cases h3 : 1099511627776 < b1
      · go_wp2_with fail
        refine (awake_any _).mono ?_
        rintro e w1 ⟨rfl, hb1⟩
        go_wp2
        go_ret
        exact ⟨rfl, bt hB hb1⟩
      have h3' : decide (1099511627776 < b1) = false := by simp; omega
      have hin : In a1 ∧ In b1 := ⟨⟨by omega, by omega⟩, ⟨by omega, by omega⟩⟩
      go_wp2
      go_roundw
      case rel => exact ⟨2, by omega, by go_num, fun h => i0 (by omega), fun _ => hin, fun h => by omega, fun h => by omega, trivial⟩
      case measure => simp [intOf]
    | 2, _ =>
      by_cases h0 : a2 < -1099511627776
      · go_wp2_with fail
        refine (awake_any _).mono ?_
        rintro e w1 ⟨rfl, hb1⟩
        go_wp2
        go_ret
        exact ⟨rfl, bt hB hb1⟩
      have h0' : decide (a2 < -1099511627776) = false := by simp; omega
      by_cases h1 : 1099511627776 < a2
      · go_wp2_with fail
        refine (awake_any _).mono ?_
        rintro e w1 ⟨rfl, hb1⟩
        go_wp2
        go_ret
        exact ⟨rfl, bt hB hb1⟩
      have h1' : decide (1099511627776 < a2) = false := by simp; omega
      by_cases h2 : b2 < -1099511627776
      · go_wp2_with fail
        refine (awake_any _).mono ?_
        rintro e w1 ⟨rfl, hb1⟩
        go_wp2
        go_ret
        exact ⟨rfl, bt hB hb1⟩
      have h2' : decide (b2 < -1099511627776) = false := by simp; omega
      by_cases h3 : 1099511627776 < b2
      · go_wp2_with fail
        refine (awake_any _).mono ?_
        rintro e w1 ⟨rfl, hb1⟩
        go_wp2
        go_ret
        exact ⟨rfl, bt hB hb1⟩
      have h3' : decide (1099511627776 < b2) = false := by simp; omega
      have hin : In a2 ∧ In b2 := ⟨⟨by omega, by omega⟩, ⟨by omega, by omega⟩⟩
      go_wp2
      go_roundw
      case rel => exact ⟨3, by omega, by go_num, fun h => i0 (by omega), fun h => i1 (by omega), fun _ => hin, fun h => by omega, trivial⟩
      case measure => simp [intOf]
    | 3, _ =>
      by_cases h0 : a3 < -1099511627776
      · go_wp2_with fail
        refine (awake_any _).mono ?_
        rintro e w1 ⟨rfl, hb1⟩
        go_wp2
        go_ret
        exact ⟨rfl, bt hB hb1⟩
      have h0' : decide (a3 < -1099511627776) = false := by simp; omega
      by_cases h1 : 1099511627776 < a3
      · go_wp2_with fail
        refine (awake_any _).mono ?_
        rintro e w1 ⟨rfl, hb1⟩
        go_wp2
        go_ret
        exact ⟨rfl, bt hB hb1⟩
      have h1' : decide (1099511627776 < a3) = false := by simp; omega
      by_cases h2 : b3 < -1099511627776
      · go_wp2_with fail
        refine (awake_any _).mono ?_
        rintro e w1 ⟨rfl, hb1⟩
        go_wp2
        go_ret
        exact ⟨rfl, bt hB hb1⟩
      have h2' : decide (b3 < -1099511627776) = false := by simp; omega
      by_cases h3 : 1099511627776 < b3
      · go_wp2_with fail
        refine (awake_any _).mono ?_
        rintro e w1 ⟨rfl, hb1⟩
        go_wp2
        go_ret
        exact ⟨rfl, bt hB hb1⟩
      have h3' : decide (1099511627776 < b3) = false := by simp; omega
      have hin : In a3 ∧ In b3 := ⟨⟨by omega, by omega⟩, ⟨by omega, by omega⟩⟩
      go_wp2
      go_roundw
      case rel => exact ⟨4, by omega, by go_num, fun h => i0 (by omega), fun h => i1 (by omega), fun h => i2 (by omega), fun _ => hin, trivial⟩
      case measure => simp [intOf]
    | 4, _ =>
      obtain ⟨p0, q0⟩ := i0 (by omega)
      obtain ⟨p1, q1⟩ := i1 (by omega)
      obtain ⟨p2, q2⟩ := i2 (by omega)
      obtain ⟨p3, q3⟩ := i3 (by omega)
      unfold In at p0 p1 p2 p3 q0 q1 q2 q3
      clear i0 i1 i2 i3
      go_wp2_with fail
      have hr : Rest w wr.heap.size a0 a1 a2 a3 b0 b1 b2 b3 (a0 + b0) (a1 + b1) (a2 + b2) (a3 + b3) (((wr.alloc (.cells #[.int .i64 a0, .int .i64 a1, .int .i64 a2, .int .i64 a3] 24)).alloc (.cells #[.int .i64 b0, .int .i64 b1, .int .i64 b2, .int .i64 b3] 24)).alloc (.cells #[.int .i64 (a0 + b0), .int .i64 (a1 + b1), .int .i64 (a2 + b2), .int .i64 (a3 + b3)] 24)) := by
        have hx := (((Tly.new wr 24 a0 a1 a2 a3).alloc (.cells #[.int .i64 b0, .int .i64 b1, .int .i64 b2, .int .i64 b3] 24)).alloc (.cells #[.int .i64 (a0 + b0), .int .i64 (a1 + b1), .int .i64 (a2 + b2), .int .i64 (a3 + b3)] 24))
        have hy := ((Tly.new (wr.alloc (.cells #[.int .i64 a0, .int .i64 a1, .int .i64 a2, .int .i64 a3] 24)) 24 b0 b1 b2 b3).alloc (.cells #[.int .i64 (a0 + b0), .int .i64 (a1 + b1), .int .i64 (a2 + b2), .int .i64 (a3 + b3)] 24))
        have hz := Tly.new ((wr.alloc (.cells #[.int .i64 a0, .int .i64 a1, .int .i64 a2, .int .i64 a3] 24)).alloc (.cells #[.int .i64 b0, .int .i64 b1, .int .i64 b2, .int .i64 b3] 24)) 24 (a0 + b0) (a1 + b1) (a2 + b2) (a3 + b3)
        rw [World.size_alloc] at hy hz
        rw [World.size_alloc] at hz
        exact ⟨⟨hx, hy, hz⟩, bt hB (three_new wr _ _ _)⟩
      generalize ((wr.alloc (.cells #[.int .i64 a0, .int .i64 a1, .int .i64 a2, .int .i64 a3] 24)).alloc (.cells #[.int .i64 b0, .int .i64 b1, .int .i64 b2, .int .i64 b3] 24)).alloc (.cells #[.int .i64 (a0 + b0), .int .i64 (a1 + b1), .int .i64 (a2 + b2), .int .i64 (a3 + b3)] 24) = X at *
      generalize wr.heap.size = h at *
      have hflip : ∀ W, Calls Try.prog 15 #[.agg #[.int .i64 b0, .int .i64 b1, .int .i64 b2, .int .i64 b3], .agg #[.int .i64 a0, .int .i64 a1, .int .i64 a2, .int .i64 a3]] W fun e w' =>
          e = .returned (.agg #[.int .i64 (a0 + b0), .int .i64 (a1 + b1), .int .i64 (a2 + b2), .int .i64 (a3 + b3)]) ∧ Below W.heap.size W w' := by
        intro W
        rw [Int.add_comm a0, Int.add_comm a1, Int.add_comm a2, Int.add_comm a3]
        exact plus_any _ _ _ _ _ _ _ _ _ (by omega) (by omega) (by omega) (by omega) (by omega) (by omega) (by omega) (by omega)
      have hplus : ∀ W, Calls Try.prog 15 #[.agg #[.int .i64 a0, .int .i64 a1, .int .i64 a2, .int .i64 a3], .agg #[.int .i64 b0, .int .i64 b1, .int .i64 b2, .int .i64 b3]] W fun e w' =>
          e = .returned (.agg #[.int .i64 (a0 + b0), .int .i64 (a1 + b1), .int .i64 (a2 + b2), .int .i64 (a3 + b3)]) ∧ Below W.heap.size W w' :=
        fun W => plus_any _ _ _ _ _ _ _ _ _ (by omega) (by omega) (by omega) (by omega) (by omega) (by omega) (by omega) (by omega)
      have hfold := fun W => fold_new a0 a1 a2 a3 b0 b1 b2 b3 W p0 p1 p2 p3 q0 q1 q2 q3
      have HF := Lib.hid hflip; have HP := Lib.hid hplus; have HD := Lib.hid hfold
      clear hflip hplus hfold hc hd hB c0 c1 c2 c3 d0 d1 d2 d3 l0 l1 p0 p1 p2 p3 q0 q1 q2 q3
      go_region_held3 (fun w' => (w'.cell? ⟨h, 0, none⟩ = some (.int .i64 a0) ∧ w'.cell? ⟨h, 1, none⟩ = some (.int .i64 a1) ∧ w'.cell? ⟨h, 2, none⟩ = some (.int .i64 a2) ∧ w'.cell? ⟨h, 3, none⟩ = some (.int .i64 a3) ∧
          w'.cell? ⟨h + 1, 0, none⟩ = some (.int .i64 b0) ∧ w'.cell? ⟨h + 1, 1, none⟩ = some (.int .i64 b1) ∧ w'.cell? ⟨h + 1, 2, none⟩ = some (.int .i64 b2) ∧ w'.cell? ⟨h + 1, 3, none⟩ = some (.int .i64 b3) ∧
          w'.cell? ⟨h + 1 + 1, 0, none⟩ = some (.int .i64 (a0 + b0)) ∧ w'.cell? ⟨h + 1 + 1, 1, none⟩ = some (.int .i64 (a1 + b1)) ∧ w'.cell? ⟨h + 1 + 1, 2, none⟩ = some (.int .i64 (a2 + b2)) ∧ w'.cell? ⟨h + 1 + 1, 3, none⟩ = some (.int .i64 (a3 + b3))) ∧
          Rest w h a0 a1 a2 a3 b0 b1 b2 b3 (a0 + b0) (a1 + b1) (a2 + b2) (a3 + b3) w')
        (first | exact Rest.cells (by assumption) | exact Rest.cells (Rest.drew (by assumption)) | (go_split_ands; exact Rest.cells (Rest.alloc (by assumption) _)))
        (first
          | (go_at_call 15; go_split_ands; (with_reducible refine (HP.out _).mono ?_); rintro e w1 ⟨rfl, hb1⟩; have q1 := Rest.after hb1 (by assumption))
          | (go_at_call 15; go_split_ands; (with_reducible refine (HF.out _).mono ?_); rintro e w1 ⟨rfl, hb1⟩; have q1 := Rest.after hb1 (by assumption))
          | (go_at_call 21; go_split_ands; refine (HD.out _).mono ?_; rintro e w1 ⟨rfl, hb1⟩; have q1 := Rest.after hb1 (by assumption))
          | (go_at_call 11; go_split_ands; refine (awake_any _).mono ?_; rintro e w1 ⟨rfl, hb1⟩; have q1 := Rest.after hb1 (by assumption)))
      all_goals go_wp2
      all_goals go_ret
      all_goals exact ⟨rfl, q1.2⟩
end Go.Proofs.Ytpjjokpfengjnaa.tallySums
