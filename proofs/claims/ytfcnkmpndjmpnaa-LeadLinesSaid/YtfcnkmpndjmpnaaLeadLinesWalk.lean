/- The walk of LeadLines: whatever the texts, it answers true; nothing that was there has turned. -/
import Derived.Test.YtfcnkmpndjmpnaaParts
import Derived.OpenShut
namespace Go.Proofs.Ytfcnkmpndjmpnaa.leadLines
open Go.RowKit
open M

theorem flat_in (L : List (List UInt8)) (l : List UInt8) (h : l ∈ L) : l.length + 1 ≤ (flat L).length := by
  induction L with
  | nil => cases h
  | cons m r ih =>
    simp only [flat, List.length_append, List.length_cons]
    rcases List.mem_cons.1 h with rfl | h
    · omega
    · have := ih h; omega
theorem piece_le {s : ByteArray} {L : List ByteArray} (h : Pieces s L) (l : ByteArray) (hl : l ∈ L) : l.size ≤ s.size := by
  have e := congrArg List.length h.whole
  have := flat_in (Ls L) l.data.toList (List.mem_map.2 ⟨l, hl, rfl⟩)
  have n1 : l.data.toList.length = l.size := by simp
  have n2 : s.data.toList.length = s.size := by simp
  simp only [List.length_append, List.length_cons, List.length_nil] at e
  omega
/-- What is laid once m lines behind the first are. -/
def Laid (lead u : List UInt8) (l : ByteArray) (r : List ByteArray) (m : Nat) (W : ByteArray) : Prop :=
  W.size ≤ 100 + m * 3000 ∧ W.data.toList = l.data.toList ++ rest lead u (Ls (r.take m))
theorem Laid.start {lead u : List UInt8} {l : ByteArray} {r : List ByteArray} (h : l.size ≤ 100) : Laid lead u l r 0 l := ⟨by omega, by simp [rest]⟩
/-- Within a line: what is laid, and what is still to be. -/
def Mid (X u : List UInt8) (t : ByteArray) (j : Nat) (W : ByteArray) : Prop := W.data.toList ++ tb u (t.data.toList.drop j) = X
abbrev Goal (lead u : List UInt8) (l : ByteArray) (r : List ByteArray) (m : Nat) : List UInt8 := l.data.toList ++ rest lead u (Ls (r.take m))
theorem sz (s : ByteArray) : s.data.toList.length = s.size := by simp
theorem Laid.enter {lead : ByteArray} {u : List UInt8} {l : ByteArray} {r : List ByteArray} {m : Nat} {W : ByteArray} (h : Laid lead.data.toList u l r m W) (hm : m < r.length) :
    Mid (Goal lead.data.toList u l r (m + 1)) u r[m] 0 (W ++ ⟨#[10]⟩ ++ lead) := by
  unfold Mid Goal
  rw [List.take_succ_eq_append_getElem hm, Ls, List.map_append, List.map_cons, List.map_nil, rest_snoc, ← List.append_assoc, ByteArray.data_append, ByteArray.data_append]
  rw [Array.toList_append, Array.toList_append, h.2]
  simp
theorem Laid.bound {lead : ByteArray} {u : List UInt8} {l : ByteArray} {r : List ByteArray} {m : Nat} {W : ByteArray} (h : Laid lead.data.toList u l r m W) (hm : m < r.length) (hl : lead.size ≤ 20) (hu : u.length ≤ 20) (ht : r[m].size ≤ 100) :
    (Goal lead.data.toList u l r (m + 1)).length ≤ 100 + (m + 1) * 3000 := by
  have e : (m + 1) * 3000 = m * 3000 + 3000 := by rw [Nat.add_mul]
  have h0 : (l.data.toList ++ rest lead.data.toList u (Ls (r.take m))).length = W.size := by rw [← h.2, sz]
  have h1 := tb_le u r[m].data.toList 20 hu (by omega)
  have h2 := h.1
  rw [sz] at h1
  unfold Goal
  rw [List.take_succ_eq_append_getElem hm, Ls, List.map_append, List.map_cons, List.map_nil, rest_snoc, ← List.append_assoc, List.length_append, h0]
  simp only [List.length_cons, List.length_append, sz]
  omega
theorem Mid.size {X u : List UInt8} {t : ByteArray} {j : Nat} {W : ByteArray} (h : Mid X u t j W) : W.size ≤ X.length := by
  rw [← h, List.length_append, sz]; omega
theorem Mid.next {X : List UInt8} {u : ByteArray} {t : ByteArray} {j : Nat} {W : ByteArray} (h : Mid X u.data.toList t j W) (hj : j < t.size) (h9 : t[j] = 9) : Mid X u.data.toList t (j + 1) (W ++ u) := by
  have := h
  unfold Mid at this ⊢
  rw [tb_hit _ _ _ (by rw [sz]; exact hj) h9] at this
  rw [ByteArray.data_append, Array.toList_append, List.append_assoc]
  exact this
theorem Mid.next_le {X : List UInt8} {u : ByteArray} {t : ByteArray} {j : Nat} {W : ByteArray} (h : Mid X u.data.toList t j W) (hj : j < t.size) (h9 : t[j] = 9) : W.size + u.size ≤ X.length := by
  have := (h.next hj h9).size
  rwa [ByteArray.size_append] at this
theorem Mid.leave {X u : List UInt8} {t : ByteArray} {j : Nat} {W : ByteArray} (h : Mid X u t j W) (hj : j ≤ t.size) (h9 : ∀ h : j < t.size, t[j] ≠ 9) : (W ++ t.extract j t.size).data.toList = X := by
  rw [← h, ByteArray.data_append, Array.toList_append, ByteArray.data_extract, Array.toList_extract, List.extract_eq_take_drop]
  have e : tb u (t.data.toList.drop j) = t.data.toList.drop j := by
    by_cases hlt : j < t.size
    · exact tb_miss _ _ _ (by rw [sz]; exact hlt) (h9 hlt)
    · rw [List.drop_of_length_le (by rw [sz]; omega)]; rfl
  rw [e, List.take_of_length_le (by simp)]
theorem Laid.leave {lead u : List UInt8} {l : ByteArray} {r : List ByteArray} {m : Nat} {V : ByteArray} (h : V.data.toList = Goal lead u l r (m + 1)) (hb : (Goal lead u l r (m + 1)).length ≤ 100 + (m + 1) * 3000) : Laid lead u l r (m + 1) V :=
  ⟨by rw [← sz, h]; exact hb, h⟩
theorem lines_any (s lead unit W l : ByteArray) (r : List ByteArray) (w : World) (hs : s.size ≤ 100) (hl : lead.size ≤ 20) (hu : unit.size ≤ 20) (hP : Pieces s (l :: r)) (hW : Laid lead.data.toList (un unit.data.toList) l r r.length W) :
    Calls Try.prog 11 #[.string s, .string lead, .string unit] w fun e w' => e = .returned (.string W) ∧ Below w.heap.size w w' := by
  have h := adapt_any s lead unit w (by omega) (by omega) (by omega)
  have e2 := hW.2
  rw [List.take_of_length_le (Nat.le_refl _)] at e2
  rw [ad_lines lead.data.toList unit.data.toList s.data.toList l.data.toList (Ls r) (by
    intro m hm x hx
    rcases List.mem_cons.1 hm with rfl | hm
    · exact hP.dry l (by simp) x hx
    · obtain ⟨t, ht, rfl⟩ := List.mem_map.1 hm
      exact hP.dry t (by simp [ht]) x hx) hP.whole, ← e2] at h
  exact h

set_option maxHeartbeats 4000000 in
theorem walk_none (a0 a1 a2 : ByteArray) (g0 : a0.size ≤ 100) (g1 : a1.size ≤ 20) (g2 : a2.size ≤ 20) (hu : a2.data.toList = []) (w : World) :
    Calls Try.prog 4 #[.string a0, .string a1, .string a2] w fun e w' => e = .returned (.bool true) ∧ Below w.heap.size w w' := by
  have h0' : decide (100 < (a0.size : Int)) = false := by simp; omega
  have h1' : decide (20 < (a1.size : Int)) = false := by simp; omega
  have h2' : decide (20 < (a2.size : Int)) = false := by simp; omega
  have u1 : a2.toList = [] := by rw [Lib.toList_data]; exact hu
  have u2 : a2.toList.isEmpty = true := by rw [u1]; rfl
  have hUn : (ByteArray.mk #[9]).data.toList = un a2.data.toList := by rw [hu]; rfl
  have gU : (⟨#[9]⟩ : ByteArray).size ≤ 20 := by show 1 ≤ 20; omega
  have hUl : (un a2.data.toList).length ≤ 20 := by rw [← hUn, sz]; exact gU
  have HU := Lib.hid hUn
  clear hUn hu
  go_enter Try.func4, Try.ntmps4
  go_wp2_with fail
  refine (parts_any a0 _ (by omega)).mono ?_
  rintro e w1 ⟨L, g, cap, rfl, hR, hg, hP, hb1⟩
  cases L with
  | nil => exact absurd hP.pos (by simp)
  | cons l r =>
    have c0 : w1.cell? ⟨g, 0, none⟩ = some (.string l) := hR 0 (by simp)
    have hle := piece_le hP l (by simp)
    have hpos : 0 < (l :: r).length := by simp
    have hfew := hP.few
    have HP := Lib.hid hP
    have HL := Lib.hid (Laid.start (lead := a1.data.toList) (u := un a2.data.toList) (l := l) (r := r) (by omega))
    simp only [List.length_cons] at hfew hpos
    have hlen : (l :: r).length = r.length + 1 := rfl
    rw [hlen]
    generalize hrl : r.length = rl at *
    have HRL := Lib.hid hrl
    clear hrl hP hlen
    go_wp2_with fail
    go_loopw [9, 10] (fun v i ws => ∃ (m : Nat) (W : ByteArray), m ≤ rl ∧ i = .int .i64 ((m : Int) + 1) ∧ v = .string W ∧ Laid a1.data.toList (un a2.data.toList) l r m W ∧ ws = w1) (fun _ i _ => rl + 1 - (intOf i).toNat)
    case atStart => exact ⟨0, l, Nat.zero_le _, by go_num, rfl, HL.out, rfl⟩
    case round =>
      obtain ⟨m, W, hm, rfl, rfl, hW, rfl⟩ := hrel
      by_cases hlt : m < rl
      · have hmr : m < r.length := by rw [HRL.out]; exact hlt
        have cm : wr.cell? ⟨g, m + 1, none⟩ = some (.string r[m]) := hR (m + 1) (by simp; omega)
        have htl := piece_le HP.out r[m] (by simp)
        have hWs := hW.1
        have hm3 : m * 3000 ≤ 100 * 3000 := Nat.mul_le_mul_right _ (by omega)
        have hbd := hW.bound hmr g1 hUl (by omega)
        have hmid := hW.enter hmr
        have hm4 : (m + 1) * 3000 = m * 3000 + 3000 := by rw [Nat.add_mul]
        generalize hX : Goal a1.data.toList (un a2.data.toList) l r (m + 1) = X at *
        have HX := Lib.hid hX
        have HB := Lib.hid hbd
        have hX2 : X.length ≤ 400000 := by omega
        have HM := Lib.hid hmid
        clear hX hbd hmid hW hm4
        generalize ht : r[m] = t at *
        have h10s : (ByteArray.mk #[10]).size = 1 := rfl
        clear ht
        have HU2 : un a2.data.toList = (⟨#[9]⟩ : ByteArray).data.toList := HU.out.symm
        have HM2 := HM.out
        rw [HU2] at HM2
        have HM3 := Lib.hid HM2
        clear HM2 HU2
        go_wp2_with fail
        go_loopw [9, 11] (fun v i ws => ∃ (j : Nat) (V : ByteArray), j ≤ t.size ∧ i = .int .i64 j ∧ v = .string V ∧ Mid X (⟨#[9]⟩ : ByteArray).data.toList t j V ∧ ws = wr) (fun _ i _ => t.size - (intOf i).toNat)
        case atStart => exact ⟨0, _, Nat.zero_le _, rfl, rfl, HM3.out, rfl⟩
        case round =>
          obtain ⟨j, V, hj, rfl, rfl, hV, rfl⟩ := hrel
          have hVs := hV.size
          by_cases hjt : j < t.size
          · have hcb := (t[j]).toNat_lt
            have hc9 : t[j] = 9 ↔ (t[j]).toNat = 9 := ⟨fun h => by rw [h]; rfl, fun h => UInt8.toNat_inj.1 h⟩
            by_cases h9 : t[j] = 9
            · have t9 : (((t[j]).toNat : Int) == 9) = true := by rw [hc9.1 h9]; rfl
              have hn := hV.next hjt h9
              have hns := hV.next_le hjt h9
              clear hc9 hV
              go_wp2
              go_roundw
              case rel => exact ⟨j + 1, _, by omega, by go_num, rfl, hn, trivial⟩
              case measure => simp [intOf]; omega
            · have t9 : (((t[j]).toNat : Int) == 9) = false := by
                simp only [beq_eq_false_iff_ne]; intro h; exact h9 (hc9.2 (by omega))
              have hlv := hV.leave hj fun _ => h9
              have hLd : Laid a1.data.toList (un a2.data.toList) l r (m + 1) (V ++ t.extract j t.size) := Laid.leave (hlv.trans HX.out.symm) (by rw [HX.out]; exact HB.out)
              clear hc9 hV hlv
              go_wp2
              go_roundw
              case rel => exact ⟨m + 1, _, by omega, by go_num, rfl, hLd, trivial⟩
              case measure => simp [intOf]; omega
          · obtain rfl : t.size = j := by omega
            have hlv := hV.leave (Nat.le_refl _) fun h => absurd h (by omega)
            have hLd : Laid a1.data.toList (un a2.data.toList) l r (m + 1) (V ++ t.extract t.size t.size) := Laid.leave (hlv.trans HX.out.symm) (by rw [HX.out]; exact HB.out)
            have hVe : V ++ t.extract t.size t.size = V := by simp
            rw [hVe] at hLd
            clear hV hlv hVe
            go_wp2
            go_roundw
            case rel => exact ⟨m + 1, _, by omega, by go_num, rfl, hLd, trivial⟩
            case measure => simp [intOf]; omega
      · obtain rfl : m = rl := by omega
        clear hR
        go_wp2_with fail
        refine (lines_any a0 a1 a2 W l r _ g0 g1 g2 HP.out (by rw [HRL.out]; exact hW)).mono ?_
        rintro e w2 ⟨rfl, hb2⟩
        go_wp2_with fail
        refine (awake_any _).mono ?_
        rintro e w3 ⟨rfl, hb3⟩
        go_wp2
        go_ret
        exact ⟨rfl, bt (bt hb1 hb2) hb3⟩
set_option maxHeartbeats 4000000 in
theorem walk_some (a0 a1 a2 : ByteArray) (g0 : a0.size ≤ 100) (g1 : a1.size ≤ 20) (g2 : a2.size ≤ 20) (hu : a2.data.toList ≠ []) (w : World) :
    Calls Try.prog 4 #[.string a0, .string a1, .string a2] w fun e w' => e = .returned (.bool true) ∧ Below w.heap.size w w' := by
  have h0' : decide (100 < (a0.size : Int)) = false := by simp; omega
  have h1' : decide (20 < (a1.size : Int)) = false := by simp; omega
  have h2' : decide (20 < (a2.size : Int)) = false := by simp; omega
  have u1 : a2.toList.isEmpty = false := by
    rw [Lib.toList_data]
    cases hx : a2.data.toList with
    | nil => exact absurd hx hu
    | cons a r => rfl
  have hUn : a2.data.toList = un a2.data.toList := by simp [un, hu]
  have gU : (a2 : ByteArray).size ≤ 20 := by exact g2
  have hUl : (un a2.data.toList).length ≤ 20 := by rw [← hUn, sz]; exact gU
  have HU := Lib.hid hUn
  clear hUn hu
  go_enter Try.func4, Try.ntmps4
  go_wp2_with fail
  refine (parts_any a0 _ (by omega)).mono ?_
  rintro e w1 ⟨L, g, cap, rfl, hR, hg, hP, hb1⟩
  cases L with
  | nil => exact absurd hP.pos (by simp)
  | cons l r =>
    have c0 : w1.cell? ⟨g, 0, none⟩ = some (.string l) := hR 0 (by simp)
    have hle := piece_le hP l (by simp)
    have hpos : 0 < (l :: r).length := by simp
    have hfew := hP.few
    have HP := Lib.hid hP
    have HL := Lib.hid (Laid.start (lead := a1.data.toList) (u := un a2.data.toList) (l := l) (r := r) (by omega))
    simp only [List.length_cons] at hfew hpos
    have hlen : (l :: r).length = r.length + 1 := rfl
    rw [hlen]
    generalize hrl : r.length = rl at *
    have HRL := Lib.hid hrl
    clear hrl hP hlen
    go_wp2_with fail
    go_loopw [9, 10] (fun v i ws => ∃ (m : Nat) (W : ByteArray), m ≤ rl ∧ i = .int .i64 ((m : Int) + 1) ∧ v = .string W ∧ Laid a1.data.toList (un a2.data.toList) l r m W ∧ ws = w1) (fun _ i _ => rl + 1 - (intOf i).toNat)
    case atStart => exact ⟨0, l, Nat.zero_le _, by go_num, rfl, HL.out, rfl⟩
    case round =>
      obtain ⟨m, W, hm, rfl, rfl, hW, rfl⟩ := hrel
      by_cases hlt : m < rl
      · have hmr : m < r.length := by rw [HRL.out]; exact hlt
        have cm : wr.cell? ⟨g, m + 1, none⟩ = some (.string r[m]) := hR (m + 1) (by simp; omega)
        have htl := piece_le HP.out r[m] (by simp)
        have hWs := hW.1
        have hm3 : m * 3000 ≤ 100 * 3000 := Nat.mul_le_mul_right _ (by omega)
        have hbd := hW.bound hmr g1 hUl (by omega)
        have hmid := hW.enter hmr
        have hm4 : (m + 1) * 3000 = m * 3000 + 3000 := by rw [Nat.add_mul]
        generalize hX : Goal a1.data.toList (un a2.data.toList) l r (m + 1) = X at *
        have HX := Lib.hid hX
        have HB := Lib.hid hbd
        have hX2 : X.length ≤ 400000 := by omega
        have HM := Lib.hid hmid
        clear hX hbd hmid hW hm4
        generalize ht : r[m] = t at *
        have h10s : (ByteArray.mk #[10]).size = 1 := rfl
        clear ht
        have HU2 : un a2.data.toList = (a2 : ByteArray).data.toList := HU.out.symm
        have HM2 := HM.out
        rw [HU2] at HM2
        have HM3 := Lib.hid HM2
        clear HM2 HU2
        go_wp2_with fail
        go_loopw [9, 11] (fun v i ws => ∃ (j : Nat) (V : ByteArray), j ≤ t.size ∧ i = .int .i64 j ∧ v = .string V ∧ Mid X (a2 : ByteArray).data.toList t j V ∧ ws = wr) (fun _ i _ => t.size - (intOf i).toNat)
        case atStart => exact ⟨0, _, Nat.zero_le _, rfl, rfl, HM3.out, rfl⟩
        case round =>
          obtain ⟨j, V, hj, rfl, rfl, hV, rfl⟩ := hrel
          have hVs := hV.size
          by_cases hjt : j < t.size
          · have hcb := (t[j]).toNat_lt
            have hc9 : t[j] = 9 ↔ (t[j]).toNat = 9 := ⟨fun h => by rw [h]; rfl, fun h => UInt8.toNat_inj.1 h⟩
            by_cases h9 : t[j] = 9
            · have t9 : (((t[j]).toNat : Int) == 9) = true := by rw [hc9.1 h9]; rfl
              have hn := hV.next hjt h9
              have hns := hV.next_le hjt h9
              clear hc9 hV
              go_wp2
              go_roundw
              case rel => exact ⟨j + 1, _, by omega, by go_num, rfl, hn, trivial⟩
              case measure => simp [intOf]; omega
            · have t9 : (((t[j]).toNat : Int) == 9) = false := by
                simp only [beq_eq_false_iff_ne]; intro h; exact h9 (hc9.2 (by omega))
              have hlv := hV.leave hj fun _ => h9
              have hLd : Laid a1.data.toList (un a2.data.toList) l r (m + 1) (V ++ t.extract j t.size) := Laid.leave (hlv.trans HX.out.symm) (by rw [HX.out]; exact HB.out)
              clear hc9 hV hlv
              go_wp2
              go_roundw
              case rel => exact ⟨m + 1, _, by omega, by go_num, rfl, hLd, trivial⟩
              case measure => simp [intOf]; omega
          · obtain rfl : t.size = j := by omega
            have hlv := hV.leave (Nat.le_refl _) fun h => absurd h (by omega)
            have hLd : Laid a1.data.toList (un a2.data.toList) l r (m + 1) (V ++ t.extract t.size t.size) := Laid.leave (hlv.trans HX.out.symm) (by rw [HX.out]; exact HB.out)
            have hVe : V ++ t.extract t.size t.size = V := by simp
            rw [hVe] at hLd
            clear hV hlv hVe
            go_wp2
            go_roundw
            case rel => exact ⟨m + 1, _, by omega, by go_num, rfl, hLd, trivial⟩
            case measure => simp [intOf]; omega
      · obtain rfl : m = rl := by omega
        clear hR
        go_wp2_with fail
        refine (lines_any a0 a1 a2 W l r _ g0 g1 g2 HP.out (by rw [HRL.out]; exact hW)).mono ?_
        rintro e w2 ⟨rfl, hb2⟩
        go_wp2_with fail
        refine (awake_any _).mono ?_
        rintro e w3 ⟨rfl, hb3⟩
        go_wp2
        go_ret
        exact ⟨rfl, bt (bt hb1 hb2) hb3⟩

theorem walk (a0 a1 a2 : ByteArray) (w0 : a0.size ≤ maxLen) (w1 : a1.size ≤ maxLen) (w2 : a2.size ≤ maxLen) (w : World) :
    Calls Try.prog 4 #[.string a0, .string a1, .string a2] w fun e w' => e = .returned (.bool true) ∧ Below w.heap.size w w' := by
  unfold maxLen at w0 w1 w2
  by_cases h0 : 100 < a0.size
  · go_enter Try.func4, Try.ntmps4
    go_wp2_with fail
    refine (awake_any _).mono ?_
    rintro e w1 ⟨rfl, hb1⟩
    go_wp2
    go_ret
    exact ⟨rfl, hb1⟩
  have h0' : decide (100 < (a0.size : Int)) = false := by simp; omega
  by_cases h1 : 20 < a1.size
  · go_enter Try.func4, Try.ntmps4
    go_wp2_with fail
    refine (awake_any _).mono ?_
    rintro e w1 ⟨rfl, hb1⟩
    go_wp2
    go_ret
    exact ⟨rfl, hb1⟩
  have h1' : decide (20 < (a1.size : Int)) = false := by simp; omega
  by_cases h2 : 20 < a2.size
  · go_enter Try.func4, Try.ntmps4
    go_wp2_with fail
    refine (awake_any _).mono ?_
    rintro e w1 ⟨rfl, hb1⟩
    go_wp2
    go_ret
    exact ⟨rfl, hb1⟩
  by_cases hu : a2.data.toList = []
  · exact walk_none a0 a1 a2 (by omega) (by omega) (by omega) hu w
  · exact walk_some a0 a1 a2 (by omega) (by omega) (by omega) hu w
end Go.Proofs.Ytfcnkmpndjmpnaa.leadLines
