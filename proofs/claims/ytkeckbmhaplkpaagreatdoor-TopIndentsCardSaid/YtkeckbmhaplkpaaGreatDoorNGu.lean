/- A text with a backslash ahead of each of three signs, and where its bytes stand, in plain lists of bytes. No program in sight. -/
import Derived.Test.YtkeckbmhaplkpaaGreatDoorChecked
import Derived.WalkKit
import Derived.WalkSpells
import Derived.Lib.Hide
import Derived.Lib.BufferRead
namespace Go.Proofs.YtkeckbmhaplkpaaGreatDoor.Gd.M
def esc (c : UInt8) : Bool := c == 36 || c == 125 || c == 92
def gd : List UInt8 → List UInt8
  | [] => []
  | c :: r => if esc c = true then 92 :: c :: gd r else c :: gd r
def one (c : UInt8) : List UInt8 := if esc c = true then [92, c] else [c]
theorem gd_cons (c : UInt8) (r : List UInt8) : gd (c :: r) = one c ++ gd r := by
  unfold one
  rw [gd]
  split <;> rfl
theorem gd_app (l m : List UInt8) : gd (l ++ m) = gd l ++ gd m := by
  induction l with
  | nil => rfl
  | cons c r ih => rw [List.cons_append, gd_cons, gd_cons, ih, List.append_assoc]
theorem gd_snoc (l : List UInt8) (c : UInt8) : gd (l ++ [c]) = gd l ++ one c := by
  rw [gd_app, gd_cons]
  simp [gd]
theorem one_len (c : UInt8) : 1 ≤ (one c).length ∧ (one c).length ≤ 2 := by
  unfold one
  split <;> simp
theorem gd_len (l : List UInt8) : l.length ≤ (gd l).length ∧ (gd l).length ≤ 2 * l.length := by
  induction l with
  | nil => simp [gd]
  | cons c r ih =>
    rw [gd_cons, List.length_append, List.length_cons]
    have := one_len c
    omega
/-- Where the k-th byte begins. -/
def pos (l : List UInt8) (k : Nat) : Nat := (gd (l.take k)).length
theorem pos_zero (l : List UInt8) : pos l 0 = 0 := by simp [pos, gd]
theorem pos_end (l : List UInt8) : pos l l.length = (gd l).length := by simp [pos]
theorem pos_next (l : List UInt8) (k : Nat) (h : k < l.length) : pos l (k + 1) = pos l k + (one l[k]).length := by
  unfold pos
  rw [List.take_succ_eq_append_getElem h, gd_snoc, List.length_append]
theorem split_at (l : List UInt8) (k : Nat) (h : k < l.length) : gd l = gd (l.take k) ++ (one l[k] ++ gd (l.drop (k + 1))) := by
  rw [← gd_cons, ← gd_app, ← List.drop_eq_getElem_cons h, List.take_append_drop]
theorem pos_lt (l : List UInt8) (k : Nat) (h : k < l.length) : pos l k < (gd l).length := by
  rw [split_at l k h]
  have := one_len l[k]
  simp only [pos, List.length_append]
  omega
theorem pos_le (l : List UInt8) (k : Nat) (h : k ≤ l.length) : pos l k ≤ (gd l).length := by
  rcases Nat.lt_or_ge k l.length with h1 | h1
  · exact Nat.le_of_lt (pos_lt l k h1)
  · obtain rfl : k = l.length := by omega
    rw [pos_end]
    exact Nat.le_refl _
theorem get_first (l : List UInt8) (k : Nat) (h : k < l.length) : (gd l)[pos l k]? = (one l[k])[0]? := by
  rw [split_at l k h]
  show (gd (l.take k) ++ (one l[k] ++ gd (l.drop (k + 1))))[(gd (l.take k)).length]? = _
  rw [List.getElem?_append_right (Nat.le_refl _), Nat.sub_self]
  have := one_len l[k]
  rw [List.getElem?_append_left (by omega)]
theorem get_second (l : List UInt8) (k : Nat) (h : k < l.length) (he : esc l[k] = true) : (gd l)[pos l k + 1]? = some l[k] := by
  rw [split_at l k h]
  show (gd (l.take k) ++ (one l[k] ++ gd (l.drop (k + 1))))[(gd (l.take k)).length + 1]? = _
  rw [List.getElem?_append_right (by omega)]
  have e : (gd (l.take k)).length + 1 - (gd (l.take k)).length = 1 := by omega
  rw [e]
  unfold one
  rw [if_pos he]
  rfl
theorem one_esc (c : UInt8) (h : esc c = true) : one c = [92, c] := if_pos h
theorem one_not (c : UInt8) (h : esc c = false) : one c = [c] := by unfold one; rw [h]; rfl
theorem esc_false {c : UInt8} (h : esc c = false) : c ≠ 36 ∧ c ≠ 125 ∧ c ≠ 92 := by
  unfold esc at h
  simp only [Bool.or_eq_false_iff, beq_eq_false_iff_ne] at h
  exact ⟨h.1.1, h.1.2, h.2⟩
theorem esc_true {c : UInt8} (h : esc c = true) : c = 36 ∨ c = 125 ∨ c = 92 := by
  unfold esc at h
  simp only [Bool.or_eq_true, beq_iff_eq] at h
  rcases h with (h | h) | h
  · exact .inl h
  · exact .inr (.inl h)
  · exact .inr (.inr h)
end Go.Proofs.YtkeckbmhaplkpaaGreatDoor.Gd.M
/- What guard hands back: the text with a backslash ahead of each of three signs. -/
namespace Go.Proofs.YtkeckbmhaplkpaaGreatDoor.Gd
open Go Go.RowKit
open M

theorem info5 : (Tryz.prog.info? 5).map (fun i => (i.zero, i.size, i.bytes)) = some (some (.int .u8 0), 1, 1) := by kernel_rfl
theorem own_conv {w : World} {base : Nat} {v : Value} {acc : List UInt8} (h : w.ownsRow base 5 1 v acc.length (Lib.byteCells acc)) : (convert 76 9 v).run Tryz.prog w = .ok (.string ⟨acc.toArray⟩) w := by
  have hc := @World.ownsRow.cells _ _ _ _ _ _ _ h
  rcases h.2 with ⟨rfl, h0⟩ | ⟨g, cap, cur, rfl, _⟩
  · have : acc = [] := List.length_eq_zero_iff.1 h0
    subst this
    exact Lib.run_convert_nil_bytes w 76 9 5 0 Tryz.underlying76 Tryz.underlying5 Tryz.underlying9
  · refine run_convert_bytes_back w 76 9 5 ⟨g, 0, none⟩ cap acc Tryz.underlying76 Tryz.underlying5 Tryz.underlying9 (fun j hj => ?_)
    exact hc (g := g) rfl j _ (by simp [Lib.byteCells, hj])
theorem own_one {w : World} {base : Nat} {v : Value} {acc : List UInt8} {c : UInt8} (h : w.ownsRow base 5 1 v (acc.length + 1) (Lib.byteCells acc ++ [.int .u8 (c.toNat : Int)])) : w.ownsRow base 5 1 v (acc ++ [c]).length (Lib.byteCells (acc ++ [c])) := by
  rw [Lib.byteCells_append, List.length_append]
  exact h
theorem take_one (s : ByteArray) (k : Nat) (h : k < s.size) : s.data.toList.take (k + 1) = s.data.toList.take k ++ [s[k]] := by
  rw [List.take_succ_eq_append_getElem (by simpa using h)]; rfl
theorem gd_next (s : ByteArray) (k : Nat) (h : k < s.size) : gd (s.data.toList.take (k + 1)) = gd (s.data.toList.take k) ++ one s[k] := by
  rw [take_one s k h, gd_snoc]
def Rg (W : World) (s : ByteArray) (k : Nat) (v : Value) (wr : World) : Prop :=
  ∃ acc : List UInt8, acc.length ≤ k * 2 ∧ wr.ownsRow W.heap.size 5 1 v acc.length (Lib.byteCells acc) ∧ Below W.heap.size W wr ∧ acc = gd (s.data.toList.take k)
theorem b8 (c : UInt8) (n : Nat) (h : n < 256) : ((c.toNat : Int) == (n : Int)) = decide (c = UInt8.ofNat n) := by
  rw [Bool.eq_iff_iff, beq_iff_eq, decide_eq_true_eq]
  constructor
  · intro e
    apply UInt8.toNat.inj
    simp only [UInt8.toNat_ofNat']
    omega
  · intro e
    rw [e]
    simp only [UInt8.toNat_ofNat']
    omega

set_option maxHeartbeats 8000000 in
theorem guard_any (s : ByteArray) (w : World) (hs : s.size ≤ 1000) :
    Calls Tryz.prog 14 #[.string s] w fun e w' => e = .returned (.string ⟨(gd s.data.toList).toArray⟩) ∧ Below w.heap.size w w' := by
  obtain ⟨i0, hi, hz0, hz1, hz2⟩ := info_parts info5
  have hst : Rg w s 0 (.slice none 0 0) w := ⟨[], by simp, World.ownsRow_nil _ _ _ _, Below.refl _ _, rfl⟩
  have HST := Lib.hid hst
  clear hst
  go_enter Tryz.func14, Tryz.ntmps14
  go_wp2
  go_loopw [3, 4] (fun v i wr => ∃ k : Nat, k ≤ s.size ∧ i = .int .i64 k ∧ Rg w s k v wr) (fun _ i _ => s.size - (intOf i).toNat)
  case atStart => exact ⟨0, Nat.zero_le _, rfl, HST.out⟩
  case round =>
    obtain ⟨k, hk, rfl, acc, hacc, ho, hb, ha⟩ := hrel
    by_cases hlt : k < s.size
    · have hsz := hb.size
      have na := gd_next s k hlt
      rw [← ha] at na
      have e36 := b8 s[k] 36 (by omega)
      have e125 := b8 s[k] 125 (by omega)
      have e92 := b8 s[k] 92 (by omega)
      clear ha
      have hways : (s[k] = 36 ∧ esc s[k] = true) ∨ (s[k] = 125 ∧ esc s[k] = true) ∨ (s[k] = 92 ∧ esc s[k] = true) ∨ esc s[k] = false := by
        cases he : esc s[k]
        · exact .inr (.inr (.inr rfl))
        · rcases esc_true he with h | h | h
          · exact .inl ⟨h, rfl⟩
          · exact .inr (.inl ⟨h, rfl⟩)
          · exact .inr (.inr (.inl ⟨h, rfl⟩))
      rcases hways with ⟨hc, he⟩ | ⟨hc, he⟩ | ⟨hc, he⟩ | he
      · have hc' : (s[k]).toNat = 36 := by rw [hc]; rfl
        have t36 : (((s[k]).toNat : Int) == 36) = true := by rw [hc']; rfl
        have NA : gd (s.data.toList.take (k + 1)) = acc ++ [92] ++ [s[k]] := by rw [na, one_esc _ he, List.append_assoc]; rfl
        have N := Lib.hid NA
        have H3 : (acc ++ [92] ++ [s[k]]).length ≤ (k + 1) * 2 := by simp only [List.length_append, List.length_cons, List.length_nil]; omega
        clear NA na he hc hc' e36 e125 e92
        go_wp2_with (at_builtin; refine wpList_append_own _ rfl _ _ 76 rfl w.heap.size 5 i0 (.int .u8 0) 1 1 Tryz.underlying76 hi hz0 hz1 hz2 rfl (by decide) _ _ _ rfl (ho.alloc _) ⟨wr.heap.size, 0, none⟩ 1 1 [.int .u8 92] rfl rfl ?c1 ?c2 ?c3 ?c4 ?c5 ?_)
        case c1 =>
          intro j u hj
          match j, hj with
          | 0, hj => simp at hj; subst hj; simp [Addr.add]
        case c2 => intro u hu; simp at hu; subst hu; rfl
        case c3 => skip; unfold maxLen; omega
        case c4 => skip; omega
        case c5 => simp; omega
        intro v2 w2 hown' hgrow _
        have hb2 : Below w.heap.size w w2 := (hb.alloc hsz _).grown hgrow (by simp; omega) (fun q hq => (ho.lt q hq).1)
        have hsz2 := hb2.size
        have ho2 := own_one (acc := acc) (c := 92) (by exact hown')
        clear hown' hgrow ho
        go_wp2_with (at_builtin; refine wpList_append_own _ rfl _ _ 76 rfl w.heap.size 5 i0 (.int .u8 0) 1 1 Tryz.underlying76 hi hz0 hz1 hz2 rfl (by decide) _ _ _ rfl (ho2.alloc _) ⟨w2.heap.size, 0, none⟩ 1 1 [.int .u8 ((s[k]).toNat : Int)] rfl rfl ?c1 ?c2 ?c3 ?c4 ?c5 ?_)
        case c1 =>
          intro j u hj
          match j, hj with
          | 0, hj => simp at hj; subst hj; simp [Addr.add]
        case c2 => intro u hu; simp at hu; subst hu; rfl
        case c3 => rw [List.length_append]; simp only [List.length_cons, List.length_nil]; unfold maxLen; omega
        case c4 => rw [List.length_append]; simp only [List.length_cons, List.length_nil]; omega
        case c5 => simp; omega
        intro v3 w3 hown' hgrow _
        have hb3 : Below w.heap.size w w3 := (hb2.alloc hsz2 _).grown hgrow (by simp; omega) (fun q hq => (ho2.lt q hq).1)
        have hsz3 := hb3.size
        have ho3 := own_one (acc := (acc ++ [92])) (c := s[k]) (by rw [List.length_append]; exact hown')
        clear hown' hgrow ho2
        go_wp2
        go_roundw
        case rel => exact ⟨k + 1, by omega, by go_num, _, H3, ho3, hb3, N.out.symm⟩
        case measure => simp [intOf]; omega
      · have hc' : (s[k]).toNat = 125 := by rw [hc]; rfl
        have t36 : (((s[k]).toNat : Int) == 36) = false := by rw [hc']; rfl
        have t125 : (((s[k]).toNat : Int) == 125) = true := by rw [hc']; rfl
        have NA : gd (s.data.toList.take (k + 1)) = acc ++ [92] ++ [s[k]] := by rw [na, one_esc _ he, List.append_assoc]; rfl
        have N := Lib.hid NA
        have H3 : (acc ++ [92] ++ [s[k]]).length ≤ (k + 1) * 2 := by simp only [List.length_append, List.length_cons, List.length_nil]; omega
        clear NA na he hc hc' e36 e125 e92
        go_wp2_with (at_builtin; refine wpList_append_own _ rfl _ _ 76 rfl w.heap.size 5 i0 (.int .u8 0) 1 1 Tryz.underlying76 hi hz0 hz1 hz2 rfl (by decide) _ _ _ rfl (ho.alloc _) ⟨wr.heap.size, 0, none⟩ 1 1 [.int .u8 92] rfl rfl ?c1 ?c2 ?c3 ?c4 ?c5 ?_)
        case c1 =>
          intro j u hj
          match j, hj with
          | 0, hj => simp at hj; subst hj; simp [Addr.add]
        case c2 => intro u hu; simp at hu; subst hu; rfl
        case c3 => skip; unfold maxLen; omega
        case c4 => skip; omega
        case c5 => simp; omega
        intro v2 w2 hown' hgrow _
        have hb2 : Below w.heap.size w w2 := (hb.alloc hsz _).grown hgrow (by simp; omega) (fun q hq => (ho.lt q hq).1)
        have hsz2 := hb2.size
        have ho2 := own_one (acc := acc) (c := 92) (by exact hown')
        clear hown' hgrow ho
        go_wp2_with (at_builtin; refine wpList_append_own _ rfl _ _ 76 rfl w.heap.size 5 i0 (.int .u8 0) 1 1 Tryz.underlying76 hi hz0 hz1 hz2 rfl (by decide) _ _ _ rfl (ho2.alloc _) ⟨w2.heap.size, 0, none⟩ 1 1 [.int .u8 ((s[k]).toNat : Int)] rfl rfl ?c1 ?c2 ?c3 ?c4 ?c5 ?_)
        case c1 =>
          intro j u hj
          match j, hj with
          | 0, hj => simp at hj; subst hj; simp [Addr.add]
        case c2 => intro u hu; simp at hu; subst hu; rfl
        case c3 => rw [List.length_append]; simp only [List.length_cons, List.length_nil]; unfold maxLen; omega
        case c4 => rw [List.length_append]; simp only [List.length_cons, List.length_nil]; omega
        case c5 => simp; omega
        intro v3 w3 hown' hgrow _
        have hb3 : Below w.heap.size w w3 := (hb2.alloc hsz2 _).grown hgrow (by simp; omega) (fun q hq => (ho2.lt q hq).1)
        have hsz3 := hb3.size
        have ho3 := own_one (acc := (acc ++ [92])) (c := s[k]) (by rw [List.length_append]; exact hown')
        clear hown' hgrow ho2
        go_wp2
        go_roundw
        case rel => exact ⟨k + 1, by omega, by go_num, _, H3, ho3, hb3, N.out.symm⟩
        case measure => simp [intOf]; omega
      · have hc' : (s[k]).toNat = 92 := by rw [hc]; rfl
        have t36 : (((s[k]).toNat : Int) == 36) = false := by rw [hc']; rfl
        have t125 : (((s[k]).toNat : Int) == 125) = false := by rw [hc']; rfl
        have t92 : (((s[k]).toNat : Int) == 92) = true := by rw [hc']; rfl
        have NA : gd (s.data.toList.take (k + 1)) = acc ++ [92] ++ [s[k]] := by rw [na, one_esc _ he, List.append_assoc]; rfl
        have N := Lib.hid NA
        have H3 : (acc ++ [92] ++ [s[k]]).length ≤ (k + 1) * 2 := by simp only [List.length_append, List.length_cons, List.length_nil]; omega
        clear NA na he hc hc' e36 e125 e92
        go_wp2_with (at_builtin; refine wpList_append_own _ rfl _ _ 76 rfl w.heap.size 5 i0 (.int .u8 0) 1 1 Tryz.underlying76 hi hz0 hz1 hz2 rfl (by decide) _ _ _ rfl (ho.alloc _) ⟨wr.heap.size, 0, none⟩ 1 1 [.int .u8 92] rfl rfl ?c1 ?c2 ?c3 ?c4 ?c5 ?_)
        case c1 =>
          intro j u hj
          match j, hj with
          | 0, hj => simp at hj; subst hj; simp [Addr.add]
        case c2 => intro u hu; simp at hu; subst hu; rfl
        case c3 => skip; unfold maxLen; omega
        case c4 => skip; omega
        case c5 => simp; omega
        intro v2 w2 hown' hgrow _
        have hb2 : Below w.heap.size w w2 := (hb.alloc hsz _).grown hgrow (by simp; omega) (fun q hq => (ho.lt q hq).1)
        have hsz2 := hb2.size
        have ho2 := own_one (acc := acc) (c := 92) (by exact hown')
        clear hown' hgrow ho
        go_wp2_with (at_builtin; refine wpList_append_own _ rfl _ _ 76 rfl w.heap.size 5 i0 (.int .u8 0) 1 1 Tryz.underlying76 hi hz0 hz1 hz2 rfl (by decide) _ _ _ rfl (ho2.alloc _) ⟨w2.heap.size, 0, none⟩ 1 1 [.int .u8 ((s[k]).toNat : Int)] rfl rfl ?c1 ?c2 ?c3 ?c4 ?c5 ?_)
        case c1 =>
          intro j u hj
          match j, hj with
          | 0, hj => simp at hj; subst hj; simp [Addr.add]
        case c2 => intro u hu; simp at hu; subst hu; rfl
        case c3 => rw [List.length_append]; simp only [List.length_cons, List.length_nil]; unfold maxLen; omega
        case c4 => rw [List.length_append]; simp only [List.length_cons, List.length_nil]; omega
        case c5 => simp; omega
        intro v3 w3 hown' hgrow _
        have hb3 : Below w.heap.size w w3 := (hb2.alloc hsz2 _).grown hgrow (by simp; omega) (fun q hq => (ho2.lt q hq).1)
        have hsz3 := hb3.size
        have ho3 := own_one (acc := (acc ++ [92])) (c := s[k]) (by rw [List.length_append]; exact hown')
        clear hown' hgrow ho2
        go_wp2
        go_roundw
        case rel => exact ⟨k + 1, by omega, by go_num, _, H3, ho3, hb3, N.out.symm⟩
        case measure => simp [intOf]; omega
      · obtain ⟨n36, n125, n92⟩ := esc_false he
        have t36 : (((s[k]).toNat : Int) == 36) = false := e36.trans (decide_eq_false n36)
        have t125 : (((s[k]).toNat : Int) == 125) = false := e125.trans (decide_eq_false n125)
        have t92 : (((s[k]).toNat : Int) == 92) = false := e92.trans (decide_eq_false n92)
        have NA : gd (s.data.toList.take (k + 1)) = acc ++ [s[k]] := by rw [na, one_not _ he]
        have N := Lib.hid NA
        have H3 : (acc ++ [s[k]]).length ≤ (k + 1) * 2 := by simp only [List.length_append, List.length_cons, List.length_nil]; omega
        clear NA na he n36 n125 n92 e36 e125 e92
        go_wp2_with (at_builtin; refine wpList_append_own _ rfl _ _ 76 rfl w.heap.size 5 i0 (.int .u8 0) 1 1 Tryz.underlying76 hi hz0 hz1 hz2 rfl (by decide) _ _ _ rfl (ho.alloc _) ⟨wr.heap.size, 0, none⟩ 1 1 [.int .u8 ((s[k]).toNat : Int)] rfl rfl ?c1 ?c2 ?c3 ?c4 ?c5 ?_)
        case c1 =>
          intro j u hj
          match j, hj with
          | 0, hj => simp at hj; subst hj; simp [Addr.add]
        case c2 => intro u hu; simp at hu; subst hu; rfl
        case c3 => skip; unfold maxLen; omega
        case c4 => skip; omega
        case c5 => simp; omega
        intro v2 w2 hown' hgrow _
        have hb2 : Below w.heap.size w w2 := (hb.alloc hsz _).grown hgrow (by simp; omega) (fun q hq => (ho.lt q hq).1)
        have hsz2 := hb2.size
        have ho2 := own_one (acc := acc) (c := s[k]) (by exact hown')
        clear hown' hgrow ho
        go_wp2
        go_roundw
        case rel => exact ⟨k + 1, by omega, by go_num, _, H3, ho2, hb2, N.out.symm⟩
        case measure => simp [intOf]; omega
    · obtain rfl : s.size = k := by omega
      rw [List.take_of_length_le (by simp)] at ha
      have hcv := own_conv ho
      have HA := Lib.hid ha
      clear ha ho
      go_wp2
      go_ret
      exact ⟨congrArg (fun l : List UInt8 => Ending.returned (.string ⟨l.toArray⟩)) HA.out, hb⟩
end Go.Proofs.YtkeckbmhaplkpaaGreatDoor.Gd
