/- What joined hands back: a text's words, one behind the other. -/
import Derived.Test.YtnjeicaikcnpdaaSmall
namespace Go.Proofs.Ytnjeicaikcnpdaa
open Go.RowKit
open M

theorem byteCells_snoc (l : List UInt8) (c : UInt8) : Lib.byteCells (l ++ [c]) = Lib.byteCells l ++ [.int .u8 (c.toNat : Int)] := by simp [Lib.byteCells]
theorem byteCells_len (l : List UInt8) : (Lib.byteCells l).length = l.length := by simp [Lib.byteCells]

/-- The loop's relation: k bytes seen, acc written. -/
def Jn (w : World) (s : ByteArray) (small : Bool) (k : Nat) (wr : World) : Prop :=
  ∃ acc : List UInt8, acc.length ≤ k ∧ Lib.IsBuilder 42 5 w.heap.size w.heap.size (Lib.byteCells acc) wr ∧ Below w.heap.size w wr ∧
    jn small false true s.data.toList = acc ++ jn small (pv s.data.toList k) acc.isEmpty (s.data.toList.drop k)

theorem writeU (B b : Nat) (acc : List UInt8) (c : UInt8) (w : World) (h : Lib.IsBuilder 42 5 B b (Lib.byteCells acc) w) (hl : acc.length ≤ 1048576) (hBw : B ≤ w.heap.size) :
    Calls Try.prog 24 #[.pointer (some ⟨b, 0, none⟩), .int .u8 (c.toNat : Int)] w fun e w' => e = .returned .nilIface ∧ (Lib.IsBuilder 42 5 B b (Lib.byteCells (acc ++ [c])) w' ∧ Below B w w') := by
  rw [byteCells_snoc]
  exact writeByte_any B b _ _ w h (by rw [byteCells_len]; omega) hBw
theorem jn_next {small : Bool} {l acc : List UInt8} {k : Nat} {c : UInt8} (hk : k < l.length) (h : jn small false true l = acc ++ jn small (pv l k) acc.isEmpty (l.drop k))
    (hw : wd l[k] = true) (hc : (if pv l k then l[k] else if small && acc.isEmpty then dn l[k] else up l[k]) = c) :
    jn small false true l = (acc ++ [c]) ++ jn small (pv l (k + 1)) (acc ++ [c]).isEmpty (l.drop (k + 1)) := by
  have he : (acc ++ [c]).isEmpty = false := by cases acc <;> rfl
  rw [h, jn_drop _ _ _ _ hk, if_pos hw, hc, he]
  simp
theorem jn_skip {small : Bool} {l acc : List UInt8} {k : Nat} (hk : k < l.length) (h : jn small false true l = acc ++ jn small (pv l k) acc.isEmpty (l.drop k))
    (hw : wd l[k] = false) : jn small false true l = acc ++ jn small (pv l (k + 1)) acc.isEmpty (l.drop (k + 1)) := by
  rw [h, jn_drop _ _ _ _ hk, if_neg (by simp [hw])]
theorem pv_byte (s : ByteArray) (k : Nat) (h : k < s.size) : pv s.data.toList (k + 1) = wd s[k] := by
  simp only [pv]
  rw [List.getD_eq_getElem?_getD, List.getElem?_eq_getElem (by simpa using h)]
  rfl
theorem isEmpty_len (acc : List UInt8) : acc.isEmpty = ((acc.length : Int) == 0) := by
  cases acc with
  | nil => rfl
  | cons a r => simp; omega

set_option maxHeartbeats 4000000 in
theorem joined_any (s : ByteArray) (small : Bool) (w : World) (hs : s.size ≤ 1048576) :
    Calls Try.prog 18 #[.string s, .bool small] w fun e w' => e = .returned (.string ⟨(jn small false true s.data.toList).toArray⟩) ∧ Below w.heap.size w w' := by
  have hst : Jn w s small 0 (w.alloc (.cells #[.pointer none, .slice none 0 0] 42)) :=
    ⟨[], by simp, Lib.fresh_isBuilder 42 5 w, (Below.refl _ _).alloc (Nat.le_refl _) _, rfl⟩
  have HS := Lib.hid hst
  clear hst
  go_enter Try.func18, Try.ntmps18
  go_wp2
  go_loopw [6] (fun i wr => ∃ k : Nat, k ≤ s.size ∧ i = .int .i64 k ∧ Jn w s small k wr) (fun i _ => s.size - (intOf i).toNat)
  case atStart => exact ⟨0, Nat.zero_le _, rfl, HS.out⟩
  case round =>
    obtain ⟨k, hk, rfl, acc, hacc, hI, hb, hj⟩ := hrel
    by_cases hlt : k < s.size
    · have HJ := Lib.hid hj
      clear hj
      have hsz := hb.size
      have hlt2 : k < s.data.toList.length := by simpa using hlt
      have esk : s.data.toList[k] = s[k] := rfl
      by_cases hw : wd s[k] = true
      · -- in a word
        rcases k with _ | k
        · have he : acc.isEmpty = true := by cases acc with | nil => rfl | cons a r => simp at hacc
          cases small
          · have hc : (if pv s.data.toList (0) = true then s.data.toList[0] else if (false && acc.isEmpty) = true then dn s.data.toList[0] else up s.data.toList[0]) = up s[0] := by
              simp [pv]
              rfl
            have nx := Lib.hid (jn_next hlt2 HJ.out hw hc)
            have HW := Lib.hid hw
            have hla : acc.length ≤ 1048576 := by omega
            have hla2 := fun c : UInt8 => show (acc ++ [c]).length ≤ 0 + 1 by rw [List.length_append]; simp only [List.length_cons, List.length_nil]; omega
            clear hw hc
            go_wp2_with fail
            refine (word_any _ _).mono ?_
            rw [HW.out]
            rintro e w1 ⟨rfl, rfl⟩
            go_wp2_with fail
            refine (upper_any _ _).mono ?_
            rintro e w1 ⟨rfl, rfl⟩
            go_wp2_with fail
            refine (writeU _ _ acc (up s[0]) _ hI hla hsz).mono ?_
            rintro e w2 ⟨rfl, hI2, hb2⟩
            go_wp2
            go_roundw
            case rel => exact ⟨0 + 1, by omega, by go_num, acc ++ [up s[0]], hla2 _, hI2, hb.trans hb2, nx.out⟩
            case measure => simp [intOf]; omega
          · have hc : (if pv s.data.toList (0) = true then s.data.toList[0] else if (true && acc.isEmpty) = true then dn s.data.toList[0] else up s.data.toList[0]) = dn s[0] := by
              simp [pv, he]
              rfl
            have nx := Lib.hid (jn_next hlt2 HJ.out hw hc)
            have HW := Lib.hid hw
            have HE := Lib.hid he
            have hla : acc.length ≤ 1048576 := by omega
            have hla2 := fun c : UInt8 => show (acc ++ [c]).length ≤ 0 + 1 by rw [List.length_append]; simp only [List.length_cons, List.length_nil]; omega
            clear hw hc he
            go_wp2_with fail
            refine (word_any _ _).mono ?_
            rw [HW.out]
            rintro e w1 ⟨rfl, rfl⟩
            go_wp2_with fail
            refine (Try.Builder_Len _ _ _ _ hI).mono ?_
            rw [byteCells_len]
            rintro e w1 ⟨rfl, rfl⟩
            rw [show (acc.length : Int) = 0 from by simpa using HE.out]
            go_wp2_with fail
            refine (lower_any _ _).mono ?_
            rintro e w1 ⟨rfl, rfl⟩
            go_wp2_with fail
            refine (writeU _ _ acc (dn s[0]) _ hI hla hsz).mono ?_
            rintro e w2 ⟨rfl, hI2, hb2⟩
            go_wp2
            go_roundw
            case rel => exact ⟨0 + 1, by omega, by go_num, acc ++ [dn s[0]], hla2 _, hI2, hb.trans hb2, nx.out⟩
            case measure => simp [intOf]; omega
        · cases hp : pv s.data.toList (k + 1)
          · cases small
            · have HP := Lib.hid hp
              clear hp
              have hc : (if pv s.data.toList (k + 1) = true then s.data.toList[k + 1] else if (false && acc.isEmpty) = true then dn s.data.toList[k + 1] else up s.data.toList[k + 1]) = up s[k + 1] := by
                rw [if_neg (by rw [HP.out]; decide)]
                rfl
              have nx := Lib.hid (jn_next hlt2 HJ.out hw hc)
              have HW := Lib.hid hw
              have hla : acc.length ≤ 1048576 := by omega
              have hla2 := fun c : UInt8 => show (acc ++ [c]).length ≤ k + 1 + 1 by rw [List.length_append]; simp only [List.length_cons, List.length_nil]; omega
              clear hw hc
              go_wp2_with fail
              refine (word_any _ _).mono ?_
              rw [HW.out]
              rintro e w1 ⟨rfl, rfl⟩
              go_wp2_with fail
              refine (word_any _ _).mono ?_
              rw [show wd s[k] = false from (pv_byte s k (by omega)).symm.trans HP.out]
              rintro e w1 ⟨rfl, rfl⟩
              go_wp2_with fail
              refine (upper_any _ _).mono ?_
              rintro e w1 ⟨rfl, rfl⟩
              go_wp2_with fail
              refine (writeU _ _ acc (up s[k + 1]) _ hI hla hsz).mono ?_
              rintro e w2 ⟨rfl, hI2, hb2⟩
              go_wp2
              go_roundw
              case rel => exact ⟨k + 1 + 1, by omega, by go_num, acc ++ [up s[k + 1]], hla2 _, hI2, hb.trans hb2, nx.out⟩
              case measure => simp [intOf]; omega
            · cases he : acc.isEmpty
              · have HP := Lib.hid hp
                clear hp
                have hc : (if pv s.data.toList (k + 1) = true then s.data.toList[k + 1] else if (true && acc.isEmpty) = true then dn s.data.toList[k + 1] else up s.data.toList[k + 1]) = up s[k + 1] := by
                  rw [if_neg (by rw [HP.out]; decide)]
                  rw [he]
                  rfl
                have nx := Lib.hid (jn_next hlt2 HJ.out hw hc)
                have HW := Lib.hid hw
                have HE := Lib.hid he
                have hla : acc.length ≤ 1048576 := by omega
                have hla2 := fun c : UInt8 => show (acc ++ [c]).length ≤ k + 1 + 1 by rw [List.length_append]; simp only [List.length_cons, List.length_nil]; omega
                clear hw hc he
                go_wp2_with fail
                refine (word_any _ _).mono ?_
                rw [HW.out]
                rintro e w1 ⟨rfl, rfl⟩
                go_wp2_with fail
                refine (word_any _ _).mono ?_
                rw [show wd s[k] = false from (pv_byte s k (by omega)).symm.trans HP.out]
                rintro e w1 ⟨rfl, rfl⟩
                go_wp2_with fail
                refine (Try.Builder_Len _ _ _ _ hI).mono ?_
                rw [byteCells_len]
                rintro e w1 ⟨rfl, rfl⟩
                have hne : ((acc.length : Int) == 0) = false := by rw [← isEmpty_len]; exact HE.out
                go_wp2_with fail
                refine (upper_any _ _).mono ?_
                rintro e w1 ⟨rfl, rfl⟩
                go_wp2_with fail
                refine (writeU _ _ acc (up s[k + 1]) _ hI hla hsz).mono ?_
                rintro e w2 ⟨rfl, hI2, hb2⟩
                go_wp2
                go_roundw
                case rel => exact ⟨k + 1 + 1, by omega, by go_num, acc ++ [up s[k + 1]], hla2 _, hI2, hb.trans hb2, nx.out⟩
                case measure => simp [intOf]; omega
              · have HP := Lib.hid hp
                clear hp
                have hc : (if pv s.data.toList (k + 1) = true then s.data.toList[k + 1] else if (true && acc.isEmpty) = true then dn s.data.toList[k + 1] else up s.data.toList[k + 1]) = dn s[k + 1] := by
                  rw [if_neg (by rw [HP.out]; decide)]
                  rw [he]
                  rfl
                have nx := Lib.hid (jn_next hlt2 HJ.out hw hc)
                have HW := Lib.hid hw
                have HE := Lib.hid he
                have hla : acc.length ≤ 1048576 := by omega
                have hla2 := fun c : UInt8 => show (acc ++ [c]).length ≤ k + 1 + 1 by rw [List.length_append]; simp only [List.length_cons, List.length_nil]; omega
                clear hw hc he
                go_wp2_with fail
                refine (word_any _ _).mono ?_
                rw [HW.out]
                rintro e w1 ⟨rfl, rfl⟩
                go_wp2_with fail
                refine (word_any _ _).mono ?_
                rw [show wd s[k] = false from (pv_byte s k (by omega)).symm.trans HP.out]
                rintro e w1 ⟨rfl, rfl⟩
                go_wp2_with fail
                refine (Try.Builder_Len _ _ _ _ hI).mono ?_
                rw [byteCells_len]
                rintro e w1 ⟨rfl, rfl⟩
                rw [show (acc.length : Int) = 0 from by simpa using HE.out]
                go_wp2_with fail
                refine (lower_any _ _).mono ?_
                rintro e w1 ⟨rfl, rfl⟩
                go_wp2_with fail
                refine (writeU _ _ acc (dn s[k + 1]) _ hI hla hsz).mono ?_
                rintro e w2 ⟨rfl, hI2, hb2⟩
                go_wp2
                go_roundw
                case rel => exact ⟨k + 1 + 1, by omega, by go_num, acc ++ [dn s[k + 1]], hla2 _, hI2, hb.trans hb2, nx.out⟩
                case measure => simp [intOf]; omega
          · have HP := Lib.hid hp
            clear hp
            have hc : (if pv s.data.toList (k + 1) = true then s.data.toList[k + 1] else if (small && acc.isEmpty) = true then dn s.data.toList[k + 1] else up s.data.toList[k + 1]) = s[k + 1] := by
              rw [if_pos HP.out]; rfl
            have nx := Lib.hid (jn_next hlt2 HJ.out hw hc)
            have HW := Lib.hid hw
            have hla : acc.length ≤ 1048576 := by omega
            have hla2 := fun c : UInt8 => show (acc ++ [c]).length ≤ k + 1 + 1 by rw [List.length_append]; simp only [List.length_cons, List.length_nil]; omega
            clear hw hc
            go_wp2_with fail
            refine (word_any _ _).mono ?_
            rw [HW.out]
            rintro e w1 ⟨rfl, rfl⟩
            go_wp2_with fail
            refine (word_any _ _).mono ?_
            rw [show wd s[k] = true from (pv_byte s k (by omega)).symm.trans HP.out]
            rintro e w1 ⟨rfl, rfl⟩
            go_wp2_with fail
            refine (writeU _ _ acc (s[k + 1]) _ hI hla hsz).mono ?_
            rintro e w2 ⟨rfl, hI2, hb2⟩
            go_wp2
            go_roundw
            case rel => exact ⟨k + 1 + 1, by omega, by go_num, acc ++ [s[k + 1]], hla2 _, hI2, hb.trans hb2, nx.out⟩
            case measure => simp [intOf]; omega
      · -- in none
        have hw' : wd s[k] = false := by simpa using hw
        have nx := Lib.hid (jn_skip hlt2 HJ.out hw')
        have HW := Lib.hid hw'
        clear hw hw' esk
        go_wp2_with fail
        refine (word_any _ _).mono ?_
        rw [HW.out]
        rintro e w1 ⟨rfl, rfl⟩
        go_wp2
        go_roundw
        case rel => exact ⟨k + 1, by omega, by go_num, acc, by omega, hI, hb, nx.out⟩
        case measure => simp [intOf]; omega
    · obtain rfl : s.size = k := by omega
      rw [List.drop_of_length_le (by simp)] at hj
      have hj2 : jn small false true s.data.toList = acc := by rw [hj]; simp [jn]
      have HJ := Lib.hid hj2
      clear hj hj2
      go_wp2_with fail
      refine (Try.Builder_String_any _ _ acc _ hI hb.size).mono ?_
      rintro e w1 ⟨rfl, hb1⟩
      go_wp2
      go_ret
      exact ⟨congrArg (fun l : List UInt8 => Ending.returned (.string ⟨l.toArray⟩)) HJ.out.symm, hb.trans hb1⟩
end Go.Proofs.Ytnjeicaikcnpdaa
