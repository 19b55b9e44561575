/- The walk of CasingWords: whatever the text, it answers true; nothing that was there has turned. -/
import Derived.Test.YtnjeicaikcnpdaaLow
import Derived.OpenShut
import Derived.BigQuiet
import Derived.Lib.QuietBelow
namespace Go.Proofs.Ytnjeicaikcnpdaa.casingWords
open Go.RowKit Go.Sort
open M

def dash (c : UInt8) : UInt8 := if wd c then c else 45
theorem dn_up (c : UInt8) : dn (up c) = dn c := by
  by_cases h : 97 ≤ c.toNat ∧ c.toNat ≤ 122
  · have h1 := up_nat c h
    apply UInt8.toNat_inj.1
    rw [dn_nat (up c) (by omega), dn_same c (by omega), h1]
    omega
  · rw [up_same c h]
theorem dn_jn (p e : Bool) (l : List UInt8) : (jn false p e l).map dn = (l.filter wd).map dn := by
  induction l generalizing p e with
  | nil => rfl
  | cons c r ih =>
    simp only [jn, Bool.false_and, List.filter_cons]
    split
    · rw [List.map_cons, List.map_cons, ih]
      split
      · rfl
      · rw [show (if (false : Bool) = true then dn c else up c) = up c from rfl, dn_up]
    · exact ih _ _
theorem jn_len (p e : Bool) (l : List UInt8) : (jn true p e l).length = (jn false p e l).length := by
  induction l generalizing p e with
  | nil => rfl
  | cons c r ih =>
    simp only [jn]
    split
    · simp only [List.length_cons]; rw [ih]
    · exact ih _ _
theorem jn_late (p : Bool) (l : List UInt8) : jn true p false l = jn false p false l := by
  induction l generalizing p with
  | nil => rfl
  | cons c r ih =>
    simp only [jn, Bool.and_false]
    rw [ih true, ih false]
theorem jn_tail (l : List UInt8) : (jn true false true l).tail = (jn false false true l).tail := by
  induction l with
  | nil => rfl
  | cons c r ih =>
    simp only [jn]
    split
    · simp only [List.tail_cons]; rw [jn_late]
    · exact ih
theorem wd_dash (c : UInt8) : wd (dash c) = wd c := by
  unfold dash
  cases h : wd c
  · rfl
  · simp [h]
theorem jn_dash (p e : Bool) (l : List UInt8) : jn false p e (l.map dash) = jn false p e l := by
  induction l generalizing p e with
  | nil => rfl
  | cons c r ih =>
    simp only [List.map_cons, jn, wd_dash]
    rw [ih, ih]
    cases h : wd c
    · rfl
    · have : dash c = c := by unfold dash; simp [h]
      rw [this]
def P (s : ByteArray) : ByteArray := ⟨(jn false false true s.data.toList).toArray⟩
def C (s : ByteArray) : ByteArray := ⟨(jn true false true s.data.toList).toArray⟩
def D (s : ByteArray) : ByteArray := ⟨((s.data.toList.filter wd).map dn).toArray⟩
theorem P_le (s : ByteArray) : (P s).size ≤ s.size := by
  have := jn_le false false true s.data.toList
  show (List.toArray _).size ≤ s.data.size
  simpa using this
theorem C_size (s : ByteArray) : (C s).size = (P s).size := by
  show (List.toArray _).size = (List.toArray _).size
  simpa using jn_len false true s.data.toList
theorem C_tail (s : ByteArray) : (C s).extract 1 (C s).size = (P s).extract 1 (P s).size := by
  apply ByteArray.ext
  rw [ByteArray.data_extract, ByteArray.data_extract]
  apply Array.toList_inj.1
  rw [Array.toList_extract, Array.toList_extract, List.extract_eq_take_drop, List.extract_eq_take_drop]
  have h := jn_tail s.data.toList
  have e1 : (C s).data.toList.drop 1 = (jn true false true s.data.toList).tail := by simp [C]
  have e2 : (P s).data.toList.drop 1 = (jn false false true s.data.toList).tail := by simp [P]
  rw [e1, e2, h, C_size]
theorem p_any (s : ByteArray) (w : World) (hs : s.size ≤ 200) : Calls Try.prog 9 #[.string s, .int .i64 5] w fun e w' => e = .returned (.tuple #[.string (P s), .int .i64 0]) ∧ Below w.heap.size w w' := turn_any s 5 w (by omega)
theorem c_any (s : ByteArray) (w : World) (hs : s.size ≤ 200) : Calls Try.prog 9 #[.string s, .int .i64 4] w fun e w' => e = .returned (.tuple #[.string (C s), .int .i64 0]) ∧ Below w.heap.size w w' := turn_any s 4 w (by omega)
theorem x_any (s : ByteArray) (w : World) (hs : s.size ≤ 200) : Calls Try.prog 9 #[.string (P s), .int .i64 2] w fun e w' => e = .returned (.tuple #[.string (D s), .int .i64 0]) ∧ Below w.heap.size w w' := by
  have h := turn_any (P s) 2 w (by have := P_le s; omega)
  have e : turn (P s).data.toList 2 = (s.data.toList.filter wd).map dn := by
    show (jn false false true s.data.toList).map dn = _
    exact dn_jn _ _ _
  rw [e] at h
  exact h
theorem y_any (s K : ByteArray) (w : World) (hs : s.size ≤ 200) (hK : K.data.toList = s.data.toList.filter wd) : Calls Try.prog 9 #[.string K, .int .i64 2] w fun e w' => e = .returned (.tuple #[.string (D s), .int .i64 0]) ∧ Below w.heap.size w w' := by
  have hz : K.size ≤ s.size := by
    have h1 : K.data.toList.length = K.size := by simp
    have h2 : s.data.toList.length = s.size := by simp
    have h3 := List.length_filter_le wd s.data.toList
    rw [← hK] at h3
    omega
  have h := turn_any K 2 w (by omega)
  have e : turn K.data.toList 2 = (s.data.toList.filter wd).map dn := by
    show K.data.toList.map dn = _
    rw [hK]
  rw [e] at h
  exact h
theorem z_any (s : ByteArray) (w : World) (hs : s.size ≤ 200) : Calls Try.prog 9 #[.string ⟨(s.data.toList.map dash).toArray⟩, .int .i64 5] w fun e w' => e = .returned (.tuple #[.string (P s), .int .i64 0]) ∧ Below w.heap.size w w' := by
  have hz : (ByteArray.mk (s.data.toList.map dash).toArray).size = s.size := by
    show (List.toArray _).size = s.data.size
    simp
  have h := turn_any ⟨(s.data.toList.map dash).toArray⟩ 5 w (by omega)
  have e : turn (ByteArray.mk (s.data.toList.map dash).toArray).data.toList 5 = jn false false true s.data.toList := by
    show jn false false true (s.data.toList.map dash) = _
    exact jn_dash _ _ _
  rw [e] at h
  exact h
theorem awake_q (w : World) (d : Nat) (os : Array Obj) : Calls Try.prog 8 #[] (grow (redrawn w d) os) fun e w'' => e = .returned (.bool true) ∧ ∃ p : Regrown, w'' = grow (redrawn w p.d) p.os := Calls.regrown_of (awake_any _)
/-- What is kept of the first k bytes. -/
def Kp (s : ByteArray) (k : Nat) (K : ByteArray) : Prop := K.size ≤ k ∧ K.data.toList = (s.data.toList.take k).filter wd
theorem Kp.start (s : ByteArray) : Kp s 0 ⟨#[]⟩ := ⟨Nat.le_refl _, rfl⟩
theorem one (s : ByteArray) (k : Nat) (h : k < s.size) : (s.extract k (k + 1)).data.toList = [s.data.toList[k]'(by simpa using h)] := by
  rw [ByteArray.data_extract, Array.toList_extract, List.extract_eq_take_drop, List.drop_eq_getElem_cons (by simpa using h)]
  simp
theorem Kp.yes {s K : ByteArray} {k : Nat} (h : Kp s k K) (hk : k < s.size) (hw : wd (s.data.toList[k]'(by simpa using hk)) = true) : Kp s (k + 1) (K ++ s.extract k (k + 1)) := by
  have h1 := h.1
  refine ⟨by rw [ByteArray.size_append, ByteArray.size_extract]; omega, ?_⟩
  rw [ByteArray.data_append, Array.toList_append, one s k hk, h.2, List.take_succ_eq_append_getElem (by simpa using hk), List.filter_append, List.filter_cons, hw]
  rfl
theorem Kp.no {s K : ByteArray} {k : Nat} (h : Kp s k K) (hk : k < s.size) (hw : wd (s.data.toList[k]'(by simpa using hk)) = false) : Kp s (k + 1) K := by
  have h1 := h.1
  refine ⟨by omega, ?_⟩
  rw [h.2, List.take_succ_eq_append_getElem (by simpa using hk), List.filter_append, List.filter_cons, hw]
  simp

set_option maxRecDepth 100000 in
set_option maxHeartbeats 8000000 in
theorem walk (a0 : ByteArray) (w0 : a0.size ≤ maxLen) (w : World) :
    Calls Try.prog 6 #[.string a0] w fun e w' => e = .returned (.bool true) ∧ Below w.heap.size w w' := by
  unfold maxLen at w0
  by_cases hs : 200 < a0.size
  · go_enter Try.func6, Try.ntmps6
    go_wp2_with fail
    refine (awake_any _).mono ?_
    rintro e w1 ⟨rfl, hb1⟩
    go_wp2
    go_ret
    exact ⟨rfl, hb1⟩
  have hs' : decide (200 < (a0.size : Int)) = false := by simp; omega
  have hz : a0.size ≤ 200 := by omega
  clear hs w0
  have hCP := Lib.hid (C_size a0)
  have hCT := Lib.hid (C_tail a0)
  have hP1 : (((C a0).size : Int) != ((P a0).size : Int)) = false := by rw [hCP.out]; simp
  go_enter Try.func6, Try.ntmps6
  go_wp2_with fail
  refine (p_any _ _ hz).mono ?_
  rintro e w1 ⟨rfl, hb1⟩
  go_wp2_with fail
  refine (c_any _ _ hz).mono ?_
  rintro e w2 ⟨rfl, hb2⟩
  have hB0 := bt hb1 hb2
  have hconv := conv_to a0 w2
  have hB := bt hB0 (cw_below a0 w2)
  have hR := cw_bts a0 w2
  have hcp := cap5_ge a0 w2
  have hge := hB0.size
  clear hb1 hb2 hB0
  go_wp2
  clear hconv
  generalize w2.heap.size = g at *
  generalize cw w2 a0 = W1 at *
  generalize cap5 w2 a0 = cp at *
  go_loopw [7, 9] (fun v i wr => ∃ (k : Nat) (K : ByteArray), k ≤ a0.size ∧ i = .int .i64 k ∧ v = .string K ∧ Kp a0 k K ∧ Bts wr g (mix dash a0.data.toList k) ∧ Below w.heap.size w wr) (fun _ i _ => a0.size - (intOf i).toNat)
  case atStart => exact ⟨0, _, Nat.zero_le _, rfl, rfl, Kp.start a0, by rw [mix_zero]; exact hR, hB⟩
  case round =>
    clear hR hB
    obtain ⟨k, K, hk, rfl, rfl, hK, hR, hB⟩ := hrel
    have hsz : a0.data.toList.length = a0.size := by simp
    by_cases hlt : k < a0.size
    · have hc := hR.2.1 k (by rw [mix_len]; omega)
      rw [mix_get dash _ k (by omega)] at hc
      have hf := hR.2.2 k (by rw [mix_len]; omega)
      have hn := hR.set k (dash (a0.data.toList[k]'(by omega))) (by rw [mix_len]; omega)
      rw [mix_succ dash _ k (by omega)] at hn
      have hms := mix_succ dash a0.data.toList k (by omega)
      have hyes := fun hw => hK.yes hlt hw
      have hno := fun hw => hK.no hlt hw
      have hKs := hK.1
      have hsame : wd (a0.data.toList[k]'(by omega)) = true → Bts wr g (mix dash a0.data.toList (k + 1)) := by
        intro hw
        rw [← hms]
        have e : dash (a0.data.toList[k]'(by omega)) = (mix dash a0.data.toList k)[k]'(by rw [mix_len]; omega) := by
          rw [mix_get dash _ k (by omega)]; unfold dash; rw [if_pos hw]
        rw [e, List.set_getElem_self]
        exact hR
      clear hms
      obtain ⟨c, hcv⟩ : ∃ c, a0.data.toList[k]'(by omega) = c := ⟨_, rfl⟩
      rw [hcv] at hc hn hyes hno hsame
      clear hcv hsz hK hR
      have hbd := c.toNat_lt
      rcases parts c.toNat with h | h | h | h | h | h | h | h
      · have e : wd c = false := by rw [wd_of]; simp; omega
        have t0 : decide ((48 : Int) ≤ (c.toNat : Int)) = false := by simp; omega
        have t1 : (c.toNat : Int) ≤ 57 := by omega
        have t2 : decide ((97 : Int) ≤ (c.toNat : Int)) = false := by simp; omega
        have t3 : (c.toNat : Int) ≤ 122 := by omega
        have t4 : decide ((65 : Int) ≤ (c.toNat : Int)) = false := by simp; omega
        have t5 : (c.toNat : Int) ≤ 90 := by omega
        have t6 : decide ((128 : Int) ≤ (c.toNat : Int)) = false := by simp; omega
        have hd : dash c = 45 := by unfold dash; rw [e]; rfl
        rw [hd] at hn
        have hn' : Bts (wr.setCell ⟨g, k, none⟩ (.int .u8 45)) g (mix dash a0.data.toList (k + 1)) := hn
        have hk' := hno e
        clear hn hyes hno hsame hd h
        clear e
        go_wp2
        go_roundw
        case rel => exact ⟨k + 1, _, by omega, by go_num, rfl, hk', hn', hB.setCell (p := ⟨g, k, none⟩) hge _⟩
        case measure => simp [intOf]; omega
      · have e : wd c = true := by rw [wd_of]; simp; omega
        have t0 : (48 : Int) ≤ (c.toNat : Int) := by omega
        have t1 : (c.toNat : Int) ≤ 57 := by omega
        have t2 : decide ((97 : Int) ≤ (c.toNat : Int)) = false := by simp; omega
        have t3 : (c.toNat : Int) ≤ 122 := by omega
        have t4 : decide ((65 : Int) ≤ (c.toNat : Int)) = false := by simp; omega
        have t5 : (c.toNat : Int) ≤ 90 := by omega
        have t6 : decide ((128 : Int) ≤ (c.toNat : Int)) = false := by simp; omega
        have hn' := hsame e
        have hk' := hyes e
        clear hn hyes hno hsame h
        clear e
        go_wp2
        go_roundw
        case rel => exact ⟨k + 1, _, by omega, by go_num, rfl, hk', hn', hB⟩
        case measure => simp [intOf]; omega
      · have e : wd c = false := by rw [wd_of]; simp; omega
        have t0 : (48 : Int) ≤ (c.toNat : Int) := by omega
        have t1 : decide ((c.toNat : Int) ≤ 57) = false := by simp; omega
        have t2 : decide ((97 : Int) ≤ (c.toNat : Int)) = false := by simp; omega
        have t3 : (c.toNat : Int) ≤ 122 := by omega
        have t4 : decide ((65 : Int) ≤ (c.toNat : Int)) = false := by simp; omega
        have t5 : (c.toNat : Int) ≤ 90 := by omega
        have t6 : decide ((128 : Int) ≤ (c.toNat : Int)) = false := by simp; omega
        have hd : dash c = 45 := by unfold dash; rw [e]; rfl
        rw [hd] at hn
        have hn' : Bts (wr.setCell ⟨g, k, none⟩ (.int .u8 45)) g (mix dash a0.data.toList (k + 1)) := hn
        have hk' := hno e
        clear hn hyes hno hsame hd h
        clear e
        go_wp2
        go_roundw
        case rel => exact ⟨k + 1, _, by omega, by go_num, rfl, hk', hn', hB.setCell (p := ⟨g, k, none⟩) hge _⟩
        case measure => simp [intOf]; omega
      · have e : wd c = true := by rw [wd_of]; simp; omega
        have t0 : (48 : Int) ≤ (c.toNat : Int) := by omega
        have t1 : decide ((c.toNat : Int) ≤ 57) = false := by simp; omega
        have t2 : decide ((97 : Int) ≤ (c.toNat : Int)) = false := by simp; omega
        have t3 : (c.toNat : Int) ≤ 122 := by omega
        have t4 : (65 : Int) ≤ (c.toNat : Int) := by omega
        have t5 : (c.toNat : Int) ≤ 90 := by omega
        have t6 : decide ((128 : Int) ≤ (c.toNat : Int)) = false := by simp; omega
        have hn' := hsame e
        have hk' := hyes e
        clear hn hyes hno hsame h
        clear e
        go_wp2
        go_roundw
        case rel => exact ⟨k + 1, _, by omega, by go_num, rfl, hk', hn', hB⟩
        case measure => simp [intOf]; omega
      · have e : wd c = false := by rw [wd_of]; simp; omega
        have t0 : (48 : Int) ≤ (c.toNat : Int) := by omega
        have t1 : decide ((c.toNat : Int) ≤ 57) = false := by simp; omega
        have t2 : decide ((97 : Int) ≤ (c.toNat : Int)) = false := by simp; omega
        have t3 : (c.toNat : Int) ≤ 122 := by omega
        have t4 : (65 : Int) ≤ (c.toNat : Int) := by omega
        have t5 : decide ((c.toNat : Int) ≤ 90) = false := by simp; omega
        have t6 : decide ((128 : Int) ≤ (c.toNat : Int)) = false := by simp; omega
        have hd : dash c = 45 := by unfold dash; rw [e]; rfl
        rw [hd] at hn
        have hn' : Bts (wr.setCell ⟨g, k, none⟩ (.int .u8 45)) g (mix dash a0.data.toList (k + 1)) := hn
        have hk' := hno e
        clear hn hyes hno hsame hd h
        clear e
        go_wp2
        go_roundw
        case rel => exact ⟨k + 1, _, by omega, by go_num, rfl, hk', hn', hB.setCell (p := ⟨g, k, none⟩) hge _⟩
        case measure => simp [intOf]; omega
      · have e : wd c = true := by rw [wd_of]; simp; omega
        have t0 : (48 : Int) ≤ (c.toNat : Int) := by omega
        have t1 : decide ((c.toNat : Int) ≤ 57) = false := by simp; omega
        have t2 : (97 : Int) ≤ (c.toNat : Int) := by omega
        have t3 : (c.toNat : Int) ≤ 122 := by omega
        have t4 : (65 : Int) ≤ (c.toNat : Int) := by omega
        have t5 : decide ((c.toNat : Int) ≤ 90) = false := by simp; omega
        have t6 : decide ((128 : Int) ≤ (c.toNat : Int)) = false := by simp; omega
        have hn' := hsame e
        have hk' := hyes e
        clear hn hyes hno hsame h
        clear e
        go_wp2
        go_roundw
        case rel => exact ⟨k + 1, _, by omega, by go_num, rfl, hk', hn', hB⟩
        case measure => simp [intOf]; omega
      · have e : wd c = false := by rw [wd_of]; simp; omega
        have t0 : (48 : Int) ≤ (c.toNat : Int) := by omega
        have t1 : decide ((c.toNat : Int) ≤ 57) = false := by simp; omega
        have t2 : (97 : Int) ≤ (c.toNat : Int) := by omega
        have t3 : decide ((c.toNat : Int) ≤ 122) = false := by simp; omega
        have t4 : (65 : Int) ≤ (c.toNat : Int) := by omega
        have t5 : decide ((c.toNat : Int) ≤ 90) = false := by simp; omega
        have t6 : decide ((128 : Int) ≤ (c.toNat : Int)) = false := by simp; omega
        have hd : dash c = 45 := by unfold dash; rw [e]; rfl
        rw [hd] at hn
        have hn' : Bts (wr.setCell ⟨g, k, none⟩ (.int .u8 45)) g (mix dash a0.data.toList (k + 1)) := hn
        have hk' := hno e
        clear hn hyes hno hsame hd h
        clear e
        go_wp2
        go_roundw
        case rel => exact ⟨k + 1, _, by omega, by go_num, rfl, hk', hn', hB.setCell (p := ⟨g, k, none⟩) hge _⟩
        case measure => simp [intOf]; omega
      · have e : wd c = true := by rw [wd_of]; simp; omega
        have t0 : (48 : Int) ≤ (c.toNat : Int) := by omega
        have t1 : decide ((c.toNat : Int) ≤ 57) = false := by simp; omega
        have t2 : (97 : Int) ≤ (c.toNat : Int) := by omega
        have t3 : decide ((c.toNat : Int) ≤ 122) = false := by simp; omega
        have t4 : (65 : Int) ≤ (c.toNat : Int) := by omega
        have t5 : decide ((c.toNat : Int) ≤ 90) = false := by simp; omega
        have t6 : (128 : Int) ≤ (c.toNat : Int) := by omega
        have hn' := hsame e
        have hk' := hyes e
        clear hn hyes hno hsame h
        clear e
        go_wp2
        go_roundw
        case rel => exact ⟨k + 1, _, by omega, by go_num, rfl, hk', hn', hB⟩
        case measure => simp [intOf]; omega
    · obtain rfl : a0.size = k := by omega
      rw [← hsz, mix_all] at hR
      have hb := hR.back a0.size cp (by simp)
      have hKf : K.data.toList = a0.data.toList.filter wd := by rw [hK.2, List.take_of_length_le (by omega)]
      have HK := Lib.hid hKf
      clear hsz hKf hK
      go_wp2_with fail
      refine (x_any a0 _ hz).mono ?_
      rintro e w3 ⟨rfl, hb3⟩
      have hR2 := hR
      go_wp2_with fail
      refine (y_any a0 K _ hz HK.out).mono ?_
      rintro e w4 ⟨rfl, hb4⟩
      have hR4 := (hR.below hb3).below hb4
      clear hb hR hR2
      have hb := hR4.back a0.size cp (by simp)
      go_wp2_with fail
      refine (z_any a0 _ hz).mono ?_
      rintro e w5 ⟨rfl, hb5⟩
      have hBB := bt (bt (bt hB hb3) hb4) hb5
      clear hb hR4 hB hb3 hb4 hb5
      by_cases hp : (P a0).size = 0
      · have hp1 : (((P a0).size : Int) == 0) = true := by rw [hp]; rfl
        clear hp
        go_wp2
        have cA := awake_q w5
        refine wp_region_quiet_below (by kernel_rfl) (by kernel_rfl) ?_
        repeat (quiet_step (with_reducible exact cA _ _))
        refine wpQuiet_nil ?_
        intro _ hw'
        obtain ⟨⟨dq, osq⟩, hw''⟩ := hw'
        subst hw''
        go_wp2
        go_ret
        exact ⟨rfl, bt hBB (below_regrown w5 dq osq)⟩
      · have hp1 : (((P a0).size : Int) == 0) = false := by simp only [beq_eq_false_iff_ne]; omega
        have hq1 : 1 ≤ (P a0).size := by omega
        have hq2 : 1 ≤ (C a0).size := by rw [hCP.out]; exact hq1
        have ht := hCT.out
        have hq3 : (1 : Int) ≤ ((P a0).size : Int) := by omega
        have hq4 : (1 : Int) ≤ ((C a0).size : Int) := by omega
        go_wp2
        have cA := awake_q w5
        refine wp_region_quiet_below (by kernel_rfl) (by kernel_rfl) ?_
        repeat (quiet_step (with_reducible exact cA _ _))
        refine wpQuiet_nil ?_
        intro _ hw'
        obtain ⟨⟨dq, osq⟩, hw''⟩ := hw'
        subst hw''
        go_wp2
        go_ret
        exact ⟨rfl, bt hBB (below_regrown w5 dq osq)⟩
end Go.Proofs.Ytnjeicaikcnpdaa.casingWords
