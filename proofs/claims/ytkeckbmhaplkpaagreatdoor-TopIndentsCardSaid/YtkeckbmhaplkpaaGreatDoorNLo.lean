/- What tally.Of, Tally.Plus and tally.Upto answer of texts not known. -/
import Derived.Test.YtkeckbmhaplkpaaGreatDoorNTabs
import Derived.Test.YtkeckbmhaplkpaaGreatDoorNEvC
import Derived.Test.YtkeckbmhaplkpaaGreatDoorNTl
import Derived.Test.YtkeckbmhaplkpaaGreatDoorNGu
import Derived.Test.YtkeckbmhaplkpaaGreatDoorNGr
namespace Go.Proofs.YtkeckbmhaplkpaaGreatDoor.Ln
open Go Go.RowKit
variable {Φ : Fact}
open Go.Proofs.YtkeckbmhaplkpaaGreatDoor.Tl (of_any plus_any upto_any uptoR)
open Go.Proofs.YtkeckbmhaplkpaaGreatDoor.Tl.M

theorem natBle' {a b : Nat} (h : Nat.ble a b = true) : a ≤ b := Nat.le_of_ble_eq_true h
theorem byte_size (θ : Env) (x : List Nat) : (⟨(x.map θ.byte).toArray⟩ : ByteArray).size = x.length := by
  show (x.map θ.byte).toArray.size = x.length
  simp
theorem txt_size (θ : Env) (t : Txt) : (⟨(t.bytes θ).toArray⟩ : ByteArray).size = (t.bytes θ).length := by
  show (t.bytes θ).toArray.size = _
  simp
/-- Names for numbers that are not known. -/
theorem leads_env {D : Nat → Prop} {n n' : Nat} {θ θ' : Env} {h : Heap} {w w' : World} (hi : Inv Φ D n θ h w) (b : Below w.heap.size w w') (hs : Env.same (· < n) θ θ') (hn : n ≤ n') : Leads D n θ h w n' θ' h w' where
  le := hn
  same := hs
  rel := {
    obj := fun y o hy => by
      by_cases hd : o = .dead
      · subst hd; trivial
      · exact ObjIs.move (hs.mono hi.lt) (hi.ok y o hy).1 (hi.ok y o hy).2 (b.block _ (hi.rel.lt y ⟨o, hy, hd⟩)) (hi.rel.obj y o hy)
    sep := fun y z hy hz e => by
      obtain ⟨o, h1, _⟩ := hy
      obtain ⟨o', h2, _⟩ := hz
      rw [(hs y (hi.lt y (hi.ok y o h1).1)).1, (hs z (hi.lt z (hi.ok z o' h2).1)).1] at e
      exact hi.rel.sep y z ⟨o, h1, by assumption⟩ ⟨o', h2, by assumption⟩ e
    lt := fun y hy => by
      obtain ⟨o, h1, h2⟩ := hy
      rw [(hs y (hi.lt y (hi.ok y o h1).1)).1]
      exact Nat.lt_of_lt_of_le (hi.rel.lt y ⟨o, h1, h2⟩) b.size }
  ok := fun y o e => ⟨.inl (hi.ok y o e).1, MObj.ok_mono up_mono (hi.ok y o e).2⟩
  os := b.os
  tape := b.tape
  output := b.output
  size := b.size
  kept := fun k hk _ => b.block k hk
  born := fun y hy => by
    obtain ⟨o, h1, h2⟩ := hy
    exact .inl ⟨y, ⟨o, h1, h2⟩, (hs y (hi.lt y (hi.ok y o h1).1)).1.symm⟩
/-- Three of them. -/
def three (θ : Env) (n a b c : Nat) : Env := ((θ.upd n 0 0 a).upd (n + 1) 0 0 b).upd (n + 2) 0 0 c
theorem three_same (θ : Env) (n a b c : Nat) : Env.same (· < n) θ (three θ n a b c) :=
  ((upd_same (θ := θ) (n := n) (b := 0) (o := 0) (c := a) fun _ hy => hy).trans (upd_same (θ := θ.upd n 0 0 a) (n := n + 1) (b := 0) (o := 0) (c := b) fun _ hy => Nat.lt_succ_of_lt hy) fun _ hy => hy).trans
    (upd_same (θ := (θ.upd n 0 0 a).upd (n + 1) 0 0 b) (n := n + 2) (b := 0) (o := 0) (c := c) fun _ (hy : _ < n) => by omega) fun _ hy => hy
theorem three_1 (θ : Env) (n a b c : Nat) : (three θ n a b c).cap n = a := by simp [three, Env.upd]
theorem three_2 (θ : Env) (n a b c : Nat) : (three θ n a b c).cap (n + 1) = b := by simp [three, Env.upd]
theorem three_3 (θ : Env) (n a b c : Nat) : (three θ n a b c).cap (n + 2) = c := by simp [three, Env.upd]
theorem byte_nat (θ : Env) {b : Nat} (h : b < 256) : (θ.byte b).toNat = b := by
  unfold Env.byte
  rw [if_pos h]
  simp; omega
theorem byte_two (θ : Env) {b : Nat} (h : ¬ b < 256) : (θ.byte b).toNat = 9 ∨ (θ.byte b).toNat = 32 := by
  unfold Env.byte
  rw [if_neg h]
  rcases θ.thick (b - 256) with e | e <;> rw [e]
  · exact .inl rfl
  · exact .inr rfl
theorem wK_byte (θ : Env) (b : Nat) : wK ((θ.byte b).toNat : Int) = if b = 10 then 1 else 0 := by
  unfold wK
  by_cases h : b < 256
  · rw [byte_nat θ h]
    by_cases hb : b = 10
    · subst hb; rfl
    · rw [if_neg (by omega), if_neg hb]
  · rw [if_neg (by rcases byte_two θ h with e | e <;> rw [e] <;> omega), if_neg (by omega)]

/-! ### tally.Of -/
theorem addB_eq (b : Bool) (n : Nat) : addB b n = if b = true then n + 1 else n := by cases b <;> rfl
theorem ble_eq (a b : Nat) : Nat.ble a b = decide (a ≤ b) := by
  cases h : Nat.ble a b
  · exact (decide_eq_false fun h2 => by rw [Nat.ble_eq_true_of_le h2] at h; cases h).symm
  · exact (decide_eq_true (Nat.le_of_ble_eq_true h)).symm
theorem addB_add (b : Bool) (n : Nat) : addB b n = n + addB b 0 := by cases b <;> rfl
theorem wR_nat (b : Nat) : wR (b : Int) = (addB (Bool.or (Nat.ble b 127) (Nat.ble 192 b)) 0 : Nat) := by
  rw [addB_eq, ble_eq, ble_eq]
  unfold wR
  by_cases h5 : b ≤ 127
  · rw [if_pos (by omega)]; simp [h5]
  · rw [if_neg (by omega)]
    by_cases h6 : 192 ≤ b
    · rw [if_neg (by omega)]; simp [h6]
    · rw [if_pos (by omega)]; simp [h5, h6]
theorem wU_nat (b : Nat) : wU (b : Int) = (addB (Nat.ble 240 b) (addB (Bool.or (Nat.ble b 127) (Nat.ble 192 b)) 0) : Nat) := by
  rw [addB_eq, addB_eq, ble_eq, ble_eq, ble_eq]
  unfold wU
  by_cases h5 : b ≤ 127
  · rw [if_pos (by omega)]
    have : ¬ 240 ≤ b := by omega
    simp [h5, this]
  · rw [if_neg (by omega)]
    by_cases h6 : 192 ≤ b
    · rw [if_neg (by omega)]
      by_cases h7 : 240 ≤ b
      · rw [if_neg (by omega)]; simp [h6, h7]
      · rw [if_pos (by omega)]; simp [h6, h7]
    · rw [if_pos (by omega)]
      have : ¬ 240 ≤ b := by omega
      simp [h5, h6, this]
theorem wR_byte (θ : Env) (b : Nat) : wR ((θ.byte b).toNat : Int) = (addB (runeB b) 0 : Nat) := by
  unfold runeB
  by_cases h : b < 256
  · rw [byte_nat θ h, wR_nat]
  · rw [addB_eq, ble_eq, ble_eq]
    have e : wR ((θ.byte b).toNat : Int) = 1 := by rcases byte_two θ h with e | e <;> rw [e] <;> rfl
    rw [e]
    have : 192 ≤ b := by omega
    simp [this]
theorem wU_byte (θ : Env) (b : Nat) : wU ((θ.byte b).toNat : Int) = (addB (longB b) (addB (runeB b) 0) : Nat) := by
  unfold runeB longB lit
  by_cases h : b < 256
  · rw [byte_nat θ h, wU_nat]
    have : Nat.ble b 255 = true := by rw [ble_eq]; simp; omega
    rw [this, Bool.and_true]
  · have e : wU ((θ.byte b).toNat : Int) = 1 := by rcases byte_two θ h with e | e <;> rw [e] <;> rfl
    rw [e]
    have : Nat.ble b 255 = false := by rw [ble_eq]; simp; omega
    rw [this, Bool.and_false]
    rw [addB_eq, addB_eq, ble_eq, ble_eq]
    have : 192 ≤ b := by omega
    simp [this]
theorem cntOf_is (θ : Env) (l : List Nat) : ∀ (c : Cnt) (k : Cnt → Option An), ∃ c', cntOf l c k = k c' ∧ c'.bs = c.bs + l.length ∧ (c'.br : Int) = c.br + tot wK (l.map θ.byte) ∧
    (c'.ru : Int) = c.ru + tot wR (l.map θ.byte) ∧ (c'.un : Int) = c.un + tot wU (l.map θ.byte) := by
  induction l with
  | nil => intro c k; exact ⟨c, rfl, rfl, by simp [tot], by simp [tot], by simp [tot]⟩
  | cons b l ih =>
    intro c k
    obtain ⟨c', h1, h2, h3, h4, h5⟩ := ih ⟨Nat.succ c.bs, addB (Nat.beq b 10) c.br, addB (runeB b) c.ru, addB (longB b) (addB (runeB b) c.un)⟩ k
    refine ⟨c', ?_, ?_, ?_, ?_, ?_⟩
    · rw [← h1]
      show fnat _ (fun br => fnat _ fun ru => fnat _ fun un => cntOf l ⟨Nat.succ c.bs, br, ru, un⟩ k) = _
      simp only [fnat_eq]
    · rw [h2]; simp only [List.length_cons]; omega
    · rw [h3]
      simp only [List.map_cons, tot]
      rw [wK_byte θ b, addB_eq]
      by_cases hb : b = 10
      · subst hb; simp; omega
      · have : Nat.beq b 10 = false := by rw [natBeq]; simpa using hb
        rw [this]; simp [hb]
    · rw [h4]
      simp only [List.map_cons, tot]
      rw [wR_byte θ b, addB_add]
      omega
    · rw [h5]
      simp only [List.map_cons, tot]
      rw [wU_byte θ b, addB_add, addB_add _ c.un, addB_add (longB b) (addB _ 0)]
      omega
theorem num_real (θ : Env) (y m : Nat) {a : Int} (h0 : 0 ≤ a) (h1 : a < m) (hc : θ.cap y = a.toNat) : (MV.num y m 0).real θ = .int .i64 a := by
  simp only [MV.real]
  rw [hc, Nat.mod_eq_of_lt (by omega)]
  congr 1
  show ((a.toNat + 0 : Nat) : Int) = a
  omega
theorem tly_ok {D : Nat → Prop} {a b c d : MV} (ha : a.ok D) (hb : b.ok D) (hc : c.ok D) (hd : d.ok D) (h1 : a.one) (h2 : b.one) (h3 : c.one) (h4 : d.one) : (tlyMV a b c d).ok D := by
  simp only [tlyMV, MV.ok, oks]
  refine ⟨⟨ha, hb, hc, hd, trivial⟩, fun v hv => ?_⟩
  simp only [List.mem_cons, List.not_mem_nil, or_false] at hv
  rcases hv with rfl | rfl | rfl | rfl <;> assumption
theorem one_real {v : MV} {θ : Env} {z : Int} (h : v.real θ = .int .i64 z) : v.one := by
  cases v <;> first | trivial | (simp only [MV.real] at h; cases h)
theorem of_ok {args : List MV} {h : Heap} {n : Nat} {r : R} (e : oOf args h n = some (some r)) : FnOk Φ Tryz.prog 244 args h n r := by
  unfold oOf at e
  split at e
  · rename_i l
    split at e
    · rename_i hl
      have hl := Nat.le_of_ble_eq_true hl
      rw [llen_eq] at hl
      intro D θ w hi ha
      obtain ⟨c, h1, h2, h3, h4, h5⟩ := cntOf_is θ l ⟨0, 0, 0, 0⟩ fun c => some (some ⟨tlyMV (numMV c.bs) (numMV c.br) (numMV c.ru) (numMV c.un), h, n⟩)
      rw [h1, Option.some.injEq, Option.some.injEq] at e
      subst e
      have hsz := byte_size θ l
      have hlen : (l.map θ.byte).length = l.length := by simp
      refine .inl ⟨enter_fn Tryz.func244 (by kernel_rfl) (by rfl) _ w, ?_⟩
      simp only [reals, MV.real]
      refine (of_any ⟨(l.map θ.byte).toArray⟩ w (by rw [hsz]; omega)).mono ?_
      rintro ex w' ⟨rfl, hb⟩
      have t1 : tot Tl.M.one (l.map θ.byte) = (c.bs : Int) := by rw [tot_one, hlen, h2]; simp
      have t2 : tot wK (l.map θ.byte) = (c.br : Int) := by rw [h3]; simp
      have t3 : tot wR (l.map θ.byte) = (c.ru : Int) := by rw [h4]; simp
      have t4 : tot wU (l.map θ.byte) = (c.un : Int) := by rw [h5]; simp
      simp only [t1, t2, t3, t4]
      refine ⟨θ, ?_, leads_below hi hb, tly_ok ?_ ?_ ?_ ?_ ?_ ?_ ?_ ?_⟩ <;> first | (simp only [tlyMV, MV.real, reals, numMV]; rfl) | (simp only [numMV, MV.ok]; done) | trivial
    · cases e
  · rename_i t
    unfold oOfT at e
    split at e
    · cases e
    rename_i hm
    have hm := Nat.le_of_ble_eq_true hm
    split at e
    · cases e
    rename_i b hb
    simp only [fnat_eq, Option.some.injEq] at e
    subst e
    intro D θ w hi ha
    simp only [oks, MV.ok] at ha
    obtain ⟨o, er⟩ := lenT_ok θ ha.1 hb
    have bd := bytes_bd θ (wf_ok ha.1)
    refine .inl ⟨enter_fn Tryz.func244 (by kernel_rfl) (by rfl) _ w, ?_⟩
    simp only [reals, MV.real]
    refine (of_any ⟨(t.bytes θ).toArray⟩ w (by rw [txt_size]; omega)).mono ?_
    rintro ex w' ⟨rfl, hbl⟩
    have t1 : tot Tl.M.one (t.bytes θ) = ((t.bytes θ).length : Int) := tot_one _
    have bK := tot_bd wK wK_bd (t.bytes θ)
    have bR := tot_bd wR wR_bd (t.bytes θ)
    have bU := tot_bd wU wU_bd (t.bytes θ)
    generalize hK : tot wK (t.bytes θ) = vK at *
    generalize hR : tot wR (t.bytes θ) = vR at *
    generalize hU : tot wU (t.bytes θ) = vU at *
    have hs := three_same θ n vK.toNat vR.toNat vU.toNat
    refine ⟨three θ n vK.toNat vR.toNat vU.toNat, ?_, leads_env hi hbl hs (by simp only; omega), tly_ok (o _) ?_ ?_ ?_ (one_real er) trivial trivial trivial⟩
    · have e0 : b.real (three θ n vK.toNat vR.toNat vU.toNat) = .int .i64 ((t.bytes θ).length : Int) := by
        rw [← er]
        exact MV.real_same hs (o _)
      have e1 := num_real (three θ n vK.toNat vR.toNat vU.toNat) n 10000 (a := vK) (by omega) (by omega) (three_1 ..)
      have e2 := num_real (three θ n vK.toNat vR.toNat vU.toNat) (n + 1) 10000 (a := vR) (by omega) (by omega) (three_2 ..)
      have e3 := num_real (three θ n vK.toNat vR.toNat vU.toNat) (n + 2) 10000 (a := vU) (by omega) (by omega) (three_3 ..)
      simp only [tlyMV, t1]
      simp only [MV.real, reals] at e0 e1 e2 e3 ⊢
      rw [e0, e1, e2, e3]
    · simp only [MV.ok]; exact .inr ⟨Nat.le_refl _, by omega⟩
    · simp only [MV.ok]; exact .inr ⟨by omega, by omega⟩
    · simp only [MV.ok]; exact .inr ⟨by omega, by omega⟩
  · cases e

/-! ### Tally.Plus -/
theorem capN_ok {v : MV} {c : Nat} (e : capN v = some c) (θ : Env) (hv : ∀ y m q, v = .num y m q → 1 ≤ m) : ∃ a : Nat, v.real θ = .int .i64 (a : Int) ∧ a < c ∧ (isNum v = false → v = .int .i64 (.ofNat a) ∧ c = a + 1) := by
  unfold capN at e
  split at e
  · rename_i a
    obtain rfl := Option.some.inj e
    exact ⟨a, rfl, Nat.lt_succ_self _, fun _ => ⟨rfl, rfl⟩⟩
  · rename_i y m q
    obtain rfl := Option.some.inj e
    refine ⟨θ.cap y % m + q, rfl, ?_, fun h => by cases h⟩
    have := Nat.mod_lt (θ.cap y) (hv y m q rfl)
    show _ < m + q
    omega
  · cases e
theorem okNum_ok {v : MV} (h : okNum v = true) (y m q : Nat) (e : v = .num y m q) : 1 ≤ m := by
  subst e
  exact Nat.le_of_ble_eq_true h
theorem addMV_ok {x y v : MV} (θ : Env) {D : Nat → Prop} (hx : x.ok D) (hy : y.ok D) (h : addMV x y = some v) : (∀ D, v.ok D) ∧ v.one ∧ ∃ a b : Int, x.real θ = .int .i64 a ∧ y.real θ = .int .i64 b ∧ v.real θ = .int .i64 (a + b) ∧ -4000001 ≤ a + b ∧ a + b ≤ 4000001 := by
  unfold addMV at h
  split at h
  · rename_i a
    split at h
    · rename_i b
      split at h
      · rename_i hb
        have hb := natBle' hb
        change a + b ≤ _ at hb
        rw [fnat_eq] at h
        obtain rfl := Option.some.inj h
        refine ⟨fun D => by simp [numMV, MV.ok], trivial, (a : Int), (b : Int), rfl, rfl, ?_, by omega, by omega⟩
        simp only [numMV, MV.real]
        congr 1
      · cases h
    · rename_i z lo hi c
      split at h
      · rename_i hb
        have hb := natBle' hb
        obtain ⟨rfl, h2⟩ := mkLin_some h
        have b2 := linB_ok h2
        have bd := lin_bd θ z h2
        simp only [MV.ok] at hy
        have b1 := linB_ok hy
        have hf := θ.fit_len z b1.1
        refine ⟨fun D => by simpa only [MV.ok] using h2, trivial, (a : Int), _, rfl, by simp only [MV.real]; rfl, ?_, ?_, ?_⟩
        · simp only [MV.real]
          congr 1
          show _ + ((a : Int) + c) = (a : Int) + (_ + c)
          omega
        · have e : Int.add (Int.ofNat a) c = (a : Int) + c := rfl
          rw [e] at b2
          simp only [Int.ofNat_eq_natCast]
          omega
        · have e : Int.add (Int.ofNat a) c = (a : Int) + c := rfl
          rw [e] at b2
          simp only [Int.ofNat_eq_natCast]
          omega
      · cases h
    · cases h
  · rename_i z lo hi c
    split at h
    · rename_i b
      split at h
      · rename_i hb
        have hb := natBle' hb
        obtain ⟨rfl, h2⟩ := mkLin_some h
        have b2 := linB_ok h2
        simp only [MV.ok] at hx
        have b1 := linB_ok hx
        have hf := θ.fit_len z b1.1
        refine ⟨fun D => by simpa only [MV.ok] using h2, trivial, _, (b : Int), by simp only [MV.real]; rfl, rfl, ?_, ?_, ?_⟩
        · simp only [MV.real]
          congr 1
          show _ + (c + (b : Int)) = (_ + c) + (b : Int)
          omega
        · have e : Int.add c (Int.ofNat b) = c + (b : Int) := rfl
          rw [e] at b2
          simp only [Int.ofNat_eq_natCast]
          omega
        · have e : Int.add c (Int.ofNat b) = c + (b : Int) := rfl
          rw [e] at b2
          simp only [Int.ofNat_eq_natCast]
          omega
      · cases h
    · cases h
  · cases h
/-- What a sum of two numbers comes to: known, or as the name's room tells. -/
theorem oSum_ok {x y v : MV} {m : Nat} (θ : Env) (h : oSum x y m = some v) : v.one ∧ ∃ a b : Nat, x.real θ = .int .i64 (a : Int) ∧ y.real θ = .int .i64 (b : Int) ∧ a + b ≤ 1000000000 ∧ (∀ D : Nat → Prop, D m → v.ok D) ∧ ∀ θ' : Env, θ'.cap m = a + b → v.real θ' = .int .i64 ((a + b : Nat) : Int) := by
  unfold oSum at h
  split at h
  · cases h
  rename_i hk
  simp only [Bool.and_eq_true] at hk
  split at h
  · cases h
  rename_i c hc
  split at h
  · cases h
  rename_i d hd
  obtain ⟨a, p1, p2, p3⟩ := capN_ok hc θ (okNum_ok hk.1)
  obtain ⟨b, q1, q2, q3⟩ := capN_ok hd θ (okNum_ok hk.2)
  split at h
  · cases h
  rename_i hb
  have hb := natBle' hb
  change c + d ≤ _ at hb
  split at h
  · rename_i hn
    simp only [Bool.or_eq_false_iff] at hn
    obtain ⟨rfl, rfl⟩ := p3 hn.1
    obtain ⟨rfl, rfl⟩ := q3 hn.2
    rw [fnat_eq] at h
    obtain rfl := Option.some.inj h
    refine ⟨trivial, a, b, rfl, rfl, by omega, fun D _ => by simp [numMV, MV.ok], fun θ' _ => ?_⟩
    have e1 : Nat.pred (Nat.pred (Nat.add (a + 1) (b + 1))) = a + b := by show (a + 1 + (b + 1)) - 1 - 1 = a + b; omega
    rw [e1]
    rfl
  · rw [fnat_eq] at h
    obtain rfl := Option.some.inj h
    refine ⟨trivial, a, b, p1, q1, by omega, fun D hD => by simpa only [MV.ok] using hD, fun θ' hc => ?_⟩
    simp only [MV.real]
    rw [hc, Nat.mod_eq_of_lt (by show a + b < c + d; omega)]
    rfl
theorem plus_ok {args : List MV} {h : Heap} {n : Nat} {r : R} (e : oPlus args h n = some (some r)) : FnOk Φ Tryz.prog 297 args h n r := by
  unfold oPlus at e
  split at e
  · rename_i a b c d a' b' c' d'
    split at e
    · cases e
    rename_i s hs
    simp only [fnat_eq] at e
    split at e
    · cases e
    rename_i x hx
    split at e
    · cases e
    rename_i y hy
    split at e
    · cases e
    rename_i z hz
    simp only [Option.some.injEq] at e
    subst e
    intro D θ w hi ha
    simp only [oks, MV.ok] at ha
    obtain ⟨so, s1, p0, q0, g0, k0, e0, l0, u0⟩ := addMV_ok θ ha.1.1.1 ha.2.1.1.1 hs
    obtain ⟨x1, p1, q1, g1, k1, u1, xo, e1⟩ := oSum_ok θ hx
    obtain ⟨y1, p2, q2, g2, k2, u2, yo, e2⟩ := oSum_ok θ hy
    obtain ⟨z1, p3, q3, g3, k3, u3, zo, e3⟩ := oSum_ok θ hz
    refine .inl ⟨enter_fn Tryz.func297 (by kernel_rfl) (by rfl) _ w, ?_⟩
    have er : (reals θ [.agg [a, b, c, d], .agg [a', b', c', d']]).toArray =
        #[.agg #[.int .i64 p0, .int .i64 (p1 : Int), .int .i64 (p2 : Int), .int .i64 (p3 : Int)], .agg #[.int .i64 q0, .int .i64 (q1 : Int), .int .i64 (q2 : Int), .int .i64 (q3 : Int)]] := by
      simp only [reals, MV.real, g0, g1, g2, g3, k0, k1, k2, k3]
    rw [er]
    refine (plus_any p0 p1 p2 p3 q0 q1 q2 q3 w (by omega) (by omega) (by omega) (by omega) (by omega) (by omega) (by omega) (by omega)).mono ?_
    rintro ex w' ⟨rfl, hbl⟩
    have hsm := three_same θ n (p1 + q1) (p2 + q2) (p3 + q3)
    refine ⟨three θ n (p1 + q1) (p2 + q2) (p3 + q3), ?_, leads_env hi hbl hsm (by simp only; omega), tly_ok (so _) (xo _ (.inr ⟨Nat.le_refl _, by simp only; omega⟩)) (yo _ (.inr ⟨by omega, by simp only; omega⟩)) (zo _ (.inr ⟨by omega, by simp only; omega⟩)) s1 x1 y1 z1⟩
    have e0' : s.real (three θ n (p1 + q1) (p2 + q2) (p3 + q3)) = .int .i64 (p0 + q0) := by
      rw [← e0]
      exact MV.real_same hsm (so _)
    simp only [tlyMV, MV.real, reals]
    rw [e0', e1 _ (three_1 ..), e2 _ (three_2 ..), e3 _ (three_3 ..)]
    simp only [Int.natCast_add]
  · cases e

/-! ### tally.Upto -/
theorem brkAt_is (θ : Env) (l : List Nat) : ∀ (k i : Nat), brkAt l k i = i + upto (wBy 3) (l.map θ.byte) k := by
  induction l with
  | nil => intro k i; rfl
  | cons b l ih =>
    intro k i
    show @Bool.rec (fun _ => Nat) (brkAt l k (Nat.succ i)) (@Bool.rec (fun _ => Nat) (brkAt l (Nat.pred k) (Nat.succ i)) i (Nat.beq k 0)) (Nat.beq b 10) = _
    simp only [List.map_cons, upto]
    have hw : wBy 3 ((θ.byte b).toNat : Int) = if b = 10 then 1 else 0 := by
      rw [← wK_byte θ b]
      simp [wBy, byF]
    rw [hw]
    cases hb : Nat.beq b 10
    · have nb := Nat.ne_of_beq_eq_false hb
      rw [if_neg nb, if_neg (by omega)]
      show brkAt l k (i + 1) = _
      rw [ih, Int.sub_zero]
      omega
    · have eb := Nat.eq_of_beq_eq_true hb
      rw [if_pos eb]
      cases hk : Nat.beq k 0
      · have nk := Nat.ne_of_beq_eq_false hk
        rw [if_neg (by omega)]
        show brkAt l (k - 1) (i + 1) = _
        rw [ih, show ((k : Int) - 1) = ((k - 1 : Nat) : Int) by omega]
        omega
      · have ek := Nat.eq_of_beq_eq_true hk
        subst ek
        rw [if_pos (by omega)]
        rfl
theorem upto_ok {args : List MV} {h : Heap} {n : Nat} {r : R} (e : oUpto args h n = some (some r)) : FnOk Φ Tryz.prog 250 args h n r := by
  unfold oUpto at e
  split at e
  · rename_i l k
    split at e
    · rename_i hb
      simp only [Bool.and_eq_true] at hb
      have h1 := Nat.le_of_ble_eq_true hb.1
      have h2 := Nat.le_of_ble_eq_true hb.2
      rw [llen_eq] at h1
      simp only [fnat_eq, Option.some.injEq] at e
      subst e
      intro D θ w hi ha
      refine .inl ⟨enter_fn Tryz.func250 (by kernel_rfl) (by rfl) _ w, ?_⟩
      have er : (reals θ [.str l, .int .i64 (.ofNat 3), .int .i64 (.ofNat k)]).toArray = #[.string ⟨(l.map θ.byte).toArray⟩, .int .i64 3, .int .i64 (k : Int)] := by
        simp only [reals, MV.real]
        rfl
      rw [er]
      refine (upto_any ⟨(l.map θ.byte).toArray⟩ 3 k w (by rw [byte_size]; omega) (by omega)).mono ?_
      rintro ex w' ⟨rfl, hbl⟩
      refine ⟨θ, ?_, leads_below hi hbl, by simp [numMV, MV.ok]⟩
      have hu : uptoR ⟨(l.map θ.byte).toArray⟩ 3 k = ((upto (wBy 3) (l.map θ.byte) k : Nat) : Int) := by
        unfold uptoR
        rw [if_neg (by omega)]
      rw [hu]
      simp only [numMV, MV.real]
      rw [brkAt_is θ l k 0, Nat.zero_add]
      rfl
    · cases e
  · cases e
end Go.Proofs.YtkeckbmhaplkpaaGreatDoor.Ln
/- What guard, Adapt and Grown answer of texts not known. -/
namespace Go.Proofs.YtkeckbmhaplkpaaGreatDoor.Ln
open Go Go.RowKit
open Gd.M (gd gd_len)
open Ad.M (ad)

/-- The indentation. -/
def inB (m : Nat) (σ : Nat → UInt8) : List UInt8 := (List.range m).map σ
/-- What is known of the texts, where the text is empty. -/
abbrev FactE : Fact := fun _ τ => (τ 2).size ≤ 10
/-- What is known of the texts: 0 is the text, 1 guarded, 2 the unit, 3 adapted. -/
structure FactS (m lo hi : Nat) (σ : Nat → UInt8) (τ : Nat → ByteArray) : Prop where
  u : (τ 2).size ≤ 10
  s1 : 1 ≤ (τ 0).size
  s2 : (τ 0).size ≤ 60
  g : (τ 1).data.toList = gd (τ 0).data.toList
  a : (τ 3).data.toList = ad (inB m σ) (τ 2).data.toList false (τ 0).data.toList
  l1 : lo ≤ (τ 3).size
  l2 : (τ 3).size ≤ hi
theorem codes_eq (n : Nat) : codes n = (List.range n).map (256 + ·) := by
  have key : ∀ n r, (@Nat.rec (fun _ => List Nat → List Nat) (fun r => r) (fun m ih r => ih (Nat.add 256 m :: r)) n r : List Nat) = (List.range n).map (256 + ·) ++ r := by
    intro n
    induction n with
    | zero => intro r; rfl
    | succ n ih =>
      intro r
      show (@Nat.rec (fun _ => List Nat → List Nat) (fun r => r) (fun m ih r => ih (Nat.add 256 m :: r)) n (Nat.add 256 n :: r) : List Nat) = _
      rw [ih, List.range_succ]
      simp
  exact (key n []).trans (List.append_nil _)
theorem codes_byte (m : Nat) (θ : Env) : (codes m).map θ.byte = inB m θ.sym := by
  rw [codes_eq, List.map_map]
  refine List.map_congr_left fun i _ => ?_
  show θ.byte (256 + i) = θ.sym i
  unfold Env.byte
  rw [if_neg (by omega), Nat.add_sub_cancel_left]
theorem whole_bytes (θ : Env) (y : Nat) {lo hi : Nat} (h1 : lo ≤ (θ.txt y).size) (h2 : (θ.txt y).size ≤ hi) : (wholeT y lo hi).bytes θ = (θ.txt y).data.toList := by
  have e : θ.fit y lo hi = (θ.txt y).data.toList := by unfold Env.fit; rw [if_pos ⟨h1, h2⟩]
  simp [wholeT, Txt.bytes, Txt.part, e]
theorem strEq_ok {a b : List Nat} (h : strEq a b = true) : a = b := by
  rw [strEq_eq, decide_eq_true_eq] at h
  exact h
theorem list_size (s : ByteArray) : s.data.toList.length = s.size := by simp
theorem mk_size (l : List UInt8) : (⟨l.toArray⟩ : ByteArray).size = l.length := by
  show l.toArray.size = _
  simp
theorem guard_ok {m lo hi : Nat} {args : List MV} {h : Heap} {n : Nat} {r : R} (e : oGuard args h n = some (some r)) : FnOk (FactS m lo hi) Tryz.prog 14 args h n r := by
  unfold oGuard at e
  split at e
  · rename_i t
    split at e
    · rename_i ht
      have := txtEq_ok ht
      subst this
      simp only [Option.some.injEq] at e
      subst e
      intro D θ w iv ha
      have F := iv.fact
      have hg := gd_len (θ.txt 0).data.toList
      have h0 := list_size (θ.txt 0)
      have h1 := list_size (θ.txt 1)
      have e0 : tS.bytes θ = (θ.txt 0).data.toList := whole_bytes θ 0 F.s1 F.s2
      have s1 := F.s1
      have s2 := F.s2
      have e1 : tG.bytes θ = gd (θ.txt 0).data.toList := by
        rw [← F.g]
        rw [F.g] at h1
        exact whole_bytes θ 1 (by omega) (by omega)
      refine .inl ⟨enter_fn Tryz.func14 (by kernel_rfl) (by rfl) _ w, ?_⟩
      simp only [reals, MV.real, e0]
      refine (Gd.guard_any ⟨(θ.txt 0).data.toList.toArray⟩ w (by rw [mk_size]; omega)).mono ?_
      rintro ex w' ⟨rfl, hb⟩
      refine ⟨θ, ?_, leads_below iv hb, by simp only [MV.ok]; decide⟩
      simp only [MV.real, e1]
    · cases e
  · cases e
theorem ad_plain (l u : List UInt8) (s : List UInt8) (h : ∀ c ∈ s, c ≠ 10) : ad l u false s = s := by
  induction s with
  | nil => rfl
  | cons c r ih =>
    rw [ad, if_neg (h c (by simp)), if_neg (by simp), Bool.false_and, ih fun x hx => h x (by simp [hx])]
theorem noBrk_ok (θ : Env) {s : List Nat} (h : noBrk s = true) : ∀ c ∈ s.map θ.byte, c ≠ 10 := by
  induction s with
  | nil => simp
  | cons b s ih =>
    change @Bool.rec (fun _ => Bool) (noBrk s) false (Nat.beq b 10) = true at h
    intro c hc
    rw [List.map_cons, List.mem_cons] at hc
    cases hb : Nat.beq b 10
    · rw [hb] at h
      rcases hc with rfl | hc
      · intro he
        have nb := Nat.ne_of_beq_eq_false hb
        have h2 := congrArg UInt8.toNat he
        by_cases h3 : b < 256
        · rw [byte_nat θ h3] at h2
          exact nb h2
        · rcases byte_two θ h3 with h4 | h4 <;> rw [h4] at h2 <;> exact absurd h2 (by decide)
      · exact ih h c hc
    · rw [hb] at h; cases h
theorem adL_ok {Φ : Fact} {args : List MV} {h : Heap} {n : Nat} {r : R} (e : oAdL args h n = some (some r)) : FnOk Φ Tryz.prog 15 args h n r := by
  unfold oAdL at e
  split at e
  · rename_i s l u
    split at e
    · rename_i hc
      simp only [Bool.and_eq_true] at hc
      have h1 := natBle' hc.2.1
      have h2 := natBle' hc.2.2.1
      have h3 := natBle' hc.2.2.2
      rw [llen_eq] at h1 h2 h3
      simp only [Option.some.injEq] at e
      subst e
      intro D θ w iv ha
      refine .inl ⟨enter_fn Tryz.func15 (by kernel_rfl) (by rfl) _ w, ?_⟩
      simp only [reals, MV.real]
      refine (Ad.adapt_any _ _ _ w (by rw [byte_size]; omega) (by rw [byte_size]; omega) (by rw [byte_size]; omega)).mono ?_
      rintro ex w' ⟨rfl, hb⟩
      refine ⟨θ, ?_, leads_below iv hb, by simp [MV.ok]⟩
      simp only [MV.real]
      rw [ad_plain _ _ _ (noBrk_ok θ hc.1)]
    · cases e
  · cases e
theorem isLead_ok {m : Nat} {l : List Nat} {u : Txt} (h : isLead m l u = true) : l = codes m ∧ u = tU := by
  unfold isLead at h
  simp only [Bool.and_eq_true] at h
  exact ⟨strEq_ok h.1, txtEq_ok h.2⟩
theorem codes_len (m : Nat) : (codes m).length = m := by rw [codes_eq]; simp
theorem inB_len (m : Nat) (σ : Nat → UInt8) : (inB m σ).length = m := by simp [inB]
theorem ad_ok {m lo hi : Nat} (hm : m ≤ 1000) (hw : (wholeT 3 lo hi).wf = true) {args : List MV} {h : Heap} {n : Nat} {r : R} (e : oAd m lo hi args h n = some (some r)) : FnOk (FactS m lo hi) Tryz.prog 15 args h n r := by
  unfold oAd at e
  split at e
  · rename_i t l u
    split at e
    · rename_i ht
      simp only [Bool.and_eq_true] at ht
      have := txtEq_ok ht.1
      subst this
      obtain ⟨rfl, rfl⟩ := isLead_ok ht.2
      simp only [Option.some.injEq] at e
      subst e
      intro D θ w iv ha
      have F := iv.fact
      have s2 := F.s2
      have u2 := F.u
      have h0 := list_size (θ.txt 0)
      have h2 := list_size (θ.txt 2)
      have e0 : tS.bytes θ = (θ.txt 0).data.toList := whole_bytes θ 0 F.s1 F.s2
      have e2 : tU.bytes θ = (θ.txt 2).data.toList := whole_bytes θ 2 (Nat.zero_le _) F.u
      have e3 : (wholeT 3 lo hi).bytes θ = ad (inB m θ.sym) (θ.txt 2).data.toList false (θ.txt 0).data.toList := (whole_bytes θ 3 F.l1 F.l2).trans F.a
      refine .inl ⟨enter_fn Tryz.func15 (by kernel_rfl) (by rfl) _ w, ?_⟩
      simp only [reals, MV.real, e0, e2, codes_byte]
      refine (Ad.adapt_any ⟨(θ.txt 0).data.toList.toArray⟩ ⟨(inB m θ.sym).toArray⟩ ⟨(θ.txt 2).data.toList.toArray⟩ w (by rw [mk_size]; omega) (by rw [mk_size, inB_len]; omega) (by rw [mk_size]; omega)).mono ?_
      rintro ex w' ⟨rfl, hb⟩
      refine ⟨θ, ?_, leads_below iv hb, by simpa only [MV.ok] using hw⟩
      simp only [MV.real, e3]
    · cases e
  · cases e
theorem gr_ok {m lo hi : Nat} (hm : m ≤ 1000) (hw : linB lo hi 0 = true) {args : List MV} {h : Heap} {n : Nat} {r : R} (e : oGr m lo hi args h n = some (some r)) : FnOk (FactS m lo hi) Tryz.prog 314 args h n r := by
  unfold oGr at e
  split at e
  · rename_i t l u
    split at e
    · rename_i ht
      simp only [Bool.and_eq_true] at ht
      have := txtEq_ok ht.1
      subst this
      obtain ⟨rfl, rfl⟩ := isLead_ok ht.2
      simp only [Option.some.injEq] at e
      subst e
      intro D θ w iv ha
      have F := iv.fact
      have s2 := F.s2
      have u2 := F.u
      have h0 := list_size (θ.txt 0)
      have h2 := list_size (θ.txt 2)
      have e0 : tS.bytes θ = (θ.txt 0).data.toList := whole_bytes θ 0 F.s1 F.s2
      have e2 : tU.bytes θ = (θ.txt 2).data.toList := whole_bytes θ 2 (Nat.zero_le _) F.u
      have e3 : θ.fit 3 lo hi = (θ.txt 3).data.toList := by unfold Env.fit; rw [if_pos ⟨F.l1, F.l2⟩]
      refine .inl ⟨enter_fn Tryz.func314 (by kernel_rfl) (by rfl) _ w, ?_⟩
      simp only [reals, MV.real, e0, e2, codes_byte]
      refine (Gr.grown_any ⟨(θ.txt 0).data.toList.toArray⟩ ⟨(inB m θ.sym).toArray⟩ ⟨(θ.txt 2).data.toList.toArray⟩ w (by rw [mk_size]; omega) (by rw [mk_size, inB_len]; omega) (by rw [mk_size]; omega)).mono ?_
      rintro ex w' ⟨rfl, hb⟩
      refine ⟨θ, ?_, leads_below iv hb, by simpa only [MV.ok] using hw⟩
      simp only [MV.real, e3, F.a]
      rfl
    · cases e
  · cases e
theorem adE_ok {m : Nat} (hm : m ≤ 1000) {args : List MV} {h : Heap} {n : Nat} {r : R} (e : oAdE m args h n = some (some r)) : FnOk FactE Tryz.prog 15 args h n r := by
  unfold oAdE at e
  split at e
  · rename_i l u
    split at e
    · rename_i ht
      obtain ⟨rfl, rfl⟩ := isLead_ok ht
      simp only [Option.some.injEq] at e
      subst e
      intro D θ w iv ha
      have u2 : (θ.txt 2).size ≤ 10 := iv.fact
      have h2 := list_size (θ.txt 2)
      have e2 : tU.bytes θ = (θ.txt 2).data.toList := whole_bytes θ 2 (Nat.zero_le _) u2
      refine .inl ⟨enter_fn Tryz.func15 (by kernel_rfl) (by rfl) _ w, ?_⟩
      simp only [reals, MV.real, e2, codes_byte]
      refine (Ad.adapt_any ⟨([] : List UInt8).toArray⟩ ⟨(inB m θ.sym).toArray⟩ ⟨(θ.txt 2).data.toList.toArray⟩ w (by rw [mk_size]; simp) (by rw [mk_size, inB_len]; omega) (by rw [mk_size]; omega)).mono ?_
      rintro ex w' ⟨rfl, hb⟩
      exact ⟨θ, by simp only [MV.real]; rfl, leads_below iv hb, by simp only [MV.ok]⟩
    · cases e
  · cases e
theorem grE_ok {m : Nat} (hm : m ≤ 1000) {args : List MV} {h : Heap} {n : Nat} {r : R} (e : oGrE m args h n = some (some r)) : FnOk FactE Tryz.prog 314 args h n r := by
  unfold oGrE at e
  split at e
  · rename_i l u
    split at e
    · rename_i ht
      obtain ⟨rfl, rfl⟩ := isLead_ok ht
      simp only [Option.some.injEq] at e
      subst e
      intro D θ w iv ha
      have u2 : (θ.txt 2).size ≤ 10 := iv.fact
      have h2 := list_size (θ.txt 2)
      have e2 : tU.bytes θ = (θ.txt 2).data.toList := whole_bytes θ 2 (Nat.zero_le _) u2
      refine .inl ⟨enter_fn Tryz.func314 (by kernel_rfl) (by rfl) _ w, ?_⟩
      simp only [reals, MV.real, e2, codes_byte]
      refine (Gr.grown_any ⟨([] : List UInt8).toArray⟩ ⟨(inB m θ.sym).toArray⟩ ⟨(θ.txt 2).data.toList.toArray⟩ w (by rw [mk_size]; simp) (by rw [mk_size, inB_len]; omega) (by rw [mk_size]; omega)).mono ?_
      rintro ex w' ⟨rfl, hb⟩
      exact ⟨θ, by simp only [numMV, MV.real]; rfl, leads_below iv hb, by simp only [numMV, MV.ok]⟩
    · cases e
  · cases e
end Go.Proofs.YtkeckbmhaplkpaaGreatDoor.Ln
