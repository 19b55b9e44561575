/- What tally.Of, Tally.Plus and tally.Upto answer of texts whose bytes are not all known. -/
import Derived.Test.YtkeckbmhaplkpaaGreatDoorMTabs
import Derived.Test.YtkeckbmhaplkpaaGreatDoorMOk
import Derived.Test.YtkeckbmhaplkpaaGreatDoorMTl
namespace Go.Proofs.YtkeckbmhaplkpaaGreatDoor.Ln
open Go Go.RowKit
variable {Φ : Fact}
open Go.Proofs.YtkeckbmhaplkpaaGreatDoor.Tl (of_any plus_any upto_any uptoR)
open Go.Proofs.YtkeckbmhaplkpaaGreatDoor.Tl.M

/-- Names for numbers that are not known. -/
theorem leads_env {D : Nat → Prop} {n n' : Nat} {θ θ' : Env} {h : Heap} {w w' : World} (hi : Inv Φ D n θ h w) (b : Below w.heap.size w w') (hs : Env.same (· < n) θ θ') (hn : n ≤ n') : Leads D n θ h w n' θ' h w' where
  le := hn
  same := hs
  rel := {
    obj := fun y o hy => by
      by_cases hd : o = .dead
      · subst hd; trivial
      · exact ObjIs.move (hs.mono hi.lt) (hi.ok y o hy).1 (hi.ok y o hy).2 (b.block _ (hi.rel.lt y ⟨o, hy, hd⟩)) (hi.rel.obj y o hy)
    sep := fun y z hy hz e => by
      obtain ⟨o, h1, _⟩ := hy
      obtain ⟨o', h2, _⟩ := hz
      rw [(hs y (hi.lt y (hi.ok y o h1).1)).1, (hs z (hi.lt z (hi.ok z o' h2).1)).1] at e
      exact hi.rel.sep y z ⟨o, h1, by assumption⟩ ⟨o', h2, by assumption⟩ e
    lt := fun y hy => by
      obtain ⟨o, h1, h2⟩ := hy
      rw [(hs y (hi.lt y (hi.ok y o h1).1)).1]
      exact Nat.lt_of_lt_of_le (hi.rel.lt y ⟨o, h1, h2⟩) b.size }
  ok := fun y o e => ⟨.inl (hi.ok y o e).1, MObj.ok_mono up_mono (hi.ok y o e).2⟩
  os := b.os
  tape := b.tape
  output := b.output
  size := b.size
  kept := fun k hk _ => b.block k hk
  born := fun y hy => by
    obtain ⟨o, h1, h2⟩ := hy
    exact .inl ⟨y, ⟨o, h1, h2⟩, (hs y (hi.lt y (hi.ok y o h1).1)).1.symm⟩
/-- Two of them. -/
def two (θ : Env) (n a b : Nat) : Env := (θ.upd n 0 0 a).upd (n + 1) 0 0 b
theorem two_same (θ : Env) (n a b : Nat) : Env.same (· < n) θ (two θ n a b) :=
  (upd_same (θ := θ) (n := n) (b := 0) (o := 0) (c := a) fun _ hy => hy).trans (upd_same (θ := θ.upd n 0 0 a) (n := n + 1) (b := 0) (o := 0) (c := b) fun _ hy => Nat.lt_succ_of_lt hy) fun _ hy => hy
theorem two_fst (θ : Env) (n a b : Nat) : (two θ n a b).cap n = a := by simp [two, Env.upd]
theorem two_snd (θ : Env) (n a b : Nat) : (two θ n a b).cap (n + 1) = b := by simp [two, Env.upd]
theorem byte_nat (θ : Env) {b : Nat} (h : b < 256) : (θ.byte b).toNat = b := by
  unfold Env.byte
  rw [if_pos h]
  simp; omega
theorem wK_byte (θ : Env) (b : Nat) : wK ((θ.byte b).toNat : Int) = if b = 10 then 1 else 0 := by
  unfold wK
  have h := byte_thin θ b 10 (by omega)
  have e : (((θ.byte b).toNat : Int) = 10) ↔ b = 10 := by
    rw [← h]
    constructor
    · intro h1
      apply UInt8.toNat.inj
      show (θ.byte b).toNat = 10
      omega
    · intro h1
      rw [h1]; rfl
  by_cases hb : b = 10
  · rw [if_pos (e.2 hb), if_pos hb]
  · rw [if_neg (fun h => hb (e.1 h)), if_neg hb]

/-! ### tally.Of -/
theorem addB_eq (b : Bool) (n : Nat) : addB b n = if b = true then n + 1 else n := by cases b <;> rfl
theorem ble_eq (a b : Nat) : Nat.ble a b = decide (a ≤ b) := by
  cases h : Nat.ble a b
  · exact (decide_eq_false fun h2 => by rw [Nat.ble_eq_true_of_le h2] at h; cases h).symm
  · exact (decide_eq_true (Nat.le_of_ble_eq_true h)).symm
theorem addB_add (b : Bool) (n : Nat) : addB b n = n + addB b 0 := by cases b <;> rfl
theorem wR_nat (b : Nat) : wR (b : Int) = (addB (Bool.or (Nat.ble b 127) (Nat.ble 192 b)) 0 : Nat) := by
  rw [addB_eq, ble_eq, ble_eq]
  unfold wR
  by_cases h5 : b ≤ 127
  · rw [if_pos (by omega)]; simp [h5]
  · rw [if_neg (by omega)]
    by_cases h6 : 192 ≤ b
    · rw [if_neg (by omega)]; simp [h6]
    · rw [if_pos (by omega)]; simp [h5, h6]
theorem wU_nat (b : Nat) : wU (b : Int) = (addB (Nat.ble 240 b) (addB (Bool.or (Nat.ble b 127) (Nat.ble 192 b)) 0) : Nat) := by
  rw [addB_eq, addB_eq, ble_eq, ble_eq, ble_eq]
  unfold wU
  by_cases h5 : b ≤ 127
  · rw [if_pos (by omega)]
    have : ¬ 240 ≤ b := by omega
    simp [h5, this]
  · rw [if_neg (by omega)]
    by_cases h6 : 192 ≤ b
    · rw [if_neg (by omega)]
      by_cases h7 : 240 ≤ b
      · rw [if_neg (by omega)]; simp [h6, h7]
      · rw [if_pos (by omega)]; simp [h6, h7]
    · rw [if_pos (by omega)]
      have : ¬ 240 ≤ b := by omega
      simp [h5, h6, this]
theorem cntOf_is (θ : Env) (l : List Nat) : ∀ (c : Cnt) (k : Cnt → Option An), ∃ c', cntOf l c k = k c' ∧ c'.bs = c.bs + l.length ∧ (c'.br : Int) = c.br + tot wK (l.map θ.byte) ∧
    (c'.all = true → c.all = true ∧ (c'.ru : Int) = c.ru + tot wR (l.map θ.byte) ∧ (c'.un : Int) = c.un + tot wU (l.map θ.byte)) := by
  induction l with
  | nil => intro c k; exact ⟨c, rfl, rfl, by simp [tot], fun h => ⟨h, by simp [tot], by simp [tot]⟩⟩
  | cons b l ih =>
    intro c k
    obtain ⟨c', h1, h2, h3, h4⟩ := ih ⟨Nat.succ c.bs, addB (Nat.beq b 10) c.br, addB (Bool.or (Nat.ble b 127) (Nat.ble 192 b)) c.ru, addB (Nat.ble 240 b) (addB (Bool.or (Nat.ble b 127) (Nat.ble 192 b)) c.un), Bool.and c.all (lit b)⟩ k
    refine ⟨c', ?_, ?_, ?_, fun ha => ?_⟩
    · rw [← h1]
      show fnat _ (fun br => fnat _ fun ru => fnat _ fun un => cntOf l ⟨Nat.succ c.bs, br, ru, un, Bool.and c.all (lit b)⟩ k) = _
      simp only [fnat_eq]
    · rw [h2]; simp only [List.length_cons]; omega
    · rw [h3]
      simp only [List.map_cons, tot]
      rw [wK_byte θ b, addB_eq]
      by_cases hb : b = 10
      · subst hb; simp; omega
      · have : Nat.beq b 10 = false := by rw [natBeq]; simpa using hb
        rw [this]; simp [hb]
    · obtain ⟨g1, g2, g3⟩ := h4 ha
      simp only [Bool.and_eq_true] at g1
      obtain ⟨g1, gl⟩ := g1
      have hb : b < 256 := by have := Nat.le_of_ble_eq_true gl; omega
      have eb := byte_nat θ hb
      refine ⟨g1, ?_, ?_⟩
      · rw [g2]
        simp only [List.map_cons, tot, eb]
        rw [wR_nat, addB_add]
        omega
      · rw [g3]
        simp only [List.map_cons, tot, eb]
        rw [wU_nat, addB_add, addB_add _ c.un, addB_add (Nat.ble 240 b) (addB _ 0)]
        omega
theorem num_real (θ : Env) (y m : Nat) {a : Int} (h0 : 0 ≤ a) (h1 : a < m) (hc : θ.cap y = a.toNat) : (MV.num y m 0).real θ = .int .i64 a := by
  simp only [MV.real]
  rw [hc, Nat.mod_eq_of_lt (by omega)]
  congr 1
  show ((a.toNat + 0 : Nat) : Int) = a
  omega
theorem of_ok {args : List MV} {h : Heap} {n : Nat} {r : R} (e : oOf args h n = some (some r)) : FnOk Φ Tryz.prog 244 args h n r := by
  unfold oOf at e
  split at e
  · rename_i l
    split at e
    · rename_i hl
      have hl := Nat.le_of_ble_eq_true hl
      rw [llen_eq] at hl
      intro D θ w hi ha
      obtain ⟨c, h1, h2, h3, h4⟩ := cntOf_is θ l ⟨0, 0, 0, 0, true⟩ fun c => some (ofEnd h n c)
      rw [h1, Option.some.injEq] at e
      unfold ofEnd at e
      have hsz := byte_size θ l
      have hlen : (l.map θ.byte).length = l.length := by simp
      refine .inl ⟨enter_fn Tryz.func244 (by kernel_rfl) (by rfl) _ w, ?_⟩
      simp only [reals, MV.real]
      refine (of_any ⟨(l.map θ.byte).toArray⟩ w (by rw [hsz]; omega)).mono ?_
      rintro ex w' ⟨rfl, hb⟩
      have t1 : tot Tl.M.one (l.map θ.byte) = (c.bs : Int) := by rw [tot_one, hlen, h2]; simp
      have t2 : tot wK (l.map θ.byte) = (c.br : Int) := by rw [h3]; simp
      simp only [t1, t2]
      cases hc : c.all
      · rw [hc] at e
        simp only [fnat_eq, Option.some.injEq] at e
        subst e
        have bR := tot_bd wR wR_bd (l.map θ.byte)
        have bU := tot_bd wU wU_bd (l.map θ.byte)
        rw [hlen] at bR bU
        generalize hR : tot wR (l.map θ.byte) = vR at *
        generalize hU : tot wU (l.map θ.byte) = vU at *
        refine ⟨two θ n vR.toNat vU.toNat, ?_, leads_env hi hb (two_same θ n _ _) (by simp only; omega), ?_⟩
        · simp only [tlyMV, MV.real, reals, numMV]
          rw [two_fst, two_snd, Nat.mod_eq_of_lt (by omega), Nat.mod_eq_of_lt (by omega)]
          have e1 : ((vR.toNat + 0 : Nat) : Int) = vR := by omega
          have e2 : ((vU.toNat + 0 : Nat) : Int) = vU := by omega
          show Ending.returned _ = Ending.returned (Value.agg [Value.int .i64 (c.bs : Int), Value.int .i64 (c.br : Int), Value.int .i64 ((vR.toNat + 0 : Nat) : Int), Value.int .i64 ((vU.toNat + 0 : Nat) : Int)].toArray)
          rw [e1, e2]
        · simp only [tlyMV, MV.ok, oks, numMV, MV.one]
          refine ⟨⟨trivial, trivial, .inr ⟨Nat.le_refl _, by omega⟩, .inr ⟨by omega, by omega⟩, trivial⟩, fun v hv => ?_⟩
          simp only [List.mem_cons, List.not_mem_nil, or_false] at hv
          rcases hv with rfl | rfl | rfl | rfl <;> trivial
      · rw [hc] at e
        simp only [Option.some.injEq] at e
        subst e
        obtain ⟨_, g2, g3⟩ := h4 hc
        have t3 : tot wR (l.map θ.byte) = (c.ru : Int) := by rw [g2]; simp
        have t4 : tot wU (l.map θ.byte) = (c.un : Int) := by rw [g3]; simp
        refine ⟨θ, ?_, leads_below hi hb, ?_⟩
        · simp only [tlyMV, MV.real, reals, numMV, t3, t4]
          rfl
        · simp only [tlyMV, MV.ok, oks, numMV, MV.one]
          refine ⟨⟨trivial, trivial, trivial, trivial, trivial⟩, fun v hv => ?_⟩
          simp only [List.mem_cons, List.not_mem_nil, or_false] at hv
          rcases hv with rfl | rfl | rfl | rfl <;> trivial
    · cases e
  · cases e
end Go.Proofs.YtkeckbmhaplkpaaGreatDoor.Ln
/- What Tally.Plus and tally.Upto answer of texts whose bytes are not all known. -/
namespace Go.Proofs.YtkeckbmhaplkpaaGreatDoor.Ln
open Go Go.RowKit
variable {Φ : Fact}
open Go.Proofs.YtkeckbmhaplkpaaGreatDoor.Tl (of_any plus_any upto_any uptoR)
open Go.Proofs.YtkeckbmhaplkpaaGreatDoor.Tl.M

theorem capN_ok {v : MV} {c : Nat} (e : capN v = some c) (θ : Env) (hv : ∀ y m q, v = .num y m q → 1 ≤ m) : ∃ a : Nat, v.real θ = .int .i64 (a : Int) ∧ a < c ∧ (isNum v = false → v = .int .i64 (.ofNat a) ∧ c = a + 1) := by
  unfold capN at e
  split at e
  · rename_i a
    obtain rfl := Option.some.inj e
    exact ⟨a, rfl, Nat.lt_succ_self _, fun _ => ⟨rfl, rfl⟩⟩
  · rename_i y m q
    obtain rfl := Option.some.inj e
    refine ⟨θ.cap y % m + q, rfl, ?_, fun h => by cases h⟩
    have := Nat.mod_lt (θ.cap y) (hv y m q rfl)
    show _ < m + q
    omega
  · cases e
theorem okNum_ok {v : MV} (h : okNum v = true) (y m q : Nat) (e : v = .num y m q) : 1 ≤ m := by
  subst e
  exact Nat.le_of_ble_eq_true h
theorem plus_ok {args : List MV} {h : Heap} {n : Nat} {r : R} (e : oPlus args h n = some (some r)) : FnOk Φ Tryz.prog 297 args h n r := by
  unfold oPlus at e
  split at e
  · rename_i a b x y a' b' x' y'
    simp only [fnat_eq] at e
    split at e
    · rename_i hn
      simp only [Bool.and_eq_true] at hn
      unfold oPlus4 at e
      split at e
      · cases e
      rename_i c hc
      split at e
      · cases e
      rename_i d hd
      split at e
      · cases e
      rename_i c' hc'
      split at e
      · cases e
      rename_i d' hd'
      split at e
      · cases e
      rename_i hb
      simp only [Bool.and_eq_true] at hb
      obtain ⟨⟨b1, b2⟩, b3, b4⟩ := hb
      have b1 := Nat.le_of_ble_eq_true b1
      have b2 := Nat.le_of_ble_eq_true b2
      have b3 := Nat.le_of_ble_eq_true b3
      have b4 := Nat.le_of_ble_eq_true b4
      change a + a' ≤ _ at b1
      change b + b' ≤ _ at b2
      change c + c' ≤ _ at b3
      change d + d' ≤ _ at b4
      intro D θ w hi ha
      obtain ⟨p, p1, p2, p3⟩ := capN_ok hc θ (okNum_ok hn.1.1)
      obtain ⟨q, q1, q2, q3⟩ := capN_ok hd θ (okNum_ok hn.1.2)
      obtain ⟨p', p1', p2', p3'⟩ := capN_ok hc' θ (okNum_ok hn.2.1)
      obtain ⟨q', q1', q2', q3'⟩ := capN_ok hd' θ (okNum_ok hn.2.2)
      refine .inl ⟨enter_fn Tryz.func297 (by kernel_rfl) (by rfl) _ w, ?_⟩
      have er : (reals θ [.agg [.int .i64 (.ofNat a), .int .i64 (.ofNat b), x, y], .agg [.int .i64 (.ofNat a'), .int .i64 (.ofNat b'), x', y']]).toArray =
          #[.agg #[.int .i64 (a : Int), .int .i64 (b : Int), .int .i64 (p : Int), .int .i64 (q : Int)], .agg #[.int .i64 (a' : Int), .int .i64 (b' : Int), .int .i64 (p' : Int), .int .i64 (q' : Int)]] := by
        simp only [reals, MV.real, p1, q1, p1', q1']
        rfl
      rw [er]
      refine (plus_any a b p q a' b' p' q' w (by omega) (by omega) (by omega) (by omega) (by omega) (by omega) (by omega) (by omega)).mono ?_
      rintro ex w' ⟨rfl, hbl⟩
      split at e
      · rename_i hz
        simp only [Bool.or_eq_false_iff] at hz
        obtain ⟨⟨z1, z2⟩, z3, z4⟩ := hz
        obtain ⟨_, rfl⟩ := p3 z1
        obtain ⟨_, rfl⟩ := q3 z2
        obtain ⟨_, rfl⟩ := p3' z3
        obtain ⟨_, rfl⟩ := q3' z4
        simp only [Option.some.injEq] at e
        subst e
        refine ⟨θ, ?_, leads_below hi hbl, ?_⟩
        · simp only [tlyMV, MV.real, reals, numMV]
          have e1 : Nat.pred (Nat.pred (Nat.add (p + 1) (p' + 1))) = p + p' := by show (p + 1 + (p' + 1)) - 1 - 1 = p + p'; omega
          have e2 : Nat.pred (Nat.pred (Nat.add (q + 1) (q' + 1))) = q + q' := by show (q + 1 + (q' + 1)) - 1 - 1 = q + q'; omega
          rw [e1, e2]
          rfl
        · simp only [tlyMV, MV.ok, oks, numMV, MV.one]
          refine ⟨⟨trivial, trivial, trivial, trivial, trivial⟩, fun v hv => ?_⟩
          simp only [List.mem_cons, List.not_mem_nil, or_false] at hv
          rcases hv with rfl | rfl | rfl | rfl <;> trivial
      · simp only [fnat_eq, Option.some.injEq] at e
        subst e
        refine ⟨two θ n (p + p') (q + q'), ?_, leads_env hi hbl (two_same θ n _ _) (by simp only; omega), ?_⟩
        · simp only [tlyMV, MV.real, reals, numMV]
          have m1 : (p + p') % (Nat.add c c') = p + p' := Nat.mod_eq_of_lt (by show _ < c + c'; omega)
          have m2 : (q + q') % (Nat.add d d') = q + q' := Nat.mod_eq_of_lt (by show _ < d + d'; omega)
          rw [two_fst, two_snd, m1, m2]
          rfl
        · simp only [tlyMV, MV.ok, oks, numMV, MV.one]
          refine ⟨⟨trivial, trivial, .inr ⟨Nat.le_refl _, by omega⟩, .inr ⟨by omega, by omega⟩, trivial⟩, fun v hv => ?_⟩
          simp only [List.mem_cons, List.not_mem_nil, or_false] at hv
          rcases hv with rfl | rfl | rfl | rfl <;> trivial
    · cases e
  · cases e

/-! ### tally.Upto -/
theorem brkAt_is (θ : Env) (l : List Nat) : ∀ (k i : Nat), brkAt l k i = i + upto (wBy 3) (l.map θ.byte) k := by
  induction l with
  | nil => intro k i; rfl
  | cons b l ih =>
    intro k i
    show @Bool.rec (fun _ => Nat) (brkAt l k (Nat.succ i)) (@Bool.rec (fun _ => Nat) (brkAt l (Nat.pred k) (Nat.succ i)) i (Nat.beq k 0)) (Nat.beq b 10) = _
    simp only [List.map_cons, upto]
    have hw : wBy 3 ((θ.byte b).toNat : Int) = if b = 10 then 1 else 0 := by
      rw [← wK_byte θ b]
      simp [wBy, byF]
    rw [hw]
    cases hb : Nat.beq b 10
    · have nb := Nat.ne_of_beq_eq_false hb
      rw [if_neg nb, if_neg (by omega)]
      show brkAt l k (i + 1) = _
      rw [ih, Int.sub_zero]
      omega
    · have eb := Nat.eq_of_beq_eq_true hb
      rw [if_pos eb]
      cases hk : Nat.beq k 0
      · have nk := Nat.ne_of_beq_eq_false hk
        rw [if_neg (by omega)]
        show brkAt l (k - 1) (i + 1) = _
        rw [ih, show ((k : Int) - 1) = ((k - 1 : Nat) : Int) by omega]
        omega
      · have ek := Nat.eq_of_beq_eq_true hk
        subst ek
        rw [if_pos (by omega)]
        rfl
theorem upto_ok {args : List MV} {h : Heap} {n : Nat} {r : R} (e : oUpto args h n = some (some r)) : FnOk Φ Tryz.prog 250 args h n r := by
  unfold oUpto at e
  split at e
  · rename_i l k
    split at e
    · rename_i hb
      simp only [Bool.and_eq_true] at hb
      have h1 := Nat.le_of_ble_eq_true hb.1
      have h2 := Nat.le_of_ble_eq_true hb.2
      rw [llen_eq] at h1
      simp only [fnat_eq, Option.some.injEq] at e
      subst e
      intro D θ w hi ha
      refine .inl ⟨enter_fn Tryz.func250 (by kernel_rfl) (by rfl) _ w, ?_⟩
      have er : (reals θ [.str l, .int .i64 (.ofNat 3), .int .i64 (.ofNat k)]).toArray = #[.string ⟨(l.map θ.byte).toArray⟩, .int .i64 3, .int .i64 (k : Int)] := by
        simp only [reals, MV.real]
        rfl
      rw [er]
      refine (upto_any ⟨(l.map θ.byte).toArray⟩ 3 k w (by rw [byte_size]; omega) (by omega)).mono ?_
      rintro ex w' ⟨rfl, hbl⟩
      refine ⟨θ, ?_, leads_below hi hbl, by simp [numMV, MV.ok]⟩
      have hu : uptoR ⟨(l.map θ.byte).toArray⟩ 3 k = ((upto (wBy 3) (l.map θ.byte) k : Nat) : Int) := by
        unfold uptoR
        rw [if_neg (by omega)]
      rw [hu]
      simp only [numMV, MV.real]
      rw [brkAt_is θ l k 0, Nat.zero_add]
      rfl
    · cases e
  · cases e
end Go.Proofs.YtkeckbmhaplkpaaGreatDoor.Ln
