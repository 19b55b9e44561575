/- The tables of functions answered by other means, and that they hold. -/
import Derived.Test.YtkeckbmhaplkpaaGreatDoorMLo
import Derived.Test.YtkeckbmhaplkpaaGreatDoorMLk
import Derived.Test.YtkeckbmhaplkpaaGreatDoorMOk
namespace Go.Proofs.YtkeckbmhaplkpaaGreatDoor.Ln
open Go Go.RowKit
variable {Φ : Fact}
noncomputable section

/-! ### Tables -/
theorem orc_nil (d : Nat) : OrcOk Φ Tryz.prog (orcOf (PT.fill none d)) := by
  intro f args h n r e
  unfold orcOf at e
  rw [get_none] at e
  cases e
theorem orc_set {t : OT} (ht : OrcOk Φ Tryz.prog (orcOf t)) {m : Nat} {o : Orac} (ho : ∀ args h n r, o.ans args h n = some (some r) → FnOk Φ Tryz.prog m args h n r) : OrcOk Φ Tryz.prog (orcOf (t.set m o)) := by
  intro f args h n r e
  unfold orcOf at e
  split at e
  · cases e
  · rename_i o' h1
    rcases PT.get_set h1 with ⟨rfl, rfl⟩ | ⟨_, h2⟩
    · exact ho args h n r e
    · refine ht f args h n r ?_
      unfold orcOf
      rw [h2]
      exact e
def oSrt (args : List MV) (h : Heap) (n : Nat) : Option An := some (oSorted args h n)
def oAda (args : List MV) (h : Heap) (n : Nat) : Option An := some (oAdapt args h n)
def tB : OT := (((((PT.fill none 10).set 127 (.of oSrt)).set 15 (.of oAda)).set 244 (.of oOf)).set 297 (.of oPlus)).set 250 (.of oUpto)
theorem tB_ok : OrcOk Φ Tryz.prog (orcOf tB) :=
  orc_set (orc_set (orc_set (orc_set (orc_set (orc_nil 10) fun _ _ _ _ e => sorted_ok (Option.some.inj e)) fun _ _ _ _ e => adapt_ok (Option.some.inj e)) fun _ _ _ _ e => of_ok e) fun _ _ _ _ e => plus_ok e) fun _ _ _ _ e => upto_ok e
def tW (b : Bool) : OT := tB.set 218 (.of (oWord 256 b))
theorem tW_ok (b : Bool) : OrcOk (FactW b) Tryz.prog (orcOf (tW b)) := orc_set tB_ok fun _ _ _ _ e => word_ok (fun _ h => h) e

/-! ### A function run with some names left out -/
theorem Leads.lower {D : Nat → Prop} {n b n' : Nat} {θ θ' : Env} {h h' : Heap} {w w' : World} (l : Leads D (n + b) θ h w n' θ' h' w') : Leads D n θ h w n' θ' h' w' where
  le := by have := l.le; omega
  same := l.same.mono fun y hy => by show y < n + b; omega
  rel := l.rel
  ok := fun y o e => by
    have up : ∀ y, Up D (n + b) n' y → Up D n n' y := fun y hy => hy.imp id fun ⟨a, c⟩ => ⟨by omega, c⟩
    exact ⟨up y (l.ok y o e).1, MObj.ok_mono up (l.ok y o e).2⟩
  os := l.os
  tape := l.tape
  output := l.output
  size := l.size
  kept := l.kept
  born := l.born
def oSkip (f b : Nat) : Orac where
  run := fun _ args k h n => kf T0 F0 tB depth f args k h (Nat.add n b)
  ans := fun args h n => some (sf T0 F0 tB depth f args h (Nat.add n b))
  eq fb args k h n := by rw [kf_eq]; rfl
theorem oSkip_ok {f b : Nat} (hf : hasF f = true) (args : List MV) (h : Heap) (n : Nat) (r : R) (e : (oSkip f b).ans args h n = some (some r)) : FnOk Φ Tryz.prog f args h n r := by
  intro D θ w hi ha
  have e' : sf T0 F0 tB depth f args h (n + b) = some r := Option.some.inj e
  obtain ⟨c1, c2⟩ := sf_calls (Φ := Φ) tB_ok hf e' (⟨hi.fact, fun y hy => by have := hi.lt y hy; omega, hi.rel, hi.ok⟩ : Inv Φ D (n + b) θ h w) ha
  refine .inl ⟨c1, c2.mono ?_⟩
  rintro ex w' ⟨θ', rfl, l, ok⟩
  exact ⟨θ', rfl, l.lower, MV.ok_mono (fun y hy => hy.imp id fun ⟨a, c⟩ => ⟨by omega, c⟩) ok⟩

/-! ### crew.made, whatever the first byte is; the editor's set, whatever the first bytes are -/
def symT (v : MV) : Bool := match v with | .str (b :: _) => Nat.ble 256 b | _ => false
def isMade (args : List MV) : Bool := match args with | .agg (t :: _) :: _ => symT t | _ => false
def isSet (args : List MV) : Bool := match args with | [_, .agg (.str (a :: c :: _ :: _ :: b :: _) :: _)] => Bool.and (Nat.beq a 48) (Bool.and (Nat.beq c 58) (Nat.ble 256 b)) | _ => false
def oMerge (f : Nat) (q : List MV → Bool) (t : OT) (fr : List Nat) (ws : List Way) : Orac where
  run := fun fb args k h n => @Bool.rec (fun _ => An) (fb args k h n) (mergeK f t fr ws args k h n) (q args)
  ans := fun args h n => match q args with | true => some (mergeR f t fr ws args h n) | false => none
  eq fb args k h n := by
    cases q args
    · rfl
    · exact mergeK_eq f t fr ws args k h n
theorem oMerge_ans {f : Nat} {q : List MV → Bool} {t : OT} {fr : List Nat} {ws : List Way} {args : List MV} {h : Heap} {n : Nat} {r : R} (e : (oMerge f q t fr ws).ans args h n = some (some r)) : mergeR f t fr ws args h n = some r := by
  change (match q args with | true => some (mergeR f t fr ws args h n) | false => none) = some (some r) at e
  split at e
  · exact Option.some.inj e
  · cases e
def oMade : Orac := oMerge 100 isMade (tW true) [] [⟨[], tW false⟩]
theorem told_nil (σ : Nat → UInt8) : Told [] σ := fun i b e => by cases i <;> cases e
theorem oMade_ok (args : List MV) (h : Heap) (n : Nat) (r : R) (e : oMade.ans args h n = some (some r)) : FnOk Φ Tryz.prog 100 args h n r := by
  refine merge_ok (Φ0 := FactW true) (by kernel_rfl) (tW_ok true) (fun σ _ => told_nil σ) (fun σ _ => ?_) (oMerge_ans e)
  cases hk : Wd.isW ((σ 0).toNat : Int)
  · exact .inr ⟨⟨[], tW false⟩, List.mem_cons_self .., FactW false, hk, tW_ok false, told_nil σ⟩
  · exact .inl hk
def frs (c : Nat) : List Nat := match c with | 0 => [] | 1 => [48] | 2 => [48, 58] | _ => [48, 58, 49]
def neOf (L c : Nat) : Option Nat := match Nat.ble L c with | true => none | false => (match c with | 0 => some 48 | 1 => some 58 | 2 => some 49 | _ => none)
/-- burn: names left out ahead of it; sb: ahead of Select. -/
def tT (L c burn sb : Nat) : OT := (tB.set 60 (.of (oTurn (frs c) c (neOf L c) burn 0))).set 19 (oSkip 19 sb)
theorem tT_ok (L c burn sb : Nat) : OrcOk (FactT (frs c) c (neOf L c)) Tryz.prog (orcOf (tT L c burn sb)) := orc_set (orc_set tB_ok fun _ _ _ _ e => turn_ok e) fun args h n r e => oSkip_ok (by kernel_rfl) args h n r e
def wayT (L c sb : Nat) : Way := ⟨frs c, tT L c 0 sb⟩
def waysT (L sb : Nat) : List Way := match L with | 0 => [] | 1 => [wayT L 1 sb] | 2 => [wayT L 1 sb, wayT L 2 sb] | _ => [wayT L 1 sb, wayT L 2 sb, wayT L 3 sb]
def oSet (many L : Nat) : Orac := oMerge 27 isSet (tT L 0 1 0) [] (waysT L (match many with | 0 => 0 | _ => 4))
theorem told1 {σ : Nat → UInt8} (h0 : σ 0 = 48) : Told [48] σ := by
  intro i b e
  match i, e with
  | 0, e => obtain rfl := Option.some.inj e; exact ⟨by omega, h0⟩
theorem told2 {σ : Nat → UInt8} (h0 : σ 0 = 48) (h1 : σ 1 = 58) : Told [48, 58] σ := by
  intro i b e
  match i, e with
  | 0, e => obtain rfl := Option.some.inj e; exact ⟨by omega, h0⟩
  | 1, e => obtain rfl := Option.some.inj e; exact ⟨by omega, h1⟩
theorem told3 {σ : Nat → UInt8} (h0 : σ 0 = 48) (h1 : σ 1 = 58) (h2 : σ 2 = 49) : Told [48, 58, 49] σ := by
  intro i b e
  match i, e with
  | 0, e => obtain rfl := Option.some.inj e; exact ⟨by omega, h0⟩
  | 1, e => obtain rfl := Option.some.inj e; exact ⟨by omega, h1⟩
  | 2, e => obtain rfl := Option.some.inj e; exact ⟨by omega, h2⟩
theorem cover (sb : Nat) (σ : Nat → UInt8) : ∀ L, FactT (frs 0) 0 (neOf L 0) σ ∨ ∃ w ∈ waysT L sb, ∃ Φ' : Fact, Φ' σ ∧ OrcOk Φ' Tryz.prog (orcOf w.t) ∧ Told w.fr σ := by
  intro L
  by_cases h0 : σ 0 = 48
  · match L with
    | 0 => exact .inl ⟨told_nil σ, fun d e => by cases e⟩
    | 1 => exact .inr ⟨wayT 1 1 sb, List.mem_cons_self .., FactT (frs 1) 1 (neOf 1 1), ⟨told1 h0, fun d e => by cases e⟩, tT_ok 1 1 0 sb, told1 h0⟩
    | 2 =>
      by_cases h1 : σ 1 = 58
      · exact .inr ⟨wayT 2 2 sb, List.mem_cons_of_mem _ (List.mem_cons_self ..), FactT (frs 2) 2 (neOf 2 2), ⟨told2 h0 h1, fun d e => by cases e⟩, tT_ok 2 2 0 sb, told2 h0 h1⟩
      · exact .inr ⟨wayT 2 1 sb, List.mem_cons_self .., FactT (frs 1) 1 (neOf 2 1), ⟨told1 h0, fun d e => by obtain rfl := Option.some.inj e; exact h1⟩, tT_ok 2 1 0 sb, told1 h0⟩
    | L + 3 =>
      by_cases h1 : σ 1 = 58
      · by_cases h2 : σ 2 = 49
        · exact .inr ⟨wayT (L + 3) 3 sb, List.mem_cons_of_mem _ (List.mem_cons_of_mem _ (List.mem_cons_self ..)), FactT (frs 3) 3 (neOf (L + 3) 3), ⟨told3 h0 h1 h2, fun d e => by
            unfold neOf at e
            split at e <;> cases e⟩, tT_ok (L + 3) 3 0 sb, told3 h0 h1 h2⟩
        · exact .inr ⟨wayT (L + 3) 2 sb, List.mem_cons_of_mem _ (List.mem_cons_self ..), FactT (frs 2) 2 (neOf (L + 3) 2), ⟨told2 h0 h1, fun d e => by
            unfold neOf at e
            split at e
            · cases e
            · obtain rfl := Option.some.inj e; exact h2⟩, tT_ok (L + 3) 2 0 sb, told2 h0 h1⟩
      · exact .inr ⟨wayT (L + 3) 1 sb, List.mem_cons_self .., FactT (frs 1) 1 (neOf (L + 3) 1), ⟨told1 h0, fun d e => by
          unfold neOf at e
          split at e
          · cases e
          · obtain rfl := Option.some.inj e; exact h1⟩, tT_ok (L + 3) 1 0 sb, told1 h0⟩
  · refine .inl ⟨told_nil σ, fun d e => ?_⟩
    unfold neOf at e
    split at e
    · cases e
    · obtain rfl := Option.some.inj e
      exact h0
theorem oSet_ok (many L : Nat) (args : List MV) (h : Heap) (n : Nat) (r : R) (e : (oSet many L).ans args h n = some (some r)) : FnOk Φ Tryz.prog 27 args h n r :=
  merge_ok (Φ0 := FactT (frs 0) 0 (neOf L 0)) (by kernel_rfl) (tT_ok L 0 1 0) (fun σ _ => told_nil σ) (fun σ _ => cover _ σ L) (oMerge_ans e)
/-- One way alone, where the first bytes are written as such. -/
def tL (L c : Nat) : OT := tB.set 60 (.of (oTurn (frs c) c (neOf L c) 0 c))
theorem tL_ok (L c : Nat) : OrcOk (FactT (frs c) c (neOf L c)) Tryz.prog (orcOf (tL L c)) := orc_set tB_ok fun _ _ _ _ e => turn_ok e
def tLw (L c : Nat) : OT := match c with | 0 => (tL L 0).set 100 oMade | c + 1 => (tL L (c + 1)).set 218 (.of (oWord 48 true))
theorem tLw_ok (L c : Nat) : OrcOk (FactT (frs c) c (neOf L c)) Tryz.prog (orcOf (tLw L c)) := by
  cases c with
  | zero => exact orc_set (tL_ok L 0) fun args h n r e => oMade_ok args h n r e
  | succ c => exact orc_set (tL_ok L (c + 1)) fun _ _ _ _ e => word_ok (b0 := 48) (kw := true) (fun θ _ => by rfl) e
end
end Go.Proofs.YtkeckbmhaplkpaaGreatDoor.Ln
/- Frames as tables, of which some slots may not be known; awake's contract; the end of TopLines run. -/
namespace Go.Proofs.YtkeckbmhaplkpaaGreatDoor.Ln
open Go Go.RowKit
noncomputable section

/-! ### Frames as tables -/
def getT (d : Nat) : Nat → Clo (Fr → KV → G) :=
  Nat.rec (motive := fun _ => Nat → Clo (Fr → KV → G)) (fun n => .mk fun t k => ob (PT.get t n) k)
    (fun _ ih n => @Bool.rec (fun _ => Clo (Fr → KV → G))
      (@Bool.rec (fun _ => Clo (Fr → KV → G))
        ((ih (Nat.shiftRight (Nat.pred n) 1)).on fun g => .mk (@PT.rec MV (fun _ => KV → G) (fun _ => nG) (fun _ _ r _ _ k => g r k)))
        ((ih (Nat.shiftRight n 1)).on fun g => .mk (@PT.rec MV (fun _ => KV → G) (fun _ => nG) (fun l _ _ _ _ k => g l k)))
        (Nat.beq (Nat.land n 1) 1))
      (.mk (@PT.rec MV (fun _ => KV → G) (fun _ => nG) (fun _ v _ _ _ k => @Option.rec MV (fun _ => G) nG k v)))
      (Nat.beq n 0)) d
def setT (d : Nat) : Nat → Clo (Fr → MV → (Fr → G) → G) :=
  Nat.rec (motive := fun _ => Nat → Clo (Fr → MV → (Fr → G) → G)) (fun n => .mk fun t x k => PT.setK t n x k)
    (fun _ ih n => @Bool.rec (fun _ => Clo (Fr → MV → (Fr → G) → G))
      (@Bool.rec (fun _ => Clo (Fr → MV → (Fr → G) → G))
        ((ih (Nat.shiftRight (Nat.pred n) 1)).on fun g => .mk (@PT.rec MV (fun _ => MV → (Fr → G) → G) (fun _ k => k .lf) (fun l v r _ _ x k => g r x fun r' => k (.nd l v r'))))
        ((ih (Nat.shiftRight n 1)).on fun g => .mk (@PT.rec MV (fun _ => MV → (Fr → G) → G) (fun _ k => k .lf) (fun l v r _ _ x k => g l x fun l' => k (.nd l' v r))))
        (Nat.beq (Nat.land n 1) 1))
      (.mk (@PT.rec MV (fun _ => MV → (Fr → G) → G) (fun _ k => k .lf) (fun l _ r _ _ x k => k (.nd l (some x) r))))
      (Nat.beq n 0)) d
theorem getT_run (d : Nat) : ∀ (n : Nat) (t : Fr) (k : KV), (getT d n).run t k = ob (t.get n) k := by
  induction d with
  | zero => intro n t k; rfl
  | succ d ih =>
    intro n t k
    show Clo.run (@Bool.rec (fun _ => Clo (Fr → KV → G)) (@Bool.rec (fun _ => Clo (Fr → KV → G)) ((getT d _).on _) ((getT d _).on _) _) _ _) t k = _
    cases t with
    | lf =>
      cases Nat.beq n 0
      · cases Nat.beq (Nat.land n 1) 1
        · simp only [Clo.run_on]; rfl
        · simp only [Clo.run_on]; rfl
      · rfl
    | nd l v r =>
      rw [PT.get_nd]
      cases Nat.beq n 0
      · cases Nat.beq (Nat.land n 1) 1
        · simp only [Clo.run_on]; exact ih _ r k
        · simp only [Clo.run_on]; exact ih _ l k
      · rfl
theorem setT_run (d : Nat) : ∀ (n : Nat) (t : Fr) (x : MV) (k : Fr → G), (setT d n).run t x k = k (t.set n x) := by
  induction d with
  | zero => intro n t x k; exact PT.setK_eq t n x _
  | succ d ih =>
    intro n t x k
    show Clo.run (@Bool.rec (fun _ => Clo (Fr → MV → (Fr → G) → G)) (@Bool.rec (fun _ => Clo (Fr → MV → (Fr → G) → G)) ((setT d _).on _) ((setT d _).on _) _) _ _) t x k = _
    cases t with
    | lf =>
      cases Nat.beq n 0
      · cases Nat.beq (Nat.land n 1) 1
        · simp only [Clo.run_on]; rfl
        · simp only [Clo.run_on]; rfl
      · rfl
    | nd l v r =>
      rw [PT.set_nd]
      cases Nat.beq n 0
      · cases Nat.beq (Nat.land n 1) 1
        · simp only [Clo.run_on]; exact ih _ r x _
        · simp only [Clo.run_on]; exact ih _ l x _
      · rfl
def tOps : FrOps Fr where
  get := getT 12
  set := setT 12
  init := frame0
  to := fun a => a
  get_run := getT_run 12
  set_run := setT_run 12
  to_init := rfl

/-! ### awake -/
def d0 : R := ⟨.undef, .lf, 0⟩
def finT (nx : An) : KV := fun v _ _ => eBool v (fun _ _ => nx) nG .lf 0
theorem finT_ok {v : MV} {h : Heap} {n : Nat} {nx : An} {r : R} (e : finT nx v h n = some r) : v = .bool true ∧ nx = some r := by
  unfold finT at e
  cases v <;> try cases e
  rename_i b
  cases b
  · cases e
  · exact ⟨rfl, e⟩
theorem awake_run : kf T0 F0 tB depth 12 [] (finT (some d0)) (PT.fill none 19) 0 = some d0 := by kernel_rfl
abbrev Any : Fact := fun _ => True
theorem inv_nil {Φ : Fact} {θ : Env} (hf : Φ θ.sym) (d : Nat) (w : World) : Inv Φ (fun _ => False) 0 θ (PT.fill none d) w := by
  refine ⟨hf, fun y hy => hy.elim, ⟨fun y o e => ?_, fun y z hy => ?_, fun y hy => ?_⟩, fun y o e => ?_⟩
  · rw [get_none] at e; cases e
  · obtain ⟨o, e, _⟩ := hy; rw [get_none] at e; cases e
  · obtain ⟨o, e, _⟩ := hy; rw [get_none] at e; cases e
  · rw [get_none] at e; cases e
theorem below_of {θ θ' : Env} {d n' : Nat} {D : Nat → Prop} {n : Nat} {h' : Heap} {w w' : World} (l : Leads D n θ (PT.fill none d) w n' θ' h' w') : Below w.heap.size w w' :=
  ⟨l.os, l.tape, l.output, l.size, fun k hk => l.kept k hk fun y hy => by obtain ⟨o, e, _⟩ := hy; rw [get_none] at e; cases e⟩
theorem awake_c (w : World) : Calls Tryz.prog 12 #[] w fun e w' => e = .returned (.bool true) ∧ Below w.heap.size w w' := by
  have e := awake_run
  rw [kf_eq] at e
  change obR (sf T0 F0 tB depth 12 [] (PT.fill none 19) 0) (finT (some d0)) = some d0 at e
  cases hr : sf T0 F0 tB depth 12 [] (PT.fill none 19) 0 with
  | none => rw [hr] at e; cases e
  | some r =>
    rw [hr] at e
    obtain ⟨rv, rh, rn⟩ := r
    rw [obR_mk] at e
    obtain ⟨rfl, _⟩ := finT_ok e
    obtain ⟨_, c⟩ := sf_calls (Φ := Any) tB_ok (by kernel_rfl) hr (inv_nil (θ := E0) trivial 19 w) (by trivial)
    refine c.mono ?_
    rintro ex w' ⟨θ', rfl, l, _⟩
    exact ⟨by simp [MV.real], below_of l⟩
noncomputable def oAwk (args : List MV) (h : Heap) (n : Nat) : Option An := match args with | [] => some (some ⟨.bool true, h, n⟩) | _ => none
theorem oAwk_ok {Φ : Fact} {args : List MV} {h : Heap} {n : Nat} {r : R} (e : oAwk args h n = some (some r)) : FnOk Φ Tryz.prog 12 args h n r := by
  unfold oAwk at e
  split at e
  · simp only [Option.some.injEq] at e
    subst e
    intro D θ w hi ha
    refine .inl ⟨enter_fn Tryz.func12 (by kernel_rfl) (by rfl) _ w, ?_⟩
    refine (awake_c w).mono ?_
    rintro ex w' ⟨rfl, hb⟩
    exact ⟨θ, by simp [MV.real], leads_below hi hb, by simp [MV.ok]⟩
  · cases e
def tM (many L : Nat) : OT := ((tB.set 100 oMade).set 27 (oSet many L)).set 12 (.of oAwk)
theorem tM_ok (many L : Nat) : OrcOk Any Tryz.prog (orcOf (tM many L)) :=
  orc_set (orc_set (orc_set tB_ok fun args h n r e => oMade_ok args h n r e) fun args h n r e => oSet_ok many L args h n r e) fun _ _ _ _ e => oAwk_ok e
/-- The same for one way of the first bytes alone: c bytes are as the leading time's, the next one is not. -/
def tMc (L c : Nat) : OT := (tLw L c).set 12 (.of oAwk)
abbrev FactC (L c : Nat) : Fact := FactT (frs c) c (neOf L c)
theorem tMc_ok (L c : Nat) : OrcOk (FactC L c) Tryz.prog (orcOf (tMc L c)) :=
  orc_set (tLw_ok L c) fun _ _ _ _ e => oAwk_ok e
theorem factC_of (σ : Nat → UInt8) (L : Nat) : ∃ c, c ≤ 3 ∧ c ≤ L ∧ FactC L c σ := by
  rcases cover 0 σ L with h | ⟨w, hw, _⟩
  · exact ⟨0, by omega, by omega, h⟩
  · clear hw
    by_cases h0 : σ 0 = 48
    · match L with
      | 0 => exact ⟨0, by omega, by omega, told_nil σ, fun d e => by cases e⟩
      | 1 => exact ⟨1, by omega, by omega, told1 h0, fun d e => by cases e⟩
      | 2 =>
        by_cases h1 : σ 1 = 58
        · exact ⟨2, by omega, by omega, told2 h0 h1, fun d e => by cases e⟩
        · exact ⟨1, by omega, by omega, told1 h0, fun d e => by obtain rfl := Option.some.inj e; exact h1⟩
      | L + 3 =>
        by_cases h1 : σ 1 = 58
        · by_cases h2 : σ 2 = 49
          · exact ⟨3, by omega, by omega, told3 h0 h1 h2, fun d e => by
              unfold neOf at e
              split at e <;> cases e⟩
          · exact ⟨2, by omega, by omega, told2 h0 h1, fun d e => by
              unfold neOf at e
              split at e
              · cases e
              · obtain rfl := Option.some.inj e; exact h2⟩
        · exact ⟨1, by omega, by omega, told1 h0, fun d e => by
            unfold neOf at e
            split at e
            · cases e
            · obtain rfl := Option.some.inj e; exact h1⟩
    · exact ⟨0, by omega, by omega, told_nil σ, fun d e => by
        unfold neOf at e
        split at e
        · cases e
        · obtain rfl := Option.some.inj e
          exact h0⟩

/-! ### TopLines behind its checks -/
noncomputable def tl (c : Code) : Code := match c with | .seq _ b => b | c => c
def c4 : Code := match Tryz.f4.body with | none => .skip | some b => tl (tl (tl (tl b)))
def codes (n : Nat) : List Nat := @Nat.rec (fun _ => List Nat → List Nat) (fun r => r) (fun m ih r => ih (Nat.add 256 m :: r)) n []
/-- The text's bytes, the first ones of which are known. -/
def codesT (fr : List Nat) (L : Nat) : List Nat := @Nat.rec (fun _ => List Nat → List Nat) (fun r => r) (fun m ih r => ih (litC fr (Nat.add 256 m) :: r)) L []
def aT (l : List Nat) (many : Nat) : Fr := ((PT.fill none 9).set 1 (.str l)).set 6 (.int .i64 (.ofNat (Nat.succ many)))
def endR (nx : An) : Fr → G := fun a => (getT 12 4).on fun g => g a (finT nx)
def shT (t : OT) (l : List Nat) (many : Nat) (nx : An) : An := (codeK tOps T0 fx4.plans c4).on fun g => g (kf T0 F0 t depth) (fun _ _ => nG) (endR nx) (fun _ => nG) (aT l many) (PT.fill none 19) 0
def sh (many L : Nat) (nx : An) : An := shT (tM many L) (codes L) many nx
def shc (c many L : Nat) (nx : An) : An := shT (tMc L c) (codesT (frs c) L) many nx
end
end Go.Proofs.YtkeckbmhaplkpaaGreatDoor.Ln
