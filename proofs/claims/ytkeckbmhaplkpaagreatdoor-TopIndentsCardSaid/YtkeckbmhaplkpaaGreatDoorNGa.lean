/- What the fast evaluator is made of: closed eliminators, frames of some slots, ways to cells. Printed by gen_ga.py. -/
import Derived.Test.YtkeckbmhaplkpaaGreatDoorNEvB
namespace Go.Proofs.YtkeckbmhaplkpaaGreatDoor.Ln
open Go
noncomputable section

/-! ### A closure in a box: what stands in it is reckoned once -/
inductive Clo (α : Type) where
  | mk (a : α)
section
variable {α β : Type}
def Clo.on (c : Clo α) (k : α → β) : β := Clo.rec (motive := fun _ => β) k c
def Clo.run (c : Clo α) : α := Clo.rec (motive := fun _ => α) (fun a => a) c
theorem Clo.run_mk (a : α) : (Clo.mk a).run = a := rfl
theorem Clo.run_on (c : Clo α) (k : α → Clo β) : (c.on k).run = (k c.run).run := by cases c; rfl
theorem Clo.on_run (c : Clo α) (k : α → β) : c.on k = k c.run := by cases c; rfl
def ofo (o : Option α) (k : Option α → β) : β := Option.rec (motive := fun _ => β) (k none) (fun a => k (some a)) o
theorem ofo_eq (o : Option α) (k : Option α → β) : ofo o k = k o := by cases o <;> rfl
end
abbrev An := Option R
/-- What is left to do: of a heap, of the names in use. -/
abbrev G := Heap → Nat → An
def nG : G := fun _ _ => none
abbrev KV := MV → G
def ob {α : Type} (o : Option α) (k : α → G) : G := @Option.rec α (fun _ => G) nG k o
theorem ob_none {α : Type} (k : α → G) : ob none k = nG := rfl
theorem ob_some {α : Type} (a : α) (k : α → G) : ob (some a) k = k a := rfl
/-- What follows a run. -/
def obR (o : An) (k : KV) : An := @Option.rec R (fun _ => An) none (fun r => @R.rec (fun _ => An) k r) o
theorem obR_none (k : KV) : obR none k = none := rfl
theorem obR_mk (v : MV) (h : Heap) (n : Nat) (k : KV) : obR (some ⟨v, h, n⟩) k = k v h n := rfl

/-! ### Numbers -/
def fnatR : Nat → (Nat → G) → G := @Nat.rec (fun _ => (Nat → G) → G) (fun k => k 0) (fun m _ k => k (Nat.succ m))
theorem fnatR_eq (n : Nat) (k : Nat → G) : fnatR n k = k n := by cases n <;> rfl
def fintR : Int → (Int → G) → G := @Int.rec (fun _ => (Int → G) → G) (fun n k => fnatR n fun n => k (.ofNat n)) (fun n k => fnatR n fun n => k (.negSucc n))
theorem fintR_eq (n : Int) (k : Int → G) : fintR n k = k n := by cases n <;> exact fnatR_eq _ _
def eNat : Int → (Nat → G) → G → G := @Int.rec (fun _ => (Nat → G) → G → G) (fun n k _ => k n) (fun _ _ e => e)
def brB (b : Bool) (t e : G) : G := @Bool.rec (fun _ => G) e t b
theorem brB_true (t e : G) : brB true t e = t := rfl
theorem brB_false (t e : G) : brB false t e = e := rfl

/-! ### Values taken apart -/
def ePtr : MV → (Nat → Nat → G) → G :=
  @MV.rec (fun _ => ((Nat → Nat → G) → G)) (fun _ => Unit) (fun _ => fun _ => nG) (fun _ _ => fun _ => nG) (fun _ => fun _ => nG) (fun _ => nG) (fun y o k => k y o) (fun _ => nG) (fun _ _ _ _ => fun _ => nG) (fun _ => nG) (fun _ => fun _ => nG) (fun _ _ _ _ _ => fun _ => nG) (fun _ => nG) (fun _ => nG) (fun _ _ => fun _ => nG) (fun _ _ => fun _ => nG) (fun _ _ _ => fun _ => nG) (fun _ => fun _ => nG) (fun _ _ _ _ => fun _ => nG) (fun _ => fun _ => nG) (fun _ _ => fun _ => nG) ⟨⟩ (fun _ _ _ _ => ⟨⟩)
def eMp : MV → (Nat → G) → G → G :=
  @MV.rec (fun _ => ((Nat → G) → G → G)) (fun _ => Unit) (fun _ => fun _ e => e) (fun _ _ => fun _ e => e) (fun _ => fun _ e => e) (fun _ e => e) (fun _ _ => fun _ e => e) (fun _ e => e) (fun _ _ _ _ => fun _ e => e) (fun _ e => e) (fun y k _ => k y) (fun _ _ _ _ _ => fun _ e => e) (fun _ e => e) (fun _ e => e) (fun _ _ => fun _ e => e) (fun _ _ => fun _ e => e) (fun _ _ _ => fun _ e => e) (fun _ => fun _ e => e) (fun _ _ _ _ => fun _ e => e) (fun _ => fun _ e => e) (fun _ _ => fun _ e => e) ⟨⟩ (fun _ _ _ _ => ⟨⟩)
def eBool : MV → G → G → G :=
  @MV.rec (fun _ => (G → G → G)) (fun _ => Unit) (fun b t e => @Bool.rec (fun _ => G) e t b) (fun _ _ => fun _ _ => nG) (fun _ => fun _ _ => nG) (fun _ _ => nG) (fun _ _ => fun _ _ => nG) (fun _ _ => nG) (fun _ _ _ _ => fun _ _ => nG) (fun _ _ => nG) (fun _ => fun _ _ => nG) (fun _ _ _ _ _ => fun _ _ => nG) (fun _ _ => nG) (fun _ _ => nG) (fun _ _ => fun _ _ => nG) (fun _ _ => fun _ _ => nG) (fun _ _ _ => fun _ _ => nG) (fun _ => fun _ _ => nG) (fun _ _ _ _ => fun _ _ => nG) (fun _ => fun _ _ => nG) (fun _ _ => fun _ _ => nG) ⟨⟩ (fun _ _ _ _ => ⟨⟩)
def eWantT : MV → G → G → G :=
  @MV.rec (fun _ => (G → G → G)) (fun _ => Unit) (fun b t e => @Bool.rec (fun _ => G) e t b) (fun _ _ => fun _ e => e) (fun _ => fun _ e => e) (fun _ e => e) (fun _ _ => fun _ e => e) (fun _ e => e) (fun _ _ _ _ => fun _ e => e) (fun _ e => e) (fun _ => fun _ e => e) (fun _ _ _ _ _ => fun _ e => e) (fun _ e => e) (fun _ e => e) (fun _ _ => fun _ e => e) (fun _ _ => fun _ e => e) (fun _ _ _ => fun _ e => e) (fun _ => fun _ e => e) (fun _ _ _ _ => fun _ e => e) (fun _ => fun _ e => e) (fun _ _ => fun _ e => e) ⟨⟩ (fun _ _ _ _ => ⟨⟩)
def eWantF : MV → G → G → G :=
  @MV.rec (fun _ => (G → G → G)) (fun _ => Unit) (fun b t e => @Bool.rec (fun _ => G) t e b) (fun _ _ => fun _ e => e) (fun _ => fun _ e => e) (fun _ e => e) (fun _ _ => fun _ e => e) (fun _ e => e) (fun _ _ _ _ => fun _ e => e) (fun _ e => e) (fun _ => fun _ e => e) (fun _ _ _ _ _ => fun _ e => e) (fun _ e => e) (fun _ e => e) (fun _ _ => fun _ e => e) (fun _ _ => fun _ e => e) (fun _ _ _ => fun _ e => e) (fun _ => fun _ e => e) (fun _ _ _ _ => fun _ e => e) (fun _ => fun _ e => e) (fun _ _ => fun _ e => e) ⟨⟩ (fun _ _ _ _ => ⟨⟩)
def eInt : MV → (IntKind → Int → G) → G → G :=
  @MV.rec (fun _ => ((IntKind → Int → G) → G → G)) (fun _ => Unit) (fun _ => fun _ e => e) (fun q n k _ => k q n) (fun _ => fun _ e => e) (fun _ e => e) (fun _ _ => fun _ e => e) (fun _ e => e) (fun _ _ _ _ => fun _ e => e) (fun _ e => e) (fun _ => fun _ e => e) (fun _ _ _ _ _ => fun _ e => e) (fun _ e => e) (fun _ e => e) (fun _ _ => fun _ e => e) (fun _ _ => fun _ e => e) (fun _ _ _ => fun _ e => e) (fun _ => fun _ e => e) (fun _ _ _ _ => fun _ e => e) (fun _ => fun _ e => e) (fun _ _ => fun _ e => e) ⟨⟩ (fun _ _ _ _ => ⟨⟩)
def eStr : MV → (List Nat → G) → G → G :=
  @MV.rec (fun _ => ((List Nat → G) → G → G)) (fun _ => Unit) (fun _ => fun _ e => e) (fun _ _ => fun _ e => e) (fun l k _ => k l) (fun _ e => e) (fun _ _ => fun _ e => e) (fun _ e => e) (fun _ _ _ _ => fun _ e => e) (fun _ e => e) (fun _ => fun _ e => e) (fun _ _ _ _ _ => fun _ e => e) (fun _ e => e) (fun _ e => e) (fun _ _ => fun _ e => e) (fun _ _ => fun _ e => e) (fun _ _ _ => fun _ e => e) (fun _ => fun _ e => e) (fun _ _ _ _ => fun _ e => e) (fun _ => fun _ e => e) (fun _ _ => fun _ e => e) ⟨⟩ (fun _ _ _ _ => ⟨⟩)
def eAgg : MV → (List MV → G) → G :=
  @MV.rec (fun _ => ((List MV → G) → G)) (fun _ => Unit) (fun _ => fun _ => nG) (fun _ _ => fun _ => nG) (fun _ => fun _ => nG) (fun _ => nG) (fun _ _ => fun _ => nG) (fun _ => nG) (fun _ _ _ _ => fun _ => nG) (fun _ => nG) (fun _ => fun _ => nG) (fun _ _ _ _ _ => fun _ => nG) (fun _ => nG) (fun _ => nG) (fun l _ k => k l) (fun _ _ => fun _ => nG) (fun _ _ _ => fun _ => nG) (fun _ => fun _ => nG) (fun _ _ _ _ => fun _ => nG) (fun _ => fun _ => nG) (fun _ _ => fun _ => nG) ⟨⟩ (fun _ _ _ _ => ⟨⟩)
def eTuple : MV → (List MV → G) → G :=
  @MV.rec (fun _ => ((List MV → G) → G)) (fun _ => Unit) (fun _ => fun _ => nG) (fun _ _ => fun _ => nG) (fun _ => fun _ => nG) (fun _ => nG) (fun _ _ => fun _ => nG) (fun _ => nG) (fun _ _ _ _ => fun _ => nG) (fun _ => nG) (fun _ => fun _ => nG) (fun _ _ _ _ _ => fun _ => nG) (fun _ => nG) (fun _ => nG) (fun _ _ => fun _ => nG) (fun l _ k => k l) (fun _ _ _ => fun _ => nG) (fun _ => fun _ => nG) (fun _ _ _ _ => fun _ => nG) (fun _ => fun _ => nG) (fun _ _ => fun _ => nG) ⟨⟩ (fun _ _ _ _ => ⟨⟩)
def eSlice : MV → (Nat → Nat → Nat → Cap → G) → G → G :=
  @MV.rec (fun _ => ((Nat → Nat → Nat → Cap → G) → G → G)) (fun _ => Unit) (fun _ => fun _ e => e) (fun _ _ => fun _ e => e) (fun _ => fun _ e => e) (fun _ e => e) (fun _ _ => fun _ e => e) (fun _ e => e) (fun y o n c k _ => k y o n c) (fun _ e => e) (fun _ => fun _ e => e) (fun _ _ _ _ _ => fun _ e => e) (fun _ e => e) (fun _ e => e) (fun _ _ => fun _ e => e) (fun _ _ => fun _ e => e) (fun _ _ _ => fun _ e => e) (fun _ => fun _ e => e) (fun _ _ _ _ => fun _ e => e) (fun _ => fun _ e => e) (fun _ _ => fun _ e => e) ⟨⟩ (fun _ _ _ _ => ⟨⟩)
def eFunc : MV → (Nat → List MV → List MV → G) → G :=
  @MV.rec (fun _ => ((Nat → List MV → List MV → G) → G)) (fun _ => Unit) (fun _ => fun _ => nG) (fun _ _ => fun _ => nG) (fun _ => fun _ => nG) (fun _ => nG) (fun _ _ => fun _ => nG) (fun _ => nG) (fun _ _ _ _ => fun _ => nG) (fun _ => nG) (fun _ => fun _ => nG) (fun f a c _ _ k => k f a c) (fun _ => nG) (fun _ => nG) (fun _ _ => fun _ => nG) (fun _ _ => fun _ => nG) (fun _ _ _ => fun _ => nG) (fun _ => fun _ => nG) (fun _ _ _ _ => fun _ => nG) (fun _ => fun _ => nG) (fun _ _ => fun _ => nG) ⟨⟩ (fun _ _ _ _ => ⟨⟩)
def eNil : MV → G → G :=
  @MV.rec (fun _ => (G → G)) (fun _ => Unit) (fun _ => fun _ => nG) (fun _ _ => fun _ => nG) (fun _ => fun _ => nG) (fun _ => nG) (fun _ _ k => k) (fun _ => nG) (fun _ _ _ _ => fun _ => nG) (fun _ => nG) (fun _ => fun _ => nG) (fun _ _ _ _ _ k => k) (fun _ => nG) (fun _ => nG) (fun _ _ => fun _ => nG) (fun _ _ => fun _ => nG) (fun _ _ _ => fun _ => nG) (fun _ => fun _ => nG) (fun _ _ _ _ => fun _ => nG) (fun _ => fun _ => nG) (fun _ _ => fun _ => nG) ⟨⟩ (fun _ _ _ _ => ⟨⟩)
def eCells : MV → MV → (List MV → G) → G :=
  @MV.rec (fun _ => (MV → (List MV → G) → G)) (fun _ => Unit) (fun _ => fun v k => k [v]) (fun _ _ => fun v k => k [v]) (fun _ => fun v k => k [v]) (fun v k => k [v]) (fun _ _ => fun v k => k [v]) (fun v k => k [v]) (fun _ _ _ _ => fun v k => k [v]) (fun v k => k [v]) (fun _ => fun v k => k [v]) (fun _ _ _ _ _ => fun v k => k [v]) (fun v k => k [v]) (fun v k => k [v]) (fun l _ _ k => k l) (fun _ _ _ _ => nG) (fun _ _ _ => fun v k => k [v]) (fun _ => fun v k => k [v]) (fun _ _ _ _ => fun v k => k [v]) (fun _ => fun v k => k [v]) (fun _ _ => fun v k => k [v]) ⟨⟩ (fun _ _ _ _ => ⟨⟩)
def eForce : MV → MV → (MV → G) → G :=
  @MV.rec (fun _ => (MV → (MV → G) → G)) (fun _ => Unit) (fun b _ k => @Bool.rec (fun _ => G) (k (.bool false)) (k (.bool true)) b) (fun q n _ k => fintR n fun n => k (.int q n)) (fun _ => fun v k => k v) (fun v k => k v) (fun y o _ k => fnatR o fun o => k (.ptr y o)) (fun v k => k v) (fun y o n c _ k => fnatR o fun o => fnatR n fun n => k (.slice y o n c)) (fun v k => k v) (fun _ => fun v k => k v) (fun _ _ _ _ _ => fun v k => k v) (fun v k => k v) (fun v k => k v) (fun _ _ => fun v k => k v) (fun _ _ => fun v k => k v) (fun y m c _ k => fnatR c fun c => k (.num y m c)) (fun m _ k => fnatR m fun m => k (.sym m)) (fun y lo hi c _ k => fintR c fun c => k (.lin y lo hi c)) (fun _ => fun v k => k v) (fun _ _ => fun v k => k v) ⟨⟩ (fun _ _ _ _ => ⟨⟩)
def eI64 : IntKind → G → G → G := @IntKind.rec (fun _ => G → G → G) (fun _ e => e) (fun _ e => e) (fun _ e => e) (fun t _ => t) (fun _ e => e) (fun _ e => e) (fun _ e => e) (fun _ e => e)
def eU8 : IntKind → G → G → G := @IntKind.rec (fun _ => G → G → G) (fun _ e => e) (fun _ e => e) (fun _ e => e) (fun _ e => e) (fun t _ => t) (fun _ e => e) (fun _ e => e) (fun _ e => e)
def eKind : IntKind → IntKind → G → G → G := @IntKind.rec (fun _ => IntKind → G → G → G) (fun _ _ e => e) (fun _ _ e => e) (fun _ _ e => e) (fun q t e => eI64 q t e) (fun q t e => eU8 q t e) (fun _ _ e => e) (fun _ _ e => e) (fun _ _ e => e)
/-- A number of 64 bits, from 0 on. -/
def eN64 : MV → (Nat → G) → G → G := fun v k e => eInt v (fun q n => eI64 q (eNat n k e) e) e
theorem eForce_eq (v : MV) (k : KV) : eForce v v k = k v := by
  cases v <;> first | rfl | exact fintR_eq _ _ | exact fnatR_eq _ _ | skip
  · rename_i b
    cases b <;> rfl
  · rename_i y o n c
    show fnatR o (fun o => fnatR n fun n => k (.slice y o n c)) = _
    rw [fnatR_eq, fnatR_eq]
theorem eN64_eq (v : MV) (k : Nat → G) (e : G) : (∃ n, v = .int .i64 (.ofNat n) ∧ eN64 v k e = k n) ∨ eN64 v k e = e := by
  cases v <;> try exact .inr rfl
  rename_i q n
  cases q <;> try exact .inr rfl
  cases n with
  | ofNat n => exact .inl ⟨n, rfl, rfl⟩
  | negSucc n => exact .inr rfl
theorem eCells_eq (v : MV) (q : List MV → G) : eCells v v q = ob v.cells q := by cases v <;> rfl
def eObj : MObj → (List MV → Option (Nat × Nat) → G) → G := @MObj.rec (fun _ => (List MV → Option (Nat × Nat) → G) → G) (fun l r k => k l r) (fun _ _ _ => nG) (fun _ _ => nG) (fun _ => nG)

/-! ### The heap: ways to its names -/
def canon {β : Type} (m : Nat) (k : Nat → β) : β := @Nat.rec (fun _ => β) (k 0) (fun p _ => k (Nat.succ p)) m
theorem canon_eq {β : Type} (m : Nat) (k : Nat → β) : canon m k = k m := by cases m <;> rfl
abbrev HG := Clo (Heap → (MObj → G) → G)
abbrev HS := Clo (Heap → MObj → G → Nat → An)
def getH (d : Nat) : Nat → HG :=
  Nat.rec (motive := fun _ => Nat → HG) (fun n => .mk fun t k => ob (PT.get t n) k)
    (fun _ ih n => @Bool.rec (fun _ => HG)
      (@Bool.rec (fun _ => HG)
        (canon (Nat.shiftRight (Nat.pred n) 1) fun m => (ih m).on fun g => .mk (@PT.rec MObj (fun _ => (MObj → G) → G) (fun _ => nG) (fun _ _ r _ _ k => g r k)))
        (canon (Nat.shiftRight n 1) fun m => (ih m).on fun g => .mk (@PT.rec MObj (fun _ => (MObj → G) → G) (fun _ => nG) (fun l _ _ _ _ k => g l k)))
        (Nat.beq (Nat.land n 1) 1))
      (.mk (@PT.rec MObj (fun _ => (MObj → G) → G) (fun _ => nG) (fun _ v _ _ _ k => @Option.rec MObj (fun _ => G) nG k v)))
      (Nat.beq n 0)) d
def setH (d : Nat) : Nat → HS :=
  Nat.rec (motive := fun _ => Nat → HS) (fun n => .mk fun t x k i => PT.setK t n x fun t => k t i)
    (fun _ ih n => @Bool.rec (fun _ => HS)
      (@Bool.rec (fun _ => HS)
        (canon (Nat.shiftRight (Nat.pred n) 1) fun m => (ih m).on fun g => .mk (@PT.rec MObj (fun _ => MObj → G → Nat → An) (fun _ k => k .lf) (fun l v r _ _ x k => g r x fun r' => k (.nd l v r'))))
        (canon (Nat.shiftRight n 1) fun m => (ih m).on fun g => .mk (@PT.rec MObj (fun _ => MObj → G → Nat → An) (fun _ k => k .lf) (fun l v r _ _ x k => g l x fun l' => k (.nd l' v r))))
        (Nat.beq (Nat.land n 1) 1))
      (.mk (@PT.rec MObj (fun _ => MObj → G → Nat → An) (fun _ k => k .lf) (fun l _ r _ _ x k => k (.nd l (some x) r))))
      (Nat.beq n 0)) d
theorem getH_run (d : Nat) : ∀ (n : Nat) (t : Heap) (k : MObj → G), (getH d n).run t k = ob (t.get n) k := by
  induction d with
  | zero => intro n t k; rfl
  | succ d ih =>
    intro n t k
    show Clo.run (@Bool.rec (fun _ => HG) (@Bool.rec (fun _ => HG) (canon _ fun m => (getH d m).on _) (canon _ fun m => (getH d m).on _) _) _ _) t k = _
    rw [canon_eq, canon_eq]
    cases t with
    | lf =>
      cases Nat.beq n 0
      · cases Nat.beq (Nat.land n 1) 1
        · simp only [Clo.run_on]; rfl
        · simp only [Clo.run_on]; rfl
      · rfl
    | nd l v r =>
      rw [PT.get_nd]
      cases Nat.beq n 0
      · cases Nat.beq (Nat.land n 1) 1
        · simp only [Clo.run_on]; exact ih _ r k
        · simp only [Clo.run_on]; exact ih _ l k
      · rfl
theorem setH_run (d : Nat) : ∀ (n : Nat) (t : Heap) (x : MObj) (k : G), (setH d n).run t x k = k (t.set n x) := by
  induction d with
  | zero => intro n t x k; funext i; exact PT.setK_eq t n x _
  | succ d ih =>
    intro n t x k
    show Clo.run (@Bool.rec (fun _ => HS) (@Bool.rec (fun _ => HS) (canon _ fun m => (setH d m).on _) (canon _ fun m => (setH d m).on _) _) _ _) t x k = _
    rw [canon_eq, canon_eq]
    cases t with
    | lf =>
      cases Nat.beq n 0
      · cases Nat.beq (Nat.land n 1) 1
        · simp only [Clo.run_on]; rfl
        · simp only [Clo.run_on]; rfl
      · rfl
    | nd l v r =>
      rw [PT.set_nd]
      cases Nat.beq n 0
      · cases Nat.beq (Nat.land n 1) 1
        · simp only [Clo.run_on]; exact ih _ r x _
        · simp only [Clo.run_on]; exact ih _ l x _
      · rfl
def hget (y : Nat) (k : MObj → G) : G := fun h n => (getH 20 y).on fun g => g h k h n
def hset (y : Nat) (o : MObj) (k : G) : G := fun h n => (setH 20 y).on fun g => g h o k n
theorem hget_eq (y : Nat) (k : MObj → G) (h : Heap) (n : Nat) : hget y k h n = ob (h.get y) k h n := by unfold hget; rw [Clo.on_run, getH_run]
theorem hset_eq (y : Nat) (o : MObj) (k : G) (h : Heap) (n : Nat) : hset y o k h n = k (h.set y o) n := by unfold hset; rw [Clo.on_run, setH_run]

/-! ### Ways to cells of a row -/
abbrev KL := List MV → G
def cellC (o : Nat) : Clo (List MV → KV → G) := Nat.rec (motive := fun _ => Clo (List MV → KV → G)) (.mk (@List.rec MV (fun _ => KV → G) (fun _ => nG) (fun x _ _ k => k x)))
  (fun _ ih => ih.on fun g => .mk (@List.rec MV (fun _ => KV → G) (fun _ => nG) (fun _ r _ k => g r k))) o
theorem cellC_succ (o : Nat) : cellC (o + 1) = (cellC o).on fun g => .mk (@List.rec MV (fun _ => KV → G) (fun _ => nG) (fun _ r _ k => g r k)) := rfl
theorem cellC_run (o : Nat) : ∀ (l : List MV) (k : KV), (cellC o).run l k = ob (lget l o) k := by
  induction o with
  | zero => intro l k; cases l <;> rfl
  | succ o ih =>
    intro l k
    rw [cellC_succ, Clo.run_on]
    cases l with
    | nil => rfl
    | cons x r => exact ih r k
def dropC (o : Nat) : Clo (List MV → KL → G) := Nat.rec (motive := fun _ => Clo (List MV → KL → G)) (.mk fun l k => k l)
  (fun _ ih => ih.on fun g => .mk (@List.rec MV (fun _ => KL → G) (fun k => k []) (fun _ r _ k => g r k))) o
theorem dropC_succ (o : Nat) : dropC (o + 1) = (dropC o).on fun g => .mk (@List.rec MV (fun _ => KL → G) (fun k => k []) (fun _ r _ k => g r k)) := rfl
theorem dropC_run (o : Nat) : ∀ (l : List MV) (k : KL), (dropC o).run l k = k (ldrop l o) := by
  induction o with
  | zero => intro l k; cases l <;> rfl
  | succ o ih =>
    intro l k
    rw [dropC_succ, Clo.run_on]
    cases l with
    | nil => rfl
    | cons x r => exact ih r k
def takeC (n : Nat) : Clo (List MV → KL → G) := Nat.rec (motive := fun _ => Clo (List MV → KL → G)) (.mk fun _ k => k [])
  (fun _ ih => ih.on fun g => .mk (@List.rec MV (fun _ => KL → G) (fun _ => nG) (fun x r _ k => g r fun s => k (x :: s)))) n
theorem takeC_succ (n : Nat) : takeC (n + 1) = (takeC n).on fun g => .mk (@List.rec MV (fun _ => KL → G) (fun _ => nG) (fun x r _ k => g r fun s => k (x :: s))) := rfl
/-- What the evaluator's searches answer, handed on. -/
theorem take_ob (l : List MV) : ∀ {α : Type} (n : Nat) (f : List MV → Option α) (k : α → G), ob (ltakeK l n f) k = ob (ltakeK l n some) fun r => ob (f r) k := by
  induction l with
  | nil =>
    intro α n f k
    show ob (Bool.rec (motive := fun _ => Option α) none (f []) (Nat.beq n 0)) k = ob (Bool.rec (motive := fun _ => Option (List MV)) none (some []) (Nat.beq n 0)) fun r => ob (f r) k
    cases Nat.beq n 0 <;> rfl
  | cons x r ih =>
    intro α n f k
    show ob (Bool.rec (motive := fun _ => Option α) (ltakeK r (Nat.pred n) fun r => f (x :: r)) (f []) (Nat.beq n 0)) k = ob (Bool.rec (motive := fun _ => Option (List MV)) (ltakeK r (Nat.pred n) fun r => some (x :: r)) (some []) (Nat.beq n 0)) fun r => ob (f r) k
    cases Nat.beq n 0
    · exact (ih (Nat.pred n) (fun r => f (x :: r)) k).trans (ih (Nat.pred n) (fun r => some (x :: r)) fun r => ob (f r) k).symm
    · rfl
theorem takeC_run (n : Nat) : ∀ (l : List MV) (k : KL), (takeC n).run l k = ob (ltakeK l n some) k := by
  induction n with
  | zero => intro l k; cases l <;> rfl
  | succ n ih =>
    intro l k
    rw [takeC_succ, Clo.run_on]
    cases l with
    | nil => rfl
    | cons x r =>
      show (takeC n).run r (fun s => k (x :: s)) = ob (ltakeK r n fun r => some (x :: r)) k
      rw [ih, take_ob r n fun r => some (x :: r)]
      rfl
/-- A row with others laid over its beginning. -/
def overK : List MV → List MV → KL → G := @List.rec MV (fun _ => List MV → KL → G) (fun l k => k l)
  (fun v _ ih l k => @List.rec MV (fun _ => (List MV → KL → G) → MV → KL → G) (fun _ _ _ => nG) (fun _ r _ ih v k => ih r fun s => k (v :: s)) l ih v k)
def overC (o : Nat) : Clo (List MV → List MV → KL → G) := Nat.rec (motive := fun _ => Clo (List MV → List MV → KL → G)) (.mk fun l vs k => overK vs l k)
  (fun _ ih => ih.on fun g => .mk (@List.rec MV (fun _ => List MV → KL → G) (fun vs k => overK vs [] k) (fun x r _ vs k => g r vs fun s => k (x :: s)))) o
theorem overC_succ (o : Nat) : overC (o + 1) = (overC o).on fun g => .mk (@List.rec MV (fun _ => List MV → KL → G) (fun vs k => overK vs [] k) (fun x r _ vs k => g r vs fun s => k (x :: s))) := rfl
theorem set_ob (l : List MV) : ∀ {α : Type} (n : Nat) (x : MV) (f : List MV → Option α) (k : α → G), ob (lsetK l n x f) k = ob (lsetK l n x some) fun r => ob (f r) k := by
  induction l with
  | nil => intro α n x f k; rfl
  | cons y r ih =>
    intro α n x f k
    show ob (Bool.rec (motive := fun _ => Option α) (lsetK r (Nat.pred n) x fun r' => f (y :: r')) (f (x :: r)) (Nat.beq n 0)) k = ob (Bool.rec (motive := fun _ => Option (List MV)) (lsetK r (Nat.pred n) x fun r' => some (y :: r')) (some (x :: r)) (Nat.beq n 0)) fun r => ob (f r) k
    cases Nat.beq n 0
    · exact (ih (Nat.pred n) x (fun r => f (y :: r)) k).trans (ih (Nat.pred n) x (fun r => some (y :: r)) fun r => ob (f r) k).symm
    · rfl
theorem fillK_nil {α : Type} (cs : List MV) (o : Nat) (k : List MV → Option α) : fillK [] cs o k = k cs := rfl
theorem fillK_cons {α : Type} (v : MV) (vs cs : List MV) (o : Nat) (k : List MV → Option α) : fillK (v :: vs) cs o k = lsetK cs o v fun cs' => fillK vs cs' (Nat.succ o) k := rfl
theorem fill_ob (vs : List MV) : ∀ {α : Type} (cs : List MV) (o : Nat) (f : List MV → Option α) (k : α → G), ob (fillK vs cs o f) k = ob (fillK vs cs o some) fun r => ob (f r) k := by
  induction vs with
  | nil => intro α cs o f k; rfl
  | cons v vs ih =>
    intro α cs o f k
    rw [fillK_cons, fillK_cons, set_ob, set_ob cs o v fun cs' => fillK vs cs' (Nat.succ o) some]
    congr 1
    funext cs'
    exact ih _ _ _ _
theorem fillK_up {α : Type} (vs : List MV) : ∀ (x : MV) (r : List MV) (o : Nat) (k : List MV → Option α), fillK vs (x :: r) (o + 1) k = fillK vs r o fun s => k (x :: s) := by
  induction vs with
  | nil => intro x r o k; rfl
  | cons v vs ih =>
    intro x r o k
    rw [fillK_cons, fillK_cons]
    show lsetK r o v (fun r' => fillK vs (x :: r') (Nat.succ (o + 1)) k) = _
    congr 1
    funext r'
    exact ih x r' (o + 1) k
theorem overK_eq (vs : List MV) : ∀ (l : List MV) (k : KL), overK vs l k = ob (fillK vs l 0 some) k := by
  induction vs with
  | nil => intro l k; rfl
  | cons v vs ih =>
    intro l k
    cases l with
    | nil => rfl
    | cons x r =>
      show overK vs r (fun s => k (v :: s)) = ob (fillK vs (v :: r) 1 some) k
      rw [ih, fillK_up, fill_ob vs r 0 fun s => some (v :: s)]
      rfl
theorem overC_run (o : Nat) : ∀ (l vs : List MV) (k : KL), (overC o).run l vs k = ob (fillK vs l o some) k := by
  induction o with
  | zero => intro l vs k; exact overK_eq vs l k
  | succ o ih =>
    intro l vs k
    rw [overC_succ, Clo.run_on]
    cases l with
    | nil =>
      show overK vs [] k = _
      rw [overK_eq]
      cases vs <;> rfl
    | cons x r =>
      show (overC o).run r vs (fun s => k (x :: s)) = _
      rw [ih, fillK_up, fill_ob vs r o fun s => some (x :: s)]
      rfl

/-! ### Frames -/
/-- How the slots of a frame are read and written. -/
structure FrOps (F : Type) where
  get : Nat → Clo (F → KV → G)
  set : Nat → Clo (F → MV → (F → G) → G)
  init : F
  to : F → Fr
  get_run : ∀ (n : Nat) (a : F) (k : KV), (get n).run a k = ob ((to a).get n) k
  set_run : ∀ (n : Nat) (a : F) (v : MV) (k : Fr → G), (set n).run a v (fun a => k (to a)) = k ((to a).set n v)
  to_init : to init = frame0
/-- A table of 2 ^ d - 1 slots. -/
def ptOf (d : Nat) : (Nat → MV) → Fr := Nat.rec (motive := fun _ => (Nat → MV) → Fr) (fun _ => .lf) (fun _ ih f => .nd (ih fun n => f (2 * n + 1)) (some (f 0)) (ih fun n => f (2 * n + 2))) d
theorem ptOf_succ (d : Nat) (f : Nat → MV) : ptOf (d + 1) f = .nd (ptOf d fun n => f (2 * n + 1)) (some (f 0)) (ptOf d fun n => f (2 * n + 2)) := rfl
def upd (f : Nat → MV) (n : Nat) (v : MV) : Nat → MV := fun m => if m = n then v else f m
theorem odd_of {n : Nat} (h : Nat.beq (Nat.land n 1) 1 = true) : n = 2 * Nat.shiftRight n 1 + 1 := by
  have e1 : Nat.land n 1 = n % 2 := Nat.and_one_is_mod n
  have a := Nat.eq_of_beq_eq_true h
  have e3 : Nat.shiftRight n 1 = n / 2 := Nat.shiftRight_eq_div_pow n 1
  omega
theorem even_of {n : Nat} (h0 : Nat.beq n 0 = false) (h : Nat.beq (Nat.land n 1) 1 = false) : n = 2 * Nat.shiftRight (Nat.pred n) 1 + 2 := by
  have e1 : Nat.land n 1 = n % 2 := Nat.and_one_is_mod n
  have a := Nat.ne_of_beq_eq_false h
  have c := Nat.ne_of_beq_eq_false h0
  have e3 : Nat.shiftRight (Nat.pred n) 1 = (n - 1) / 2 := Nat.shiftRight_eq_div_pow _ 1
  omega
theorem ptOf_set (d : Nat) : ∀ (f : Nat → MV) (n : Nat) (v : MV), (ptOf d f).set n v = ptOf d (upd f n v) := by
  induction d with
  | zero => intro f n v; rfl
  | succ d ih =>
    intro f n v
    rw [ptOf_succ, ptOf_succ, PT.set_nd]
    cases h0 : Nat.beq n 0
    · have n0 := Nat.ne_of_beq_eq_false h0
      have e0 : upd f n v 0 = f 0 := if_neg (by omega)
      cases h1 : Nat.beq (Nat.land n 1) 1
      · have hn := even_of h0 h1
        simp only [cond_false]
        rw [ih, e0]
        congr 1
        · congr 1
          funext m
          simp only [upd]
          rw [if_neg (by omega)]
        · congr 1
          funext m
          simp only [upd]
          by_cases hm : m = Nat.shiftRight (Nat.pred n) 1
          · rw [if_pos hm, if_pos (by omega)]
          · rw [if_neg hm, if_neg (by omega)]
      · have hn := odd_of h1
        simp only [cond_false, cond_true]
        rw [ih, e0]
        congr 1
        · congr 1
          funext m
          simp only [upd]
          by_cases hm : m = Nat.shiftRight n 1
          · rw [if_pos hm, if_pos (by omega)]
          · rw [if_neg hm, if_neg (by omega)]
        · congr 1
          funext m
          simp only [upd]
          rw [if_neg (by omega)]
    · have n0 := Nat.eq_of_beq_eq_true h0
      simp only [cond_true]
      subst n0
      congr 1
theorem ptOf_get (d : Nat) : ∀ (f : Nat → MV) (n : Nat), n < 2 ^ d - 1 → (ptOf d f).get n = some (f n) := by
  induction d with
  | zero => intro f n h; simp at h
  | succ d ih =>
    intro f n h
    rw [ptOf_succ, PT.get_nd]
    have hp : 2 ^ (d + 1) = 2 * 2 ^ d := by rw [Nat.pow_succ]; omega
    cases h0 : Nat.beq n 0
    · cases h1 : Nat.beq (Nat.land n 1) 1
      · have hn := even_of h0 h1
        simp only [cond_false]
        rw [ih _ _ (by omega), ← hn]
      · have hn := odd_of h1
        simp only [cond_false, cond_true]
        rw [ih _ _ (by omega), ← hn]
    · rw [Nat.eq_of_beq_eq_true h0]; rfl
theorem ptOf_far (d : Nat) : ∀ (f : Nat → MV) (n : Nat), ¬ n < 2 ^ d - 1 → (ptOf d f).get n = none := by
  induction d with
  | zero => intro f n h; rfl
  | succ d ih =>
    intro f n h
    rw [ptOf_succ, PT.get_nd]
    have hp : 2 ^ (d + 1) = 2 * 2 ^ d := by rw [Nat.pow_succ]; omega
    have hp1 : 0 < 2 ^ d := Nat.pow_pos (by omega)
    cases h0 : Nat.beq n 0
    · cases h1 : Nat.beq (Nat.land n 1) 1
      · have hn := even_of h0 h1
        simp only [cond_false]
        exact ih _ _ (by omega)
      · have hn := odd_of h1
        simp only [cond_false, cond_true]
        exact ih _ _ (by omega)
    · have := Nat.eq_of_beq_eq_true h0
      omega
theorem ptOf_frame0 : ptOf 9 (fun _ => .undef) = frame0 := rfl
end
end Go.Proofs.YtkeckbmhaplkpaaGreatDoor.Ln
/- Frames of 32, 64 and 256 slots. Printed by gen_gf.py. -/
namespace Go.Proofs.YtkeckbmhaplkpaaGreatDoor.Ln
open Go
noncomputable section

structure F32 where
  c0 : MV
  c1 : MV
  c2 : MV
  c3 : MV
  c4 : MV
  c5 : MV
  c6 : MV
  c7 : MV
  c8 : MV
  c9 : MV
  c10 : MV
  c11 : MV
  c12 : MV
  c13 : MV
  c14 : MV
  c15 : MV
  c16 : MV
  c17 : MV
  c18 : MV
  c19 : MV
  c20 : MV
  c21 : MV
  c22 : MV
  c23 : MV
  c24 : MV
  c25 : MV
  c26 : MV
  c27 : MV
  c28 : MV
  c29 : MV
  c30 : MV
  c31 : MV
  more : Nat → MV
def F32.list (a : F32) : List MV := [a.c0, a.c1, a.c2, a.c3, a.c4, a.c5, a.c6, a.c7, a.c8, a.c9, a.c10, a.c11, a.c12, a.c13, a.c14, a.c15, a.c16, a.c17, a.c18, a.c19, a.c20, a.c21, a.c22, a.c23, a.c24, a.c25, a.c26, a.c27, a.c28, a.c29, a.c30, a.c31]
def F32.at' (a : F32) : Nat → MV
  | 0 => a.c0
  | 1 => a.c1
  | 2 => a.c2
  | 3 => a.c3
  | 4 => a.c4
  | 5 => a.c5
  | 6 => a.c6
  | 7 => a.c7
  | 8 => a.c8
  | 9 => a.c9
  | 10 => a.c10
  | 11 => a.c11
  | 12 => a.c12
  | 13 => a.c13
  | 14 => a.c14
  | 15 => a.c15
  | 16 => a.c16
  | 17 => a.c17
  | 18 => a.c18
  | 19 => a.c19
  | 20 => a.c20
  | 21 => a.c21
  | 22 => a.c22
  | 23 => a.c23
  | 24 => a.c24
  | 25 => a.c25
  | 26 => a.c26
  | 27 => a.c27
  | 28 => a.c28
  | 29 => a.c29
  | 30 => a.c30
  | 31 => a.c31
  | n + 32 => a.more n
def F32.put (a : F32) (v : MV) : Nat → F32
  | 0 => .mk v a.c1 a.c2 a.c3 a.c4 a.c5 a.c6 a.c7 a.c8 a.c9 a.c10 a.c11 a.c12 a.c13 a.c14 a.c15 a.c16 a.c17 a.c18 a.c19 a.c20 a.c21 a.c22 a.c23 a.c24 a.c25 a.c26 a.c27 a.c28 a.c29 a.c30 a.c31 a.more
  | 1 => .mk a.c0 v a.c2 a.c3 a.c4 a.c5 a.c6 a.c7 a.c8 a.c9 a.c10 a.c11 a.c12 a.c13 a.c14 a.c15 a.c16 a.c17 a.c18 a.c19 a.c20 a.c21 a.c22 a.c23 a.c24 a.c25 a.c26 a.c27 a.c28 a.c29 a.c30 a.c31 a.more
  | 2 => .mk a.c0 a.c1 v a.c3 a.c4 a.c5 a.c6 a.c7 a.c8 a.c9 a.c10 a.c11 a.c12 a.c13 a.c14 a.c15 a.c16 a.c17 a.c18 a.c19 a.c20 a.c21 a.c22 a.c23 a.c24 a.c25 a.c26 a.c27 a.c28 a.c29 a.c30 a.c31 a.more
  | 3 => .mk a.c0 a.c1 a.c2 v a.c4 a.c5 a.c6 a.c7 a.c8 a.c9 a.c10 a.c11 a.c12 a.c13 a.c14 a.c15 a.c16 a.c17 a.c18 a.c19 a.c20 a.c21 a.c22 a.c23 a.c24 a.c25 a.c26 a.c27 a.c28 a.c29 a.c30 a.c31 a.more
  | 4 => .mk a.c0 a.c1 a.c2 a.c3 v a.c5 a.c6 a.c7 a.c8 a.c9 a.c10 a.c11 a.c12 a.c13 a.c14 a.c15 a.c16 a.c17 a.c18 a.c19 a.c20 a.c21 a.c22 a.c23 a.c24 a.c25 a.c26 a.c27 a.c28 a.c29 a.c30 a.c31 a.more
  | 5 => .mk a.c0 a.c1 a.c2 a.c3 a.c4 v a.c6 a.c7 a.c8 a.c9 a.c10 a.c11 a.c12 a.c13 a.c14 a.c15 a.c16 a.c17 a.c18 a.c19 a.c20 a.c21 a.c22 a.c23 a.c24 a.c25 a.c26 a.c27 a.c28 a.c29 a.c30 a.c31 a.more
  | 6 => .mk a.c0 a.c1 a.c2 a.c3 a.c4 a.c5 v a.c7 a.c8 a.c9 a.c10 a.c11 a.c12 a.c13 a.c14 a.c15 a.c16 a.c17 a.c18 a.c19 a.c20 a.c21 a.c22 a.c23 a.c24 a.c25 a.c26 a.c27 a.c28 a.c29 a.c30 a.c31 a.more
  | 7 => .mk a.c0 a.c1 a.c2 a.c3 a.c4 a.c5 a.c6 v a.c8 a.c9 a.c10 a.c11 a.c12 a.c13 a.c14 a.c15 a.c16 a.c17 a.c18 a.c19 a.c20 a.c21 a.c22 a.c23 a.c24 a.c25 a.c26 a.c27 a.c28 a.c29 a.c30 a.c31 a.more
  | 8 => .mk a.c0 a.c1 a.c2 a.c3 a.c4 a.c5 a.c6 a.c7 v a.c9 a.c10 a.c11 a.c12 a.c13 a.c14 a.c15 a.c16 a.c17 a.c18 a.c19 a.c20 a.c21 a.c22 a.c23 a.c24 a.c25 a.c26 a.c27 a.c28 a.c29 a.c30 a.c31 a.more
  | 9 => .mk a.c0 a.c1 a.c2 a.c3 a.c4 a.c5 a.c6 a.c7 a.c8 v a.c10 a.c11 a.c12 a.c13 a.c14 a.c15 a.c16 a.c17 a.c18 a.c19 a.c20 a.c21 a.c22 a.c23 a.c24 a.c25 a.c26 a.c27 a.c28 a.c29 a.c30 a.c31 a.more
  | 10 => .mk a.c0 a.c1 a.c2 a.c3 a.c4 a.c5 a.c6 a.c7 a.c8 a.c9 v a.c11 a.c12 a.c13 a.c14 a.c15 a.c16 a.c17 a.c18 a.c19 a.c20 a.c21 a.c22 a.c23 a.c24 a.c25 a.c26 a.c27 a.c28 a.c29 a.c30 a.c31 a.more
  | 11 => .mk a.c0 a.c1 a.c2 a.c3 a.c4 a.c5 a.c6 a.c7 a.c8 a.c9 a.c10 v a.c12 a.c13 a.c14 a.c15 a.c16 a.c17 a.c18 a.c19 a.c20 a.c21 a.c22 a.c23 a.c24 a.c25 a.c26 a.c27 a.c28 a.c29 a.c30 a.c31 a.more
  | 12 => .mk a.c0 a.c1 a.c2 a.c3 a.c4 a.c5 a.c6 a.c7 a.c8 a.c9 a.c10 a.c11 v a.c13 a.c14 a.c15 a.c16 a.c17 a.c18 a.c19 a.c20 a.c21 a.c22 a.c23 a.c24 a.c25 a.c26 a.c27 a.c28 a.c29 a.c30 a.c31 a.more
  | 13 => .mk a.c0 a.c1 a.c2 a.c3 a.c4 a.c5 a.c6 a.c7 a.c8 a.c9 a.c10 a.c11 a.c12 v a.c14 a.c15 a.c16 a.c17 a.c18 a.c19 a.c20 a.c21 a.c22 a.c23 a.c24 a.c25 a.c26 a.c27 a.c28 a.c29 a.c30 a.c31 a.more
  | 14 => .mk a.c0 a.c1 a.c2 a.c3 a.c4 a.c5 a.c6 a.c7 a.c8 a.c9 a.c10 a.c11 a.c12 a.c13 v a.c15 a.c16 a.c17 a.c18 a.c19 a.c20 a.c21 a.c22 a.c23 a.c24 a.c25 a.c26 a.c27 a.c28 a.c29 a.c30 a.c31 a.more
  | 15 => .mk a.c0 a.c1 a.c2 a.c3 a.c4 a.c5 a.c6 a.c7 a.c8 a.c9 a.c10 a.c11 a.c12 a.c13 a.c14 v a.c16 a.c17 a.c18 a.c19 a.c20 a.c21 a.c22 a.c23 a.c24 a.c25 a.c26 a.c27 a.c28 a.c29 a.c30 a.c31 a.more
  | 16 => .mk a.c0 a.c1 a.c2 a.c3 a.c4 a.c5 a.c6 a.c7 a.c8 a.c9 a.c10 a.c11 a.c12 a.c13 a.c14 a.c15 v a.c17 a.c18 a.c19 a.c20 a.c21 a.c22 a.c23 a.c24 a.c25 a.c26 a.c27 a.c28 a.c29 a.c30 a.c31 a.more
  | 17 => .mk a.c0 a.c1 a.c2 a.c3 a.c4 a.c5 a.c6 a.c7 a.c8 a.c9 a.c10 a.c11 a.c12 a.c13 a.c14 a.c15 a.c16 v a.c18 a.c19 a.c20 a.c21 a.c22 a.c23 a.c24 a.c25 a.c26 a.c27 a.c28 a.c29 a.c30 a.c31 a.more
  | 18 => .mk a.c0 a.c1 a.c2 a.c3 a.c4 a.c5 a.c6 a.c7 a.c8 a.c9 a.c10 a.c11 a.c12 a.c13 a.c14 a.c15 a.c16 a.c17 v a.c19 a.c20 a.c21 a.c22 a.c23 a.c24 a.c25 a.c26 a.c27 a.c28 a.c29 a.c30 a.c31 a.more
  | 19 => .mk a.c0 a.c1 a.c2 a.c3 a.c4 a.c5 a.c6 a.c7 a.c8 a.c9 a.c10 a.c11 a.c12 a.c13 a.c14 a.c15 a.c16 a.c17 a.c18 v a.c20 a.c21 a.c22 a.c23 a.c24 a.c25 a.c26 a.c27 a.c28 a.c29 a.c30 a.c31 a.more
  | 20 => .mk a.c0 a.c1 a.c2 a.c3 a.c4 a.c5 a.c6 a.c7 a.c8 a.c9 a.c10 a.c11 a.c12 a.c13 a.c14 a.c15 a.c16 a.c17 a.c18 a.c19 v a.c21 a.c22 a.c23 a.c24 a.c25 a.c26 a.c27 a.c28 a.c29 a.c30 a.c31 a.more
  | 21 => .mk a.c0 a.c1 a.c2 a.c3 a.c4 a.c5 a.c6 a.c7 a.c8 a.c9 a.c10 a.c11 a.c12 a.c13 a.c14 a.c15 a.c16 a.c17 a.c18 a.c19 a.c20 v a.c22 a.c23 a.c24 a.c25 a.c26 a.c27 a.c28 a.c29 a.c30 a.c31 a.more
  | 22 => .mk a.c0 a.c1 a.c2 a.c3 a.c4 a.c5 a.c6 a.c7 a.c8 a.c9 a.c10 a.c11 a.c12 a.c13 a.c14 a.c15 a.c16 a.c17 a.c18 a.c19 a.c20 a.c21 v a.c23 a.c24 a.c25 a.c26 a.c27 a.c28 a.c29 a.c30 a.c31 a.more
  | 23 => .mk a.c0 a.c1 a.c2 a.c3 a.c4 a.c5 a.c6 a.c7 a.c8 a.c9 a.c10 a.c11 a.c12 a.c13 a.c14 a.c15 a.c16 a.c17 a.c18 a.c19 a.c20 a.c21 a.c22 v a.c24 a.c25 a.c26 a.c27 a.c28 a.c29 a.c30 a.c31 a.more
  | 24 => .mk a.c0 a.c1 a.c2 a.c3 a.c4 a.c5 a.c6 a.c7 a.c8 a.c9 a.c10 a.c11 a.c12 a.c13 a.c14 a.c15 a.c16 a.c17 a.c18 a.c19 a.c20 a.c21 a.c22 a.c23 v a.c25 a.c26 a.c27 a.c28 a.c29 a.c30 a.c31 a.more
  | 25 => .mk a.c0 a.c1 a.c2 a.c3 a.c4 a.c5 a.c6 a.c7 a.c8 a.c9 a.c10 a.c11 a.c12 a.c13 a.c14 a.c15 a.c16 a.c17 a.c18 a.c19 a.c20 a.c21 a.c22 a.c23 a.c24 v a.c26 a.c27 a.c28 a.c29 a.c30 a.c31 a.more
  | 26 => .mk a.c0 a.c1 a.c2 a.c3 a.c4 a.c5 a.c6 a.c7 a.c8 a.c9 a.c10 a.c11 a.c12 a.c13 a.c14 a.c15 a.c16 a.c17 a.c18 a.c19 a.c20 a.c21 a.c22 a.c23 a.c24 a.c25 v a.c27 a.c28 a.c29 a.c30 a.c31 a.more
  | 27 => .mk a.c0 a.c1 a.c2 a.c3 a.c4 a.c5 a.c6 a.c7 a.c8 a.c9 a.c10 a.c11 a.c12 a.c13 a.c14 a.c15 a.c16 a.c17 a.c18 a.c19 a.c20 a.c21 a.c22 a.c23 a.c24 a.c25 a.c26 v a.c28 a.c29 a.c30 a.c31 a.more
  | 28 => .mk a.c0 a.c1 a.c2 a.c3 a.c4 a.c5 a.c6 a.c7 a.c8 a.c9 a.c10 a.c11 a.c12 a.c13 a.c14 a.c15 a.c16 a.c17 a.c18 a.c19 a.c20 a.c21 a.c22 a.c23 a.c24 a.c25 a.c26 a.c27 v a.c29 a.c30 a.c31 a.more
  | 29 => .mk a.c0 a.c1 a.c2 a.c3 a.c4 a.c5 a.c6 a.c7 a.c8 a.c9 a.c10 a.c11 a.c12 a.c13 a.c14 a.c15 a.c16 a.c17 a.c18 a.c19 a.c20 a.c21 a.c22 a.c23 a.c24 a.c25 a.c26 a.c27 a.c28 v a.c30 a.c31 a.more
  | 30 => .mk a.c0 a.c1 a.c2 a.c3 a.c4 a.c5 a.c6 a.c7 a.c8 a.c9 a.c10 a.c11 a.c12 a.c13 a.c14 a.c15 a.c16 a.c17 a.c18 a.c19 a.c20 a.c21 a.c22 a.c23 a.c24 a.c25 a.c26 a.c27 a.c28 a.c29 v a.c31 a.more
  | 31 => .mk a.c0 a.c1 a.c2 a.c3 a.c4 a.c5 a.c6 a.c7 a.c8 a.c9 a.c10 a.c11 a.c12 a.c13 a.c14 a.c15 a.c16 a.c17 a.c18 a.c19 a.c20 a.c21 a.c22 a.c23 a.c24 a.c25 a.c26 a.c27 a.c28 a.c29 a.c30 v a.more
  | n + 32 => .mk a.c0 a.c1 a.c2 a.c3 a.c4 a.c5 a.c6 a.c7 a.c8 a.c9 a.c10 a.c11 a.c12 a.c13 a.c14 a.c15 a.c16 a.c17 a.c18 a.c19 a.c20 a.c21 a.c22 a.c23 a.c24 a.c25 a.c26 a.c27 a.c28 a.c29 a.c30 a.c31 fun m => if m = n then v else a.more m
def F32.getC : Nat → Clo (F32 → KV → G)
  | 0 => .mk (@F32.rec (fun _ => KV → G) (fun c0 _ _ _ _ _ _ _ _ _ _ _ _ _ _ _ _ _ _ _ _ _ _ _ _ _ _ _ _ _ _ _ _ k => k c0))
  | 1 => .mk (@F32.rec (fun _ => KV → G) (fun _ c1 _ _ _ _ _ _ _ _ _ _ _ _ _ _ _ _ _ _ _ _ _ _ _ _ _ _ _ _ _ _ _ k => k c1))
  | 2 => .mk (@F32.rec (fun _ => KV → G) (fun _ _ c2 _ _ _ _ _ _ _ _ _ _ _ _ _ _ _ _ _ _ _ _ _ _ _ _ _ _ _ _ _ _ k => k c2))
  | 3 => .mk (@F32.rec (fun _ => KV → G) (fun _ _ _ c3 _ _ _ _ _ _ _ _ _ _ _ _ _ _ _ _ _ _ _ _ _ _ _ _ _ _ _ _ _ k => k c3))
  | 4 => .mk (@F32.rec (fun _ => KV → G) (fun _ _ _ _ c4 _ _ _ _ _ _ _ _ _ _ _ _ _ _ _ _ _ _ _ _ _ _ _ _ _ _ _ _ k => k c4))
  | 5 => .mk (@F32.rec (fun _ => KV → G) (fun _ _ _ _ _ c5 _ _ _ _ _ _ _ _ _ _ _ _ _ _ _ _ _ _ _ _ _ _ _ _ _ _ _ k => k c5))
  | 6 => .mk (@F32.rec (fun _ => KV → G) (fun _ _ _ _ _ _ c6 _ _ _ _ _ _ _ _ _ _ _ _ _ _ _ _ _ _ _ _ _ _ _ _ _ _ k => k c6))
  | 7 => .mk (@F32.rec (fun _ => KV → G) (fun _ _ _ _ _ _ _ c7 _ _ _ _ _ _ _ _ _ _ _ _ _ _ _ _ _ _ _ _ _ _ _ _ _ k => k c7))
  | 8 => .mk (@F32.rec (fun _ => KV → G) (fun _ _ _ _ _ _ _ _ c8 _ _ _ _ _ _ _ _ _ _ _ _ _ _ _ _ _ _ _ _ _ _ _ _ k => k c8))
  | 9 => .mk (@F32.rec (fun _ => KV → G) (fun _ _ _ _ _ _ _ _ _ c9 _ _ _ _ _ _ _ _ _ _ _ _ _ _ _ _ _ _ _ _ _ _ _ k => k c9))
  | 10 => .mk (@F32.rec (fun _ => KV → G) (fun _ _ _ _ _ _ _ _ _ _ c10 _ _ _ _ _ _ _ _ _ _ _ _ _ _ _ _ _ _ _ _ _ _ k => k c10))
  | 11 => .mk (@F32.rec (fun _ => KV → G) (fun _ _ _ _ _ _ _ _ _ _ _ c11 _ _ _ _ _ _ _ _ _ _ _ _ _ _ _ _ _ _ _ _ _ k => k c11))
  | 12 => .mk (@F32.rec (fun _ => KV → G) (fun _ _ _ _ _ _ _ _ _ _ _ _ c12 _ _ _ _ _ _ _ _ _ _ _ _ _ _ _ _ _ _ _ _ k => k c12))
  | 13 => .mk (@F32.rec (fun _ => KV → G) (fun _ _ _ _ _ _ _ _ _ _ _ _ _ c13 _ _ _ _ _ _ _ _ _ _ _ _ _ _ _ _ _ _ _ k => k c13))
  | 14 => .mk (@F32.rec (fun _ => KV → G) (fun _ _ _ _ _ _ _ _ _ _ _ _ _ _ c14 _ _ _ _ _ _ _ _ _ _ _ _ _ _ _ _ _ _ k => k c14))
  | 15 => .mk (@F32.rec (fun _ => KV → G) (fun _ _ _ _ _ _ _ _ _ _ _ _ _ _ _ c15 _ _ _ _ _ _ _ _ _ _ _ _ _ _ _ _ _ k => k c15))
  | 16 => .mk (@F32.rec (fun _ => KV → G) (fun _ _ _ _ _ _ _ _ _ _ _ _ _ _ _ _ c16 _ _ _ _ _ _ _ _ _ _ _ _ _ _ _ _ k => k c16))
  | 17 => .mk (@F32.rec (fun _ => KV → G) (fun _ _ _ _ _ _ _ _ _ _ _ _ _ _ _ _ _ c17 _ _ _ _ _ _ _ _ _ _ _ _ _ _ _ k => k c17))
  | 18 => .mk (@F32.rec (fun _ => KV → G) (fun _ _ _ _ _ _ _ _ _ _ _ _ _ _ _ _ _ _ c18 _ _ _ _ _ _ _ _ _ _ _ _ _ _ k => k c18))
  | 19 => .mk (@F32.rec (fun _ => KV → G) (fun _ _ _ _ _ _ _ _ _ _ _ _ _ _ _ _ _ _ _ c19 _ _ _ _ _ _ _ _ _ _ _ _ _ k => k c19))
  | 20 => .mk (@F32.rec (fun _ => KV → G) (fun _ _ _ _ _ _ _ _ _ _ _ _ _ _ _ _ _ _ _ _ c20 _ _ _ _ _ _ _ _ _ _ _ _ k => k c20))
  | 21 => .mk (@F32.rec (fun _ => KV → G) (fun _ _ _ _ _ _ _ _ _ _ _ _ _ _ _ _ _ _ _ _ _ c21 _ _ _ _ _ _ _ _ _ _ _ k => k c21))
  | 22 => .mk (@F32.rec (fun _ => KV → G) (fun _ _ _ _ _ _ _ _ _ _ _ _ _ _ _ _ _ _ _ _ _ _ c22 _ _ _ _ _ _ _ _ _ _ k => k c22))
  | 23 => .mk (@F32.rec (fun _ => KV → G) (fun _ _ _ _ _ _ _ _ _ _ _ _ _ _ _ _ _ _ _ _ _ _ _ c23 _ _ _ _ _ _ _ _ _ k => k c23))
  | 24 => .mk (@F32.rec (fun _ => KV → G) (fun _ _ _ _ _ _ _ _ _ _ _ _ _ _ _ _ _ _ _ _ _ _ _ _ c24 _ _ _ _ _ _ _ _ k => k c24))
  | 25 => .mk (@F32.rec (fun _ => KV → G) (fun _ _ _ _ _ _ _ _ _ _ _ _ _ _ _ _ _ _ _ _ _ _ _ _ _ c25 _ _ _ _ _ _ _ k => k c25))
  | 26 => .mk (@F32.rec (fun _ => KV → G) (fun _ _ _ _ _ _ _ _ _ _ _ _ _ _ _ _ _ _ _ _ _ _ _ _ _ _ c26 _ _ _ _ _ _ k => k c26))
  | 27 => .mk (@F32.rec (fun _ => KV → G) (fun _ _ _ _ _ _ _ _ _ _ _ _ _ _ _ _ _ _ _ _ _ _ _ _ _ _ _ c27 _ _ _ _ _ k => k c27))
  | 28 => .mk (@F32.rec (fun _ => KV → G) (fun _ _ _ _ _ _ _ _ _ _ _ _ _ _ _ _ _ _ _ _ _ _ _ _ _ _ _ _ c28 _ _ _ _ k => k c28))
  | 29 => .mk (@F32.rec (fun _ => KV → G) (fun _ _ _ _ _ _ _ _ _ _ _ _ _ _ _ _ _ _ _ _ _ _ _ _ _ _ _ _ _ c29 _ _ _ k => k c29))
  | 30 => .mk (@F32.rec (fun _ => KV → G) (fun _ _ _ _ _ _ _ _ _ _ _ _ _ _ _ _ _ _ _ _ _ _ _ _ _ _ _ _ _ _ c30 _ _ k => k c30))
  | 31 => .mk (@F32.rec (fun _ => KV → G) (fun _ _ _ _ _ _ _ _ _ _ _ _ _ _ _ _ _ _ _ _ _ _ _ _ _ _ _ _ _ _ _ c31 _ k => k c31))
  | n + 32 => .mk fun a k => k (a.more n)
def F32.setC : Nat → Clo (F32 → MV → (F32 → G) → G)
  | 0 => .mk (@F32.rec (fun _ => MV → (F32 → G) → G) (fun _ c1 c2 c3 c4 c5 c6 c7 c8 c9 c10 c11 c12 c13 c14 c15 c16 c17 c18 c19 c20 c21 c22 c23 c24 c25 c26 c27 c28 c29 c30 c31 m x k => k (.mk x c1 c2 c3 c4 c5 c6 c7 c8 c9 c10 c11 c12 c13 c14 c15 c16 c17 c18 c19 c20 c21 c22 c23 c24 c25 c26 c27 c28 c29 c30 c31 m)))
  | 1 => .mk (@F32.rec (fun _ => MV → (F32 → G) → G) (fun c0 _ c2 c3 c4 c5 c6 c7 c8 c9 c10 c11 c12 c13 c14 c15 c16 c17 c18 c19 c20 c21 c22 c23 c24 c25 c26 c27 c28 c29 c30 c31 m x k => k (.mk c0 x c2 c3 c4 c5 c6 c7 c8 c9 c10 c11 c12 c13 c14 c15 c16 c17 c18 c19 c20 c21 c22 c23 c24 c25 c26 c27 c28 c29 c30 c31 m)))
  | 2 => .mk (@F32.rec (fun _ => MV → (F32 → G) → G) (fun c0 c1 _ c3 c4 c5 c6 c7 c8 c9 c10 c11 c12 c13 c14 c15 c16 c17 c18 c19 c20 c21 c22 c23 c24 c25 c26 c27 c28 c29 c30 c31 m x k => k (.mk c0 c1 x c3 c4 c5 c6 c7 c8 c9 c10 c11 c12 c13 c14 c15 c16 c17 c18 c19 c20 c21 c22 c23 c24 c25 c26 c27 c28 c29 c30 c31 m)))
  | 3 => .mk (@F32.rec (fun _ => MV → (F32 → G) → G) (fun c0 c1 c2 _ c4 c5 c6 c7 c8 c9 c10 c11 c12 c13 c14 c15 c16 c17 c18 c19 c20 c21 c22 c23 c24 c25 c26 c27 c28 c29 c30 c31 m x k => k (.mk c0 c1 c2 x c4 c5 c6 c7 c8 c9 c10 c11 c12 c13 c14 c15 c16 c17 c18 c19 c20 c21 c22 c23 c24 c25 c26 c27 c28 c29 c30 c31 m)))
  | 4 => .mk (@F32.rec (fun _ => MV → (F32 → G) → G) (fun c0 c1 c2 c3 _ c5 c6 c7 c8 c9 c10 c11 c12 c13 c14 c15 c16 c17 c18 c19 c20 c21 c22 c23 c24 c25 c26 c27 c28 c29 c30 c31 m x k => k (.mk c0 c1 c2 c3 x c5 c6 c7 c8 c9 c10 c11 c12 c13 c14 c15 c16 c17 c18 c19 c20 c21 c22 c23 c24 c25 c26 c27 c28 c29 c30 c31 m)))
  | 5 => .mk (@F32.rec (fun _ => MV → (F32 → G) → G) (fun c0 c1 c2 c3 c4 _ c6 c7 c8 c9 c10 c11 c12 c13 c14 c15 c16 c17 c18 c19 c20 c21 c22 c23 c24 c25 c26 c27 c28 c29 c30 c31 m x k => k (.mk c0 c1 c2 c3 c4 x c6 c7 c8 c9 c10 c11 c12 c13 c14 c15 c16 c17 c18 c19 c20 c21 c22 c23 c24 c25 c26 c27 c28 c29 c30 c31 m)))
  | 6 => .mk (@F32.rec (fun _ => MV → (F32 → G) → G) (fun c0 c1 c2 c3 c4 c5 _ c7 c8 c9 c10 c11 c12 c13 c14 c15 c16 c17 c18 c19 c20 c21 c22 c23 c24 c25 c26 c27 c28 c29 c30 c31 m x k => k (.mk c0 c1 c2 c3 c4 c5 x c7 c8 c9 c10 c11 c12 c13 c14 c15 c16 c17 c18 c19 c20 c21 c22 c23 c24 c25 c26 c27 c28 c29 c30 c31 m)))
  | 7 => .mk (@F32.rec (fun _ => MV → (F32 → G) → G) (fun c0 c1 c2 c3 c4 c5 c6 _ c8 c9 c10 c11 c12 c13 c14 c15 c16 c17 c18 c19 c20 c21 c22 c23 c24 c25 c26 c27 c28 c29 c30 c31 m x k => k (.mk c0 c1 c2 c3 c4 c5 c6 x c8 c9 c10 c11 c12 c13 c14 c15 c16 c17 c18 c19 c20 c21 c22 c23 c24 c25 c26 c27 c28 c29 c30 c31 m)))
  | 8 => .mk (@F32.rec (fun _ => MV → (F32 → G) → G) (fun c0 c1 c2 c3 c4 c5 c6 c7 _ c9 c10 c11 c12 c13 c14 c15 c16 c17 c18 c19 c20 c21 c22 c23 c24 c25 c26 c27 c28 c29 c30 c31 m x k => k (.mk c0 c1 c2 c3 c4 c5 c6 c7 x c9 c10 c11 c12 c13 c14 c15 c16 c17 c18 c19 c20 c21 c22 c23 c24 c25 c26 c27 c28 c29 c30 c31 m)))
  | 9 => .mk (@F32.rec (fun _ => MV → (F32 → G) → G) (fun c0 c1 c2 c3 c4 c5 c6 c7 c8 _ c10 c11 c12 c13 c14 c15 c16 c17 c18 c19 c20 c21 c22 c23 c24 c25 c26 c27 c28 c29 c30 c31 m x k => k (.mk c0 c1 c2 c3 c4 c5 c6 c7 c8 x c10 c11 c12 c13 c14 c15 c16 c17 c18 c19 c20 c21 c22 c23 c24 c25 c26 c27 c28 c29 c30 c31 m)))
  | 10 => .mk (@F32.rec (fun _ => MV → (F32 → G) → G) (fun c0 c1 c2 c3 c4 c5 c6 c7 c8 c9 _ c11 c12 c13 c14 c15 c16 c17 c18 c19 c20 c21 c22 c23 c24 c25 c26 c27 c28 c29 c30 c31 m x k => k (.mk c0 c1 c2 c3 c4 c5 c6 c7 c8 c9 x c11 c12 c13 c14 c15 c16 c17 c18 c19 c20 c21 c22 c23 c24 c25 c26 c27 c28 c29 c30 c31 m)))
  | 11 => .mk (@F32.rec (fun _ => MV → (F32 → G) → G) (fun c0 c1 c2 c3 c4 c5 c6 c7 c8 c9 c10 _ c12 c13 c14 c15 c16 c17 c18 c19 c20 c21 c22 c23 c24 c25 c26 c27 c28 c29 c30 c31 m x k => k (.mk c0 c1 c2 c3 c4 c5 c6 c7 c8 c9 c10 x c12 c13 c14 c15 c16 c17 c18 c19 c20 c21 c22 c23 c24 c25 c26 c27 c28 c29 c30 c31 m)))
  | 12 => .mk (@F32.rec (fun _ => MV → (F32 → G) → G) (fun c0 c1 c2 c3 c4 c5 c6 c7 c8 c9 c10 c11 _ c13 c14 c15 c16 c17 c18 c19 c20 c21 c22 c23 c24 c25 c26 c27 c28 c29 c30 c31 m x k => k (.mk c0 c1 c2 c3 c4 c5 c6 c7 c8 c9 c10 c11 x c13 c14 c15 c16 c17 c18 c19 c20 c21 c22 c23 c24 c25 c26 c27 c28 c29 c30 c31 m)))
  | 13 => .mk (@F32.rec (fun _ => MV → (F32 → G) → G) (fun c0 c1 c2 c3 c4 c5 c6 c7 c8 c9 c10 c11 c12 _ c14 c15 c16 c17 c18 c19 c20 c21 c22 c23 c24 c25 c26 c27 c28 c29 c30 c31 m x k => k (.mk c0 c1 c2 c3 c4 c5 c6 c7 c8 c9 c10 c11 c12 x c14 c15 c16 c17 c18 c19 c20 c21 c22 c23 c24 c25 c26 c27 c28 c29 c30 c31 m)))
  | 14 => .mk (@F32.rec (fun _ => MV → (F32 → G) → G) (fun c0 c1 c2 c3 c4 c5 c6 c7 c8 c9 c10 c11 c12 c13 _ c15 c16 c17 c18 c19 c20 c21 c22 c23 c24 c25 c26 c27 c28 c29 c30 c31 m x k => k (.mk c0 c1 c2 c3 c4 c5 c6 c7 c8 c9 c10 c11 c12 c13 x c15 c16 c17 c18 c19 c20 c21 c22 c23 c24 c25 c26 c27 c28 c29 c30 c31 m)))
  | 15 => .mk (@F32.rec (fun _ => MV → (F32 → G) → G) (fun c0 c1 c2 c3 c4 c5 c6 c7 c8 c9 c10 c11 c12 c13 c14 _ c16 c17 c18 c19 c20 c21 c22 c23 c24 c25 c26 c27 c28 c29 c30 c31 m x k => k (.mk c0 c1 c2 c3 c4 c5 c6 c7 c8 c9 c10 c11 c12 c13 c14 x c16 c17 c18 c19 c20 c21 c22 c23 c24 c25 c26 c27 c28 c29 c30 c31 m)))
  | 16 => .mk (@F32.rec (fun _ => MV → (F32 → G) → G) (fun c0 c1 c2 c3 c4 c5 c6 c7 c8 c9 c10 c11 c12 c13 c14 c15 _ c17 c18 c19 c20 c21 c22 c23 c24 c25 c26 c27 c28 c29 c30 c31 m x k => k (.mk c0 c1 c2 c3 c4 c5 c6 c7 c8 c9 c10 c11 c12 c13 c14 c15 x c17 c18 c19 c20 c21 c22 c23 c24 c25 c26 c27 c28 c29 c30 c31 m)))
  | 17 => .mk (@F32.rec (fun _ => MV → (F32 → G) → G) (fun c0 c1 c2 c3 c4 c5 c6 c7 c8 c9 c10 c11 c12 c13 c14 c15 c16 _ c18 c19 c20 c21 c22 c23 c24 c25 c26 c27 c28 c29 c30 c31 m x k => k (.mk c0 c1 c2 c3 c4 c5 c6 c7 c8 c9 c10 c11 c12 c13 c14 c15 c16 x c18 c19 c20 c21 c22 c23 c24 c25 c26 c27 c28 c29 c30 c31 m)))
  | 18 => .mk (@F32.rec (fun _ => MV → (F32 → G) → G) (fun c0 c1 c2 c3 c4 c5 c6 c7 c8 c9 c10 c11 c12 c13 c14 c15 c16 c17 _ c19 c20 c21 c22 c23 c24 c25 c26 c27 c28 c29 c30 c31 m x k => k (.mk c0 c1 c2 c3 c4 c5 c6 c7 c8 c9 c10 c11 c12 c13 c14 c15 c16 c17 x c19 c20 c21 c22 c23 c24 c25 c26 c27 c28 c29 c30 c31 m)))
  | 19 => .mk (@F32.rec (fun _ => MV → (F32 → G) → G) (fun c0 c1 c2 c3 c4 c5 c6 c7 c8 c9 c10 c11 c12 c13 c14 c15 c16 c17 c18 _ c20 c21 c22 c23 c24 c25 c26 c27 c28 c29 c30 c31 m x k => k (.mk c0 c1 c2 c3 c4 c5 c6 c7 c8 c9 c10 c11 c12 c13 c14 c15 c16 c17 c18 x c20 c21 c22 c23 c24 c25 c26 c27 c28 c29 c30 c31 m)))
  | 20 => .mk (@F32.rec (fun _ => MV → (F32 → G) → G) (fun c0 c1 c2 c3 c4 c5 c6 c7 c8 c9 c10 c11 c12 c13 c14 c15 c16 c17 c18 c19 _ c21 c22 c23 c24 c25 c26 c27 c28 c29 c30 c31 m x k => k (.mk c0 c1 c2 c3 c4 c5 c6 c7 c8 c9 c10 c11 c12 c13 c14 c15 c16 c17 c18 c19 x c21 c22 c23 c24 c25 c26 c27 c28 c29 c30 c31 m)))
  | 21 => .mk (@F32.rec (fun _ => MV → (F32 → G) → G) (fun c0 c1 c2 c3 c4 c5 c6 c7 c8 c9 c10 c11 c12 c13 c14 c15 c16 c17 c18 c19 c20 _ c22 c23 c24 c25 c26 c27 c28 c29 c30 c31 m x k => k (.mk c0 c1 c2 c3 c4 c5 c6 c7 c8 c9 c10 c11 c12 c13 c14 c15 c16 c17 c18 c19 c20 x c22 c23 c24 c25 c26 c27 c28 c29 c30 c31 m)))
  | 22 => .mk (@F32.rec (fun _ => MV → (F32 → G) → G) (fun c0 c1 c2 c3 c4 c5 c6 c7 c8 c9 c10 c11 c12 c13 c14 c15 c16 c17 c18 c19 c20 c21 _ c23 c24 c25 c26 c27 c28 c29 c30 c31 m x k => k (.mk c0 c1 c2 c3 c4 c5 c6 c7 c8 c9 c10 c11 c12 c13 c14 c15 c16 c17 c18 c19 c20 c21 x c23 c24 c25 c26 c27 c28 c29 c30 c31 m)))
  | 23 => .mk (@F32.rec (fun _ => MV → (F32 → G) → G) (fun c0 c1 c2 c3 c4 c5 c6 c7 c8 c9 c10 c11 c12 c13 c14 c15 c16 c17 c18 c19 c20 c21 c22 _ c24 c25 c26 c27 c28 c29 c30 c31 m x k => k (.mk c0 c1 c2 c3 c4 c5 c6 c7 c8 c9 c10 c11 c12 c13 c14 c15 c16 c17 c18 c19 c20 c21 c22 x c24 c25 c26 c27 c28 c29 c30 c31 m)))
  | 24 => .mk (@F32.rec (fun _ => MV → (F32 → G) → G) (fun c0 c1 c2 c3 c4 c5 c6 c7 c8 c9 c10 c11 c12 c13 c14 c15 c16 c17 c18 c19 c20 c21 c22 c23 _ c25 c26 c27 c28 c29 c30 c31 m x k => k (.mk c0 c1 c2 c3 c4 c5 c6 c7 c8 c9 c10 c11 c12 c13 c14 c15 c16 c17 c18 c19 c20 c21 c22 c23 x c25 c26 c27 c28 c29 c30 c31 m)))
  | 25 => .mk (@F32.rec (fun _ => MV → (F32 → G) → G) (fun c0 c1 c2 c3 c4 c5 c6 c7 c8 c9 c10 c11 c12 c13 c14 c15 c16 c17 c18 c19 c20 c21 c22 c23 c24 _ c26 c27 c28 c29 c30 c31 m x k => k (.mk c0 c1 c2 c3 c4 c5 c6 c7 c8 c9 c10 c11 c12 c13 c14 c15 c16 c17 c18 c19 c20 c21 c22 c23 c24 x c26 c27 c28 c29 c30 c31 m)))
  | 26 => .mk (@F32.rec (fun _ => MV → (F32 → G) → G) (fun c0 c1 c2 c3 c4 c5 c6 c7 c8 c9 c10 c11 c12 c13 c14 c15 c16 c17 c18 c19 c20 c21 c22 c23 c24 c25 _ c27 c28 c29 c30 c31 m x k => k (.mk c0 c1 c2 c3 c4 c5 c6 c7 c8 c9 c10 c11 c12 c13 c14 c15 c16 c17 c18 c19 c20 c21 c22 c23 c24 c25 x c27 c28 c29 c30 c31 m)))
  | 27 => .mk (@F32.rec (fun _ => MV → (F32 → G) → G) (fun c0 c1 c2 c3 c4 c5 c6 c7 c8 c9 c10 c11 c12 c13 c14 c15 c16 c17 c18 c19 c20 c21 c22 c23 c24 c25 c26 _ c28 c29 c30 c31 m x k => k (.mk c0 c1 c2 c3 c4 c5 c6 c7 c8 c9 c10 c11 c12 c13 c14 c15 c16 c17 c18 c19 c20 c21 c22 c23 c24 c25 c26 x c28 c29 c30 c31 m)))
  | 28 => .mk (@F32.rec (fun _ => MV → (F32 → G) → G) (fun c0 c1 c2 c3 c4 c5 c6 c7 c8 c9 c10 c11 c12 c13 c14 c15 c16 c17 c18 c19 c20 c21 c22 c23 c24 c25 c26 c27 _ c29 c30 c31 m x k => k (.mk c0 c1 c2 c3 c4 c5 c6 c7 c8 c9 c10 c11 c12 c13 c14 c15 c16 c17 c18 c19 c20 c21 c22 c23 c24 c25 c26 c27 x c29 c30 c31 m)))
  | 29 => .mk (@F32.rec (fun _ => MV → (F32 → G) → G) (fun c0 c1 c2 c3 c4 c5 c6 c7 c8 c9 c10 c11 c12 c13 c14 c15 c16 c17 c18 c19 c20 c21 c22 c23 c24 c25 c26 c27 c28 _ c30 c31 m x k => k (.mk c0 c1 c2 c3 c4 c5 c6 c7 c8 c9 c10 c11 c12 c13 c14 c15 c16 c17 c18 c19 c20 c21 c22 c23 c24 c25 c26 c27 c28 x c30 c31 m)))
  | 30 => .mk (@F32.rec (fun _ => MV → (F32 → G) → G) (fun c0 c1 c2 c3 c4 c5 c6 c7 c8 c9 c10 c11 c12 c13 c14 c15 c16 c17 c18 c19 c20 c21 c22 c23 c24 c25 c26 c27 c28 c29 _ c31 m x k => k (.mk c0 c1 c2 c3 c4 c5 c6 c7 c8 c9 c10 c11 c12 c13 c14 c15 c16 c17 c18 c19 c20 c21 c22 c23 c24 c25 c26 c27 c28 c29 x c31 m)))
  | 31 => .mk (@F32.rec (fun _ => MV → (F32 → G) → G) (fun c0 c1 c2 c3 c4 c5 c6 c7 c8 c9 c10 c11 c12 c13 c14 c15 c16 c17 c18 c19 c20 c21 c22 c23 c24 c25 c26 c27 c28 c29 c30 _ m x k => k (.mk c0 c1 c2 c3 c4 c5 c6 c7 c8 c9 c10 c11 c12 c13 c14 c15 c16 c17 c18 c19 c20 c21 c22 c23 c24 c25 c26 c27 c28 c29 c30 x m)))
  | n + 32 => .mk fun a x k => k (a.put x (n + 32))
theorem F32.getC_run : ∀ (n : Nat) (a : F32) (k : KV), (F32.getC n).run a k = k (a.at' n)
  | 0, _, _ => rfl
  | 1, _, _ => rfl
  | 2, _, _ => rfl
  | 3, _, _ => rfl
  | 4, _, _ => rfl
  | 5, _, _ => rfl
  | 6, _, _ => rfl
  | 7, _, _ => rfl
  | 8, _, _ => rfl
  | 9, _, _ => rfl
  | 10, _, _ => rfl
  | 11, _, _ => rfl
  | 12, _, _ => rfl
  | 13, _, _ => rfl
  | 14, _, _ => rfl
  | 15, _, _ => rfl
  | 16, _, _ => rfl
  | 17, _, _ => rfl
  | 18, _, _ => rfl
  | 19, _, _ => rfl
  | 20, _, _ => rfl
  | 21, _, _ => rfl
  | 22, _, _ => rfl
  | 23, _, _ => rfl
  | 24, _, _ => rfl
  | 25, _, _ => rfl
  | 26, _, _ => rfl
  | 27, _, _ => rfl
  | 28, _, _ => rfl
  | 29, _, _ => rfl
  | 30, _, _ => rfl
  | 31, _, _ => rfl
  | _ + 32, _, _ => rfl
theorem F32.setC_run : ∀ (n : Nat) (a : F32) (v : MV) (k : F32 → G), (F32.setC n).run a v k = k (a.put v n)
  | 0, _, _, _ => rfl
  | 1, _, _, _ => rfl
  | 2, _, _, _ => rfl
  | 3, _, _, _ => rfl
  | 4, _, _, _ => rfl
  | 5, _, _, _ => rfl
  | 6, _, _, _ => rfl
  | 7, _, _, _ => rfl
  | 8, _, _, _ => rfl
  | 9, _, _, _ => rfl
  | 10, _, _, _ => rfl
  | 11, _, _, _ => rfl
  | 12, _, _, _ => rfl
  | 13, _, _, _ => rfl
  | 14, _, _, _ => rfl
  | 15, _, _, _ => rfl
  | 16, _, _, _ => rfl
  | 17, _, _, _ => rfl
  | 18, _, _, _ => rfl
  | 19, _, _, _ => rfl
  | 20, _, _, _ => rfl
  | 21, _, _, _ => rfl
  | 22, _, _, _ => rfl
  | 23, _, _, _ => rfl
  | 24, _, _, _ => rfl
  | 25, _, _, _ => rfl
  | 26, _, _, _ => rfl
  | 27, _, _, _ => rfl
  | 28, _, _, _ => rfl
  | 29, _, _, _ => rfl
  | 30, _, _, _ => rfl
  | 31, _, _, _ => rfl
  | _ + 32, _, _, _ => rfl
theorem F32.at_eq (a : F32) : ∀ n, a.at' n = match a.list[n]? with | some v => v | none => a.more (n - 32)
  | 0 => rfl
  | 1 => rfl
  | 2 => rfl
  | 3 => rfl
  | 4 => rfl
  | 5 => rfl
  | 6 => rfl
  | 7 => rfl
  | 8 => rfl
  | 9 => rfl
  | 10 => rfl
  | 11 => rfl
  | 12 => rfl
  | 13 => rfl
  | 14 => rfl
  | 15 => rfl
  | 16 => rfl
  | 17 => rfl
  | 18 => rfl
  | 19 => rfl
  | 20 => rfl
  | 21 => rfl
  | 22 => rfl
  | 23 => rfl
  | 24 => rfl
  | 25 => rfl
  | 26 => rfl
  | 27 => rfl
  | 28 => rfl
  | 29 => rfl
  | 30 => rfl
  | 31 => rfl
  | n + 32 => by
    rw [show a.list[n + 32]? = none from List.getElem?_eq_none (by show 32 ≤ n + 32; omega), Nat.add_sub_cancel]
    rfl
theorem F32.put_list (a : F32) (v : MV) : ∀ n, n < 32 → (a.put v n).list = a.list.set n v ∧ (a.put v n).more = a.more
  | 0, _ => ⟨rfl, rfl⟩
  | 1, _ => ⟨rfl, rfl⟩
  | 2, _ => ⟨rfl, rfl⟩
  | 3, _ => ⟨rfl, rfl⟩
  | 4, _ => ⟨rfl, rfl⟩
  | 5, _ => ⟨rfl, rfl⟩
  | 6, _ => ⟨rfl, rfl⟩
  | 7, _ => ⟨rfl, rfl⟩
  | 8, _ => ⟨rfl, rfl⟩
  | 9, _ => ⟨rfl, rfl⟩
  | 10, _ => ⟨rfl, rfl⟩
  | 11, _ => ⟨rfl, rfl⟩
  | 12, _ => ⟨rfl, rfl⟩
  | 13, _ => ⟨rfl, rfl⟩
  | 14, _ => ⟨rfl, rfl⟩
  | 15, _ => ⟨rfl, rfl⟩
  | 16, _ => ⟨rfl, rfl⟩
  | 17, _ => ⟨rfl, rfl⟩
  | 18, _ => ⟨rfl, rfl⟩
  | 19, _ => ⟨rfl, rfl⟩
  | 20, _ => ⟨rfl, rfl⟩
  | 21, _ => ⟨rfl, rfl⟩
  | 22, _ => ⟨rfl, rfl⟩
  | 23, _ => ⟨rfl, rfl⟩
  | 24, _ => ⟨rfl, rfl⟩
  | 25, _ => ⟨rfl, rfl⟩
  | 26, _ => ⟨rfl, rfl⟩
  | 27, _ => ⟨rfl, rfl⟩
  | 28, _ => ⟨rfl, rfl⟩
  | 29, _ => ⟨rfl, rfl⟩
  | 30, _ => ⟨rfl, rfl⟩
  | 31, _ => ⟨rfl, rfl⟩
  | _ + 32, h => absurd h (by omega)
theorem F32.at_put (a : F32) (v : MV) (n m : Nat) : (a.put v n).at' m = if m = n then v else a.at' m := by
  have hl : a.list.length = 32 := rfl
  rw [F32.at_eq, F32.at_eq]
  by_cases h : n < 32
  · obtain ⟨h1, h2⟩ := a.put_list v n h
    rw [h1, h2, List.getElem?_set]
    by_cases e : n = m
    · subst e
      rw [if_pos rfl, if_pos (by omega), if_pos rfl]
    · rw [if_neg e, if_neg (Ne.symm e)]
  · obtain ⟨i, rfl⟩ : ∃ i, n = i + 32 := ⟨n - 32, by omega⟩
    have h1 : (a.put v (i + 32)).list = a.list := rfl
    have h2 : (a.put v (i + 32)).more = fun m => if m = i then v else a.more m := rfl
    rw [h1, h2]
    by_cases hm : m < 32
    · rw [List.getElem?_eq_getElem (by omega), if_neg (by omega)]
    · rw [List.getElem?_eq_none (by omega)]
      simp only
      by_cases e : m = i + 32
      · rw [if_pos (by omega), if_pos e]
      · rw [if_neg (by omega), if_neg e]
def F32.to (a : F32) : Fr := ptOf 9 a.at'
theorem F32.to_put (a : F32) (v : MV) (n : Nat) : (a.put v n).to = a.to.set n v := by
  show ptOf 9 _ = (ptOf 9 _).set n v
  rw [ptOf_set]
  congr 1
  funext m
  rw [F32.at_put]
  rfl
def F32.getD (n : Nat) : Clo (F32 → KV → G) := match Nat.ble n 510 with | true => F32.getC n | false => .mk fun _ _ => nG
theorem F32.getD_run (n : Nat) (a : F32) (k : KV) : (F32.getD n).run a k = ob (a.to.get n) k := by
  unfold F32.getD
  cases h : Nat.ble n 510
  · have h1 : ¬ n ≤ 510 := fun h2 => by rw [Nat.ble_eq_true_of_le h2] at h; cases h
    rw [show a.to.get n = none from ptOf_far 9 _ n (by omega)]
    rfl
  · have h1 := Nat.le_of_ble_eq_true h
    rw [show a.to.get n = some (a.at' n) from ptOf_get 9 _ n (by omega)]
    exact F32.getC_run n a k
def F32.nil : F32 := .mk .undef .undef .undef .undef .undef .undef .undef .undef .undef .undef .undef .undef .undef .undef .undef .undef .undef .undef .undef .undef .undef .undef .undef .undef .undef .undef .undef .undef .undef .undef .undef .undef fun _ => .undef
theorem F32.nil_at : ∀ n, F32.nil.at' n = .undef
  | 0 => rfl
  | 1 => rfl
  | 2 => rfl
  | 3 => rfl
  | 4 => rfl
  | 5 => rfl
  | 6 => rfl
  | 7 => rfl
  | 8 => rfl
  | 9 => rfl
  | 10 => rfl
  | 11 => rfl
  | 12 => rfl
  | 13 => rfl
  | 14 => rfl
  | 15 => rfl
  | 16 => rfl
  | 17 => rfl
  | 18 => rfl
  | 19 => rfl
  | 20 => rfl
  | 21 => rfl
  | 22 => rfl
  | 23 => rfl
  | 24 => rfl
  | 25 => rfl
  | 26 => rfl
  | 27 => rfl
  | 28 => rfl
  | 29 => rfl
  | 30 => rfl
  | 31 => rfl
  | _ + 32 => rfl
def F32.ops : FrOps F32 where
  get := F32.getD
  set := F32.setC
  init := F32.nil
  to := F32.to
  get_run := F32.getD_run
  set_run n a v k := (F32.setC_run n a v _).trans (congrArg k (a.to_put v n))
  to_init := (congrArg (ptOf 9) (funext F32.nil_at)).trans ptOf_frame0
structure F64 where
  c0 : MV
  c1 : MV
  c2 : MV
  c3 : MV
  c4 : MV
  c5 : MV
  c6 : MV
  c7 : MV
  c8 : MV
  c9 : MV
  c10 : MV
  c11 : MV
  c12 : MV
  c13 : MV
  c14 : MV
  c15 : MV
  c16 : MV
  c17 : MV
  c18 : MV
  c19 : MV
  c20 : MV
  c21 : MV
  c22 : MV
  c23 : MV
  c24 : MV
  c25 : MV
  c26 : MV
  c27 : MV
  c28 : MV
  c29 : MV
  c30 : MV
  c31 : MV
  c32 : MV
  c33 : MV
  c34 : MV
  c35 : MV
  c36 : MV
  c37 : MV
  c38 : MV
  c39 : MV
  c40 : MV
  c41 : MV
  c42 : MV
  c43 : MV
  c44 : MV
  c45 : MV
  c46 : MV
  c47 : MV
  c48 : MV
  c49 : MV
  c50 : MV
  c51 : MV
  c52 : MV
  c53 : MV
  c54 : MV
  c55 : MV
  c56 : MV
  c57 : MV
  c58 : MV
  c59 : MV
  c60 : MV
  c61 : MV
  c62 : MV
  c63 : MV
  more : Nat → MV
def F64.list (a : F64) : List MV := [a.c0, a.c1, a.c2, a.c3, a.c4, a.c5, a.c6, a.c7, a.c8, a.c9, a.c10, a.c11, a.c12, a.c13, a.c14, a.c15, a.c16, a.c17, a.c18, a.c19, a.c20, a.c21, a.c22, a.c23, a.c24, a.c25, a.c26, a.c27, a.c28, a.c29, a.c30, a.c31, a.c32, a.c33, a.c34, a.c35, a.c36, a.c37, a.c38, a.c39, a.c40, a.c41, a.c42, a.c43, a.c44, a.c45, a.c46, a.c47, a.c48, a.c49, a.c50, a.c51, a.c52, a.c53, a.c54, a.c55, a.c56, a.c57, a.c58, a.c59, a.c60, a.c61, a.c62, a.c63]
def F64.at' (a : F64) : Nat → MV
  | 0 => a.c0
  | 1 => a.c1
  | 2 => a.c2
  | 3 => a.c3
  | 4 => a.c4
  | 5 => a.c5
  | 6 => a.c6
  | 7 => a.c7
  | 8 => a.c8
  | 9 => a.c9
  | 10 => a.c10
  | 11 => a.c11
  | 12 => a.c12
  | 13 => a.c13
  | 14 => a.c14
  | 15 => a.c15
  | 16 => a.c16
  | 17 => a.c17
  | 18 => a.c18
  | 19 => a.c19
  | 20 => a.c20
  | 21 => a.c21
  | 22 => a.c22
  | 23 => a.c23
  | 24 => a.c24
  | 25 => a.c25
  | 26 => a.c26
  | 27 => a.c27
  | 28 => a.c28
  | 29 => a.c29
  | 30 => a.c30
  | 31 => a.c31
  | 32 => a.c32
  | 33 => a.c33
  | 34 => a.c34
  | 35 => a.c35
  | 36 => a.c36
  | 37 => a.c37
  | 38 => a.c38
  | 39 => a.c39
  | 40 => a.c40
  | 41 => a.c41
  | 42 => a.c42
  | 43 => a.c43
  | 44 => a.c44
  | 45 => a.c45
  | 46 => a.c46
  | 47 => a.c47
  | 48 => a.c48
  | 49 => a.c49
  | 50 => a.c50
  | 51 => a.c51
  | 52 => a.c52
  | 53 => a.c53
  | 54 => a.c54
  | 55 => a.c55
  | 56 => a.c56
  | 57 => a.c57
  | 58 => a.c58
  | 59 => a.c59
  | 60 => a.c60
  | 61 => a.c61
  | 62 => a.c62
  | 63 => a.c63
  | n + 64 => a.more n
def F64.put (a : F64) (v : MV) : Nat → F64
  | 0 => .mk v a.c1 a.c2 a.c3 a.c4 a.c5 a.c6 a.c7 a.c8 a.c9 a.c10 a.c11 a.c12 a.c13 a.c14 a.c15 a.c16 a.c17 a.c18 a.c19 a.c20 a.c21 a.c22 a.c23 a.c24 a.c25 a.c26 a.c27 a.c28 a.c29 a.c30 a.c31 a.c32 a.c33 a.c34 a.c35 a.c36 a.c37 a.c38 a.c39 a.c40 a.c41 a.c42 a.c43 a.c44 a.c45 a.c46 a.c47 a.c48 a.c49 a.c50 a.c51 a.c52 a.c53 a.c54 a.c55 a.c56 a.c57 a.c58 a.c59 a.c60 a.c61 a.c62 a.c63 a.more
  | 1 => .mk a.c0 v a.c2 a.c3 a.c4 a.c5 a.c6 a.c7 a.c8 a.c9 a.c10 a.c11 a.c12 a.c13 a.c14 a.c15 a.c16 a.c17 a.c18 a.c19 a.c20 a.c21 a.c22 a.c23 a.c24 a.c25 a.c26 a.c27 a.c28 a.c29 a.c30 a.c31 a.c32 a.c33 a.c34 a.c35 a.c36 a.c37 a.c38 a.c39 a.c40 a.c41 a.c42 a.c43 a.c44 a.c45 a.c46 a.c47 a.c48 a.c49 a.c50 a.c51 a.c52 a.c53 a.c54 a.c55 a.c56 a.c57 a.c58 a.c59 a.c60 a.c61 a.c62 a.c63 a.more
  | 2 => .mk a.c0 a.c1 v a.c3 a.c4 a.c5 a.c6 a.c7 a.c8 a.c9 a.c10 a.c11 a.c12 a.c13 a.c14 a.c15 a.c16 a.c17 a.c18 a.c19 a.c20 a.c21 a.c22 a.c23 a.c24 a.c25 a.c26 a.c27 a.c28 a.c29 a.c30 a.c31 a.c32 a.c33 a.c34 a.c35 a.c36 a.c37 a.c38 a.c39 a.c40 a.c41 a.c42 a.c43 a.c44 a.c45 a.c46 a.c47 a.c48 a.c49 a.c50 a.c51 a.c52 a.c53 a.c54 a.c55 a.c56 a.c57 a.c58 a.c59 a.c60 a.c61 a.c62 a.c63 a.more
  | 3 => .mk a.c0 a.c1 a.c2 v a.c4 a.c5 a.c6 a.c7 a.c8 a.c9 a.c10 a.c11 a.c12 a.c13 a.c14 a.c15 a.c16 a.c17 a.c18 a.c19 a.c20 a.c21 a.c22 a.c23 a.c24 a.c25 a.c26 a.c27 a.c28 a.c29 a.c30 a.c31 a.c32 a.c33 a.c34 a.c35 a.c36 a.c37 a.c38 a.c39 a.c40 a.c41 a.c42 a.c43 a.c44 a.c45 a.c46 a.c47 a.c48 a.c49 a.c50 a.c51 a.c52 a.c53 a.c54 a.c55 a.c56 a.c57 a.c58 a.c59 a.c60 a.c61 a.c62 a.c63 a.more
  | 4 => .mk a.c0 a.c1 a.c2 a.c3 v a.c5 a.c6 a.c7 a.c8 a.c9 a.c10 a.c11 a.c12 a.c13 a.c14 a.c15 a.c16 a.c17 a.c18 a.c19 a.c20 a.c21 a.c22 a.c23 a.c24 a.c25 a.c26 a.c27 a.c28 a.c29 a.c30 a.c31 a.c32 a.c33 a.c34 a.c35 a.c36 a.c37 a.c38 a.c39 a.c40 a.c41 a.c42 a.c43 a.c44 a.c45 a.c46 a.c47 a.c48 a.c49 a.c50 a.c51 a.c52 a.c53 a.c54 a.c55 a.c56 a.c57 a.c58 a.c59 a.c60 a.c61 a.c62 a.c63 a.more
  | 5 => .mk a.c0 a.c1 a.c2 a.c3 a.c4 v a.c6 a.c7 a.c8 a.c9 a.c10 a.c11 a.c12 a.c13 a.c14 a.c15 a.c16 a.c17 a.c18 a.c19 a.c20 a.c21 a.c22 a.c23 a.c24 a.c25 a.c26 a.c27 a.c28 a.c29 a.c30 a.c31 a.c32 a.c33 a.c34 a.c35 a.c36 a.c37 a.c38 a.c39 a.c40 a.c41 a.c42 a.c43 a.c44 a.c45 a.c46 a.c47 a.c48 a.c49 a.c50 a.c51 a.c52 a.c53 a.c54 a.c55 a.c56 a.c57 a.c58 a.c59 a.c60 a.c61 a.c62 a.c63 a.more
  | 6 => .mk a.c0 a.c1 a.c2 a.c3 a.c4 a.c5 v a.c7 a.c8 a.c9 a.c10 a.c11 a.c12 a.c13 a.c14 a.c15 a.c16 a.c17 a.c18 a.c19 a.c20 a.c21 a.c22 a.c23 a.c24 a.c25 a.c26 a.c27 a.c28 a.c29 a.c30 a.c31 a.c32 a.c33 a.c34 a.c35 a.c36 a.c37 a.c38 a.c39 a.c40 a.c41 a.c42 a.c43 a.c44 a.c45 a.c46 a.c47 a.c48 a.c49 a.c50 a.c51 a.c52 a.c53 a.c54 a.c55 a.c56 a.c57 a.c58 a.c59 a.c60 a.c61 a.c62 a.c63 a.more
  | 7 => .mk a.c0 a.c1 a.c2 a.c3 a.c4 a.c5 a.c6 v a.c8 a.c9 a.c10 a.c11 a.c12 a.c13 a.c14 a.c15 a.c16 a.c17 a.c18 a.c19 a.c20 a.c21 a.c22 a.c23 a.c24 a.c25 a.c26 a.c27 a.c28 a.c29 a.c30 a.c31 a.c32 a.c33 a.c34 a.c35 a.c36 a.c37 a.c38 a.c39 a.c40 a.c41 a.c42 a.c43 a.c44 a.c45 a.c46 a.c47 a.c48 a.c49 a.c50 a.c51 a.c52 a.c53 a.c54 a.c55 a.c56 a.c57 a.c58 a.c59 a.c60 a.c61 a.c62 a.c63 a.more
  | 8 => .mk a.c0 a.c1 a.c2 a.c3 a.c4 a.c5 a.c6 a.c7 v a.c9 a.c10 a.c11 a.c12 a.c13 a.c14 a.c15 a.c16 a.c17 a.c18 a.c19 a.c20 a.c21 a.c22 a.c23 a.c24 a.c25 a.c26 a.c27 a.c28 a.c29 a.c30 a.c31 a.c32 a.c33 a.c34 a.c35 a.c36 a.c37 a.c38 a.c39 a.c40 a.c41 a.c42 a.c43 a.c44 a.c45 a.c46 a.c47 a.c48 a.c49 a.c50 a.c51 a.c52 a.c53 a.c54 a.c55 a.c56 a.c57 a.c58 a.c59 a.c60 a.c61 a.c62 a.c63 a.more
  | 9 => .mk a.c0 a.c1 a.c2 a.c3 a.c4 a.c5 a.c6 a.c7 a.c8 v a.c10 a.c11 a.c12 a.c13 a.c14 a.c15 a.c16 a.c17 a.c18 a.c19 a.c20 a.c21 a.c22 a.c23 a.c24 a.c25 a.c26 a.c27 a.c28 a.c29 a.c30 a.c31 a.c32 a.c33 a.c34 a.c35 a.c36 a.c37 a.c38 a.c39 a.c40 a.c41 a.c42 a.c43 a.c44 a.c45 a.c46 a.c47 a.c48 a.c49 a.c50 a.c51 a.c52 a.c53 a.c54 a.c55 a.c56 a.c57 a.c58 a.c59 a.c60 a.c61 a.c62 a.c63 a.more
  | 10 => .mk a.c0 a.c1 a.c2 a.c3 a.c4 a.c5 a.c6 a.c7 a.c8 a.c9 v a.c11 a.c12 a.c13 a.c14 a.c15 a.c16 a.c17 a.c18 a.c19 a.c20 a.c21 a.c22 a.c23 a.c24 a.c25 a.c26 a.c27 a.c28 a.c29 a.c30 a.c31 a.c32 a.c33 a.c34 a.c35 a.c36 a.c37 a.c38 a.c39 a.c40 a.c41 a.c42 a.c43 a.c44 a.c45 a.c46 a.c47 a.c48 a.c49 a.c50 a.c51 a.c52 a.c53 a.c54 a.c55 a.c56 a.c57 a.c58 a.c59 a.c60 a.c61 a.c62 a.c63 a.more
  | 11 => .mk a.c0 a.c1 a.c2 a.c3 a.c4 a.c5 a.c6 a.c7 a.c8 a.c9 a.c10 v a.c12 a.c13 a.c14 a.c15 a.c16 a.c17 a.c18 a.c19 a.c20 a.c21 a.c22 a.c23 a.c24 a.c25 a.c26 a.c27 a.c28 a.c29 a.c30 a.c31 a.c32 a.c33 a.c34 a.c35 a.c36 a.c37 a.c38 a.c39 a.c40 a.c41 a.c42 a.c43 a.c44 a.c45 a.c46 a.c47 a.c48 a.c49 a.c50 a.c51 a.c52 a.c53 a.c54 a.c55 a.c56 a.c57 a.c58 a.c59 a.c60 a.c61 a.c62 a.c63 a.more
  | 12 => .mk a.c0 a.c1 a.c2 a.c3 a.c4 a.c5 a.c6 a.c7 a.c8 a.c9 a.c10 a.c11 v a.c13 a.c14 a.c15 a.c16 a.c17 a.c18 a.c19 a.c20 a.c21 a.c22 a.c23 a.c24 a.c25 a.c26 a.c27 a.c28 a.c29 a.c30 a.c31 a.c32 a.c33 a.c34 a.c35 a.c36 a.c37 a.c38 a.c39 a.c40 a.c41 a.c42 a.c43 a.c44 a.c45 a.c46 a.c47 a.c48 a.c49 a.c50 a.c51 a.c52 a.c53 a.c54 a.c55 a.c56 a.c57 a.c58 a.c59 a.c60 a.c61 a.c62 a.c63 a.more
  | 13 => .mk a.c0 a.c1 a.c2 a.c3 a.c4 a.c5 a.c6 a.c7 a.c8 a.c9 a.c10 a.c11 a.c12 v a.c14 a.c15 a.c16 a.c17 a.c18 a.c19 a.c20 a.c21 a.c22 a.c23 a.c24 a.c25 a.c26 a.c27 a.c28 a.c29 a.c30 a.c31 a.c32 a.c33 a.c34 a.c35 a.c36 a.c37 a.c38 a.c39 a.c40 a.c41 a.c42 a.c43 a.c44 a.c45 a.c46 a.c47 a.c48 a.c49 a.c50 a.c51 a.c52 a.c53 a.c54 a.c55 a.c56 a.c57 a.c58 a.c59 a.c60 a.c61 a.c62 a.c63 a.more
  | 14 => .mk a.c0 a.c1 a.c2 a.c3 a.c4 a.c5 a.c6 a.c7 a.c8 a.c9 a.c10 a.c11 a.c12 a.c13 v a.c15 a.c16 a.c17 a.c18 a.c19 a.c20 a.c21 a.c22 a.c23 a.c24 a.c25 a.c26 a.c27 a.c28 a.c29 a.c30 a.c31 a.c32 a.c33 a.c34 a.c35 a.c36 a.c37 a.c38 a.c39 a.c40 a.c41 a.c42 a.c43 a.c44 a.c45 a.c46 a.c47 a.c48 a.c49 a.c50 a.c51 a.c52 a.c53 a.c54 a.c55 a.c56 a.c57 a.c58 a.c59 a.c60 a.c61 a.c62 a.c63 a.more
  | 15 => .mk a.c0 a.c1 a.c2 a.c3 a.c4 a.c5 a.c6 a.c7 a.c8 a.c9 a.c10 a.c11 a.c12 a.c13 a.c14 v a.c16 a.c17 a.c18 a.c19 a.c20 a.c21 a.c22 a.c23 a.c24 a.c25 a.c26 a.c27 a.c28 a.c29 a.c30 a.c31 a.c32 a.c33 a.c34 a.c35 a.c36 a.c37 a.c38 a.c39 a.c40 a.c41 a.c42 a.c43 a.c44 a.c45 a.c46 a.c47 a.c48 a.c49 a.c50 a.c51 a.c52 a.c53 a.c54 a.c55 a.c56 a.c57 a.c58 a.c59 a.c60 a.c61 a.c62 a.c63 a.more
  | 16 => .mk a.c0 a.c1 a.c2 a.c3 a.c4 a.c5 a.c6 a.c7 a.c8 a.c9 a.c10 a.c11 a.c12 a.c13 a.c14 a.c15 v a.c17 a.c18 a.c19 a.c20 a.c21 a.c22 a.c23 a.c24 a.c25 a.c26 a.c27 a.c28 a.c29 a.c30 a.c31 a.c32 a.c33 a.c34 a.c35 a.c36 a.c37 a.c38 a.c39 a.c40 a.c41 a.c42 a.c43 a.c44 a.c45 a.c46 a.c47 a.c48 a.c49 a.c50 a.c51 a.c52 a.c53 a.c54 a.c55 a.c56 a.c57 a.c58 a.c59 a.c60 a.c61 a.c62 a.c63 a.more
  | 17 => .mk a.c0 a.c1 a.c2 a.c3 a.c4 a.c5 a.c6 a.c7 a.c8 a.c9 a.c10 a.c11 a.c12 a.c13 a.c14 a.c15 a.c16 v a.c18 a.c19 a.c20 a.c21 a.c22 a.c23 a.c24 a.c25 a.c26 a.c27 a.c28 a.c29 a.c30 a.c31 a.c32 a.c33 a.c34 a.c35 a.c36 a.c37 a.c38 a.c39 a.c40 a.c41 a.c42 a.c43 a.c44 a.c45 a.c46 a.c47 a.c48 a.c49 a.c50 a.c51 a.c52 a.c53 a.c54 a.c55 a.c56 a.c57 a.c58 a.c59 a.c60 a.c61 a.c62 a.c63 a.more
  | 18 => .mk a.c0 a.c1 a.c2 a.c3 a.c4 a.c5 a.c6 a.c7 a.c8 a.c9 a.c10 a.c11 a.c12 a.c13 a.c14 a.c15 a.c16 a.c17 v a.c19 a.c20 a.c21 a.c22 a.c23 a.c24 a.c25 a.c26 a.c27 a.c28 a.c29 a.c30 a.c31 a.c32 a.c33 a.c34 a.c35 a.c36 a.c37 a.c38 a.c39 a.c40 a.c41 a.c42 a.c43 a.c44 a.c45 a.c46 a.c47 a.c48 a.c49 a.c50 a.c51 a.c52 a.c53 a.c54 a.c55 a.c56 a.c57 a.c58 a.c59 a.c60 a.c61 a.c62 a.c63 a.more
  | 19 => .mk a.c0 a.c1 a.c2 a.c3 a.c4 a.c5 a.c6 a.c7 a.c8 a.c9 a.c10 a.c11 a.c12 a.c13 a.c14 a.c15 a.c16 a.c17 a.c18 v a.c20 a.c21 a.c22 a.c23 a.c24 a.c25 a.c26 a.c27 a.c28 a.c29 a.c30 a.c31 a.c32 a.c33 a.c34 a.c35 a.c36 a.c37 a.c38 a.c39 a.c40 a.c41 a.c42 a.c43 a.c44 a.c45 a.c46 a.c47 a.c48 a.c49 a.c50 a.c51 a.c52 a.c53 a.c54 a.c55 a.c56 a.c57 a.c58 a.c59 a.c60 a.c61 a.c62 a.c63 a.more
  | 20 => .mk a.c0 a.c1 a.c2 a.c3 a.c4 a.c5 a.c6 a.c7 a.c8 a.c9 a.c10 a.c11 a.c12 a.c13 a.c14 a.c15 a.c16 a.c17 a.c18 a.c19 v a.c21 a.c22 a.c23 a.c24 a.c25 a.c26 a.c27 a.c28 a.c29 a.c30 a.c31 a.c32 a.c33 a.c34 a.c35 a.c36 a.c37 a.c38 a.c39 a.c40 a.c41 a.c42 a.c43 a.c44 a.c45 a.c46 a.c47 a.c48 a.c49 a.c50 a.c51 a.c52 a.c53 a.c54 a.c55 a.c56 a.c57 a.c58 a.c59 a.c60 a.c61 a.c62 a.c63 a.more
  | 21 => .mk a.c0 a.c1 a.c2 a.c3 a.c4 a.c5 a.c6 a.c7 a.c8 a.c9 a.c10 a.c11 a.c12 a.c13 a.c14 a.c15 a.c16 a.c17 a.c18 a.c19 a.c20 v a.c22 a.c23 a.c24 a.c25 a.c26 a.c27 a.c28 a.c29 a.c30 a.c31 a.c32 a.c33 a.c34 a.c35 a.c36 a.c37 a.c38 a.c39 a.c40 a.c41 a.c42 a.c43 a.c44 a.c45 a.c46 a.c47 a.c48 a.c49 a.c50 a.c51 a.c52 a.c53 a.c54 a.c55 a.c56 a.c57 a.c58 a.c59 a.c60 a.c61 a.c62 a.c63 a.more
  | 22 => .mk a.c0 a.c1 a.c2 a.c3 a.c4 a.c5 a.c6 a.c7 a.c8 a.c9 a.c10 a.c11 a.c12 a.c13 a.c14 a.c15 a.c16 a.c17 a.c18 a.c19 a.c20 a.c21 v a.c23 a.c24 a.c25 a.c26 a.c27 a.c28 a.c29 a.c30 a.c31 a.c32 a.c33 a.c34 a.c35 a.c36 a.c37 a.c38 a.c39 a.c40 a.c41 a.c42 a.c43 a.c44 a.c45 a.c46 a.c47 a.c48 a.c49 a.c50 a.c51 a.c52 a.c53 a.c54 a.c55 a.c56 a.c57 a.c58 a.c59 a.c60 a.c61 a.c62 a.c63 a.more
  | 23 => .mk a.c0 a.c1 a.c2 a.c3 a.c4 a.c5 a.c6 a.c7 a.c8 a.c9 a.c10 a.c11 a.c12 a.c13 a.c14 a.c15 a.c16 a.c17 a.c18 a.c19 a.c20 a.c21 a.c22 v a.c24 a.c25 a.c26 a.c27 a.c28 a.c29 a.c30 a.c31 a.c32 a.c33 a.c34 a.c35 a.c36 a.c37 a.c38 a.c39 a.c40 a.c41 a.c42 a.c43 a.c44 a.c45 a.c46 a.c47 a.c48 a.c49 a.c50 a.c51 a.c52 a.c53 a.c54 a.c55 a.c56 a.c57 a.c58 a.c59 a.c60 a.c61 a.c62 a.c63 a.more
  | 24 => .mk a.c0 a.c1 a.c2 a.c3 a.c4 a.c5 a.c6 a.c7 a.c8 a.c9 a.c10 a.c11 a.c12 a.c13 a.c14 a.c15 a.c16 a.c17 a.c18 a.c19 a.c20 a.c21 a.c22 a.c23 v a.c25 a.c26 a.c27 a.c28 a.c29 a.c30 a.c31 a.c32 a.c33 a.c34 a.c35 a.c36 a.c37 a.c38 a.c39 a.c40 a.c41 a.c42 a.c43 a.c44 a.c45 a.c46 a.c47 a.c48 a.c49 a.c50 a.c51 a.c52 a.c53 a.c54 a.c55 a.c56 a.c57 a.c58 a.c59 a.c60 a.c61 a.c62 a.c63 a.more
  | 25 => .mk a.c0 a.c1 a.c2 a.c3 a.c4 a.c5 a.c6 a.c7 a.c8 a.c9 a.c10 a.c11 a.c12 a.c13 a.c14 a.c15 a.c16 a.c17 a.c18 a.c19 a.c20 a.c21 a.c22 a.c23 a.c24 v a.c26 a.c27 a.c28 a.c29 a.c30 a.c31 a.c32 a.c33 a.c34 a.c35 a.c36 a.c37 a.c38 a.c39 a.c40 a.c41 a.c42 a.c43 a.c44 a.c45 a.c46 a.c47 a.c48 a.c49 a.c50 a.c51 a.c52 a.c53 a.c54 a.c55 a.c56 a.c57 a.c58 a.c59 a.c60 a.c61 a.c62 a.c63 a.more
  | 26 => .mk a.c0 a.c1 a.c2 a.c3 a.c4 a.c5 a.c6 a.c7 a.c8 a.c9 a.c10 a.c11 a.c12 a.c13 a.c14 a.c15 a.c16 a.c17 a.c18 a.c19 a.c20 a.c21 a.c22 a.c23 a.c24 a.c25 v a.c27 a.c28 a.c29 a.c30 a.c31 a.c32 a.c33 a.c34 a.c35 a.c36 a.c37 a.c38 a.c39 a.c40 a.c41 a.c42 a.c43 a.c44 a.c45 a.c46 a.c47 a.c48 a.c49 a.c50 a.c51 a.c52 a.c53 a.c54 a.c55 a.c56 a.c57 a.c58 a.c59 a.c60 a.c61 a.c62 a.c63 a.more
  | 27 => .mk a.c0 a.c1 a.c2 a.c3 a.c4 a.c5 a.c6 a.c7 a.c8 a.c9 a.c10 a.c11 a.c12 a.c13 a.c14 a.c15 a.c16 a.c17 a.c18 a.c19 a.c20 a.c21 a.c22 a.c23 a.c24 a.c25 a.c26 v a.c28 a.c29 a.c30 a.c31 a.c32 a.c33 a.c34 a.c35 a.c36 a.c37 a.c38 a.c39 a.c40 a.c41 a.c42 a.c43 a.c44 a.c45 a.c46 a.c47 a.c48 a.c49 a.c50 a.c51 a.c52 a.c53 a.c54 a.c55 a.c56 a.c57 a.c58 a.c59 a.c60 a.c61 a.c62 a.c63 a.more
  | 28 => .mk a.c0 a.c1 a.c2 a.c3 a.c4 a.c5 a.c6 a.c7 a.c8 a.c9 a.c10 a.c11 a.c12 a.c13 a.c14 a.c15 a.c16 a.c17 a.c18 a.c19 a.c20 a.c21 a.c22 a.c23 a.c24 a.c25 a.c26 a.c27 v a.c29 a.c30 a.c31 a.c32 a.c33 a.c34 a.c35 a.c36 a.c37 a.c38 a.c39 a.c40 a.c41 a.c42 a.c43 a.c44 a.c45 a.c46 a.c47 a.c48 a.c49 a.c50 a.c51 a.c52 a.c53 a.c54 a.c55 a.c56 a.c57 a.c58 a.c59 a.c60 a.c61 a.c62 a.c63 a.more
  | 29 => .mk a.c0 a.c1 a.c2 a.c3 a.c4 a.c5 a.c6 a.c7 a.c8 a.c9 a.c10 a.c11 a.c12 a.c13 a.c14 a.c15 a.c16 a.c17 a.c18 a.c19 a.c20 a.c21 a.c22 a.c23 a.c24 a.c25 a.c26 a.c27 a.c28 v a.c30 a.c31 a.c32 a.c33 a.c34 a.c35 a.c36 a.c37 a.c38 a.c39 a.c40 a.c41 a.c42 a.c43 a.c44 a.c45 a.c46 a.c47 a.c48 a.c49 a.c50 a.c51 a.c52 a.c53 a.c54 a.c55 a.c56 a.c57 a.c58 a.c59 a.c60 a.c61 a.c62 a.c63 a.more
  | 30 => .mk a.c0 a.c1 a.c2 a.c3 a.c4 a.c5 a.c6 a.c7 a.c8 a.c9 a.c10 a.c11 a.c12 a.c13 a.c14 a.c15 a.c16 a.c17 a.c18 a.c19 a.c20 a.c21 a.c22 a.c23 a.c24 a.c25 a.c26 a.c27 a.c28 a.c29 v a.c31 a.c32 a.c33 a.c34 a.c35 a.c36 a.c37 a.c38 a.c39 a.c40 a.c41 a.c42 a.c43 a.c44 a.c45 a.c46 a.c47 a.c48 a.c49 a.c50 a.c51 a.c52 a.c53 a.c54 a.c55 a.c56 a.c57 a.c58 a.c59 a.c60 a.c61 a.c62 a.c63 a.more
  | 31 => .mk a.c0 a.c1 a.c2 a.c3 a.c4 a.c5 a.c6 a.c7 a.c8 a.c9 a.c10 a.c11 a.c12 a.c13 a.c14 a.c15 a.c16 a.c17 a.c18 a.c19 a.c20 a.c21 a.c22 a.c23 a.c24 a.c25 a.c26 a.c27 a.c28 a.c29 a.c30 v a.c32 a.c33 a.c34 a.c35 a.c36 a.c37 a.c38 a.c39 a.c40 a.c41 a.c42 a.c43 a.c44 a.c45 a.c46 a.c47 a.c48 a.c49 a.c50 a.c51 a.c52 a.c53 a.c54 a.c55 a.c56 a.c57 a.c58 a.c59 a.c60 a.c61 a.c62 a.c63 a.more
  | 32 => .mk a.c0 a.c1 a.c2 a.c3 a.c4 a.c5 a.c6 a.c7 a.c8 a.c9 a.c10 a.c11 a.c12 a.c13 a.c14 a.c15 a.c16 a.c17 a.c18 a.c19 a.c20 a.c21 a.c22 a.c23 a.c24 a.c25 a.c26 a.c27 a.c28 a.c29 a.c30 a.c31 v a.c33 a.c34 a.c35 a.c36 a.c37 a.c38 a.c39 a.c40 a.c41 a.c42 a.c43 a.c44 a.c45 a.c46 a.c47 a.c48 a.c49 a.c50 a.c51 a.c52 a.c53 a.c54 a.c55 a.c56 a.c57 a.c58 a.c59 a.c60 a.c61 a.c62 a.c63 a.more
  | 33 => .mk a.c0 a.c1 a.c2 a.c3 a.c4 a.c5 a.c6 a.c7 a.c8 a.c9 a.c10 a.c11 a.c12 a.c13 a.c14 a.c15 a.c16 a.c17 a.c18 a.c19 a.c20 a.c21 a.c22 a.c23 a.c24 a.c25 a.c26 a.c27 a.c28 a.c29 a.c30 a.c31 a.c32 v a.c34 a.c35 a.c36 a.c37 a.c38 a.c39 a.c40 a.c41 a.c42 a.c43 a.c44 a.c45 a.c46 a.c47 a.c48 a.c49 a.c50 a.c51 a.c52 a.c53 a.c54 a.c55 a.c56 a.c57 a.c58 a.c59 a.c60 a.c61 a.c62 a.c63 a.more
  | 34 => .mk a.c0 a.c1 a.c2 a.c3 a.c4 a.c5 a.c6 a.c7 a.c8 a.c9 a.c10 a.c11 a.c12 a.c13 a.c14 a.c15 a.c16 a.c17 a.c18 a.c19 a.c20 a.c21 a.c22 a.c23 a.c24 a.c25 a.c26 a.c27 a.c28 a.c29 a.c30 a.c31 a.c32 a.c33 v a.c35 a.c36 a.c37 a.c38 a.c39 a.c40 a.c41 a.c42 a.c43 a.c44 a.c45 a.c46 a.c47 a.c48 a.c49 a.c50 a.c51 a.c52 a.c53 a.c54 a.c55 a.c56 a.c57 a.c58 a.c59 a.c60 a.c61 a.c62 a.c63 a.more
  | 35 => .mk a.c0 a.c1 a.c2 a.c3 a.c4 a.c5 a.c6 a.c7 a.c8 a.c9 a.c10 a.c11 a.c12 a.c13 a.c14 a.c15 a.c16 a.c17 a.c18 a.c19 a.c20 a.c21 a.c22 a.c23 a.c24 a.c25 a.c26 a.c27 a.c28 a.c29 a.c30 a.c31 a.c32 a.c33 a.c34 v a.c36 a.c37 a.c38 a.c39 a.c40 a.c41 a.c42 a.c43 a.c44 a.c45 a.c46 a.c47 a.c48 a.c49 a.c50 a.c51 a.c52 a.c53 a.c54 a.c55 a.c56 a.c57 a.c58 a.c59 a.c60 a.c61 a.c62 a.c63 a.more
  | 36 => .mk a.c0 a.c1 a.c2 a.c3 a.c4 a.c5 a.c6 a.c7 a.c8 a.c9 a.c10 a.c11 a.c12 a.c13 a.c14 a.c15 a.c16 a.c17 a.c18 a.c19 a.c20 a.c21 a.c22 a.c23 a.c24 a.c25 a.c26 a.c27 a.c28 a.c29 a.c30 a.c31 a.c32 a.c33 a.c34 a.c35 v a.c37 a.c38 a.c39 a.c40 a.c41 a.c42 a.c43 a.c44 a.c45 a.c46 a.c47 a.c48 a.c49 a.c50 a.c51 a.c52 a.c53 a.c54 a.c55 a.c56 a.c57 a.c58 a.c59 a.c60 a.c61 a.c62 a.c63 a.more
  | 37 => .mk a.c0 a.c1 a.c2 a.c3 a.c4 a.c5 a.c6 a.c7 a.c8 a.c9 a.c10 a.c11 a.c12 a.c13 a.c14 a.c15 a.c16 a.c17 a.c18 a.c19 a.c20 a.c21 a.c22 a.c23 a.c24 a.c25 a.c26 a.c27 a.c28 a.c29 a.c30 a.c31 a.c32 a.c33 a.c34 a.c35 a.c36 v a.c38 a.c39 a.c40 a.c41 a.c42 a.c43 a.c44 a.c45 a.c46 a.c47 a.c48 a.c49 a.c50 a.c51 a.c52 a.c53 a.c54 a.c55 a.c56 a.c57 a.c58 a.c59 a.c60 a.c61 a.c62 a.c63 a.more
  | 38 => .mk a.c0 a.c1 a.c2 a.c3 a.c4 a.c5 a.c6 a.c7 a.c8 a.c9 a.c10 a.c11 a.c12 a.c13 a.c14 a.c15 a.c16 a.c17 a.c18 a.c19 a.c20 a.c21 a.c22 a.c23 a.c24 a.c25 a.c26 a.c27 a.c28 a.c29 a.c30 a.c31 a.c32 a.c33 a.c34 a.c35 a.c36 a.c37 v a.c39 a.c40 a.c41 a.c42 a.c43 a.c44 a.c45 a.c46 a.c47 a.c48 a.c49 a.c50 a.c51 a.c52 a.c53 a.c54 a.c55 a.c56 a.c57 a.c58 a.c59 a.c60 a.c61 a.c62 a.c63 a.more
  | 39 => .mk a.c0 a.c1 a.c2 a.c3 a.c4 a.c5 a.c6 a.c7 a.c8 a.c9 a.c10 a.c11 a.c12 a.c13 a.c14 a.c15 a.c16 a.c17 a.c18 a.c19 a.c20 a.c21 a.c22 a.c23 a.c24 a.c25 a.c26 a.c27 a.c28 a.c29 a.c30 a.c31 a.c32 a.c33 a.c34 a.c35 a.c36 a.c37 a.c38 v a.c40 a.c41 a.c42 a.c43 a.c44 a.c45 a.c46 a.c47 a.c48 a.c49 a.c50 a.c51 a.c52 a.c53 a.c54 a.c55 a.c56 a.c57 a.c58 a.c59 a.c60 a.c61 a.c62 a.c63 a.more
  | 40 => .mk a.c0 a.c1 a.c2 a.c3 a.c4 a.c5 a.c6 a.c7 a.c8 a.c9 a.c10 a.c11 a.c12 a.c13 a.c14 a.c15 a.c16 a.c17 a.c18 a.c19 a.c20 a.c21 a.c22 a.c23 a.c24 a.c25 a.c26 a.c27 a.c28 a.c29 a.c30 a.c31 a.c32 a.c33 a.c34 a.c35 a.c36 a.c37 a.c38 a.c39 v a.c41 a.c42 a.c43 a.c44 a.c45 a.c46 a.c47 a.c48 a.c49 a.c50 a.c51 a.c52 a.c53 a.c54 a.c55 a.c56 a.c57 a.c58 a.c59 a.c60 a.c61 a.c62 a.c63 a.more
  | 41 => .mk a.c0 a.c1 a.c2 a.c3 a.c4 a.c5 a.c6 a.c7 a.c8 a.c9 a.c10 a.c11 a.c12 a.c13 a.c14 a.c15 a.c16 a.c17 a.c18 a.c19 a.c20 a.c21 a.c22 a.c23 a.c24 a.c25 a.c26 a.c27 a.c28 a.c29 a.c30 a.c31 a.c32 a.c33 a.c34 a.c35 a.c36 a.c37 a.c38 a.c39 a.c40 v a.c42 a.c43 a.c44 a.c45 a.c46 a.c47 a.c48 a.c49 a.c50 a.c51 a.c52 a.c53 a.c54 a.c55 a.c56 a.c57 a.c58 a.c59 a.c60 a.c61 a.c62 a.c63 a.more
  | 42 => .mk a.c0 a.c1 a.c2 a.c3 a.c4 a.c5 a.c6 a.c7 a.c8 a.c9 a.c10 a.c11 a.c12 a.c13 a.c14 a.c15 a.c16 a.c17 a.c18 a.c19 a.c20 a.c21 a.c22 a.c23 a.c24 a.c25 a.c26 a.c27 a.c28 a.c29 a.c30 a.c31 a.c32 a.c33 a.c34 a.c35 a.c36 a.c37 a.c38 a.c39 a.c40 a.c41 v a.c43 a.c44 a.c45 a.c46 a.c47 a.c48 a.c49 a.c50 a.c51 a.c52 a.c53 a.c54 a.c55 a.c56 a.c57 a.c58 a.c59 a.c60 a.c61 a.c62 a.c63 a.more
  | 43 => .mk a.c0 a.c1 a.c2 a.c3 a.c4 a.c5 a.c6 a.c7 a.c8 a.c9 a.c10 a.c11 a.c12 a.c13 a.c14 a.c15 a.c16 a.c17 a.c18 a.c19 a.c20 a.c21 a.c22 a.c23 a.c24 a.c25 a.c26 a.c27 a.c28 a.c29 a.c30 a.c31 a.c32 a.c33 a.c34 a.c35 a.c36 a.c37 a.c38 a.c39 a.c40 a.c41 a.c42 v a.c44 a.c45 a.c46 a.c47 a.c48 a.c49 a.c50 a.c51 a.c52 a.c53 a.c54 a.c55 a.c56 a.c57 a.c58 a.c59 a.c60 a.c61 a.c62 a.c63 a.more
  | 44 => .mk a.c0 a.c1 a.c2 a.c3 a.c4 a.c5 a.c6 a.c7 a.c8 a.c9 a.c10 a.c11 a.c12 a.c13 a.c14 a.c15 a.c16 a.c17 a.c18 a.c19 a.c20 a.c21 a.c22 a.c23 a.c24 a.c25 a.c26 a.c27 a.c28 a.c29 a.c30 a.c31 a.c32 a.c33 a.c34 a.c35 a.c36 a.c37 a.c38 a.c39 a.c40 a.c41 a.c42 a.c43 v a.c45 a.c46 a.c47 a.c48 a.c49 a.c50 a.c51 a.c52 a.c53 a.c54 a.c55 a.c56 a.c57 a.c58 a.c59 a.c60 a.c61 a.c62 a.c63 a.more
  | 45 => .mk a.c0 a.c1 a.c2 a.c3 a.c4 a.c5 a.c6 a.c7 a.c8 a.c9 a.c10 a.c11 a.c12 a.c13 a.c14 a.c15 a.c16 a.c17 a.c18 a.c19 a.c20 a.c21 a.c22 a.c23 a.c24 a.c25 a.c26 a.c27 a.c28 a.c29 a.c30 a.c31 a.c32 a.c33 a.c34 a.c35 a.c36 a.c37 a.c38 a.c39 a.c40 a.c41 a.c42 a.c43 a.c44 v a.c46 a.c47 a.c48 a.c49 a.c50 a.c51 a.c52 a.c53 a.c54 a.c55 a.c56 a.c57 a.c58 a.c59 a.c60 a.c61 a.c62 a.c63 a.more
  | 46 => .mk a.c0 a.c1 a.c2 a.c3 a.c4 a.c5 a.c6 a.c7 a.c8 a.c9 a.c10 a.c11 a.c12 a.c13 a.c14 a.c15 a.c16 a.c17 a.c18 a.c19 a.c20 a.c21 a.c22 a.c23 a.c24 a.c25 a.c26 a.c27 a.c28 a.c29 a.c30 a.c31 a.c32 a.c33 a.c34 a.c35 a.c36 a.c37 a.c38 a.c39 a.c40 a.c41 a.c42 a.c43 a.c44 a.c45 v a.c47 a.c48 a.c49 a.c50 a.c51 a.c52 a.c53 a.c54 a.c55 a.c56 a.c57 a.c58 a.c59 a.c60 a.c61 a.c62 a.c63 a.more
  | 47 => .mk a.c0 a.c1 a.c2 a.c3 a.c4 a.c5 a.c6 a.c7 a.c8 a.c9 a.c10 a.c11 a.c12 a.c13 a.c14 a.c15 a.c16 a.c17 a.c18 a.c19 a.c20 a.c21 a.c22 a.c23 a.c24 a.c25 a.c26 a.c27 a.c28 a.c29 a.c30 a.c31 a.c32 a.c33 a.c34 a.c35 a.c36 a.c37 a.c38 a.c39 a.c40 a.c41 a.c42 a.c43 a.c44 a.c45 a.c46 v a.c48 a.c49 a.c50 a.c51 a.c52 a.c53 a.c54 a.c55 a.c56 a.c57 a.c58 a.c59 a.c60 a.c61 a.c62 a.c63 a.more
  | 48 => .mk a.c0 a.c1 a.c2 a.c3 a.c4 a.c5 a.c6 a.c7 a.c8 a.c9 a.c10 a.c11 a.c12 a.c13 a.c14 a.c15 a.c16 a.c17 a.c18 a.c19 a.c20 a.c21 a.c22 a.c23 a.c24 a.c25 a.c26 a.c27 a.c28 a.c29 a.c30 a.c31 a.c32 a.c33 a.c34 a.c35 a.c36 a.c37 a.c38 a.c39 a.c40 a.c41 a.c42 a.c43 a.c44 a.c45 a.c46 a.c47 v a.c49 a.c50 a.c51 a.c52 a.c53 a.c54 a.c55 a.c56 a.c57 a.c58 a.c59 a.c60 a.c61 a.c62 a.c63 a.more
  | 49 => .mk a.c0 a.c1 a.c2 a.c3 a.c4 a.c5 a.c6 a.c7 a.c8 a.c9 a.c10 a.c11 a.c12 a.c13 a.c14 a.c15 a.c16 a.c17 a.c18 a.c19 a.c20 a.c21 a.c22 a.c23 a.c24 a.c25 a.c26 a.c27 a.c28 a.c29 a.c30 a.c31 a.c32 a.c33 a.c34 a.c35 a.c36 a.c37 a.c38 a.c39 a.c40 a.c41 a.c42 a.c43 a.c44 a.c45 a.c46 a.c47 a.c48 v a.c50 a.c51 a.c52 a.c53 a.c54 a.c55 a.c56 a.c57 a.c58 a.c59 a.c60 a.c61 a.c62 a.c63 a.more
  | 50 => .mk a.c0 a.c1 a.c2 a.c3 a.c4 a.c5 a.c6 a.c7 a.c8 a.c9 a.c10 a.c11 a.c12 a.c13 a.c14 a.c15 a.c16 a.c17 a.c18 a.c19 a.c20 a.c21 a.c22 a.c23 a.c24 a.c25 a.c26 a.c27 a.c28 a.c29 a.c30 a.c31 a.c32 a.c33 a.c34 a.c35 a.c36 a.c37 a.c38 a.c39 a.c40 a.c41 a.c42 a.c43 a.c44 a.c45 a.c46 a.c47 a.c48 a.c49 v a.c51 a.c52 a.c53 a.c54 a.c55 a.c56 a.c57 a.c58 a.c59 a.c60 a.c61 a.c62 a.c63 a.more
  | 51 => .mk a.c0 a.c1 a.c2 a.c3 a.c4 a.c5 a.c6 a.c7 a.c8 a.c9 a.c10 a.c11 a.c12 a.c13 a.c14 a.c15 a.c16 a.c17 a.c18 a.c19 a.c20 a.c21 a.c22 a.c23 a.c24 a.c25 a.c26 a.c27 a.c28 a.c29 a.c30 a.c31 a.c32 a.c33 a.c34 a.c35 a.c36 a.c37 a.c38 a.c39 a.c40 a.c41 a.c42 a.c43 a.c44 a.c45 a.c46 a.c47 a.c48 a.c49 a.c50 v a.c52 a.c53 a.c54 a.c55 a.c56 a.c57 a.c58 a.c59 a.c60 a.c61 a.c62 a.c63 a.more
  | 52 => .mk a.c0 a.c1 a.c2 a.c3 a.c4 a.c5 a.c6 a.c7 a.c8 a.c9 a.c10 a.c11 a.c12 a.c13 a.c14 a.c15 a.c16 a.c17 a.c18 a.c19 a.c20 a.c21 a.c22 a.c23 a.c24 a.c25 a.c26 a.c27 a.c28 a.c29 a.c30 a.c31 a.c32 a.c33 a.c34 a.c35 a.c36 a.c37 a.c38 a.c39 a.c40 a.c41 a.c42 a.c43 a.c44 a.c45 a.c46 a.c47 a.c48 a.c49 a.c50 a.c51 v a.c53 a.c54 a.c55 a.c56 a.c57 a.c58 a.c59 a.c60 a.c61 a.c62 a.c63 a.more
  | 53 => .mk a.c0 a.c1 a.c2 a.c3 a.c4 a.c5 a.c6 a.c7 a.c8 a.c9 a.c10 a.c11 a.c12 a.c13 a.c14 a.c15 a.c16 a.c17 a.c18 a.c19 a.c20 a.c21 a.c22 a.c23 a.c24 a.c25 a.c26 a.c27 a.c28 a.c29 a.c30 a.c31 a.c32 a.c33 a.c34 a.c35 a.c36 a.c37 a.c38 a.c39 a.c40 a.c41 a.c42 a.c43 a.c44 a.c45 a.c46 a.c47 a.c48 a.c49 a.c50 a.c51 a.c52 v a.c54 a.c55 a.c56 a.c57 a.c58 a.c59 a.c60 a.c61 a.c62 a.c63 a.more
  | 54 => .mk a.c0 a.c1 a.c2 a.c3 a.c4 a.c5 a.c6 a.c7 a.c8 a.c9 a.c10 a.c11 a.c12 a.c13 a.c14 a.c15 a.c16 a.c17 a.c18 a.c19 a.c20 a.c21 a.c22 a.c23 a.c24 a.c25 a.c26 a.c27 a.c28 a.c29 a.c30 a.c31 a.c32 a.c33 a.c34 a.c35 a.c36 a.c37 a.c38 a.c39 a.c40 a.c41 a.c42 a.c43 a.c44 a.c45 a.c46 a.c47 a.c48 a.c49 a.c50 a.c51 a.c52 a.c53 v a.c55 a.c56 a.c57 a.c58 a.c59 a.c60 a.c61 a.c62 a.c63 a.more
  | 55 => .mk a.c0 a.c1 a.c2 a.c3 a.c4 a.c5 a.c6 a.c7 a.c8 a.c9 a.c10 a.c11 a.c12 a.c13 a.c14 a.c15 a.c16 a.c17 a.c18 a.c19 a.c20 a.c21 a.c22 a.c23 a.c24 a.c25 a.c26 a.c27 a.c28 a.c29 a.c30 a.c31 a.c32 a.c33 a.c34 a.c35 a.c36 a.c37 a.c38 a.c39 a.c40 a.c41 a.c42 a.c43 a.c44 a.c45 a.c46 a.c47 a.c48 a.c49 a.c50 a.c51 a.c52 a.c53 a.c54 v a.c56 a.c57 a.c58 a.c59 a.c60 a.c61 a.c62 a.c63 a.more
  | 56 => .mk a.c0 a.c1 a.c2 a.c3 a.c4 a.c5 a.c6 a.c7 a.c8 a.c9 a.c10 a.c11 a.c12 a.c13 a.c14 a.c15 a.c16 a.c17 a.c18 a.c19 a.c20 a.c21 a.c22 a.c23 a.c24 a.c25 a.c26 a.c27 a.c28 a.c29 a.c30 a.c31 a.c32 a.c33 a.c34 a.c35 a.c36 a.c37 a.c38 a.c39 a.c40 a.c41 a.c42 a.c43 a.c44 a.c45 a.c46 a.c47 a.c48 a.c49 a.c50 a.c51 a.c52 a.c53 a.c54 a.c55 v a.c57 a.c58 a.c59 a.c60 a.c61 a.c62 a.c63 a.more
  | 57 => .mk a.c0 a.c1 a.c2 a.c3 a.c4 a.c5 a.c6 a.c7 a.c8 a.c9 a.c10 a.c11 a.c12 a.c13 a.c14 a.c15 a.c16 a.c17 a.c18 a.c19 a.c20 a.c21 a.c22 a.c23 a.c24 a.c25 a.c26 a.c27 a.c28 a.c29 a.c30 a.c31 a.c32 a.c33 a.c34 a.c35 a.c36 a.c37 a.c38 a.c39 a.c40 a.c41 a.c42 a.c43 a.c44 a.c45 a.c46 a.c47 a.c48 a.c49 a.c50 a.c51 a.c52 a.c53 a.c54 a.c55 a.c56 v a.c58 a.c59 a.c60 a.c61 a.c62 a.c63 a.more
  | 58 => .mk a.c0 a.c1 a.c2 a.c3 a.c4 a.c5 a.c6 a.c7 a.c8 a.c9 a.c10 a.c11 a.c12 a.c13 a.c14 a.c15 a.c16 a.c17 a.c18 a.c19 a.c20 a.c21 a.c22 a.c23 a.c24 a.c25 a.c26 a.c27 a.c28 a.c29 a.c30 a.c31 a.c32 a.c33 a.c34 a.c35 a.c36 a.c37 a.c38 a.c39 a.c40 a.c41 a.c42 a.c43 a.c44 a.c45 a.c46 a.c47 a.c48 a.c49 a.c50 a.c51 a.c52 a.c53 a.c54 a.c55 a.c56 a.c57 v a.c59 a.c60 a.c61 a.c62 a.c63 a.more
  | 59 => .mk a.c0 a.c1 a.c2 a.c3 a.c4 a.c5 a.c6 a.c7 a.c8 a.c9 a.c10 a.c11 a.c12 a.c13 a.c14 a.c15 a.c16 a.c17 a.c18 a.c19 a.c20 a.c21 a.c22 a.c23 a.c24 a.c25 a.c26 a.c27 a.c28 a.c29 a.c30 a.c31 a.c32 a.c33 a.c34 a.c35 a.c36 a.c37 a.c38 a.c39 a.c40 a.c41 a.c42 a.c43 a.c44 a.c45 a.c46 a.c47 a.c48 a.c49 a.c50 a.c51 a.c52 a.c53 a.c54 a.c55 a.c56 a.c57 a.c58 v a.c60 a.c61 a.c62 a.c63 a.more
  | 60 => .mk a.c0 a.c1 a.c2 a.c3 a.c4 a.c5 a.c6 a.c7 a.c8 a.c9 a.c10 a.c11 a.c12 a.c13 a.c14 a.c15 a.c16 a.c17 a.c18 a.c19 a.c20 a.c21 a.c22 a.c23 a.c24 a.c25 a.c26 a.c27 a.c28 a.c29 a.c30 a.c31 a.c32 a.c33 a.c34 a.c35 a.c36 a.c37 a.c38 a.c39 a.c40 a.c41 a.c42 a.c43 a.c44 a.c45 a.c46 a.c47 a.c48 a.c49 a.c50 a.c51 a.c52 a.c53 a.c54 a.c55 a.c56 a.c57 a.c58 a.c59 v a.c61 a.c62 a.c63 a.more
  | 61 => .mk a.c0 a.c1 a.c2 a.c3 a.c4 a.c5 a.c6 a.c7 a.c8 a.c9 a.c10 a.c11 a.c12 a.c13 a.c14 a.c15 a.c16 a.c17 a.c18 a.c19 a.c20 a.c21 a.c22 a.c23 a.c24 a.c25 a.c26 a.c27 a.c28 a.c29 a.c30 a.c31 a.c32 a.c33 a.c34 a.c35 a.c36 a.c37 a.c38 a.c39 a.c40 a.c41 a.c42 a.c43 a.c44 a.c45 a.c46 a.c47 a.c48 a.c49 a.c50 a.c51 a.c52 a.c53 a.c54 a.c55 a.c56 a.c57 a.c58 a.c59 a.c60 v a.c62 a.c63 a.more
  | 62 => .mk a.c0 a.c1 a.c2 a.c3 a.c4 a.c5 a.c6 a.c7 a.c8 a.c9 a.c10 a.c11 a.c12 a.c13 a.c14 a.c15 a.c16 a.c17 a.c18 a.c19 a.c20 a.c21 a.c22 a.c23 a.c24 a.c25 a.c26 a.c27 a.c28 a.c29 a.c30 a.c31 a.c32 a.c33 a.c34 a.c35 a.c36 a.c37 a.c38 a.c39 a.c40 a.c41 a.c42 a.c43 a.c44 a.c45 a.c46 a.c47 a.c48 a.c49 a.c50 a.c51 a.c52 a.c53 a.c54 a.c55 a.c56 a.c57 a.c58 a.c59 a.c60 a.c61 v a.c63 a.more
  | 63 => .mk a.c0 a.c1 a.c2 a.c3 a.c4 a.c5 a.c6 a.c7 a.c8 a.c9 a.c10 a.c11 a.c12 a.c13 a.c14 a.c15 a.c16 a.c17 a.c18 a.c19 a.c20 a.c21 a.c22 a.c23 a.c24 a.c25 a.c26 a.c27 a.c28 a.c29 a.c30 a.c31 a.c32 a.c33 a.c34 a.c35 a.c36 a.c37 a.c38 a.c39 a.c40 a.c41 a.c42 a.c43 a.c44 a.c45 a.c46 a.c47 a.c48 a.c49 a.c50 a.c51 a.c52 a.c53 a.c54 a.c55 a.c56 a.c57 a.c58 a.c59 a.c60 a.c61 a.c62 v a.more
  | n + 64 => .mk a.c0 a.c1 a.c2 a.c3 a.c4 a.c5 a.c6 a.c7 a.c8 a.c9 a.c10 a.c11 a.c12 a.c13 a.c14 a.c15 a.c16 a.c17 a.c18 a.c19 a.c20 a.c21 a.c22 a.c23 a.c24 a.c25 a.c26 a.c27 a.c28 a.c29 a.c30 a.c31 a.c32 a.c33 a.c34 a.c35 a.c36 a.c37 a.c38 a.c39 a.c40 a.c41 a.c42 a.c43 a.c44 a.c45 a.c46 a.c47 a.c48 a.c49 a.c50 a.c51 a.c52 a.c53 a.c54 a.c55 a.c56 a.c57 a.c58 a.c59 a.c60 a.c61 a.c62 a.c63 fun m => if m = n then v else a.more m
def F64.getC : Nat → Clo (F64 → KV → G)
  | 0 => .mk (@F64.rec (fun _ => KV → G) (fun c0 _ _ _ _ _ _ _ _ _ _ _ _ _ _ _ _ _ _ _ _ _ _ _ _ _ _ _ _ _ _ _ _ _ _ _ _ _ _ _ _ _ _ _ _ _ _ _ _ _ _ _ _ _ _ _ _ _ _ _ _ _ _ _ _ k => k c0))
  | 1 => .mk (@F64.rec (fun _ => KV → G) (fun _ c1 _ _ _ _ _ _ _ _ _ _ _ _ _ _ _ _ _ _ _ _ _ _ _ _ _ _ _ _ _ _ _ _ _ _ _ _ _ _ _ _ _ _ _ _ _ _ _ _ _ _ _ _ _ _ _ _ _ _ _ _ _ _ _ k => k c1))
  | 2 => .mk (@F64.rec (fun _ => KV → G) (fun _ _ c2 _ _ _ _ _ _ _ _ _ _ _ _ _ _ _ _ _ _ _ _ _ _ _ _ _ _ _ _ _ _ _ _ _ _ _ _ _ _ _ _ _ _ _ _ _ _ _ _ _ _ _ _ _ _ _ _ _ _ _ _ _ _ k => k c2))
  | 3 => .mk (@F64.rec (fun _ => KV → G) (fun _ _ _ c3 _ _ _ _ _ _ _ _ _ _ _ _ _ _ _ _ _ _ _ _ _ _ _ _ _ _ _ _ _ _ _ _ _ _ _ _ _ _ _ _ _ _ _ _ _ _ _ _ _ _ _ _ _ _ _ _ _ _ _ _ _ k => k c3))
  | 4 => .mk (@F64.rec (fun _ => KV → G) (fun _ _ _ _ c4 _ _ _ _ _ _ _ _ _ _ _ _ _ _ _ _ _ _ _ _ _ _ _ _ _ _ _ _ _ _ _ _ _ _ _ _ _ _ _ _ _ _ _ _ _ _ _ _ _ _ _ _ _ _ _ _ _ _ _ _ k => k c4))
  | 5 => .mk (@F64.rec (fun _ => KV → G) (fun _ _ _ _ _ c5 _ _ _ _ _ _ _ _ _ _ _ _ _ _ _ _ _ _ _ _ _ _ _ _ _ _ _ _ _ _ _ _ _ _ _ _ _ _ _ _ _ _ _ _ _ _ _ _ _ _ _ _ _ _ _ _ _ _ _ k => k c5))
  | 6 => .mk (@F64.rec (fun _ => KV → G) (fun _ _ _ _ _ _ c6 _ _ _ _ _ _ _ _ _ _ _ _ _ _ _ _ _ _ _ _ _ _ _ _ _ _ _ _ _ _ _ _ _ _ _ _ _ _ _ _ _ _ _ _ _ _ _ _ _ _ _ _ _ _ _ _ _ _ k => k c6))
  | 7 => .mk (@F64.rec (fun _ => KV → G) (fun _ _ _ _ _ _ _ c7 _ _ _ _ _ _ _ _ _ _ _ _ _ _ _ _ _ _ _ _ _ _ _ _ _ _ _ _ _ _ _ _ _ _ _ _ _ _ _ _ _ _ _ _ _ _ _ _ _ _ _ _ _ _ _ _ _ k => k c7))
  | 8 => .mk (@F64.rec (fun _ => KV → G) (fun _ _ _ _ _ _ _ _ c8 _ _ _ _ _ _ _ _ _ _ _ _ _ _ _ _ _ _ _ _ _ _ _ _ _ _ _ _ _ _ _ _ _ _ _ _ _ _ _ _ _ _ _ _ _ _ _ _ _ _ _ _ _ _ _ _ k => k c8))
  | 9 => .mk (@F64.rec (fun _ => KV → G) (fun _ _ _ _ _ _ _ _ _ c9 _ _ _ _ _ _ _ _ _ _ _ _ _ _ _ _ _ _ _ _ _ _ _ _ _ _ _ _ _ _ _ _ _ _ _ _ _ _ _ _ _ _ _ _ _ _ _ _ _ _ _ _ _ _ _ k => k c9))
  | 10 => .mk (@F64.rec (fun _ => KV → G) (fun _ _ _ _ _ _ _ _ _ _ c10 _ _ _ _ _ _ _ _ _ _ _ _ _ _ _ _ _ _ _ _ _ _ _ _ _ _ _ _ _ _ _ _ _ _ _ _ _ _ _ _ _ _ _ _ _ _ _ _ _ _ _ _ _ _ k => k c10))
  | 11 => .mk (@F64.rec (fun _ => KV → G) (fun _ _ _ _ _ _ _ _ _ _ _ c11 _ _ _ _ _ _ _ _ _ _ _ _ _ _ _ _ _ _ _ _ _ _ _ _ _ _ _ _ _ _ _ _ _ _ _ _ _ _ _ _ _ _ _ _ _ _ _ _ _ _ _ _ _ k => k c11))
  | 12 => .mk (@F64.rec (fun _ => KV → G) (fun _ _ _ _ _ _ _ _ _ _ _ _ c12 _ _ _ _ _ _ _ _ _ _ _ _ _ _ _ _ _ _ _ _ _ _ _ _ _ _ _ _ _ _ _ _ _ _ _ _ _ _ _ _ _ _ _ _ _ _ _ _ _ _ _ _ k => k c12))
  | 13 => .mk (@F64.rec (fun _ => KV → G) (fun _ _ _ _ _ _ _ _ _ _ _ _ _ c13 _ _ _ _ _ _ _ _ _ _ _ _ _ _ _ _ _ _ _ _ _ _ _ _ _ _ _ _ _ _ _ _ _ _ _ _ _ _ _ _ _ _ _ _ _ _ _ _ _ _ _ k => k c13))
  | 14 => .mk (@F64.rec (fun _ => KV → G) (fun _ _ _ _ _ _ _ _ _ _ _ _ _ _ c14 _ _ _ _ _ _ _ _ _ _ _ _ _ _ _ _ _ _ _ _ _ _ _ _ _ _ _ _ _ _ _ _ _ _ _ _ _ _ _ _ _ _ _ _ _ _ _ _ _ _ k => k c14))
  | 15 => .mk (@F64.rec (fun _ => KV → G) (fun _ _ _ _ _ _ _ _ _ _ _ _ _ _ _ c15 _ _ _ _ _ _ _ _ _ _ _ _ _ _ _ _ _ _ _ _ _ _ _ _ _ _ _ _ _ _ _ _ _ _ _ _ _ _ _ _ _ _ _ _ _ _ _ _ _ k => k c15))
  | 16 => .mk (@F64.rec (fun _ => KV → G) (fun _ _ _ _ _ _ _ _ _ _ _ _ _ _ _ _ c16 _ _ _ _ _ _ _ _ _ _ _ _ _ _ _ _ _ _ _ _ _ _ _ _ _ _ _ _ _ _ _ _ _ _ _ _ _ _ _ _ _ _ _ _ _ _ _ _ k => k c16))
  | 17 => .mk (@F64.rec (fun _ => KV → G) (fun _ _ _ _ _ _ _ _ _ _ _ _ _ _ _ _ _ c17 _ _ _ _ _ _ _ _ _ _ _ _ _ _ _ _ _ _ _ _ _ _ _ _ _ _ _ _ _ _ _ _ _ _ _ _ _ _ _ _ _ _ _ _ _ _ _ k => k c17))
  | 18 => .mk (@F64.rec (fun _ => KV → G) (fun _ _ _ _ _ _ _ _ _ _ _ _ _ _ _ _ _ _ c18 _ _ _ _ _ _ _ _ _ _ _ _ _ _ _ _ _ _ _ _ _ _ _ _ _ _ _ _ _ _ _ _ _ _ _ _ _ _ _ _ _ _ _ _ _ _ k => k c18))
  | 19 => .mk (@F64.rec (fun _ => KV → G) (fun _ _ _ _ _ _ _ _ _ _ _ _ _ _ _ _ _ _ _ c19 _ _ _ _ _ _ _ _ _ _ _ _ _ _ _ _ _ _ _ _ _ _ _ _ _ _ _ _ _ _ _ _ _ _ _ _ _ _ _ _ _ _ _ _ _ k => k c19))
  | 20 => .mk (@F64.rec (fun _ => KV → G) (fun _ _ _ _ _ _ _ _ _ _ _ _ _ _ _ _ _ _ _ _ c20 _ _ _ _ _ _ _ _ _ _ _ _ _ _ _ _ _ _ _ _ _ _ _ _ _ _ _ _ _ _ _ _ _ _ _ _ _ _ _ _ _ _ _ _ k => k c20))
  | 21 => .mk (@F64.rec (fun _ => KV → G) (fun _ _ _ _ _ _ _ _ _ _ _ _ _ _ _ _ _ _ _ _ _ c21 _ _ _ _ _ _ _ _ _ _ _ _ _ _ _ _ _ _ _ _ _ _ _ _ _ _ _ _ _ _ _ _ _ _ _ _ _ _ _ _ _ _ _ k => k c21))
  | 22 => .mk (@F64.rec (fun _ => KV → G) (fun _ _ _ _ _ _ _ _ _ _ _ _ _ _ _ _ _ _ _ _ _ _ c22 _ _ _ _ _ _ _ _ _ _ _ _ _ _ _ _ _ _ _ _ _ _ _ _ _ _ _ _ _ _ _ _ _ _ _ _ _ _ _ _ _ _ k => k c22))
  | 23 => .mk (@F64.rec (fun _ => KV → G) (fun _ _ _ _ _ _ _ _ _ _ _ _ _ _ _ _ _ _ _ _ _ _ _ c23 _ _ _ _ _ _ _ _ _ _ _ _ _ _ _ _ _ _ _ _ _ _ _ _ _ _ _ _ _ _ _ _ _ _ _ _ _ _ _ _ _ k => k c23))
  | 24 => .mk (@F64.rec (fun _ => KV → G) (fun _ _ _ _ _ _ _ _ _ _ _ _ _ _ _ _ _ _ _ _ _ _ _ _ c24 _ _ _ _ _ _ _ _ _ _ _ _ _ _ _ _ _ _ _ _ _ _ _ _ _ _ _ _ _ _ _ _ _ _ _ _ _ _ _ _ k => k c24))
  | 25 => .mk (@F64.rec (fun _ => KV → G) (fun _ _ _ _ _ _ _ _ _ _ _ _ _ _ _ _ _ _ _ _ _ _ _ _ _ c25 _ _ _ _ _ _ _ _ _ _ _ _ _ _ _ _ _ _ _ _ _ _ _ _ _ _ _ _ _ _ _ _ _ _ _ _ _ _ _ k => k c25))
  | 26 => .mk (@F64.rec (fun _ => KV → G) (fun _ _ _ _ _ _ _ _ _ _ _ _ _ _ _ _ _ _ _ _ _ _ _ _ _ _ c26 _ _ _ _ _ _ _ _ _ _ _ _ _ _ _ _ _ _ _ _ _ _ _ _ _ _ _ _ _ _ _ _ _ _ _ _ _ _ k => k c26))
  | 27 => .mk (@F64.rec (fun _ => KV → G) (fun _ _ _ _ _ _ _ _ _ _ _ _ _ _ _ _ _ _ _ _ _ _ _ _ _ _ _ c27 _ _ _ _ _ _ _ _ _ _ _ _ _ _ _ _ _ _ _ _ _ _ _ _ _ _ _ _ _ _ _ _ _ _ _ _ _ k => k c27))
  | 28 => .mk (@F64.rec (fun _ => KV → G) (fun _ _ _ _ _ _ _ _ _ _ _ _ _ _ _ _ _ _ _ _ _ _ _ _ _ _ _ _ c28 _ _ _ _ _ _ _ _ _ _ _ _ _ _ _ _ _ _ _ _ _ _ _ _ _ _ _ _ _ _ _ _ _ _ _ _ k => k c28))
  | 29 => .mk (@F64.rec (fun _ => KV → G) (fun _ _ _ _ _ _ _ _ _ _ _ _ _ _ _ _ _ _ _ _ _ _ _ _ _ _ _ _ _ c29 _ _ _ _ _ _ _ _ _ _ _ _ _ _ _ _ _ _ _ _ _ _ _ _ _ _ _ _ _ _ _ _ _ _ _ k => k c29))
  | 30 => .mk (@F64.rec (fun _ => KV → G) (fun _ _ _ _ _ _ _ _ _ _ _ _ _ _ _ _ _ _ _ _ _ _ _ _ _ _ _ _ _ _ c30 _ _ _ _ _ _ _ _ _ _ _ _ _ _ _ _ _ _ _ _ _ _ _ _ _ _ _ _ _ _ _ _ _ _ k => k c30))
  | 31 => .mk (@F64.rec (fun _ => KV → G) (fun _ _ _ _ _ _ _ _ _ _ _ _ _ _ _ _ _ _ _ _ _ _ _ _ _ _ _ _ _ _ _ c31 _ _ _ _ _ _ _ _ _ _ _ _ _ _ _ _ _ _ _ _ _ _ _ _ _ _ _ _ _ _ _ _ _ k => k c31))
  | 32 => .mk (@F64.rec (fun _ => KV → G) (fun _ _ _ _ _ _ _ _ _ _ _ _ _ _ _ _ _ _ _ _ _ _ _ _ _ _ _ _ _ _ _ _ c32 _ _ _ _ _ _ _ _ _ _ _ _ _ _ _ _ _ _ _ _ _ _ _ _ _ _ _ _ _ _ _ _ k => k c32))
  | 33 => .mk (@F64.rec (fun _ => KV → G) (fun _ _ _ _ _ _ _ _ _ _ _ _ _ _ _ _ _ _ _ _ _ _ _ _ _ _ _ _ _ _ _ _ _ c33 _ _ _ _ _ _ _ _ _ _ _ _ _ _ _ _ _ _ _ _ _ _ _ _ _ _ _ _ _ _ _ k => k c33))
  | 34 => .mk (@F64.rec (fun _ => KV → G) (fun _ _ _ _ _ _ _ _ _ _ _ _ _ _ _ _ _ _ _ _ _ _ _ _ _ _ _ _ _ _ _ _ _ _ c34 _ _ _ _ _ _ _ _ _ _ _ _ _ _ _ _ _ _ _ _ _ _ _ _ _ _ _ _ _ _ k => k c34))
  | 35 => .mk (@F64.rec (fun _ => KV → G) (fun _ _ _ _ _ _ _ _ _ _ _ _ _ _ _ _ _ _ _ _ _ _ _ _ _ _ _ _ _ _ _ _ _ _ _ c35 _ _ _ _ _ _ _ _ _ _ _ _ _ _ _ _ _ _ _ _ _ _ _ _ _ _ _ _ _ k => k c35))
  | 36 => .mk (@F64.rec (fun _ => KV → G) (fun _ _ _ _ _ _ _ _ _ _ _ _ _ _ _ _ _ _ _ _ _ _ _ _ _ _ _ _ _ _ _ _ _ _ _ _ c36 _ _ _ _ _ _ _ _ _ _ _ _ _ _ _ _ _ _ _ _ _ _ _ _ _ _ _ _ k => k c36))
  | 37 => .mk (@F64.rec (fun _ => KV → G) (fun _ _ _ _ _ _ _ _ _ _ _ _ _ _ _ _ _ _ _ _ _ _ _ _ _ _ _ _ _ _ _ _ _ _ _ _ _ c37 _ _ _ _ _ _ _ _ _ _ _ _ _ _ _ _ _ _ _ _ _ _ _ _ _ _ _ k => k c37))
  | 38 => .mk (@F64.rec (fun _ => KV → G) (fun _ _ _ _ _ _ _ _ _ _ _ _ _ _ _ _ _ _ _ _ _ _ _ _ _ _ _ _ _ _ _ _ _ _ _ _ _ _ c38 _ _ _ _ _ _ _ _ _ _ _ _ _ _ _ _ _ _ _ _ _ _ _ _ _ _ k => k c38))
  | 39 => .mk (@F64.rec (fun _ => KV → G) (fun _ _ _ _ _ _ _ _ _ _ _ _ _ _ _ _ _ _ _ _ _ _ _ _ _ _ _ _ _ _ _ _ _ _ _ _ _ _ _ c39 _ _ _ _ _ _ _ _ _ _ _ _ _ _ _ _ _ _ _ _ _ _ _ _ _ k => k c39))
  | 40 => .mk (@F64.rec (fun _ => KV → G) (fun _ _ _ _ _ _ _ _ _ _ _ _ _ _ _ _ _ _ _ _ _ _ _ _ _ _ _ _ _ _ _ _ _ _ _ _ _ _ _ _ c40 _ _ _ _ _ _ _ _ _ _ _ _ _ _ _ _ _ _ _ _ _ _ _ _ k => k c40))
  | 41 => .mk (@F64.rec (fun _ => KV → G) (fun _ _ _ _ _ _ _ _ _ _ _ _ _ _ _ _ _ _ _ _ _ _ _ _ _ _ _ _ _ _ _ _ _ _ _ _ _ _ _ _ _ c41 _ _ _ _ _ _ _ _ _ _ _ _ _ _ _ _ _ _ _ _ _ _ _ k => k c41))
  | 42 => .mk (@F64.rec (fun _ => KV → G) (fun _ _ _ _ _ _ _ _ _ _ _ _ _ _ _ _ _ _ _ _ _ _ _ _ _ _ _ _ _ _ _ _ _ _ _ _ _ _ _ _ _ _ c42 _ _ _ _ _ _ _ _ _ _ _ _ _ _ _ _ _ _ _ _ _ _ k => k c42))
  | 43 => .mk (@F64.rec (fun _ => KV → G) (fun _ _ _ _ _ _ _ _ _ _ _ _ _ _ _ _ _ _ _ _ _ _ _ _ _ _ _ _ _ _ _ _ _ _ _ _ _ _ _ _ _ _ _ c43 _ _ _ _ _ _ _ _ _ _ _ _ _ _ _ _ _ _ _ _ _ k => k c43))
  | 44 => .mk (@F64.rec (fun _ => KV → G) (fun _ _ _ _ _ _ _ _ _ _ _ _ _ _ _ _ _ _ _ _ _ _ _ _ _ _ _ _ _ _ _ _ _ _ _ _ _ _ _ _ _ _ _ _ c44 _ _ _ _ _ _ _ _ _ _ _ _ _ _ _ _ _ _ _ _ k => k c44))
  | 45 => .mk (@F64.rec (fun _ => KV → G) (fun _ _ _ _ _ _ _ _ _ _ _ _ _ _ _ _ _ _ _ _ _ _ _ _ _ _ _ _ _ _ _ _ _ _ _ _ _ _ _ _ _ _ _ _ _ c45 _ _ _ _ _ _ _ _ _ _ _ _ _ _ _ _ _ _ _ k => k c45))
  | 46 => .mk (@F64.rec (fun _ => KV → G) (fun _ _ _ _ _ _ _ _ _ _ _ _ _ _ _ _ _ _ _ _ _ _ _ _ _ _ _ _ _ _ _ _ _ _ _ _ _ _ _ _ _ _ _ _ _ _ c46 _ _ _ _ _ _ _ _ _ _ _ _ _ _ _ _ _ _ k => k c46))
  | 47 => .mk (@F64.rec (fun _ => KV → G) (fun _ _ _ _ _ _ _ _ _ _ _ _ _ _ _ _ _ _ _ _ _ _ _ _ _ _ _ _ _ _ _ _ _ _ _ _ _ _ _ _ _ _ _ _ _ _ _ c47 _ _ _ _ _ _ _ _ _ _ _ _ _ _ _ _ _ k => k c47))
  | 48 => .mk (@F64.rec (fun _ => KV → G) (fun _ _ _ _ _ _ _ _ _ _ _ _ _ _ _ _ _ _ _ _ _ _ _ _ _ _ _ _ _ _ _ _ _ _ _ _ _ _ _ _ _ _ _ _ _ _ _ _ c48 _ _ _ _ _ _ _ _ _ _ _ _ _ _ _ _ k => k c48))
  | 49 => .mk (@F64.rec (fun _ => KV → G) (fun _ _ _ _ _ _ _ _ _ _ _ _ _ _ _ _ _ _ _ _ _ _ _ _ _ _ _ _ _ _ _ _ _ _ _ _ _ _ _ _ _ _ _ _ _ _ _ _ _ c49 _ _ _ _ _ _ _ _ _ _ _ _ _ _ _ k => k c49))
  | 50 => .mk (@F64.rec (fun _ => KV → G) (fun _ _ _ _ _ _ _ _ _ _ _ _ _ _ _ _ _ _ _ _ _ _ _ _ _ _ _ _ _ _ _ _ _ _ _ _ _ _ _ _ _ _ _ _ _ _ _ _ _ _ c50 _ _ _ _ _ _ _ _ _ _ _ _ _ _ k => k c50))
  | 51 => .mk (@F64.rec (fun _ => KV → G) (fun _ _ _ _ _ _ _ _ _ _ _ _ _ _ _ _ _ _ _ _ _ _ _ _ _ _ _ _ _ _ _ _ _ _ _ _ _ _ _ _ _ _ _ _ _ _ _ _ _ _ _ c51 _ _ _ _ _ _ _ _ _ _ _ _ _ k => k c51))
  | 52 => .mk (@F64.rec (fun _ => KV → G) (fun _ _ _ _ _ _ _ _ _ _ _ _ _ _ _ _ _ _ _ _ _ _ _ _ _ _ _ _ _ _ _ _ _ _ _ _ _ _ _ _ _ _ _ _ _ _ _ _ _ _ _ _ c52 _ _ _ _ _ _ _ _ _ _ _ _ k => k c52))
  | 53 => .mk (@F64.rec (fun _ => KV → G) (fun _ _ _ _ _ _ _ _ _ _ _ _ _ _ _ _ _ _ _ _ _ _ _ _ _ _ _ _ _ _ _ _ _ _ _ _ _ _ _ _ _ _ _ _ _ _ _ _ _ _ _ _ _ c53 _ _ _ _ _ _ _ _ _ _ _ k => k c53))
  | 54 => .mk (@F64.rec (fun _ => KV → G) (fun _ _ _ _ _ _ _ _ _ _ _ _ _ _ _ _ _ _ _ _ _ _ _ _ _ _ _ _ _ _ _ _ _ _ _ _ _ _ _ _ _ _ _ _ _ _ _ _ _ _ _ _ _ _ c54 _ _ _ _ _ _ _ _ _ _ k => k c54))
  | 55 => .mk (@F64.rec (fun _ => KV → G) (fun _ _ _ _ _ _ _ _ _ _ _ _ _ _ _ _ _ _ _ _ _ _ _ _ _ _ _ _ _ _ _ _ _ _ _ _ _ _ _ _ _ _ _ _ _ _ _ _ _ _ _ _ _ _ _ c55 _ _ _ _ _ _ _ _ _ k => k c55))
  | 56 => .mk (@F64.rec (fun _ => KV → G) (fun _ _ _ _ _ _ _ _ _ _ _ _ _ _ _ _ _ _ _ _ _ _ _ _ _ _ _ _ _ _ _ _ _ _ _ _ _ _ _ _ _ _ _ _ _ _ _ _ _ _ _ _ _ _ _ _ c56 _ _ _ _ _ _ _ _ k => k c56))
  | 57 => .mk (@F64.rec (fun _ => KV → G) (fun _ _ _ _ _ _ _ _ _ _ _ _ _ _ _ _ _ _ _ _ _ _ _ _ _ _ _ _ _ _ _ _ _ _ _ _ _ _ _ _ _ _ _ _ _ _ _ _ _ _ _ _ _ _ _ _ _ c57 _ _ _ _ _ _ _ k => k c57))
  | 58 => .mk (@F64.rec (fun _ => KV → G) (fun _ _ _ _ _ _ _ _ _ _ _ _ _ _ _ _ _ _ _ _ _ _ _ _ _ _ _ _ _ _ _ _ _ _ _ _ _ _ _ _ _ _ _ _ _ _ _ _ _ _ _ _ _ _ _ _ _ _ c58 _ _ _ _ _ _ k => k c58))
  | 59 => .mk (@F64.rec (fun _ => KV → G) (fun _ _ _ _ _ _ _ _ _ _ _ _ _ _ _ _ _ _ _ _ _ _ _ _ _ _ _ _ _ _ _ _ _ _ _ _ _ _ _ _ _ _ _ _ _ _ _ _ _ _ _ _ _ _ _ _ _ _ _ c59 _ _ _ _ _ k => k c59))
  | 60 => .mk (@F64.rec (fun _ => KV → G) (fun _ _ _ _ _ _ _ _ _ _ _ _ _ _ _ _ _ _ _ _ _ _ _ _ _ _ _ _ _ _ _ _ _ _ _ _ _ _ _ _ _ _ _ _ _ _ _ _ _ _ _ _ _ _ _ _ _ _ _ _ c60 _ _ _ _ k => k c60))
  | 61 => .mk (@F64.rec (fun _ => KV → G) (fun _ _ _ _ _ _ _ _ _ _ _ _ _ _ _ _ _ _ _ _ _ _ _ _ _ _ _ _ _ _ _ _ _ _ _ _ _ _ _ _ _ _ _ _ _ _ _ _ _ _ _ _ _ _ _ _ _ _ _ _ _ c61 _ _ _ k => k c61))
  | 62 => .mk (@F64.rec (fun _ => KV → G) (fun _ _ _ _ _ _ _ _ _ _ _ _ _ _ _ _ _ _ _ _ _ _ _ _ _ _ _ _ _ _ _ _ _ _ _ _ _ _ _ _ _ _ _ _ _ _ _ _ _ _ _ _ _ _ _ _ _ _ _ _ _ _ c62 _ _ k => k c62))
  | 63 => .mk (@F64.rec (fun _ => KV → G) (fun _ _ _ _ _ _ _ _ _ _ _ _ _ _ _ _ _ _ _ _ _ _ _ _ _ _ _ _ _ _ _ _ _ _ _ _ _ _ _ _ _ _ _ _ _ _ _ _ _ _ _ _ _ _ _ _ _ _ _ _ _ _ _ c63 _ k => k c63))
  | n + 64 => .mk fun a k => k (a.more n)
def F64.setC : Nat → Clo (F64 → MV → (F64 → G) → G)
  | 0 => .mk (@F64.rec (fun _ => MV → (F64 → G) → G) (fun _ c1 c2 c3 c4 c5 c6 c7 c8 c9 c10 c11 c12 c13 c14 c15 c16 c17 c18 c19 c20 c21 c22 c23 c24 c25 c26 c27 c28 c29 c30 c31 c32 c33 c34 c35 c36 c37 c38 c39 c40 c41 c42 c43 c44 c45 c46 c47 c48 c49 c50 c51 c52 c53 c54 c55 c56 c57 c58 c59 c60 c61 c62 c63 m x k => k (.mk x c1 c2 c3 c4 c5 c6 c7 c8 c9 c10 c11 c12 c13 c14 c15 c16 c17 c18 c19 c20 c21 c22 c23 c24 c25 c26 c27 c28 c29 c30 c31 c32 c33 c34 c35 c36 c37 c38 c39 c40 c41 c42 c43 c44 c45 c46 c47 c48 c49 c50 c51 c52 c53 c54 c55 c56 c57 c58 c59 c60 c61 c62 c63 m)))
  | 1 => .mk (@F64.rec (fun _ => MV → (F64 → G) → G) (fun c0 _ c2 c3 c4 c5 c6 c7 c8 c9 c10 c11 c12 c13 c14 c15 c16 c17 c18 c19 c20 c21 c22 c23 c24 c25 c26 c27 c28 c29 c30 c31 c32 c33 c34 c35 c36 c37 c38 c39 c40 c41 c42 c43 c44 c45 c46 c47 c48 c49 c50 c51 c52 c53 c54 c55 c56 c57 c58 c59 c60 c61 c62 c63 m x k => k (.mk c0 x c2 c3 c4 c5 c6 c7 c8 c9 c10 c11 c12 c13 c14 c15 c16 c17 c18 c19 c20 c21 c22 c23 c24 c25 c26 c27 c28 c29 c30 c31 c32 c33 c34 c35 c36 c37 c38 c39 c40 c41 c42 c43 c44 c45 c46 c47 c48 c49 c50 c51 c52 c53 c54 c55 c56 c57 c58 c59 c60 c61 c62 c63 m)))
  | 2 => .mk (@F64.rec (fun _ => MV → (F64 → G) → G) (fun c0 c1 _ c3 c4 c5 c6 c7 c8 c9 c10 c11 c12 c13 c14 c15 c16 c17 c18 c19 c20 c21 c22 c23 c24 c25 c26 c27 c28 c29 c30 c31 c32 c33 c34 c35 c36 c37 c38 c39 c40 c41 c42 c43 c44 c45 c46 c47 c48 c49 c50 c51 c52 c53 c54 c55 c56 c57 c58 c59 c60 c61 c62 c63 m x k => k (.mk c0 c1 x c3 c4 c5 c6 c7 c8 c9 c10 c11 c12 c13 c14 c15 c16 c17 c18 c19 c20 c21 c22 c23 c24 c25 c26 c27 c28 c29 c30 c31 c32 c33 c34 c35 c36 c37 c38 c39 c40 c41 c42 c43 c44 c45 c46 c47 c48 c49 c50 c51 c52 c53 c54 c55 c56 c57 c58 c59 c60 c61 c62 c63 m)))
  | 3 => .mk (@F64.rec (fun _ => MV → (F64 → G) → G) (fun c0 c1 c2 _ c4 c5 c6 c7 c8 c9 c10 c11 c12 c13 c14 c15 c16 c17 c18 c19 c20 c21 c22 c23 c24 c25 c26 c27 c28 c29 c30 c31 c32 c33 c34 c35 c36 c37 c38 c39 c40 c41 c42 c43 c44 c45 c46 c47 c48 c49 c50 c51 c52 c53 c54 c55 c56 c57 c58 c59 c60 c61 c62 c63 m x k => k (.mk c0 c1 c2 x c4 c5 c6 c7 c8 c9 c10 c11 c12 c13 c14 c15 c16 c17 c18 c19 c20 c21 c22 c23 c24 c25 c26 c27 c28 c29 c30 c31 c32 c33 c34 c35 c36 c37 c38 c39 c40 c41 c42 c43 c44 c45 c46 c47 c48 c49 c50 c51 c52 c53 c54 c55 c56 c57 c58 c59 c60 c61 c62 c63 m)))
  | 4 => .mk (@F64.rec (fun _ => MV → (F64 → G) → G) (fun c0 c1 c2 c3 _ c5 c6 c7 c8 c9 c10 c11 c12 c13 c14 c15 c16 c17 c18 c19 c20 c21 c22 c23 c24 c25 c26 c27 c28 c29 c30 c31 c32 c33 c34 c35 c36 c37 c38 c39 c40 c41 c42 c43 c44 c45 c46 c47 c48 c49 c50 c51 c52 c53 c54 c55 c56 c57 c58 c59 c60 c61 c62 c63 m x k => k (.mk c0 c1 c2 c3 x c5 c6 c7 c8 c9 c10 c11 c12 c13 c14 c15 c16 c17 c18 c19 c20 c21 c22 c23 c24 c25 c26 c27 c28 c29 c30 c31 c32 c33 c34 c35 c36 c37 c38 c39 c40 c41 c42 c43 c44 c45 c46 c47 c48 c49 c50 c51 c52 c53 c54 c55 c56 c57 c58 c59 c60 c61 c62 c63 m)))
  | 5 => .mk (@F64.rec (fun _ => MV → (F64 → G) → G) (fun c0 c1 c2 c3 c4 _ c6 c7 c8 c9 c10 c11 c12 c13 c14 c15 c16 c17 c18 c19 c20 c21 c22 c23 c24 c25 c26 c27 c28 c29 c30 c31 c32 c33 c34 c35 c36 c37 c38 c39 c40 c41 c42 c43 c44 c45 c46 c47 c48 c49 c50 c51 c52 c53 c54 c55 c56 c57 c58 c59 c60 c61 c62 c63 m x k => k (.mk c0 c1 c2 c3 c4 x c6 c7 c8 c9 c10 c11 c12 c13 c14 c15 c16 c17 c18 c19 c20 c21 c22 c23 c24 c25 c26 c27 c28 c29 c30 c31 c32 c33 c34 c35 c36 c37 c38 c39 c40 c41 c42 c43 c44 c45 c46 c47 c48 c49 c50 c51 c52 c53 c54 c55 c56 c57 c58 c59 c60 c61 c62 c63 m)))
  | 6 => .mk (@F64.rec (fun _ => MV → (F64 → G) → G) (fun c0 c1 c2 c3 c4 c5 _ c7 c8 c9 c10 c11 c12 c13 c14 c15 c16 c17 c18 c19 c20 c21 c22 c23 c24 c25 c26 c27 c28 c29 c30 c31 c32 c33 c34 c35 c36 c37 c38 c39 c40 c41 c42 c43 c44 c45 c46 c47 c48 c49 c50 c51 c52 c53 c54 c55 c56 c57 c58 c59 c60 c61 c62 c63 m x k => k (.mk c0 c1 c2 c3 c4 c5 x c7 c8 c9 c10 c11 c12 c13 c14 c15 c16 c17 c18 c19 c20 c21 c22 c23 c24 c25 c26 c27 c28 c29 c30 c31 c32 c33 c34 c35 c36 c37 c38 c39 c40 c41 c42 c43 c44 c45 c46 c47 c48 c49 c50 c51 c52 c53 c54 c55 c56 c57 c58 c59 c60 c61 c62 c63 m)))
  | 7 => .mk (@F64.rec (fun _ => MV → (F64 → G) → G) (fun c0 c1 c2 c3 c4 c5 c6 _ c8 c9 c10 c11 c12 c13 c14 c15 c16 c17 c18 c19 c20 c21 c22 c23 c24 c25 c26 c27 c28 c29 c30 c31 c32 c33 c34 c35 c36 c37 c38 c39 c40 c41 c42 c43 c44 c45 c46 c47 c48 c49 c50 c51 c52 c53 c54 c55 c56 c57 c58 c59 c60 c61 c62 c63 m x k => k (.mk c0 c1 c2 c3 c4 c5 c6 x c8 c9 c10 c11 c12 c13 c14 c15 c16 c17 c18 c19 c20 c21 c22 c23 c24 c25 c26 c27 c28 c29 c30 c31 c32 c33 c34 c35 c36 c37 c38 c39 c40 c41 c42 c43 c44 c45 c46 c47 c48 c49 c50 c51 c52 c53 c54 c55 c56 c57 c58 c59 c60 c61 c62 c63 m)))
  | 8 => .mk (@F64.rec (fun _ => MV → (F64 → G) → G) (fun c0 c1 c2 c3 c4 c5 c6 c7 _ c9 c10 c11 c12 c13 c14 c15 c16 c17 c18 c19 c20 c21 c22 c23 c24 c25 c26 c27 c28 c29 c30 c31 c32 c33 c34 c35 c36 c37 c38 c39 c40 c41 c42 c43 c44 c45 c46 c47 c48 c49 c50 c51 c52 c53 c54 c55 c56 c57 c58 c59 c60 c61 c62 c63 m x k => k (.mk c0 c1 c2 c3 c4 c5 c6 c7 x c9 c10 c11 c12 c13 c14 c15 c16 c17 c18 c19 c20 c21 c22 c23 c24 c25 c26 c27 c28 c29 c30 c31 c32 c33 c34 c35 c36 c37 c38 c39 c40 c41 c42 c43 c44 c45 c46 c47 c48 c49 c50 c51 c52 c53 c54 c55 c56 c57 c58 c59 c60 c61 c62 c63 m)))
  | 9 => .mk (@F64.rec (fun _ => MV → (F64 → G) → G) (fun c0 c1 c2 c3 c4 c5 c6 c7 c8 _ c10 c11 c12 c13 c14 c15 c16 c17 c18 c19 c20 c21 c22 c23 c24 c25 c26 c27 c28 c29 c30 c31 c32 c33 c34 c35 c36 c37 c38 c39 c40 c41 c42 c43 c44 c45 c46 c47 c48 c49 c50 c51 c52 c53 c54 c55 c56 c57 c58 c59 c60 c61 c62 c63 m x k => k (.mk c0 c1 c2 c3 c4 c5 c6 c7 c8 x c10 c11 c12 c13 c14 c15 c16 c17 c18 c19 c20 c21 c22 c23 c24 c25 c26 c27 c28 c29 c30 c31 c32 c33 c34 c35 c36 c37 c38 c39 c40 c41 c42 c43 c44 c45 c46 c47 c48 c49 c50 c51 c52 c53 c54 c55 c56 c57 c58 c59 c60 c61 c62 c63 m)))
  | 10 => .mk (@F64.rec (fun _ => MV → (F64 → G) → G) (fun c0 c1 c2 c3 c4 c5 c6 c7 c8 c9 _ c11 c12 c13 c14 c15 c16 c17 c18 c19 c20 c21 c22 c23 c24 c25 c26 c27 c28 c29 c30 c31 c32 c33 c34 c35 c36 c37 c38 c39 c40 c41 c42 c43 c44 c45 c46 c47 c48 c49 c50 c51 c52 c53 c54 c55 c56 c57 c58 c59 c60 c61 c62 c63 m x k => k (.mk c0 c1 c2 c3 c4 c5 c6 c7 c8 c9 x c11 c12 c13 c14 c15 c16 c17 c18 c19 c20 c21 c22 c23 c24 c25 c26 c27 c28 c29 c30 c31 c32 c33 c34 c35 c36 c37 c38 c39 c40 c41 c42 c43 c44 c45 c46 c47 c48 c49 c50 c51 c52 c53 c54 c55 c56 c57 c58 c59 c60 c61 c62 c63 m)))
  | 11 => .mk (@F64.rec (fun _ => MV → (F64 → G) → G) (fun c0 c1 c2 c3 c4 c5 c6 c7 c8 c9 c10 _ c12 c13 c14 c15 c16 c17 c18 c19 c20 c21 c22 c23 c24 c25 c26 c27 c28 c29 c30 c31 c32 c33 c34 c35 c36 c37 c38 c39 c40 c41 c42 c43 c44 c45 c46 c47 c48 c49 c50 c51 c52 c53 c54 c55 c56 c57 c58 c59 c60 c61 c62 c63 m x k => k (.mk c0 c1 c2 c3 c4 c5 c6 c7 c8 c9 c10 x c12 c13 c14 c15 c16 c17 c18 c19 c20 c21 c22 c23 c24 c25 c26 c27 c28 c29 c30 c31 c32 c33 c34 c35 c36 c37 c38 c39 c40 c41 c42 c43 c44 c45 c46 c47 c48 c49 c50 c51 c52 c53 c54 c55 c56 c57 c58 c59 c60 c61 c62 c63 m)))
  | 12 => .mk (@F64.rec (fun _ => MV → (F64 → G) → G) (fun c0 c1 c2 c3 c4 c5 c6 c7 c8 c9 c10 c11 _ c13 c14 c15 c16 c17 c18 c19 c20 c21 c22 c23 c24 c25 c26 c27 c28 c29 c30 c31 c32 c33 c34 c35 c36 c37 c38 c39 c40 c41 c42 c43 c44 c45 c46 c47 c48 c49 c50 c51 c52 c53 c54 c55 c56 c57 c58 c59 c60 c61 c62 c63 m x k => k (.mk c0 c1 c2 c3 c4 c5 c6 c7 c8 c9 c10 c11 x c13 c14 c15 c16 c17 c18 c19 c20 c21 c22 c23 c24 c25 c26 c27 c28 c29 c30 c31 c32 c33 c34 c35 c36 c37 c38 c39 c40 c41 c42 c43 c44 c45 c46 c47 c48 c49 c50 c51 c52 c53 c54 c55 c56 c57 c58 c59 c60 c61 c62 c63 m)))
  | 13 => .mk (@F64.rec (fun _ => MV → (F64 → G) → G) (fun c0 c1 c2 c3 c4 c5 c6 c7 c8 c9 c10 c11 c12 _ c14 c15 c16 c17 c18 c19 c20 c21 c22 c23 c24 c25 c26 c27 c28 c29 c30 c31 c32 c33 c34 c35 c36 c37 c38 c39 c40 c41 c42 c43 c44 c45 c46 c47 c48 c49 c50 c51 c52 c53 c54 c55 c56 c57 c58 c59 c60 c61 c62 c63 m x k => k (.mk c0 c1 c2 c3 c4 c5 c6 c7 c8 c9 c10 c11 c12 x c14 c15 c16 c17 c18 c19 c20 c21 c22 c23 c24 c25 c26 c27 c28 c29 c30 c31 c32 c33 c34 c35 c36 c37 c38 c39 c40 c41 c42 c43 c44 c45 c46 c47 c48 c49 c50 c51 c52 c53 c54 c55 c56 c57 c58 c59 c60 c61 c62 c63 m)))
  | 14 => .mk (@F64.rec (fun _ => MV → (F64 → G) → G) (fun c0 c1 c2 c3 c4 c5 c6 c7 c8 c9 c10 c11 c12 c13 _ c15 c16 c17 c18 c19 c20 c21 c22 c23 c24 c25 c26 c27 c28 c29 c30 c31 c32 c33 c34 c35 c36 c37 c38 c39 c40 c41 c42 c43 c44 c45 c46 c47 c48 c49 c50 c51 c52 c53 c54 c55 c56 c57 c58 c59 c60 c61 c62 c63 m x k => k (.mk c0 c1 c2 c3 c4 c5 c6 c7 c8 c9 c10 c11 c12 c13 x c15 c16 c17 c18 c19 c20 c21 c22 c23 c24 c25 c26 c27 c28 c29 c30 c31 c32 c33 c34 c35 c36 c37 c38 c39 c40 c41 c42 c43 c44 c45 c46 c47 c48 c49 c50 c51 c52 c53 c54 c55 c56 c57 c58 c59 c60 c61 c62 c63 m)))
  | 15 => .mk (@F64.rec (fun _ => MV → (F64 → G) → G) (fun c0 c1 c2 c3 c4 c5 c6 c7 c8 c9 c10 c11 c12 c13 c14 _ c16 c17 c18 c19 c20 c21 c22 c23 c24 c25 c26 c27 c28 c29 c30 c31 c32 c33 c34 c35 c36 c37 c38 c39 c40 c41 c42 c43 c44 c45 c46 c47 c48 c49 c50 c51 c52 c53 c54 c55 c56 c57 c58 c59 c60 c61 c62 c63 m x k => k (.mk c0 c1 c2 c3 c4 c5 c6 c7 c8 c9 c10 c11 c12 c13 c14 x c16 c17 c18 c19 c20 c21 c22 c23 c24 c25 c26 c27 c28 c29 c30 c31 c32 c33 c34 c35 c36 c37 c38 c39 c40 c41 c42 c43 c44 c45 c46 c47 c48 c49 c50 c51 c52 c53 c54 c55 c56 c57 c58 c59 c60 c61 c62 c63 m)))
  | 16 => .mk (@F64.rec (fun _ => MV → (F64 → G) → G) (fun c0 c1 c2 c3 c4 c5 c6 c7 c8 c9 c10 c11 c12 c13 c14 c15 _ c17 c18 c19 c20 c21 c22 c23 c24 c25 c26 c27 c28 c29 c30 c31 c32 c33 c34 c35 c36 c37 c38 c39 c40 c41 c42 c43 c44 c45 c46 c47 c48 c49 c50 c51 c52 c53 c54 c55 c56 c57 c58 c59 c60 c61 c62 c63 m x k => k (.mk c0 c1 c2 c3 c4 c5 c6 c7 c8 c9 c10 c11 c12 c13 c14 c15 x c17 c18 c19 c20 c21 c22 c23 c24 c25 c26 c27 c28 c29 c30 c31 c32 c33 c34 c35 c36 c37 c38 c39 c40 c41 c42 c43 c44 c45 c46 c47 c48 c49 c50 c51 c52 c53 c54 c55 c56 c57 c58 c59 c60 c61 c62 c63 m)))
  | 17 => .mk (@F64.rec (fun _ => MV → (F64 → G) → G) (fun c0 c1 c2 c3 c4 c5 c6 c7 c8 c9 c10 c11 c12 c13 c14 c15 c16 _ c18 c19 c20 c21 c22 c23 c24 c25 c26 c27 c28 c29 c30 c31 c32 c33 c34 c35 c36 c37 c38 c39 c40 c41 c42 c43 c44 c45 c46 c47 c48 c49 c50 c51 c52 c53 c54 c55 c56 c57 c58 c59 c60 c61 c62 c63 m x k => k (.mk c0 c1 c2 c3 c4 c5 c6 c7 c8 c9 c10 c11 c12 c13 c14 c15 c16 x c18 c19 c20 c21 c22 c23 c24 c25 c26 c27 c28 c29 c30 c31 c32 c33 c34 c35 c36 c37 c38 c39 c40 c41 c42 c43 c44 c45 c46 c47 c48 c49 c50 c51 c52 c53 c54 c55 c56 c57 c58 c59 c60 c61 c62 c63 m)))
  | 18 => .mk (@F64.rec (fun _ => MV → (F64 → G) → G) (fun c0 c1 c2 c3 c4 c5 c6 c7 c8 c9 c10 c11 c12 c13 c14 c15 c16 c17 _ c19 c20 c21 c22 c23 c24 c25 c26 c27 c28 c29 c30 c31 c32 c33 c34 c35 c36 c37 c38 c39 c40 c41 c42 c43 c44 c45 c46 c47 c48 c49 c50 c51 c52 c53 c54 c55 c56 c57 c58 c59 c60 c61 c62 c63 m x k => k (.mk c0 c1 c2 c3 c4 c5 c6 c7 c8 c9 c10 c11 c12 c13 c14 c15 c16 c17 x c19 c20 c21 c22 c23 c24 c25 c26 c27 c28 c29 c30 c31 c32 c33 c34 c35 c36 c37 c38 c39 c40 c41 c42 c43 c44 c45 c46 c47 c48 c49 c50 c51 c52 c53 c54 c55 c56 c57 c58 c59 c60 c61 c62 c63 m)))
  | 19 => .mk (@F64.rec (fun _ => MV → (F64 → G) → G) (fun c0 c1 c2 c3 c4 c5 c6 c7 c8 c9 c10 c11 c12 c13 c14 c15 c16 c17 c18 _ c20 c21 c22 c23 c24 c25 c26 c27 c28 c29 c30 c31 c32 c33 c34 c35 c36 c37 c38 c39 c40 c41 c42 c43 c44 c45 c46 c47 c48 c49 c50 c51 c52 c53 c54 c55 c56 c57 c58 c59 c60 c61 c62 c63 m x k => k (.mk c0 c1 c2 c3 c4 c5 c6 c7 c8 c9 c10 c11 c12 c13 c14 c15 c16 c17 c18 x c20 c21 c22 c23 c24 c25 c26 c27 c28 c29 c30 c31 c32 c33 c34 c35 c36 c37 c38 c39 c40 c41 c42 c43 c44 c45 c46 c47 c48 c49 c50 c51 c52 c53 c54 c55 c56 c57 c58 c59 c60 c61 c62 c63 m)))
  | 20 => .mk (@F64.rec (fun _ => MV → (F64 → G) → G) (fun c0 c1 c2 c3 c4 c5 c6 c7 c8 c9 c10 c11 c12 c13 c14 c15 c16 c17 c18 c19 _ c21 c22 c23 c24 c25 c26 c27 c28 c29 c30 c31 c32 c33 c34 c35 c36 c37 c38 c39 c40 c41 c42 c43 c44 c45 c46 c47 c48 c49 c50 c51 c52 c53 c54 c55 c56 c57 c58 c59 c60 c61 c62 c63 m x k => k (.mk c0 c1 c2 c3 c4 c5 c6 c7 c8 c9 c10 c11 c12 c13 c14 c15 c16 c17 c18 c19 x c21 c22 c23 c24 c25 c26 c27 c28 c29 c30 c31 c32 c33 c34 c35 c36 c37 c38 c39 c40 c41 c42 c43 c44 c45 c46 c47 c48 c49 c50 c51 c52 c53 c54 c55 c56 c57 c58 c59 c60 c61 c62 c63 m)))
  | 21 => .mk (@F64.rec (fun _ => MV → (F64 → G) → G) (fun c0 c1 c2 c3 c4 c5 c6 c7 c8 c9 c10 c11 c12 c13 c14 c15 c16 c17 c18 c19 c20 _ c22 c23 c24 c25 c26 c27 c28 c29 c30 c31 c32 c33 c34 c35 c36 c37 c38 c39 c40 c41 c42 c43 c44 c45 c46 c47 c48 c49 c50 c51 c52 c53 c54 c55 c56 c57 c58 c59 c60 c61 c62 c63 m x k => k (.mk c0 c1 c2 c3 c4 c5 c6 c7 c8 c9 c10 c11 c12 c13 c14 c15 c16 c17 c18 c19 c20 x c22 c23 c24 c25 c26 c27 c28 c29 c30 c31 c32 c33 c34 c35 c36 c37 c38 c39 c40 c41 c42 c43 c44 c45 c46 c47 c48 c49 c50 c51 c52 c53 c54 c55 c56 c57 c58 c59 c60 c61 c62 c63 m)))
  | 22 => .mk (@F64.rec (fun _ => MV → (F64 → G) → G) (fun c0 c1 c2 c3 c4 c5 c6 c7 c8 c9 c10 c11 c12 c13 c14 c15 c16 c17 c18 c19 c20 c21 _ c23 c24 c25 c26 c27 c28 c29 c30 c31 c32 c33 c34 c35 c36 c37 c38 c39 c40 c41 c42 c43 c44 c45 c46 c47 c48 c49 c50 c51 c52 c53 c54 c55 c56 c57 c58 c59 c60 c61 c62 c63 m x k => k (.mk c0 c1 c2 c3 c4 c5 c6 c7 c8 c9 c10 c11 c12 c13 c14 c15 c16 c17 c18 c19 c20 c21 x c23 c24 c25 c26 c27 c28 c29 c30 c31 c32 c33 c34 c35 c36 c37 c38 c39 c40 c41 c42 c43 c44 c45 c46 c47 c48 c49 c50 c51 c52 c53 c54 c55 c56 c57 c58 c59 c60 c61 c62 c63 m)))
  | 23 => .mk (@F64.rec (fun _ => MV → (F64 → G) → G) (fun c0 c1 c2 c3 c4 c5 c6 c7 c8 c9 c10 c11 c12 c13 c14 c15 c16 c17 c18 c19 c20 c21 c22 _ c24 c25 c26 c27 c28 c29 c30 c31 c32 c33 c34 c35 c36 c37 c38 c39 c40 c41 c42 c43 c44 c45 c46 c47 c48 c49 c50 c51 c52 c53 c54 c55 c56 c57 c58 c59 c60 c61 c62 c63 m x k => k (.mk c0 c1 c2 c3 c4 c5 c6 c7 c8 c9 c10 c11 c12 c13 c14 c15 c16 c17 c18 c19 c20 c21 c22 x c24 c25 c26 c27 c28 c29 c30 c31 c32 c33 c34 c35 c36 c37 c38 c39 c40 c41 c42 c43 c44 c45 c46 c47 c48 c49 c50 c51 c52 c53 c54 c55 c56 c57 c58 c59 c60 c61 c62 c63 m)))
  | 24 => .mk (@F64.rec (fun _ => MV → (F64 → G) → G) (fun c0 c1 c2 c3 c4 c5 c6 c7 c8 c9 c10 c11 c12 c13 c14 c15 c16 c17 c18 c19 c20 c21 c22 c23 _ c25 c26 c27 c28 c29 c30 c31 c32 c33 c34 c35 c36 c37 c38 c39 c40 c41 c42 c43 c44 c45 c46 c47 c48 c49 c50 c51 c52 c53 c54 c55 c56 c57 c58 c59 c60 c61 c62 c63 m x k => k (.mk c0 c1 c2 c3 c4 c5 c6 c7 c8 c9 c10 c11 c12 c13 c14 c15 c16 c17 c18 c19 c20 c21 c22 c23 x c25 c26 c27 c28 c29 c30 c31 c32 c33 c34 c35 c36 c37 c38 c39 c40 c41 c42 c43 c44 c45 c46 c47 c48 c49 c50 c51 c52 c53 c54 c55 c56 c57 c58 c59 c60 c61 c62 c63 m)))
  | 25 => .mk (@F64.rec (fun _ => MV → (F64 → G) → G) (fun c0 c1 c2 c3 c4 c5 c6 c7 c8 c9 c10 c11 c12 c13 c14 c15 c16 c17 c18 c19 c20 c21 c22 c23 c24 _ c26 c27 c28 c29 c30 c31 c32 c33 c34 c35 c36 c37 c38 c39 c40 c41 c42 c43 c44 c45 c46 c47 c48 c49 c50 c51 c52 c53 c54 c55 c56 c57 c58 c59 c60 c61 c62 c63 m x k => k (.mk c0 c1 c2 c3 c4 c5 c6 c7 c8 c9 c10 c11 c12 c13 c14 c15 c16 c17 c18 c19 c20 c21 c22 c23 c24 x c26 c27 c28 c29 c30 c31 c32 c33 c34 c35 c36 c37 c38 c39 c40 c41 c42 c43 c44 c45 c46 c47 c48 c49 c50 c51 c52 c53 c54 c55 c56 c57 c58 c59 c60 c61 c62 c63 m)))
  | 26 => .mk (@F64.rec (fun _ => MV → (F64 → G) → G) (fun c0 c1 c2 c3 c4 c5 c6 c7 c8 c9 c10 c11 c12 c13 c14 c15 c16 c17 c18 c19 c20 c21 c22 c23 c24 c25 _ c27 c28 c29 c30 c31 c32 c33 c34 c35 c36 c37 c38 c39 c40 c41 c42 c43 c44 c45 c46 c47 c48 c49 c50 c51 c52 c53 c54 c55 c56 c57 c58 c59 c60 c61 c62 c63 m x k => k (.mk c0 c1 c2 c3 c4 c5 c6 c7 c8 c9 c10 c11 c12 c13 c14 c15 c16 c17 c18 c19 c20 c21 c22 c23 c24 c25 x c27 c28 c29 c30 c31 c32 c33 c34 c35 c36 c37 c38 c39 c40 c41 c42 c43 c44 c45 c46 c47 c48 c49 c50 c51 c52 c53 c54 c55 c56 c57 c58 c59 c60 c61 c62 c63 m)))
  | 27 => .mk (@F64.rec (fun _ => MV → (F64 → G) → G) (fun c0 c1 c2 c3 c4 c5 c6 c7 c8 c9 c10 c11 c12 c13 c14 c15 c16 c17 c18 c19 c20 c21 c22 c23 c24 c25 c26 _ c28 c29 c30 c31 c32 c33 c34 c35 c36 c37 c38 c39 c40 c41 c42 c43 c44 c45 c46 c47 c48 c49 c50 c51 c52 c53 c54 c55 c56 c57 c58 c59 c60 c61 c62 c63 m x k => k (.mk c0 c1 c2 c3 c4 c5 c6 c7 c8 c9 c10 c11 c12 c13 c14 c15 c16 c17 c18 c19 c20 c21 c22 c23 c24 c25 c26 x c28 c29 c30 c31 c32 c33 c34 c35 c36 c37 c38 c39 c40 c41 c42 c43 c44 c45 c46 c47 c48 c49 c50 c51 c52 c53 c54 c55 c56 c57 c58 c59 c60 c61 c62 c63 m)))
  | 28 => .mk (@F64.rec (fun _ => MV → (F64 → G) → G) (fun c0 c1 c2 c3 c4 c5 c6 c7 c8 c9 c10 c11 c12 c13 c14 c15 c16 c17 c18 c19 c20 c21 c22 c23 c24 c25 c26 c27 _ c29 c30 c31 c32 c33 c34 c35 c36 c37 c38 c39 c40 c41 c42 c43 c44 c45 c46 c47 c48 c49 c50 c51 c52 c53 c54 c55 c56 c57 c58 c59 c60 c61 c62 c63 m x k => k (.mk c0 c1 c2 c3 c4 c5 c6 c7 c8 c9 c10 c11 c12 c13 c14 c15 c16 c17 c18 c19 c20 c21 c22 c23 c24 c25 c26 c27 x c29 c30 c31 c32 c33 c34 c35 c36 c37 c38 c39 c40 c41 c42 c43 c44 c45 c46 c47 c48 c49 c50 c51 c52 c53 c54 c55 c56 c57 c58 c59 c60 c61 c62 c63 m)))
  | 29 => .mk (@F64.rec (fun _ => MV → (F64 → G) → G) (fun c0 c1 c2 c3 c4 c5 c6 c7 c8 c9 c10 c11 c12 c13 c14 c15 c16 c17 c18 c19 c20 c21 c22 c23 c24 c25 c26 c27 c28 _ c30 c31 c32 c33 c34 c35 c36 c37 c38 c39 c40 c41 c42 c43 c44 c45 c46 c47 c48 c49 c50 c51 c52 c53 c54 c55 c56 c57 c58 c59 c60 c61 c62 c63 m x k => k (.mk c0 c1 c2 c3 c4 c5 c6 c7 c8 c9 c10 c11 c12 c13 c14 c15 c16 c17 c18 c19 c20 c21 c22 c23 c24 c25 c26 c27 c28 x c30 c31 c32 c33 c34 c35 c36 c37 c38 c39 c40 c41 c42 c43 c44 c45 c46 c47 c48 c49 c50 c51 c52 c53 c54 c55 c56 c57 c58 c59 c60 c61 c62 c63 m)))
  | 30 => .mk (@F64.rec (fun _ => MV → (F64 → G) → G) (fun c0 c1 c2 c3 c4 c5 c6 c7 c8 c9 c10 c11 c12 c13 c14 c15 c16 c17 c18 c19 c20 c21 c22 c23 c24 c25 c26 c27 c28 c29 _ c31 c32 c33 c34 c35 c36 c37 c38 c39 c40 c41 c42 c43 c44 c45 c46 c47 c48 c49 c50 c51 c52 c53 c54 c55 c56 c57 c58 c59 c60 c61 c62 c63 m x k => k (.mk c0 c1 c2 c3 c4 c5 c6 c7 c8 c9 c10 c11 c12 c13 c14 c15 c16 c17 c18 c19 c20 c21 c22 c23 c24 c25 c26 c27 c28 c29 x c31 c32 c33 c34 c35 c36 c37 c38 c39 c40 c41 c42 c43 c44 c45 c46 c47 c48 c49 c50 c51 c52 c53 c54 c55 c56 c57 c58 c59 c60 c61 c62 c63 m)))
  | 31 => .mk (@F64.rec (fun _ => MV → (F64 → G) → G) (fun c0 c1 c2 c3 c4 c5 c6 c7 c8 c9 c10 c11 c12 c13 c14 c15 c16 c17 c18 c19 c20 c21 c22 c23 c24 c25 c26 c27 c28 c29 c30 _ c32 c33 c34 c35 c36 c37 c38 c39 c40 c41 c42 c43 c44 c45 c46 c47 c48 c49 c50 c51 c52 c53 c54 c55 c56 c57 c58 c59 c60 c61 c62 c63 m x k => k (.mk c0 c1 c2 c3 c4 c5 c6 c7 c8 c9 c10 c11 c12 c13 c14 c15 c16 c17 c18 c19 c20 c21 c22 c23 c24 c25 c26 c27 c28 c29 c30 x c32 c33 c34 c35 c36 c37 c38 c39 c40 c41 c42 c43 c44 c45 c46 c47 c48 c49 c50 c51 c52 c53 c54 c55 c56 c57 c58 c59 c60 c61 c62 c63 m)))
  | 32 => .mk (@F64.rec (fun _ => MV → (F64 → G) → G) (fun c0 c1 c2 c3 c4 c5 c6 c7 c8 c9 c10 c11 c12 c13 c14 c15 c16 c17 c18 c19 c20 c21 c22 c23 c24 c25 c26 c27 c28 c29 c30 c31 _ c33 c34 c35 c36 c37 c38 c39 c40 c41 c42 c43 c44 c45 c46 c47 c48 c49 c50 c51 c52 c53 c54 c55 c56 c57 c58 c59 c60 c61 c62 c63 m x k => k (.mk c0 c1 c2 c3 c4 c5 c6 c7 c8 c9 c10 c11 c12 c13 c14 c15 c16 c17 c18 c19 c20 c21 c22 c23 c24 c25 c26 c27 c28 c29 c30 c31 x c33 c34 c35 c36 c37 c38 c39 c40 c41 c42 c43 c44 c45 c46 c47 c48 c49 c50 c51 c52 c53 c54 c55 c56 c57 c58 c59 c60 c61 c62 c63 m)))
  | 33 => .mk (@F64.rec (fun _ => MV → (F64 → G) → G) (fun c0 c1 c2 c3 c4 c5 c6 c7 c8 c9 c10 c11 c12 c13 c14 c15 c16 c17 c18 c19 c20 c21 c22 c23 c24 c25 c26 c27 c28 c29 c30 c31 c32 _ c34 c35 c36 c37 c38 c39 c40 c41 c42 c43 c44 c45 c46 c47 c48 c49 c50 c51 c52 c53 c54 c55 c56 c57 c58 c59 c60 c61 c62 c63 m x k => k (.mk c0 c1 c2 c3 c4 c5 c6 c7 c8 c9 c10 c11 c12 c13 c14 c15 c16 c17 c18 c19 c20 c21 c22 c23 c24 c25 c26 c27 c28 c29 c30 c31 c32 x c34 c35 c36 c37 c38 c39 c40 c41 c42 c43 c44 c45 c46 c47 c48 c49 c50 c51 c52 c53 c54 c55 c56 c57 c58 c59 c60 c61 c62 c63 m)))
  | 34 => .mk (@F64.rec (fun _ => MV → (F64 → G) → G) (fun c0 c1 c2 c3 c4 c5 c6 c7 c8 c9 c10 c11 c12 c13 c14 c15 c16 c17 c18 c19 c20 c21 c22 c23 c24 c25 c26 c27 c28 c29 c30 c31 c32 c33 _ c35 c36 c37 c38 c39 c40 c41 c42 c43 c44 c45 c46 c47 c48 c49 c50 c51 c52 c53 c54 c55 c56 c57 c58 c59 c60 c61 c62 c63 m x k => k (.mk c0 c1 c2 c3 c4 c5 c6 c7 c8 c9 c10 c11 c12 c13 c14 c15 c16 c17 c18 c19 c20 c21 c22 c23 c24 c25 c26 c27 c28 c29 c30 c31 c32 c33 x c35 c36 c37 c38 c39 c40 c41 c42 c43 c44 c45 c46 c47 c48 c49 c50 c51 c52 c53 c54 c55 c56 c57 c58 c59 c60 c61 c62 c63 m)))
  | 35 => .mk (@F64.rec (fun _ => MV → (F64 → G) → G) (fun c0 c1 c2 c3 c4 c5 c6 c7 c8 c9 c10 c11 c12 c13 c14 c15 c16 c17 c18 c19 c20 c21 c22 c23 c24 c25 c26 c27 c28 c29 c30 c31 c32 c33 c34 _ c36 c37 c38 c39 c40 c41 c42 c43 c44 c45 c46 c47 c48 c49 c50 c51 c52 c53 c54 c55 c56 c57 c58 c59 c60 c61 c62 c63 m x k => k (.mk c0 c1 c2 c3 c4 c5 c6 c7 c8 c9 c10 c11 c12 c13 c14 c15 c16 c17 c18 c19 c20 c21 c22 c23 c24 c25 c26 c27 c28 c29 c30 c31 c32 c33 c34 x c36 c37 c38 c39 c40 c41 c42 c43 c44 c45 c46 c47 c48 c49 c50 c51 c52 c53 c54 c55 c56 c57 c58 c59 c60 c61 c62 c63 m)))
  | 36 => .mk (@F64.rec (fun _ => MV → (F64 → G) → G) (fun c0 c1 c2 c3 c4 c5 c6 c7 c8 c9 c10 c11 c12 c13 c14 c15 c16 c17 c18 c19 c20 c21 c22 c23 c24 c25 c26 c27 c28 c29 c30 c31 c32 c33 c34 c35 _ c37 c38 c39 c40 c41 c42 c43 c44 c45 c46 c47 c48 c49 c50 c51 c52 c53 c54 c55 c56 c57 c58 c59 c60 c61 c62 c63 m x k => k (.mk c0 c1 c2 c3 c4 c5 c6 c7 c8 c9 c10 c11 c12 c13 c14 c15 c16 c17 c18 c19 c20 c21 c22 c23 c24 c25 c26 c27 c28 c29 c30 c31 c32 c33 c34 c35 x c37 c38 c39 c40 c41 c42 c43 c44 c45 c46 c47 c48 c49 c50 c51 c52 c53 c54 c55 c56 c57 c58 c59 c60 c61 c62 c63 m)))
  | 37 => .mk (@F64.rec (fun _ => MV → (F64 → G) → G) (fun c0 c1 c2 c3 c4 c5 c6 c7 c8 c9 c10 c11 c12 c13 c14 c15 c16 c17 c18 c19 c20 c21 c22 c23 c24 c25 c26 c27 c28 c29 c30 c31 c32 c33 c34 c35 c36 _ c38 c39 c40 c41 c42 c43 c44 c45 c46 c47 c48 c49 c50 c51 c52 c53 c54 c55 c56 c57 c58 c59 c60 c61 c62 c63 m x k => k (.mk c0 c1 c2 c3 c4 c5 c6 c7 c8 c9 c10 c11 c12 c13 c14 c15 c16 c17 c18 c19 c20 c21 c22 c23 c24 c25 c26 c27 c28 c29 c30 c31 c32 c33 c34 c35 c36 x c38 c39 c40 c41 c42 c43 c44 c45 c46 c47 c48 c49 c50 c51 c52 c53 c54 c55 c56 c57 c58 c59 c60 c61 c62 c63 m)))
  | 38 => .mk (@F64.rec (fun _ => MV → (F64 → G) → G) (fun c0 c1 c2 c3 c4 c5 c6 c7 c8 c9 c10 c11 c12 c13 c14 c15 c16 c17 c18 c19 c20 c21 c22 c23 c24 c25 c26 c27 c28 c29 c30 c31 c32 c33 c34 c35 c36 c37 _ c39 c40 c41 c42 c43 c44 c45 c46 c47 c48 c49 c50 c51 c52 c53 c54 c55 c56 c57 c58 c59 c60 c61 c62 c63 m x k => k (.mk c0 c1 c2 c3 c4 c5 c6 c7 c8 c9 c10 c11 c12 c13 c14 c15 c16 c17 c18 c19 c20 c21 c22 c23 c24 c25 c26 c27 c28 c29 c30 c31 c32 c33 c34 c35 c36 c37 x c39 c40 c41 c42 c43 c44 c45 c46 c47 c48 c49 c50 c51 c52 c53 c54 c55 c56 c57 c58 c59 c60 c61 c62 c63 m)))
  | 39 => .mk (@F64.rec (fun _ => MV → (F64 → G) → G) (fun c0 c1 c2 c3 c4 c5 c6 c7 c8 c9 c10 c11 c12 c13 c14 c15 c16 c17 c18 c19 c20 c21 c22 c23 c24 c25 c26 c27 c28 c29 c30 c31 c32 c33 c34 c35 c36 c37 c38 _ c40 c41 c42 c43 c44 c45 c46 c47 c48 c49 c50 c51 c52 c53 c54 c55 c56 c57 c58 c59 c60 c61 c62 c63 m x k => k (.mk c0 c1 c2 c3 c4 c5 c6 c7 c8 c9 c10 c11 c12 c13 c14 c15 c16 c17 c18 c19 c20 c21 c22 c23 c24 c25 c26 c27 c28 c29 c30 c31 c32 c33 c34 c35 c36 c37 c38 x c40 c41 c42 c43 c44 c45 c46 c47 c48 c49 c50 c51 c52 c53 c54 c55 c56 c57 c58 c59 c60 c61 c62 c63 m)))
  | 40 => .mk (@F64.rec (fun _ => MV → (F64 → G) → G) (fun c0 c1 c2 c3 c4 c5 c6 c7 c8 c9 c10 c11 c12 c13 c14 c15 c16 c17 c18 c19 c20 c21 c22 c23 c24 c25 c26 c27 c28 c29 c30 c31 c32 c33 c34 c35 c36 c37 c38 c39 _ c41 c42 c43 c44 c45 c46 c47 c48 c49 c50 c51 c52 c53 c54 c55 c56 c57 c58 c59 c60 c61 c62 c63 m x k => k (.mk c0 c1 c2 c3 c4 c5 c6 c7 c8 c9 c10 c11 c12 c13 c14 c15 c16 c17 c18 c19 c20 c21 c22 c23 c24 c25 c26 c27 c28 c29 c30 c31 c32 c33 c34 c35 c36 c37 c38 c39 x c41 c42 c43 c44 c45 c46 c47 c48 c49 c50 c51 c52 c53 c54 c55 c56 c57 c58 c59 c60 c61 c62 c63 m)))
  | 41 => .mk (@F64.rec (fun _ => MV → (F64 → G) → G) (fun c0 c1 c2 c3 c4 c5 c6 c7 c8 c9 c10 c11 c12 c13 c14 c15 c16 c17 c18 c19 c20 c21 c22 c23 c24 c25 c26 c27 c28 c29 c30 c31 c32 c33 c34 c35 c36 c37 c38 c39 c40 _ c42 c43 c44 c45 c46 c47 c48 c49 c50 c51 c52 c53 c54 c55 c56 c57 c58 c59 c60 c61 c62 c63 m x k => k (.mk c0 c1 c2 c3 c4 c5 c6 c7 c8 c9 c10 c11 c12 c13 c14 c15 c16 c17 c18 c19 c20 c21 c22 c23 c24 c25 c26 c27 c28 c29 c30 c31 c32 c33 c34 c35 c36 c37 c38 c39 c40 x c42 c43 c44 c45 c46 c47 c48 c49 c50 c51 c52 c53 c54 c55 c56 c57 c58 c59 c60 c61 c62 c63 m)))
  | 42 => .mk (@F64.rec (fun _ => MV → (F64 → G) → G) (fun c0 c1 c2 c3 c4 c5 c6 c7 c8 c9 c10 c11 c12 c13 c14 c15 c16 c17 c18 c19 c20 c21 c22 c23 c24 c25 c26 c27 c28 c29 c30 c31 c32 c33 c34 c35 c36 c37 c38 c39 c40 c41 _ c43 c44 c45 c46 c47 c48 c49 c50 c51 c52 c53 c54 c55 c56 c57 c58 c59 c60 c61 c62 c63 m x k => k (.mk c0 c1 c2 c3 c4 c5 c6 c7 c8 c9 c10 c11 c12 c13 c14 c15 c16 c17 c18 c19 c20 c21 c22 c23 c24 c25 c26 c27 c28 c29 c30 c31 c32 c33 c34 c35 c36 c37 c38 c39 c40 c41 x c43 c44 c45 c46 c47 c48 c49 c50 c51 c52 c53 c54 c55 c56 c57 c58 c59 c60 c61 c62 c63 m)))
  | 43 => .mk (@F64.rec (fun _ => MV → (F64 → G) → G) (fun c0 c1 c2 c3 c4 c5 c6 c7 c8 c9 c10 c11 c12 c13 c14 c15 c16 c17 c18 c19 c20 c21 c22 c23 c24 c25 c26 c27 c28 c29 c30 c31 c32 c33 c34 c35 c36 c37 c38 c39 c40 c41 c42 _ c44 c45 c46 c47 c48 c49 c50 c51 c52 c53 c54 c55 c56 c57 c58 c59 c60 c61 c62 c63 m x k => k (.mk c0 c1 c2 c3 c4 c5 c6 c7 c8 c9 c10 c11 c12 c13 c14 c15 c16 c17 c18 c19 c20 c21 c22 c23 c24 c25 c26 c27 c28 c29 c30 c31 c32 c33 c34 c35 c36 c37 c38 c39 c40 c41 c42 x c44 c45 c46 c47 c48 c49 c50 c51 c52 c53 c54 c55 c56 c57 c58 c59 c60 c61 c62 c63 m)))
  | 44 => .mk (@F64.rec (fun _ => MV → (F64 → G) → G) (fun c0 c1 c2 c3 c4 c5 c6 c7 c8 c9 c10 c11 c12 c13 c14 c15 c16 c17 c18 c19 c20 c21 c22 c23 c24 c25 c26 c27 c28 c29 c30 c31 c32 c33 c34 c35 c36 c37 c38 c39 c40 c41 c42 c43 _ c45 c46 c47 c48 c49 c50 c51 c52 c53 c54 c55 c56 c57 c58 c59 c60 c61 c62 c63 m x k => k (.mk c0 c1 c2 c3 c4 c5 c6 c7 c8 c9 c10 c11 c12 c13 c14 c15 c16 c17 c18 c19 c20 c21 c22 c23 c24 c25 c26 c27 c28 c29 c30 c31 c32 c33 c34 c35 c36 c37 c38 c39 c40 c41 c42 c43 x c45 c46 c47 c48 c49 c50 c51 c52 c53 c54 c55 c56 c57 c58 c59 c60 c61 c62 c63 m)))
  | 45 => .mk (@F64.rec (fun _ => MV → (F64 → G) → G) (fun c0 c1 c2 c3 c4 c5 c6 c7 c8 c9 c10 c11 c12 c13 c14 c15 c16 c17 c18 c19 c20 c21 c22 c23 c24 c25 c26 c27 c28 c29 c30 c31 c32 c33 c34 c35 c36 c37 c38 c39 c40 c41 c42 c43 c44 _ c46 c47 c48 c49 c50 c51 c52 c53 c54 c55 c56 c57 c58 c59 c60 c61 c62 c63 m x k => k (.mk c0 c1 c2 c3 c4 c5 c6 c7 c8 c9 c10 c11 c12 c13 c14 c15 c16 c17 c18 c19 c20 c21 c22 c23 c24 c25 c26 c27 c28 c29 c30 c31 c32 c33 c34 c35 c36 c37 c38 c39 c40 c41 c42 c43 c44 x c46 c47 c48 c49 c50 c51 c52 c53 c54 c55 c56 c57 c58 c59 c60 c61 c62 c63 m)))
  | 46 => .mk (@F64.rec (fun _ => MV → (F64 → G) → G) (fun c0 c1 c2 c3 c4 c5 c6 c7 c8 c9 c10 c11 c12 c13 c14 c15 c16 c17 c18 c19 c20 c21 c22 c23 c24 c25 c26 c27 c28 c29 c30 c31 c32 c33 c34 c35 c36 c37 c38 c39 c40 c41 c42 c43 c44 c45 _ c47 c48 c49 c50 c51 c52 c53 c54 c55 c56 c57 c58 c59 c60 c61 c62 c63 m x k => k (.mk c0 c1 c2 c3 c4 c5 c6 c7 c8 c9 c10 c11 c12 c13 c14 c15 c16 c17 c18 c19 c20 c21 c22 c23 c24 c25 c26 c27 c28 c29 c30 c31 c32 c33 c34 c35 c36 c37 c38 c39 c40 c41 c42 c43 c44 c45 x c47 c48 c49 c50 c51 c52 c53 c54 c55 c56 c57 c58 c59 c60 c61 c62 c63 m)))
  | 47 => .mk (@F64.rec (fun _ => MV → (F64 → G) → G) (fun c0 c1 c2 c3 c4 c5 c6 c7 c8 c9 c10 c11 c12 c13 c14 c15 c16 c17 c18 c19 c20 c21 c22 c23 c24 c25 c26 c27 c28 c29 c30 c31 c32 c33 c34 c35 c36 c37 c38 c39 c40 c41 c42 c43 c44 c45 c46 _ c48 c49 c50 c51 c52 c53 c54 c55 c56 c57 c58 c59 c60 c61 c62 c63 m x k => k (.mk c0 c1 c2 c3 c4 c5 c6 c7 c8 c9 c10 c11 c12 c13 c14 c15 c16 c17 c18 c19 c20 c21 c22 c23 c24 c25 c26 c27 c28 c29 c30 c31 c32 c33 c34 c35 c36 c37 c38 c39 c40 c41 c42 c43 c44 c45 c46 x c48 c49 c50 c51 c52 c53 c54 c55 c56 c57 c58 c59 c60 c61 c62 c63 m)))
  | 48 => .mk (@F64.rec (fun _ => MV → (F64 → G) → G) (fun c0 c1 c2 c3 c4 c5 c6 c7 c8 c9 c10 c11 c12 c13 c14 c15 c16 c17 c18 c19 c20 c21 c22 c23 c24 c25 c26 c27 c28 c29 c30 c31 c32 c33 c34 c35 c36 c37 c38 c39 c40 c41 c42 c43 c44 c45 c46 c47 _ c49 c50 c51 c52 c53 c54 c55 c56 c57 c58 c59 c60 c61 c62 c63 m x k => k (.mk c0 c1 c2 c3 c4 c5 c6 c7 c8 c9 c10 c11 c12 c13 c14 c15 c16 c17 c18 c19 c20 c21 c22 c23 c24 c25 c26 c27 c28 c29 c30 c31 c32 c33 c34 c35 c36 c37 c38 c39 c40 c41 c42 c43 c44 c45 c46 c47 x c49 c50 c51 c52 c53 c54 c55 c56 c57 c58 c59 c60 c61 c62 c63 m)))
  | 49 => .mk (@F64.rec (fun _ => MV → (F64 → G) → G) (fun c0 c1 c2 c3 c4 c5 c6 c7 c8 c9 c10 c11 c12 c13 c14 c15 c16 c17 c18 c19 c20 c21 c22 c23 c24 c25 c26 c27 c28 c29 c30 c31 c32 c33 c34 c35 c36 c37 c38 c39 c40 c41 c42 c43 c44 c45 c46 c47 c48 _ c50 c51 c52 c53 c54 c55 c56 c57 c58 c59 c60 c61 c62 c63 m x k => k (.mk c0 c1 c2 c3 c4 c5 c6 c7 c8 c9 c10 c11 c12 c13 c14 c15 c16 c17 c18 c19 c20 c21 c22 c23 c24 c25 c26 c27 c28 c29 c30 c31 c32 c33 c34 c35 c36 c37 c38 c39 c40 c41 c42 c43 c44 c45 c46 c47 c48 x c50 c51 c52 c53 c54 c55 c56 c57 c58 c59 c60 c61 c62 c63 m)))
  | 50 => .mk (@F64.rec (fun _ => MV → (F64 → G) → G) (fun c0 c1 c2 c3 c4 c5 c6 c7 c8 c9 c10 c11 c12 c13 c14 c15 c16 c17 c18 c19 c20 c21 c22 c23 c24 c25 c26 c27 c28 c29 c30 c31 c32 c33 c34 c35 c36 c37 c38 c39 c40 c41 c42 c43 c44 c45 c46 c47 c48 c49 _ c51 c52 c53 c54 c55 c56 c57 c58 c59 c60 c61 c62 c63 m x k => k (.mk c0 c1 c2 c3 c4 c5 c6 c7 c8 c9 c10 c11 c12 c13 c14 c15 c16 c17 c18 c19 c20 c21 c22 c23 c24 c25 c26 c27 c28 c29 c30 c31 c32 c33 c34 c35 c36 c37 c38 c39 c40 c41 c42 c43 c44 c45 c46 c47 c48 c49 x c51 c52 c53 c54 c55 c56 c57 c58 c59 c60 c61 c62 c63 m)))
  | 51 => .mk (@F64.rec (fun _ => MV → (F64 → G) → G) (fun c0 c1 c2 c3 c4 c5 c6 c7 c8 c9 c10 c11 c12 c13 c14 c15 c16 c17 c18 c19 c20 c21 c22 c23 c24 c25 c26 c27 c28 c29 c30 c31 c32 c33 c34 c35 c36 c37 c38 c39 c40 c41 c42 c43 c44 c45 c46 c47 c48 c49 c50 _ c52 c53 c54 c55 c56 c57 c58 c59 c60 c61 c62 c63 m x k => k (.mk c0 c1 c2 c3 c4 c5 c6 c7 c8 c9 c10 c11 c12 c13 c14 c15 c16 c17 c18 c19 c20 c21 c22 c23 c24 c25 c26 c27 c28 c29 c30 c31 c32 c33 c34 c35 c36 c37 c38 c39 c40 c41 c42 c43 c44 c45 c46 c47 c48 c49 c50 x c52 c53 c54 c55 c56 c57 c58 c59 c60 c61 c62 c63 m)))
  | 52 => .mk (@F64.rec (fun _ => MV → (F64 → G) → G) (fun c0 c1 c2 c3 c4 c5 c6 c7 c8 c9 c10 c11 c12 c13 c14 c15 c16 c17 c18 c19 c20 c21 c22 c23 c24 c25 c26 c27 c28 c29 c30 c31 c32 c33 c34 c35 c36 c37 c38 c39 c40 c41 c42 c43 c44 c45 c46 c47 c48 c49 c50 c51 _ c53 c54 c55 c56 c57 c58 c59 c60 c61 c62 c63 m x k => k (.mk c0 c1 c2 c3 c4 c5 c6 c7 c8 c9 c10 c11 c12 c13 c14 c15 c16 c17 c18 c19 c20 c21 c22 c23 c24 c25 c26 c27 c28 c29 c30 c31 c32 c33 c34 c35 c36 c37 c38 c39 c40 c41 c42 c43 c44 c45 c46 c47 c48 c49 c50 c51 x c53 c54 c55 c56 c57 c58 c59 c60 c61 c62 c63 m)))
  | 53 => .mk (@F64.rec (fun _ => MV → (F64 → G) → G) (fun c0 c1 c2 c3 c4 c5 c6 c7 c8 c9 c10 c11 c12 c13 c14 c15 c16 c17 c18 c19 c20 c21 c22 c23 c24 c25 c26 c27 c28 c29 c30 c31 c32 c33 c34 c35 c36 c37 c38 c39 c40 c41 c42 c43 c44 c45 c46 c47 c48 c49 c50 c51 c52 _ c54 c55 c56 c57 c58 c59 c60 c61 c62 c63 m x k => k (.mk c0 c1 c2 c3 c4 c5 c6 c7 c8 c9 c10 c11 c12 c13 c14 c15 c16 c17 c18 c19 c20 c21 c22 c23 c24 c25 c26 c27 c28 c29 c30 c31 c32 c33 c34 c35 c36 c37 c38 c39 c40 c41 c42 c43 c44 c45 c46 c47 c48 c49 c50 c51 c52 x c54 c55 c56 c57 c58 c59 c60 c61 c62 c63 m)))
  | 54 => .mk (@F64.rec (fun _ => MV → (F64 → G) → G) (fun c0 c1 c2 c3 c4 c5 c6 c7 c8 c9 c10 c11 c12 c13 c14 c15 c16 c17 c18 c19 c20 c21 c22 c23 c24 c25 c26 c27 c28 c29 c30 c31 c32 c33 c34 c35 c36 c37 c38 c39 c40 c41 c42 c43 c44 c45 c46 c47 c48 c49 c50 c51 c52 c53 _ c55 c56 c57 c58 c59 c60 c61 c62 c63 m x k => k (.mk c0 c1 c2 c3 c4 c5 c6 c7 c8 c9 c10 c11 c12 c13 c14 c15 c16 c17 c18 c19 c20 c21 c22 c23 c24 c25 c26 c27 c28 c29 c30 c31 c32 c33 c34 c35 c36 c37 c38 c39 c40 c41 c42 c43 c44 c45 c46 c47 c48 c49 c50 c51 c52 c53 x c55 c56 c57 c58 c59 c60 c61 c62 c63 m)))
  | 55 => .mk (@F64.rec (fun _ => MV → (F64 → G) → G) (fun c0 c1 c2 c3 c4 c5 c6 c7 c8 c9 c10 c11 c12 c13 c14 c15 c16 c17 c18 c19 c20 c21 c22 c23 c24 c25 c26 c27 c28 c29 c30 c31 c32 c33 c34 c35 c36 c37 c38 c39 c40 c41 c42 c43 c44 c45 c46 c47 c48 c49 c50 c51 c52 c53 c54 _ c56 c57 c58 c59 c60 c61 c62 c63 m x k => k (.mk c0 c1 c2 c3 c4 c5 c6 c7 c8 c9 c10 c11 c12 c13 c14 c15 c16 c17 c18 c19 c20 c21 c22 c23 c24 c25 c26 c27 c28 c29 c30 c31 c32 c33 c34 c35 c36 c37 c38 c39 c40 c41 c42 c43 c44 c45 c46 c47 c48 c49 c50 c51 c52 c53 c54 x c56 c57 c58 c59 c60 c61 c62 c63 m)))
  | 56 => .mk (@F64.rec (fun _ => MV → (F64 → G) → G) (fun c0 c1 c2 c3 c4 c5 c6 c7 c8 c9 c10 c11 c12 c13 c14 c15 c16 c17 c18 c19 c20 c21 c22 c23 c24 c25 c26 c27 c28 c29 c30 c31 c32 c33 c34 c35 c36 c37 c38 c39 c40 c41 c42 c43 c44 c45 c46 c47 c48 c49 c50 c51 c52 c53 c54 c55 _ c57 c58 c59 c60 c61 c62 c63 m x k => k (.mk c0 c1 c2 c3 c4 c5 c6 c7 c8 c9 c10 c11 c12 c13 c14 c15 c16 c17 c18 c19 c20 c21 c22 c23 c24 c25 c26 c27 c28 c29 c30 c31 c32 c33 c34 c35 c36 c37 c38 c39 c40 c41 c42 c43 c44 c45 c46 c47 c48 c49 c50 c51 c52 c53 c54 c55 x c57 c58 c59 c60 c61 c62 c63 m)))
  | 57 => .mk (@F64.rec (fun _ => MV → (F64 → G) → G) (fun c0 c1 c2 c3 c4 c5 c6 c7 c8 c9 c10 c11 c12 c13 c14 c15 c16 c17 c18 c19 c20 c21 c22 c23 c24 c25 c26 c27 c28 c29 c30 c31 c32 c33 c34 c35 c36 c37 c38 c39 c40 c41 c42 c43 c44 c45 c46 c47 c48 c49 c50 c51 c52 c53 c54 c55 c56 _ c58 c59 c60 c61 c62 c63 m x k => k (.mk c0 c1 c2 c3 c4 c5 c6 c7 c8 c9 c10 c11 c12 c13 c14 c15 c16 c17 c18 c19 c20 c21 c22 c23 c24 c25 c26 c27 c28 c29 c30 c31 c32 c33 c34 c35 c36 c37 c38 c39 c40 c41 c42 c43 c44 c45 c46 c47 c48 c49 c50 c51 c52 c53 c54 c55 c56 x c58 c59 c60 c61 c62 c63 m)))
  | 58 => .mk (@F64.rec (fun _ => MV → (F64 → G) → G) (fun c0 c1 c2 c3 c4 c5 c6 c7 c8 c9 c10 c11 c12 c13 c14 c15 c16 c17 c18 c19 c20 c21 c22 c23 c24 c25 c26 c27 c28 c29 c30 c31 c32 c33 c34 c35 c36 c37 c38 c39 c40 c41 c42 c43 c44 c45 c46 c47 c48 c49 c50 c51 c52 c53 c54 c55 c56 c57 _ c59 c60 c61 c62 c63 m x k => k (.mk c0 c1 c2 c3 c4 c5 c6 c7 c8 c9 c10 c11 c12 c13 c14 c15 c16 c17 c18 c19 c20 c21 c22 c23 c24 c25 c26 c27 c28 c29 c30 c31 c32 c33 c34 c35 c36 c37 c38 c39 c40 c41 c42 c43 c44 c45 c46 c47 c48 c49 c50 c51 c52 c53 c54 c55 c56 c57 x c59 c60 c61 c62 c63 m)))
  | 59 => .mk (@F64.rec (fun _ => MV → (F64 → G) → G) (fun c0 c1 c2 c3 c4 c5 c6 c7 c8 c9 c10 c11 c12 c13 c14 c15 c16 c17 c18 c19 c20 c21 c22 c23 c24 c25 c26 c27 c28 c29 c30 c31 c32 c33 c34 c35 c36 c37 c38 c39 c40 c41 c42 c43 c44 c45 c46 c47 c48 c49 c50 c51 c52 c53 c54 c55 c56 c57 c58 _ c60 c61 c62 c63 m x k => k (.mk c0 c1 c2 c3 c4 c5 c6 c7 c8 c9 c10 c11 c12 c13 c14 c15 c16 c17 c18 c19 c20 c21 c22 c23 c24 c25 c26 c27 c28 c29 c30 c31 c32 c33 c34 c35 c36 c37 c38 c39 c40 c41 c42 c43 c44 c45 c46 c47 c48 c49 c50 c51 c52 c53 c54 c55 c56 c57 c58 x c60 c61 c62 c63 m)))
  | 60 => .mk (@F64.rec (fun _ => MV → (F64 → G) → G) (fun c0 c1 c2 c3 c4 c5 c6 c7 c8 c9 c10 c11 c12 c13 c14 c15 c16 c17 c18 c19 c20 c21 c22 c23 c24 c25 c26 c27 c28 c29 c30 c31 c32 c33 c34 c35 c36 c37 c38 c39 c40 c41 c42 c43 c44 c45 c46 c47 c48 c49 c50 c51 c52 c53 c54 c55 c56 c57 c58 c59 _ c61 c62 c63 m x k => k (.mk c0 c1 c2 c3 c4 c5 c6 c7 c8 c9 c10 c11 c12 c13 c14 c15 c16 c17 c18 c19 c20 c21 c22 c23 c24 c25 c26 c27 c28 c29 c30 c31 c32 c33 c34 c35 c36 c37 c38 c39 c40 c41 c42 c43 c44 c45 c46 c47 c48 c49 c50 c51 c52 c53 c54 c55 c56 c57 c58 c59 x c61 c62 c63 m)))
  | 61 => .mk (@F64.rec (fun _ => MV → (F64 → G) → G) (fun c0 c1 c2 c3 c4 c5 c6 c7 c8 c9 c10 c11 c12 c13 c14 c15 c16 c17 c18 c19 c20 c21 c22 c23 c24 c25 c26 c27 c28 c29 c30 c31 c32 c33 c34 c35 c36 c37 c38 c39 c40 c41 c42 c43 c44 c45 c46 c47 c48 c49 c50 c51 c52 c53 c54 c55 c56 c57 c58 c59 c60 _ c62 c63 m x k => k (.mk c0 c1 c2 c3 c4 c5 c6 c7 c8 c9 c10 c11 c12 c13 c14 c15 c16 c17 c18 c19 c20 c21 c22 c23 c24 c25 c26 c27 c28 c29 c30 c31 c32 c33 c34 c35 c36 c37 c38 c39 c40 c41 c42 c43 c44 c45 c46 c47 c48 c49 c50 c51 c52 c53 c54 c55 c56 c57 c58 c59 c60 x c62 c63 m)))
  | 62 => .mk (@F64.rec (fun _ => MV → (F64 → G) → G) (fun c0 c1 c2 c3 c4 c5 c6 c7 c8 c9 c10 c11 c12 c13 c14 c15 c16 c17 c18 c19 c20 c21 c22 c23 c24 c25 c26 c27 c28 c29 c30 c31 c32 c33 c34 c35 c36 c37 c38 c39 c40 c41 c42 c43 c44 c45 c46 c47 c48 c49 c50 c51 c52 c53 c54 c55 c56 c57 c58 c59 c60 c61 _ c63 m x k => k (.mk c0 c1 c2 c3 c4 c5 c6 c7 c8 c9 c10 c11 c12 c13 c14 c15 c16 c17 c18 c19 c20 c21 c22 c23 c24 c25 c26 c27 c28 c29 c30 c31 c32 c33 c34 c35 c36 c37 c38 c39 c40 c41 c42 c43 c44 c45 c46 c47 c48 c49 c50 c51 c52 c53 c54 c55 c56 c57 c58 c59 c60 c61 x c63 m)))
  | 63 => .mk (@F64.rec (fun _ => MV → (F64 → G) → G) (fun c0 c1 c2 c3 c4 c5 c6 c7 c8 c9 c10 c11 c12 c13 c14 c15 c16 c17 c18 c19 c20 c21 c22 c23 c24 c25 c26 c27 c28 c29 c30 c31 c32 c33 c34 c35 c36 c37 c38 c39 c40 c41 c42 c43 c44 c45 c46 c47 c48 c49 c50 c51 c52 c53 c54 c55 c56 c57 c58 c59 c60 c61 c62 _ m x k => k (.mk c0 c1 c2 c3 c4 c5 c6 c7 c8 c9 c10 c11 c12 c13 c14 c15 c16 c17 c18 c19 c20 c21 c22 c23 c24 c25 c26 c27 c28 c29 c30 c31 c32 c33 c34 c35 c36 c37 c38 c39 c40 c41 c42 c43 c44 c45 c46 c47 c48 c49 c50 c51 c52 c53 c54 c55 c56 c57 c58 c59 c60 c61 c62 x m)))
  | n + 64 => .mk fun a x k => k (a.put x (n + 64))
theorem F64.getC_run : ∀ (n : Nat) (a : F64) (k : KV), (F64.getC n).run a k = k (a.at' n)
  | 0, _, _ => rfl
  | 1, _, _ => rfl
  | 2, _, _ => rfl
  | 3, _, _ => rfl
  | 4, _, _ => rfl
  | 5, _, _ => rfl
  | 6, _, _ => rfl
  | 7, _, _ => rfl
  | 8, _, _ => rfl
  | 9, _, _ => rfl
  | 10, _, _ => rfl
  | 11, _, _ => rfl
  | 12, _, _ => rfl
  | 13, _, _ => rfl
  | 14, _, _ => rfl
  | 15, _, _ => rfl
  | 16, _, _ => rfl
  | 17, _, _ => rfl
  | 18, _, _ => rfl
  | 19, _, _ => rfl
  | 20, _, _ => rfl
  | 21, _, _ => rfl
  | 22, _, _ => rfl
  | 23, _, _ => rfl
  | 24, _, _ => rfl
  | 25, _, _ => rfl
  | 26, _, _ => rfl
  | 27, _, _ => rfl
  | 28, _, _ => rfl
  | 29, _, _ => rfl
  | 30, _, _ => rfl
  | 31, _, _ => rfl
  | 32, _, _ => rfl
  | 33, _, _ => rfl
  | 34, _, _ => rfl
  | 35, _, _ => rfl
  | 36, _, _ => rfl
  | 37, _, _ => rfl
  | 38, _, _ => rfl
  | 39, _, _ => rfl
  | 40, _, _ => rfl
  | 41, _, _ => rfl
  | 42, _, _ => rfl
  | 43, _, _ => rfl
  | 44, _, _ => rfl
  | 45, _, _ => rfl
  | 46, _, _ => rfl
  | 47, _, _ => rfl
  | 48, _, _ => rfl
  | 49, _, _ => rfl
  | 50, _, _ => rfl
  | 51, _, _ => rfl
  | 52, _, _ => rfl
  | 53, _, _ => rfl
  | 54, _, _ => rfl
  | 55, _, _ => rfl
  | 56, _, _ => rfl
  | 57, _, _ => rfl
  | 58, _, _ => rfl
  | 59, _, _ => rfl
  | 60, _, _ => rfl
  | 61, _, _ => rfl
  | 62, _, _ => rfl
  | 63, _, _ => rfl
  | _ + 64, _, _ => rfl
theorem F64.setC_run : ∀ (n : Nat) (a : F64) (v : MV) (k : F64 → G), (F64.setC n).run a v k = k (a.put v n)
  | 0, _, _, _ => rfl
  | 1, _, _, _ => rfl
  | 2, _, _, _ => rfl
  | 3, _, _, _ => rfl
  | 4, _, _, _ => rfl
  | 5, _, _, _ => rfl
  | 6, _, _, _ => rfl
  | 7, _, _, _ => rfl
  | 8, _, _, _ => rfl
  | 9, _, _, _ => rfl
  | 10, _, _, _ => rfl
  | 11, _, _, _ => rfl
  | 12, _, _, _ => rfl
  | 13, _, _, _ => rfl
  | 14, _, _, _ => rfl
  | 15, _, _, _ => rfl
  | 16, _, _, _ => rfl
  | 17, _, _, _ => rfl
  | 18, _, _, _ => rfl
  | 19, _, _, _ => rfl
  | 20, _, _, _ => rfl
  | 21, _, _, _ => rfl
  | 22, _, _, _ => rfl
  | 23, _, _, _ => rfl
  | 24, _, _, _ => rfl
  | 25, _, _, _ => rfl
  | 26, _, _, _ => rfl
  | 27, _, _, _ => rfl
  | 28, _, _, _ => rfl
  | 29, _, _, _ => rfl
  | 30, _, _, _ => rfl
  | 31, _, _, _ => rfl
  | 32, _, _, _ => rfl
  | 33, _, _, _ => rfl
  | 34, _, _, _ => rfl
  | 35, _, _, _ => rfl
  | 36, _, _, _ => rfl
  | 37, _, _, _ => rfl
  | 38, _, _, _ => rfl
  | 39, _, _, _ => rfl
  | 40, _, _, _ => rfl
  | 41, _, _, _ => rfl
  | 42, _, _, _ => rfl
  | 43, _, _, _ => rfl
  | 44, _, _, _ => rfl
  | 45, _, _, _ => rfl
  | 46, _, _, _ => rfl
  | 47, _, _, _ => rfl
  | 48, _, _, _ => rfl
  | 49, _, _, _ => rfl
  | 50, _, _, _ => rfl
  | 51, _, _, _ => rfl
  | 52, _, _, _ => rfl
  | 53, _, _, _ => rfl
  | 54, _, _, _ => rfl
  | 55, _, _, _ => rfl
  | 56, _, _, _ => rfl
  | 57, _, _, _ => rfl
  | 58, _, _, _ => rfl
  | 59, _, _, _ => rfl
  | 60, _, _, _ => rfl
  | 61, _, _, _ => rfl
  | 62, _, _, _ => rfl
  | 63, _, _, _ => rfl
  | _ + 64, _, _, _ => rfl
theorem F64.at_eq (a : F64) : ∀ n, a.at' n = match a.list[n]? with | some v => v | none => a.more (n - 64)
  | 0 => rfl
  | 1 => rfl
  | 2 => rfl
  | 3 => rfl
  | 4 => rfl
  | 5 => rfl
  | 6 => rfl
  | 7 => rfl
  | 8 => rfl
  | 9 => rfl
  | 10 => rfl
  | 11 => rfl
  | 12 => rfl
  | 13 => rfl
  | 14 => rfl
  | 15 => rfl
  | 16 => rfl
  | 17 => rfl
  | 18 => rfl
  | 19 => rfl
  | 20 => rfl
  | 21 => rfl
  | 22 => rfl
  | 23 => rfl
  | 24 => rfl
  | 25 => rfl
  | 26 => rfl
  | 27 => rfl
  | 28 => rfl
  | 29 => rfl
  | 30 => rfl
  | 31 => rfl
  | 32 => rfl
  | 33 => rfl
  | 34 => rfl
  | 35 => rfl
  | 36 => rfl
  | 37 => rfl
  | 38 => rfl
  | 39 => rfl
  | 40 => rfl
  | 41 => rfl
  | 42 => rfl
  | 43 => rfl
  | 44 => rfl
  | 45 => rfl
  | 46 => rfl
  | 47 => rfl
  | 48 => rfl
  | 49 => rfl
  | 50 => rfl
  | 51 => rfl
  | 52 => rfl
  | 53 => rfl
  | 54 => rfl
  | 55 => rfl
  | 56 => rfl
  | 57 => rfl
  | 58 => rfl
  | 59 => rfl
  | 60 => rfl
  | 61 => rfl
  | 62 => rfl
  | 63 => rfl
  | n + 64 => by
    rw [show a.list[n + 64]? = none from List.getElem?_eq_none (by show 64 ≤ n + 64; omega), Nat.add_sub_cancel]
    rfl
theorem F64.put_list (a : F64) (v : MV) : ∀ n, n < 64 → (a.put v n).list = a.list.set n v ∧ (a.put v n).more = a.more
  | 0, _ => ⟨rfl, rfl⟩
  | 1, _ => ⟨rfl, rfl⟩
  | 2, _ => ⟨rfl, rfl⟩
  | 3, _ => ⟨rfl, rfl⟩
  | 4, _ => ⟨rfl, rfl⟩
  | 5, _ => ⟨rfl, rfl⟩
  | 6, _ => ⟨rfl, rfl⟩
  | 7, _ => ⟨rfl, rfl⟩
  | 8, _ => ⟨rfl, rfl⟩
  | 9, _ => ⟨rfl, rfl⟩
  | 10, _ => ⟨rfl, rfl⟩
  | 11, _ => ⟨rfl, rfl⟩
  | 12, _ => ⟨rfl, rfl⟩
  | 13, _ => ⟨rfl, rfl⟩
  | 14, _ => ⟨rfl, rfl⟩
  | 15, _ => ⟨rfl, rfl⟩
  | 16, _ => ⟨rfl, rfl⟩
  | 17, _ => ⟨rfl, rfl⟩
  | 18, _ => ⟨rfl, rfl⟩
  | 19, _ => ⟨rfl, rfl⟩
  | 20, _ => ⟨rfl, rfl⟩
  | 21, _ => ⟨rfl, rfl⟩
  | 22, _ => ⟨rfl, rfl⟩
  | 23, _ => ⟨rfl, rfl⟩
  | 24, _ => ⟨rfl, rfl⟩
  | 25, _ => ⟨rfl, rfl⟩
  | 26, _ => ⟨rfl, rfl⟩
  | 27, _ => ⟨rfl, rfl⟩
  | 28, _ => ⟨rfl, rfl⟩
  | 29, _ => ⟨rfl, rfl⟩
  | 30, _ => ⟨rfl, rfl⟩
  | 31, _ => ⟨rfl, rfl⟩
  | 32, _ => ⟨rfl, rfl⟩
  | 33, _ => ⟨rfl, rfl⟩
  | 34, _ => ⟨rfl, rfl⟩
  | 35, _ => ⟨rfl, rfl⟩
  | 36, _ => ⟨rfl, rfl⟩
  | 37, _ => ⟨rfl, rfl⟩
  | 38, _ => ⟨rfl, rfl⟩
  | 39, _ => ⟨rfl, rfl⟩
  | 40, _ => ⟨rfl, rfl⟩
  | 41, _ => ⟨rfl, rfl⟩
  | 42, _ => ⟨rfl, rfl⟩
  | 43, _ => ⟨rfl, rfl⟩
  | 44, _ => ⟨rfl, rfl⟩
  | 45, _ => ⟨rfl, rfl⟩
  | 46, _ => ⟨rfl, rfl⟩
  | 47, _ => ⟨rfl, rfl⟩
  | 48, _ => ⟨rfl, rfl⟩
  | 49, _ => ⟨rfl, rfl⟩
  | 50, _ => ⟨rfl, rfl⟩
  | 51, _ => ⟨rfl, rfl⟩
  | 52, _ => ⟨rfl, rfl⟩
  | 53, _ => ⟨rfl, rfl⟩
  | 54, _ => ⟨rfl, rfl⟩
  | 55, _ => ⟨rfl, rfl⟩
  | 56, _ => ⟨rfl, rfl⟩
  | 57, _ => ⟨rfl, rfl⟩
  | 58, _ => ⟨rfl, rfl⟩
  | 59, _ => ⟨rfl, rfl⟩
  | 60, _ => ⟨rfl, rfl⟩
  | 61, _ => ⟨rfl, rfl⟩
  | 62, _ => ⟨rfl, rfl⟩
  | 63, _ => ⟨rfl, rfl⟩
  | _ + 64, h => absurd h (by omega)
theorem F64.at_put (a : F64) (v : MV) (n m : Nat) : (a.put v n).at' m = if m = n then v else a.at' m := by
  have hl : a.list.length = 64 := rfl
  rw [F64.at_eq, F64.at_eq]
  by_cases h : n < 64
  · obtain ⟨h1, h2⟩ := a.put_list v n h
    rw [h1, h2, List.getElem?_set]
    by_cases e : n = m
    · subst e
      rw [if_pos rfl, if_pos (by omega), if_pos rfl]
    · rw [if_neg e, if_neg (Ne.symm e)]
  · obtain ⟨i, rfl⟩ : ∃ i, n = i + 64 := ⟨n - 64, by omega⟩
    have h1 : (a.put v (i + 64)).list = a.list := rfl
    have h2 : (a.put v (i + 64)).more = fun m => if m = i then v else a.more m := rfl
    rw [h1, h2]
    by_cases hm : m < 64
    · rw [List.getElem?_eq_getElem (by omega), if_neg (by omega)]
    · rw [List.getElem?_eq_none (by omega)]
      simp only
      by_cases e : m = i + 64
      · rw [if_pos (by omega), if_pos e]
      · rw [if_neg (by omega), if_neg e]
def F64.to (a : F64) : Fr := ptOf 9 a.at'
theorem F64.to_put (a : F64) (v : MV) (n : Nat) : (a.put v n).to = a.to.set n v := by
  show ptOf 9 _ = (ptOf 9 _).set n v
  rw [ptOf_set]
  congr 1
  funext m
  rw [F64.at_put]
  rfl
def F64.getD (n : Nat) : Clo (F64 → KV → G) := match Nat.ble n 510 with | true => F64.getC n | false => .mk fun _ _ => nG
theorem F64.getD_run (n : Nat) (a : F64) (k : KV) : (F64.getD n).run a k = ob (a.to.get n) k := by
  unfold F64.getD
  cases h : Nat.ble n 510
  · have h1 : ¬ n ≤ 510 := fun h2 => by rw [Nat.ble_eq_true_of_le h2] at h; cases h
    rw [show a.to.get n = none from ptOf_far 9 _ n (by omega)]
    rfl
  · have h1 := Nat.le_of_ble_eq_true h
    rw [show a.to.get n = some (a.at' n) from ptOf_get 9 _ n (by omega)]
    exact F64.getC_run n a k
def F64.nil : F64 := .mk .undef .undef .undef .undef .undef .undef .undef .undef .undef .undef .undef .undef .undef .undef .undef .undef .undef .undef .undef .undef .undef .undef .undef .undef .undef .undef .undef .undef .undef .undef .undef .undef .undef .undef .undef .undef .undef .undef .undef .undef .undef .undef .undef .undef .undef .undef .undef .undef .undef .undef .undef .undef .undef .undef .undef .undef .undef .undef .undef .undef .undef .undef .undef .undef fun _ => .undef
theorem F64.nil_at : ∀ n, F64.nil.at' n = .undef
  | 0 => rfl
  | 1 => rfl
  | 2 => rfl
  | 3 => rfl
  | 4 => rfl
  | 5 => rfl
  | 6 => rfl
  | 7 => rfl
  | 8 => rfl
  | 9 => rfl
  | 10 => rfl
  | 11 => rfl
  | 12 => rfl
  | 13 => rfl
  | 14 => rfl
  | 15 => rfl
  | 16 => rfl
  | 17 => rfl
  | 18 => rfl
  | 19 => rfl
  | 20 => rfl
  | 21 => rfl
  | 22 => rfl
  | 23 => rfl
  | 24 => rfl
  | 25 => rfl
  | 26 => rfl
  | 27 => rfl
  | 28 => rfl
  | 29 => rfl
  | 30 => rfl
  | 31 => rfl
  | 32 => rfl
  | 33 => rfl
  | 34 => rfl
  | 35 => rfl
  | 36 => rfl
  | 37 => rfl
  | 38 => rfl
  | 39 => rfl
  | 40 => rfl
  | 41 => rfl
  | 42 => rfl
  | 43 => rfl
  | 44 => rfl
  | 45 => rfl
  | 46 => rfl
  | 47 => rfl
  | 48 => rfl
  | 49 => rfl
  | 50 => rfl
  | 51 => rfl
  | 52 => rfl
  | 53 => rfl
  | 54 => rfl
  | 55 => rfl
  | 56 => rfl
  | 57 => rfl
  | 58 => rfl
  | 59 => rfl
  | 60 => rfl
  | 61 => rfl
  | 62 => rfl
  | 63 => rfl
  | _ + 64 => rfl
def F64.ops : FrOps F64 where
  get := F64.getD
  set := F64.setC
  init := F64.nil
  to := F64.to
  get_run := F64.getD_run
  set_run n a v k := (F64.setC_run n a v _).trans (congrArg k (a.to_put v n))
  to_init := (congrArg (ptOf 9) (funext F64.nil_at)).trans ptOf_frame0
structure Row where
  c0 : MV
  c1 : MV
  c2 : MV
  c3 : MV
  c4 : MV
  c5 : MV
  c6 : MV
  c7 : MV
  c8 : MV
  c9 : MV
  c10 : MV
  c11 : MV
  c12 : MV
  c13 : MV
  c14 : MV
  c15 : MV
def Row.at' (a : Row) : Nat → MV
  | 0 => a.c0
  | 1 => a.c1
  | 2 => a.c2
  | 3 => a.c3
  | 4 => a.c4
  | 5 => a.c5
  | 6 => a.c6
  | 7 => a.c7
  | 8 => a.c8
  | 9 => a.c9
  | 10 => a.c10
  | 11 => a.c11
  | 12 => a.c12
  | 13 => a.c13
  | 14 => a.c14
  | 15 => a.c15
  | _ => .undef
def Row.put (a : Row) (v : MV) : Nat → Row
  | 0 => .mk v a.c1 a.c2 a.c3 a.c4 a.c5 a.c6 a.c7 a.c8 a.c9 a.c10 a.c11 a.c12 a.c13 a.c14 a.c15
  | 1 => .mk a.c0 v a.c2 a.c3 a.c4 a.c5 a.c6 a.c7 a.c8 a.c9 a.c10 a.c11 a.c12 a.c13 a.c14 a.c15
  | 2 => .mk a.c0 a.c1 v a.c3 a.c4 a.c5 a.c6 a.c7 a.c8 a.c9 a.c10 a.c11 a.c12 a.c13 a.c14 a.c15
  | 3 => .mk a.c0 a.c1 a.c2 v a.c4 a.c5 a.c6 a.c7 a.c8 a.c9 a.c10 a.c11 a.c12 a.c13 a.c14 a.c15
  | 4 => .mk a.c0 a.c1 a.c2 a.c3 v a.c5 a.c6 a.c7 a.c8 a.c9 a.c10 a.c11 a.c12 a.c13 a.c14 a.c15
  | 5 => .mk a.c0 a.c1 a.c2 a.c3 a.c4 v a.c6 a.c7 a.c8 a.c9 a.c10 a.c11 a.c12 a.c13 a.c14 a.c15
  | 6 => .mk a.c0 a.c1 a.c2 a.c3 a.c4 a.c5 v a.c7 a.c8 a.c9 a.c10 a.c11 a.c12 a.c13 a.c14 a.c15
  | 7 => .mk a.c0 a.c1 a.c2 a.c3 a.c4 a.c5 a.c6 v a.c8 a.c9 a.c10 a.c11 a.c12 a.c13 a.c14 a.c15
  | 8 => .mk a.c0 a.c1 a.c2 a.c3 a.c4 a.c5 a.c6 a.c7 v a.c9 a.c10 a.c11 a.c12 a.c13 a.c14 a.c15
  | 9 => .mk a.c0 a.c1 a.c2 a.c3 a.c4 a.c5 a.c6 a.c7 a.c8 v a.c10 a.c11 a.c12 a.c13 a.c14 a.c15
  | 10 => .mk a.c0 a.c1 a.c2 a.c3 a.c4 a.c5 a.c6 a.c7 a.c8 a.c9 v a.c11 a.c12 a.c13 a.c14 a.c15
  | 11 => .mk a.c0 a.c1 a.c2 a.c3 a.c4 a.c5 a.c6 a.c7 a.c8 a.c9 a.c10 v a.c12 a.c13 a.c14 a.c15
  | 12 => .mk a.c0 a.c1 a.c2 a.c3 a.c4 a.c5 a.c6 a.c7 a.c8 a.c9 a.c10 a.c11 v a.c13 a.c14 a.c15
  | 13 => .mk a.c0 a.c1 a.c2 a.c3 a.c4 a.c5 a.c6 a.c7 a.c8 a.c9 a.c10 a.c11 a.c12 v a.c14 a.c15
  | 14 => .mk a.c0 a.c1 a.c2 a.c3 a.c4 a.c5 a.c6 a.c7 a.c8 a.c9 a.c10 a.c11 a.c12 a.c13 v a.c15
  | 15 => .mk a.c0 a.c1 a.c2 a.c3 a.c4 a.c5 a.c6 a.c7 a.c8 a.c9 a.c10 a.c11 a.c12 a.c13 a.c14 v
  | _ => a
def Row.list (a : Row) : List MV := [a.c0, a.c1, a.c2, a.c3, a.c4, a.c5, a.c6, a.c7, a.c8, a.c9, a.c10, a.c11, a.c12, a.c13, a.c14, a.c15]
def Row.getC : Nat → Clo (Row → KV → G)
  | 0 => .mk (@Row.rec (fun _ => KV → G) (fun c0 _ _ _ _ _ _ _ _ _ _ _ _ _ _ _ k => k c0))
  | 1 => .mk (@Row.rec (fun _ => KV → G) (fun _ c1 _ _ _ _ _ _ _ _ _ _ _ _ _ _ k => k c1))
  | 2 => .mk (@Row.rec (fun _ => KV → G) (fun _ _ c2 _ _ _ _ _ _ _ _ _ _ _ _ _ k => k c2))
  | 3 => .mk (@Row.rec (fun _ => KV → G) (fun _ _ _ c3 _ _ _ _ _ _ _ _ _ _ _ _ k => k c3))
  | 4 => .mk (@Row.rec (fun _ => KV → G) (fun _ _ _ _ c4 _ _ _ _ _ _ _ _ _ _ _ k => k c4))
  | 5 => .mk (@Row.rec (fun _ => KV → G) (fun _ _ _ _ _ c5 _ _ _ _ _ _ _ _ _ _ k => k c5))
  | 6 => .mk (@Row.rec (fun _ => KV → G) (fun _ _ _ _ _ _ c6 _ _ _ _ _ _ _ _ _ k => k c6))
  | 7 => .mk (@Row.rec (fun _ => KV → G) (fun _ _ _ _ _ _ _ c7 _ _ _ _ _ _ _ _ k => k c7))
  | 8 => .mk (@Row.rec (fun _ => KV → G) (fun _ _ _ _ _ _ _ _ c8 _ _ _ _ _ _ _ k => k c8))
  | 9 => .mk (@Row.rec (fun _ => KV → G) (fun _ _ _ _ _ _ _ _ _ c9 _ _ _ _ _ _ k => k c9))
  | 10 => .mk (@Row.rec (fun _ => KV → G) (fun _ _ _ _ _ _ _ _ _ _ c10 _ _ _ _ _ k => k c10))
  | 11 => .mk (@Row.rec (fun _ => KV → G) (fun _ _ _ _ _ _ _ _ _ _ _ c11 _ _ _ _ k => k c11))
  | 12 => .mk (@Row.rec (fun _ => KV → G) (fun _ _ _ _ _ _ _ _ _ _ _ _ c12 _ _ _ k => k c12))
  | 13 => .mk (@Row.rec (fun _ => KV → G) (fun _ _ _ _ _ _ _ _ _ _ _ _ _ c13 _ _ k => k c13))
  | 14 => .mk (@Row.rec (fun _ => KV → G) (fun _ _ _ _ _ _ _ _ _ _ _ _ _ _ c14 _ k => k c14))
  | 15 => .mk (@Row.rec (fun _ => KV → G) (fun _ _ _ _ _ _ _ _ _ _ _ _ _ _ _ c15 k => k c15))
  | _ => .mk fun _ k => k .undef
def Row.setC : Nat → Clo (Row → MV → (Row → G) → G)
  | 0 => .mk (@Row.rec (fun _ => MV → (Row → G) → G) (fun _ c1 c2 c3 c4 c5 c6 c7 c8 c9 c10 c11 c12 c13 c14 c15 x k => k (.mk x c1 c2 c3 c4 c5 c6 c7 c8 c9 c10 c11 c12 c13 c14 c15)))
  | 1 => .mk (@Row.rec (fun _ => MV → (Row → G) → G) (fun c0 _ c2 c3 c4 c5 c6 c7 c8 c9 c10 c11 c12 c13 c14 c15 x k => k (.mk c0 x c2 c3 c4 c5 c6 c7 c8 c9 c10 c11 c12 c13 c14 c15)))
  | 2 => .mk (@Row.rec (fun _ => MV → (Row → G) → G) (fun c0 c1 _ c3 c4 c5 c6 c7 c8 c9 c10 c11 c12 c13 c14 c15 x k => k (.mk c0 c1 x c3 c4 c5 c6 c7 c8 c9 c10 c11 c12 c13 c14 c15)))
  | 3 => .mk (@Row.rec (fun _ => MV → (Row → G) → G) (fun c0 c1 c2 _ c4 c5 c6 c7 c8 c9 c10 c11 c12 c13 c14 c15 x k => k (.mk c0 c1 c2 x c4 c5 c6 c7 c8 c9 c10 c11 c12 c13 c14 c15)))
  | 4 => .mk (@Row.rec (fun _ => MV → (Row → G) → G) (fun c0 c1 c2 c3 _ c5 c6 c7 c8 c9 c10 c11 c12 c13 c14 c15 x k => k (.mk c0 c1 c2 c3 x c5 c6 c7 c8 c9 c10 c11 c12 c13 c14 c15)))
  | 5 => .mk (@Row.rec (fun _ => MV → (Row → G) → G) (fun c0 c1 c2 c3 c4 _ c6 c7 c8 c9 c10 c11 c12 c13 c14 c15 x k => k (.mk c0 c1 c2 c3 c4 x c6 c7 c8 c9 c10 c11 c12 c13 c14 c15)))
  | 6 => .mk (@Row.rec (fun _ => MV → (Row → G) → G) (fun c0 c1 c2 c3 c4 c5 _ c7 c8 c9 c10 c11 c12 c13 c14 c15 x k => k (.mk c0 c1 c2 c3 c4 c5 x c7 c8 c9 c10 c11 c12 c13 c14 c15)))
  | 7 => .mk (@Row.rec (fun _ => MV → (Row → G) → G) (fun c0 c1 c2 c3 c4 c5 c6 _ c8 c9 c10 c11 c12 c13 c14 c15 x k => k (.mk c0 c1 c2 c3 c4 c5 c6 x c8 c9 c10 c11 c12 c13 c14 c15)))
  | 8 => .mk (@Row.rec (fun _ => MV → (Row → G) → G) (fun c0 c1 c2 c3 c4 c5 c6 c7 _ c9 c10 c11 c12 c13 c14 c15 x k => k (.mk c0 c1 c2 c3 c4 c5 c6 c7 x c9 c10 c11 c12 c13 c14 c15)))
  | 9 => .mk (@Row.rec (fun _ => MV → (Row → G) → G) (fun c0 c1 c2 c3 c4 c5 c6 c7 c8 _ c10 c11 c12 c13 c14 c15 x k => k (.mk c0 c1 c2 c3 c4 c5 c6 c7 c8 x c10 c11 c12 c13 c14 c15)))
  | 10 => .mk (@Row.rec (fun _ => MV → (Row → G) → G) (fun c0 c1 c2 c3 c4 c5 c6 c7 c8 c9 _ c11 c12 c13 c14 c15 x k => k (.mk c0 c1 c2 c3 c4 c5 c6 c7 c8 c9 x c11 c12 c13 c14 c15)))
  | 11 => .mk (@Row.rec (fun _ => MV → (Row → G) → G) (fun c0 c1 c2 c3 c4 c5 c6 c7 c8 c9 c10 _ c12 c13 c14 c15 x k => k (.mk c0 c1 c2 c3 c4 c5 c6 c7 c8 c9 c10 x c12 c13 c14 c15)))
  | 12 => .mk (@Row.rec (fun _ => MV → (Row → G) → G) (fun c0 c1 c2 c3 c4 c5 c6 c7 c8 c9 c10 c11 _ c13 c14 c15 x k => k (.mk c0 c1 c2 c3 c4 c5 c6 c7 c8 c9 c10 c11 x c13 c14 c15)))
  | 13 => .mk (@Row.rec (fun _ => MV → (Row → G) → G) (fun c0 c1 c2 c3 c4 c5 c6 c7 c8 c9 c10 c11 c12 _ c14 c15 x k => k (.mk c0 c1 c2 c3 c4 c5 c6 c7 c8 c9 c10 c11 c12 x c14 c15)))
  | 14 => .mk (@Row.rec (fun _ => MV → (Row → G) → G) (fun c0 c1 c2 c3 c4 c5 c6 c7 c8 c9 c10 c11 c12 c13 _ c15 x k => k (.mk c0 c1 c2 c3 c4 c5 c6 c7 c8 c9 c10 c11 c12 c13 x c15)))
  | 15 => .mk (@Row.rec (fun _ => MV → (Row → G) → G) (fun c0 c1 c2 c3 c4 c5 c6 c7 c8 c9 c10 c11 c12 c13 c14 _ x k => k (.mk c0 c1 c2 c3 c4 c5 c6 c7 c8 c9 c10 c11 c12 c13 c14 x)))
  | _ => .mk fun a _ k => k a
theorem Row.getC_run : ∀ (n : Nat) (a : Row) (k : KV), (Row.getC n).run a k = k (a.at' n)
  | 0, _, _ => rfl
  | 1, _, _ => rfl
  | 2, _, _ => rfl
  | 3, _, _ => rfl
  | 4, _, _ => rfl
  | 5, _, _ => rfl
  | 6, _, _ => rfl
  | 7, _, _ => rfl
  | 8, _, _ => rfl
  | 9, _, _ => rfl
  | 10, _, _ => rfl
  | 11, _, _ => rfl
  | 12, _, _ => rfl
  | 13, _, _ => rfl
  | 14, _, _ => rfl
  | 15, _, _ => rfl
  | _ + 16, _, _ => rfl
theorem Row.setC_run : ∀ (n : Nat) (a : Row) (v : MV) (k : Row → G), (Row.setC n).run a v k = k (a.put v n)
  | 0, _, _, _ => rfl
  | 1, _, _, _ => rfl
  | 2, _, _, _ => rfl
  | 3, _, _, _ => rfl
  | 4, _, _, _ => rfl
  | 5, _, _, _ => rfl
  | 6, _, _, _ => rfl
  | 7, _, _, _ => rfl
  | 8, _, _, _ => rfl
  | 9, _, _, _ => rfl
  | 10, _, _, _ => rfl
  | 11, _, _, _ => rfl
  | 12, _, _, _ => rfl
  | 13, _, _, _ => rfl
  | 14, _, _, _ => rfl
  | 15, _, _, _ => rfl
  | _ + 16, _, _, _ => rfl
theorem Row.at_eq (a : Row) : ∀ n, a.at' n = match a.list[n]? with | some v => v | none => .undef
  | 0 => rfl
  | 1 => rfl
  | 2 => rfl
  | 3 => rfl
  | 4 => rfl
  | 5 => rfl
  | 6 => rfl
  | 7 => rfl
  | 8 => rfl
  | 9 => rfl
  | 10 => rfl
  | 11 => rfl
  | 12 => rfl
  | 13 => rfl
  | 14 => rfl
  | 15 => rfl
  | n + 16 => by
    rw [show a.list[n + 16]? = none from List.getElem?_eq_none (by show 16 ≤ n + 16; omega)]
    rfl
theorem Row.put_list (a : Row) (v : MV) : ∀ n, (a.put v n).list = a.list.set n v
  | 0 => rfl
  | 1 => rfl
  | 2 => rfl
  | 3 => rfl
  | 4 => rfl
  | 5 => rfl
  | 6 => rfl
  | 7 => rfl
  | 8 => rfl
  | 9 => rfl
  | 10 => rfl
  | 11 => rfl
  | 12 => rfl
  | 13 => rfl
  | 14 => rfl
  | 15 => rfl
  | n + 16 => (List.set_eq_of_length_le (by show 16 ≤ n + 16; omega)).symm
theorem Row.at_put (a : Row) (v : MV) (n m : Nat) (hn : n < 16) : (a.put v n).at' m = if m = n then v else a.at' m := by
  have hl : a.list.length = 16 := rfl
  rw [Row.at_eq, Row.at_eq, Row.put_list, List.getElem?_set]
  by_cases e : n = m
  · subst e
    rw [if_pos rfl, if_pos (by omega), if_pos rfl]
  · rw [if_neg e, if_neg (Ne.symm e)]
structure W256 where
  r0 : Row
  r1 : Row
  r2 : Row
  r3 : Row
  r4 : Row
  r5 : Row
  r6 : Row
  r7 : Row
  r8 : Row
  r9 : Row
  r10 : Row
  r11 : Row
  r12 : Row
  r13 : Row
  r14 : Row
  r15 : Row
  more : Nat → MV
def W256.row (a : W256) : Nat → Row
  | 0 => a.r0
  | 1 => a.r1
  | 2 => a.r2
  | 3 => a.r3
  | 4 => a.r4
  | 5 => a.r5
  | 6 => a.r6
  | 7 => a.r7
  | 8 => a.r8
  | 9 => a.r9
  | 10 => a.r10
  | 11 => a.r11
  | 12 => a.r12
  | 13 => a.r13
  | 14 => a.r14
  | _ => a.r15
def W256.putRow (a : W256) (v : Row) : Nat → W256
  | 0 => .mk v a.r1 a.r2 a.r3 a.r4 a.r5 a.r6 a.r7 a.r8 a.r9 a.r10 a.r11 a.r12 a.r13 a.r14 a.r15 a.more
  | 1 => .mk a.r0 v a.r2 a.r3 a.r4 a.r5 a.r6 a.r7 a.r8 a.r9 a.r10 a.r11 a.r12 a.r13 a.r14 a.r15 a.more
  | 2 => .mk a.r0 a.r1 v a.r3 a.r4 a.r5 a.r6 a.r7 a.r8 a.r9 a.r10 a.r11 a.r12 a.r13 a.r14 a.r15 a.more
  | 3 => .mk a.r0 a.r1 a.r2 v a.r4 a.r5 a.r6 a.r7 a.r8 a.r9 a.r10 a.r11 a.r12 a.r13 a.r14 a.r15 a.more
  | 4 => .mk a.r0 a.r1 a.r2 a.r3 v a.r5 a.r6 a.r7 a.r8 a.r9 a.r10 a.r11 a.r12 a.r13 a.r14 a.r15 a.more
  | 5 => .mk a.r0 a.r1 a.r2 a.r3 a.r4 v a.r6 a.r7 a.r8 a.r9 a.r10 a.r11 a.r12 a.r13 a.r14 a.r15 a.more
  | 6 => .mk a.r0 a.r1 a.r2 a.r3 a.r4 a.r5 v a.r7 a.r8 a.r9 a.r10 a.r11 a.r12 a.r13 a.r14 a.r15 a.more
  | 7 => .mk a.r0 a.r1 a.r2 a.r3 a.r4 a.r5 a.r6 v a.r8 a.r9 a.r10 a.r11 a.r12 a.r13 a.r14 a.r15 a.more
  | 8 => .mk a.r0 a.r1 a.r2 a.r3 a.r4 a.r5 a.r6 a.r7 v a.r9 a.r10 a.r11 a.r12 a.r13 a.r14 a.r15 a.more
  | 9 => .mk a.r0 a.r1 a.r2 a.r3 a.r4 a.r5 a.r6 a.r7 a.r8 v a.r10 a.r11 a.r12 a.r13 a.r14 a.r15 a.more
  | 10 => .mk a.r0 a.r1 a.r2 a.r3 a.r4 a.r5 a.r6 a.r7 a.r8 a.r9 v a.r11 a.r12 a.r13 a.r14 a.r15 a.more
  | 11 => .mk a.r0 a.r1 a.r2 a.r3 a.r4 a.r5 a.r6 a.r7 a.r8 a.r9 a.r10 v a.r12 a.r13 a.r14 a.r15 a.more
  | 12 => .mk a.r0 a.r1 a.r2 a.r3 a.r4 a.r5 a.r6 a.r7 a.r8 a.r9 a.r10 a.r11 v a.r13 a.r14 a.r15 a.more
  | 13 => .mk a.r0 a.r1 a.r2 a.r3 a.r4 a.r5 a.r6 a.r7 a.r8 a.r9 a.r10 a.r11 a.r12 v a.r14 a.r15 a.more
  | 14 => .mk a.r0 a.r1 a.r2 a.r3 a.r4 a.r5 a.r6 a.r7 a.r8 a.r9 a.r10 a.r11 a.r12 a.r13 v a.r15 a.more
  | 15 => .mk a.r0 a.r1 a.r2 a.r3 a.r4 a.r5 a.r6 a.r7 a.r8 a.r9 a.r10 a.r11 a.r12 a.r13 a.r14 v a.more
  | _ => a
def W256.rows (a : W256) : List Row := [a.r0, a.r1, a.r2, a.r3, a.r4, a.r5, a.r6, a.r7, a.r8, a.r9, a.r10, a.r11, a.r12, a.r13, a.r14, a.r15]
def W256.getR (g : Row → KV → G) : Nat → Clo (W256 → KV → G)
  | 0 => .mk (@W256.rec (fun _ => KV → G) (fun r0 _ _ _ _ _ _ _ _ _ _ _ _ _ _ _ _ k => g r0 k))
  | 1 => .mk (@W256.rec (fun _ => KV → G) (fun _ r1 _ _ _ _ _ _ _ _ _ _ _ _ _ _ _ k => g r1 k))
  | 2 => .mk (@W256.rec (fun _ => KV → G) (fun _ _ r2 _ _ _ _ _ _ _ _ _ _ _ _ _ _ k => g r2 k))
  | 3 => .mk (@W256.rec (fun _ => KV → G) (fun _ _ _ r3 _ _ _ _ _ _ _ _ _ _ _ _ _ k => g r3 k))
  | 4 => .mk (@W256.rec (fun _ => KV → G) (fun _ _ _ _ r4 _ _ _ _ _ _ _ _ _ _ _ _ k => g r4 k))
  | 5 => .mk (@W256.rec (fun _ => KV → G) (fun _ _ _ _ _ r5 _ _ _ _ _ _ _ _ _ _ _ k => g r5 k))
  | 6 => .mk (@W256.rec (fun _ => KV → G) (fun _ _ _ _ _ _ r6 _ _ _ _ _ _ _ _ _ _ k => g r6 k))
  | 7 => .mk (@W256.rec (fun _ => KV → G) (fun _ _ _ _ _ _ _ r7 _ _ _ _ _ _ _ _ _ k => g r7 k))
  | 8 => .mk (@W256.rec (fun _ => KV → G) (fun _ _ _ _ _ _ _ _ r8 _ _ _ _ _ _ _ _ k => g r8 k))
  | 9 => .mk (@W256.rec (fun _ => KV → G) (fun _ _ _ _ _ _ _ _ _ r9 _ _ _ _ _ _ _ k => g r9 k))
  | 10 => .mk (@W256.rec (fun _ => KV → G) (fun _ _ _ _ _ _ _ _ _ _ r10 _ _ _ _ _ _ k => g r10 k))
  | 11 => .mk (@W256.rec (fun _ => KV → G) (fun _ _ _ _ _ _ _ _ _ _ _ r11 _ _ _ _ _ k => g r11 k))
  | 12 => .mk (@W256.rec (fun _ => KV → G) (fun _ _ _ _ _ _ _ _ _ _ _ _ r12 _ _ _ _ k => g r12 k))
  | 13 => .mk (@W256.rec (fun _ => KV → G) (fun _ _ _ _ _ _ _ _ _ _ _ _ _ r13 _ _ _ k => g r13 k))
  | 14 => .mk (@W256.rec (fun _ => KV → G) (fun _ _ _ _ _ _ _ _ _ _ _ _ _ _ r14 _ _ k => g r14 k))
  | 15 => .mk (@W256.rec (fun _ => KV → G) (fun _ _ _ _ _ _ _ _ _ _ _ _ _ _ _ r15 _ k => g r15 k))
  | _ => .mk fun _ _ => nG
def W256.setR (g : Row → MV → (Row → G) → G) : Nat → Clo (W256 → MV → (W256 → G) → G)
  | 0 => .mk (@W256.rec (fun _ => MV → (W256 → G) → G) (fun r0 r1 r2 r3 r4 r5 r6 r7 r8 r9 r10 r11 r12 r13 r14 r15 m x k => g r0 x fun r => k (.mk r r1 r2 r3 r4 r5 r6 r7 r8 r9 r10 r11 r12 r13 r14 r15 m)))
  | 1 => .mk (@W256.rec (fun _ => MV → (W256 → G) → G) (fun r0 r1 r2 r3 r4 r5 r6 r7 r8 r9 r10 r11 r12 r13 r14 r15 m x k => g r1 x fun r => k (.mk r0 r r2 r3 r4 r5 r6 r7 r8 r9 r10 r11 r12 r13 r14 r15 m)))
  | 2 => .mk (@W256.rec (fun _ => MV → (W256 → G) → G) (fun r0 r1 r2 r3 r4 r5 r6 r7 r8 r9 r10 r11 r12 r13 r14 r15 m x k => g r2 x fun r => k (.mk r0 r1 r r3 r4 r5 r6 r7 r8 r9 r10 r11 r12 r13 r14 r15 m)))
  | 3 => .mk (@W256.rec (fun _ => MV → (W256 → G) → G) (fun r0 r1 r2 r3 r4 r5 r6 r7 r8 r9 r10 r11 r12 r13 r14 r15 m x k => g r3 x fun r => k (.mk r0 r1 r2 r r4 r5 r6 r7 r8 r9 r10 r11 r12 r13 r14 r15 m)))
  | 4 => .mk (@W256.rec (fun _ => MV → (W256 → G) → G) (fun r0 r1 r2 r3 r4 r5 r6 r7 r8 r9 r10 r11 r12 r13 r14 r15 m x k => g r4 x fun r => k (.mk r0 r1 r2 r3 r r5 r6 r7 r8 r9 r10 r11 r12 r13 r14 r15 m)))
  | 5 => .mk (@W256.rec (fun _ => MV → (W256 → G) → G) (fun r0 r1 r2 r3 r4 r5 r6 r7 r8 r9 r10 r11 r12 r13 r14 r15 m x k => g r5 x fun r => k (.mk r0 r1 r2 r3 r4 r r6 r7 r8 r9 r10 r11 r12 r13 r14 r15 m)))
  | 6 => .mk (@W256.rec (fun _ => MV → (W256 → G) → G) (fun r0 r1 r2 r3 r4 r5 r6 r7 r8 r9 r10 r11 r12 r13 r14 r15 m x k => g r6 x fun r => k (.mk r0 r1 r2 r3 r4 r5 r r7 r8 r9 r10 r11 r12 r13 r14 r15 m)))
  | 7 => .mk (@W256.rec (fun _ => MV → (W256 → G) → G) (fun r0 r1 r2 r3 r4 r5 r6 r7 r8 r9 r10 r11 r12 r13 r14 r15 m x k => g r7 x fun r => k (.mk r0 r1 r2 r3 r4 r5 r6 r r8 r9 r10 r11 r12 r13 r14 r15 m)))
  | 8 => .mk (@W256.rec (fun _ => MV → (W256 → G) → G) (fun r0 r1 r2 r3 r4 r5 r6 r7 r8 r9 r10 r11 r12 r13 r14 r15 m x k => g r8 x fun r => k (.mk r0 r1 r2 r3 r4 r5 r6 r7 r r9 r10 r11 r12 r13 r14 r15 m)))
  | 9 => .mk (@W256.rec (fun _ => MV → (W256 → G) → G) (fun r0 r1 r2 r3 r4 r5 r6 r7 r8 r9 r10 r11 r12 r13 r14 r15 m x k => g r9 x fun r => k (.mk r0 r1 r2 r3 r4 r5 r6 r7 r8 r r10 r11 r12 r13 r14 r15 m)))
  | 10 => .mk (@W256.rec (fun _ => MV → (W256 → G) → G) (fun r0 r1 r2 r3 r4 r5 r6 r7 r8 r9 r10 r11 r12 r13 r14 r15 m x k => g r10 x fun r => k (.mk r0 r1 r2 r3 r4 r5 r6 r7 r8 r9 r r11 r12 r13 r14 r15 m)))
  | 11 => .mk (@W256.rec (fun _ => MV → (W256 → G) → G) (fun r0 r1 r2 r3 r4 r5 r6 r7 r8 r9 r10 r11 r12 r13 r14 r15 m x k => g r11 x fun r => k (.mk r0 r1 r2 r3 r4 r5 r6 r7 r8 r9 r10 r r12 r13 r14 r15 m)))
  | 12 => .mk (@W256.rec (fun _ => MV → (W256 → G) → G) (fun r0 r1 r2 r3 r4 r5 r6 r7 r8 r9 r10 r11 r12 r13 r14 r15 m x k => g r12 x fun r => k (.mk r0 r1 r2 r3 r4 r5 r6 r7 r8 r9 r10 r11 r r13 r14 r15 m)))
  | 13 => .mk (@W256.rec (fun _ => MV → (W256 → G) → G) (fun r0 r1 r2 r3 r4 r5 r6 r7 r8 r9 r10 r11 r12 r13 r14 r15 m x k => g r13 x fun r => k (.mk r0 r1 r2 r3 r4 r5 r6 r7 r8 r9 r10 r11 r12 r r14 r15 m)))
  | 14 => .mk (@W256.rec (fun _ => MV → (W256 → G) → G) (fun r0 r1 r2 r3 r4 r5 r6 r7 r8 r9 r10 r11 r12 r13 r14 r15 m x k => g r14 x fun r => k (.mk r0 r1 r2 r3 r4 r5 r6 r7 r8 r9 r10 r11 r12 r13 r r15 m)))
  | 15 => .mk (@W256.rec (fun _ => MV → (W256 → G) → G) (fun r0 r1 r2 r3 r4 r5 r6 r7 r8 r9 r10 r11 r12 r13 r14 r15 m x k => g r15 x fun r => k (.mk r0 r1 r2 r3 r4 r5 r6 r7 r8 r9 r10 r11 r12 r13 r14 r m)))
  | _ => .mk fun _ _ _ => nG
theorem W256.getR_run (g : Row → KV → G) : ∀ (n : Nat) (a : W256) (k : KV), n < 16 → (W256.getR g n).run a k = g (a.row n) k
  | 0, _, _, _ => rfl
  | 1, _, _, _ => rfl
  | 2, _, _, _ => rfl
  | 3, _, _, _ => rfl
  | 4, _, _, _ => rfl
  | 5, _, _, _ => rfl
  | 6, _, _, _ => rfl
  | 7, _, _, _ => rfl
  | 8, _, _, _ => rfl
  | 9, _, _, _ => rfl
  | 10, _, _, _ => rfl
  | 11, _, _, _ => rfl
  | 12, _, _, _ => rfl
  | 13, _, _, _ => rfl
  | 14, _, _, _ => rfl
  | 15, _, _, _ => rfl
  | _ + 16, _, _, h => absurd h (by omega)
theorem W256.setR_run (g : Row → MV → (Row → G) → G) (p : Row → MV → Row) (hg : ∀ r v k, g r v k = k (p r v)) : ∀ (n : Nat) (a : W256) (v : MV) (k : W256 → G), n < 16 → (W256.setR g n).run a v k = k (a.putRow (p (a.row n) v) n)
  | 0, _, _, _, _ => hg _ _ _
  | 1, _, _, _, _ => hg _ _ _
  | 2, _, _, _, _ => hg _ _ _
  | 3, _, _, _, _ => hg _ _ _
  | 4, _, _, _, _ => hg _ _ _
  | 5, _, _, _, _ => hg _ _ _
  | 6, _, _, _, _ => hg _ _ _
  | 7, _, _, _, _ => hg _ _ _
  | 8, _, _, _, _ => hg _ _ _
  | 9, _, _, _, _ => hg _ _ _
  | 10, _, _, _, _ => hg _ _ _
  | 11, _, _, _, _ => hg _ _ _
  | 12, _, _, _, _ => hg _ _ _
  | 13, _, _, _, _ => hg _ _ _
  | 14, _, _, _, _ => hg _ _ _
  | 15, _, _, _, _ => hg _ _ _
  | _ + 16, _, _, _, h => absurd h (by omega)
theorem W256.row_eq (a : W256) : ∀ n, n < 16 → a.rows[n]? = some (a.row n)
  | 0, _ => rfl
  | 1, _ => rfl
  | 2, _ => rfl
  | 3, _ => rfl
  | 4, _ => rfl
  | 5, _ => rfl
  | 6, _ => rfl
  | 7, _ => rfl
  | 8, _ => rfl
  | 9, _ => rfl
  | 10, _ => rfl
  | 11, _ => rfl
  | 12, _ => rfl
  | 13, _ => rfl
  | 14, _ => rfl
  | 15, _ => rfl
  | _ + 16, h => absurd h (by omega)
theorem W256.putRow_eq (a : W256) (v : Row) : ∀ n, n < 16 → (a.putRow v n).rows = a.rows.set n v ∧ (a.putRow v n).more = a.more
  | 0, _ => ⟨rfl, rfl⟩
  | 1, _ => ⟨rfl, rfl⟩
  | 2, _ => ⟨rfl, rfl⟩
  | 3, _ => ⟨rfl, rfl⟩
  | 4, _ => ⟨rfl, rfl⟩
  | 5, _ => ⟨rfl, rfl⟩
  | 6, _ => ⟨rfl, rfl⟩
  | 7, _ => ⟨rfl, rfl⟩
  | 8, _ => ⟨rfl, rfl⟩
  | 9, _ => ⟨rfl, rfl⟩
  | 10, _ => ⟨rfl, rfl⟩
  | 11, _ => ⟨rfl, rfl⟩
  | 12, _ => ⟨rfl, rfl⟩
  | 13, _ => ⟨rfl, rfl⟩
  | 14, _ => ⟨rfl, rfl⟩
  | 15, _ => ⟨rfl, rfl⟩
  | _ + 16, h => absurd h (by omega)
theorem W256.row_put (a : W256) (v : Row) (n m : Nat) (hn : n < 16) (hm : m < 16) : (a.putRow v n).row m = if m = n then v else a.row m := by
  have h1 := (a.putRow v n).row_eq m hm
  rw [(a.putRow_eq v n hn).1, List.getElem?_set] at h1
  have hl : a.rows.length = 16 := rfl
  by_cases e : n = m
  · subst e
    rw [if_pos rfl, if_pos (by omega)] at h1
    rw [if_pos rfl]
    exact (Option.some.inj h1).symm
  · rw [if_neg e, a.row_eq m hm] at h1
    rw [if_neg (Ne.symm e)]
    exact (Option.some.inj h1).symm
def W256.at' (a : W256) (t : Nat) : MV := if t < 256 then (a.row (t / 16)).at' (t % 16) else a.more t
def W256.put (a : W256) (v : MV) (t : Nat) : W256 := if t < 256 then a.putRow ((a.row (t / 16)).put v (t % 16)) (t / 16) else { a with more := fun m => if m = t then v else a.more m }
theorem W256.at_put (a : W256) (v : MV) (n m : Nat) : (a.put v n).at' m = if m = n then v else a.at' m := by
  unfold W256.put W256.at'
  by_cases hn : n < 256
  · rw [if_pos hn]
    by_cases hm : m < 256
    · rw [if_pos hm, if_pos hm, W256.row_put a _ _ _ (by omega) (by omega)]
      by_cases e : m / 16 = n / 16
      · rw [if_pos e, Row.at_put _ _ _ _ (by omega)]
        by_cases e2 : m = n
        · rw [if_pos e2, if_pos (by omega)]
        · rw [if_neg e2, if_neg (by omega), e]
      · rw [if_neg e, if_neg (by omega)]
    · rw [if_neg hm, if_neg hm, if_neg (by omega), (a.putRow_eq _ _ (by omega)).2]
  · rw [if_neg hn]
    by_cases hm : m < 256
    · rw [if_pos hm, if_pos hm, if_neg (by omega)]
      rfl
    · rw [if_neg hm, if_neg hm]
def W256.to (a : W256) : Fr := ptOf 9 a.at'
theorem W256.to_put (a : W256) (v : MV) (n : Nat) : (a.put v n).to = a.to.set n v := by
  show ptOf 9 _ = (ptOf 9 _).set n v
  rw [ptOf_set]
  congr 1
  funext m
  rw [W256.at_put]
  rfl
def W256.getC (n : Nat) : Clo (W256 → KV → G) := match Nat.ble n 255 with
  | true => (Row.getC (Nat.mod n 16)).on fun g => W256.getR g (Nat.div n 16)
  | false => match Nat.ble n 510 with | true => .mk fun a k => k (a.more n) | false => .mk fun _ _ => nG
def W256.setC (n : Nat) : Clo (W256 → MV → (W256 → G) → G) := match Nat.ble n 255 with
  | true => (Row.setC (Nat.mod n 16)).on fun g => W256.setR g (Nat.div n 16)
  | false => .mk fun a v k => k (a.put v n)
theorem W256.getC_run (n : Nat) (a : W256) (k : KV) : (W256.getC n).run a k = ob (a.to.get n) k := by
  unfold W256.getC
  cases h : Nat.ble n 255
  · have h1 : ¬ n ≤ 255 := fun h2 => by rw [Nat.ble_eq_true_of_le h2] at h; cases h
    cases h' : Nat.ble n 510
    · have h3 : ¬ n ≤ 510 := fun h2 => by rw [Nat.ble_eq_true_of_le h2] at h'; cases h'
      rw [show a.to.get n = none from ptOf_far 9 _ n (by omega)]
      rfl
    · have h3 := Nat.le_of_ble_eq_true h'
      rw [show a.to.get n = some (a.at' n) from ptOf_get 9 _ n (by omega)]
      rw [show a.at' n = a.more n from if_neg (by omega)]
      rfl
  · have h1 := Nat.le_of_ble_eq_true h
    rw [show a.to.get n = some (a.at' n) from ptOf_get 9 _ n (by omega)]
    rw [show a.at' n = (a.row (n / 16)).at' (n % 16) from if_pos (by omega)]
    show ((Row.getC (n % 16)).on fun g => W256.getR g (n / 16)).run a k = _
    rw [Clo.on_run, W256.getR_run _ _ _ _ (by omega), Row.getC_run]
    rfl
theorem W256.setC_run (n : Nat) (a : W256) (v : MV) (k : W256 → G) : (W256.setC n).run a v k = k (a.put v n) := by
  unfold W256.setC
  cases h : Nat.ble n 255
  · rfl
  · have h1 := Nat.le_of_ble_eq_true h
    show ((Row.setC (n % 16)).on fun g => W256.setR g (n / 16)).run a v k = _
    rw [Clo.on_run, W256.setR_run _ (fun r v => r.put v (n % 16)) (fun r v k => Row.setC_run _ r v k) _ _ _ _ (by omega)]
    rw [show a.put v n = a.putRow ((a.row (n / 16)).put v (n % 16)) (n / 16) from if_pos (by omega)]
def rowNil : Row := .mk .undef .undef .undef .undef .undef .undef .undef .undef .undef .undef .undef .undef .undef .undef .undef .undef
def W256.nil : W256 := .mk rowNil rowNil rowNil rowNil rowNil rowNil rowNil rowNil rowNil rowNil rowNil rowNil rowNil rowNil rowNil rowNil fun _ => .undef
theorem rowNil_at : ∀ n, rowNil.at' n = .undef
  | 0 => rfl
  | 1 => rfl
  | 2 => rfl
  | 3 => rfl
  | 4 => rfl
  | 5 => rfl
  | 6 => rfl
  | 7 => rfl
  | 8 => rfl
  | 9 => rfl
  | 10 => rfl
  | 11 => rfl
  | 12 => rfl
  | 13 => rfl
  | 14 => rfl
  | 15 => rfl
  | _ + 16 => rfl
theorem W256.nil_row : ∀ n, W256.nil.row n = rowNil
  | 0 => rfl
  | 1 => rfl
  | 2 => rfl
  | 3 => rfl
  | 4 => rfl
  | 5 => rfl
  | 6 => rfl
  | 7 => rfl
  | 8 => rfl
  | 9 => rfl
  | 10 => rfl
  | 11 => rfl
  | 12 => rfl
  | 13 => rfl
  | 14 => rfl
  | _ + 15 => rfl
theorem W256.nil_at (n : Nat) : W256.nil.at' n = .undef := by
  unfold W256.at'
  by_cases h : n < 256
  · rw [if_pos h, W256.nil_row, rowNil_at]
  · rw [if_neg h]; rfl
def W256.ops : FrOps W256 where
  get := W256.getC
  set := W256.setC
  init := W256.nil
  to := W256.to
  get_run := W256.getC_run
  set_run n a v k := (W256.setC_run n a v _).trans (congrArg k (a.to_put v n))
  to_init := (congrArg (ptOf 9) (funext W256.nil_at)).trans ptOf_frame0
end
end Go.Proofs.YtkeckbmhaplkpaaGreatDoor.Ln
