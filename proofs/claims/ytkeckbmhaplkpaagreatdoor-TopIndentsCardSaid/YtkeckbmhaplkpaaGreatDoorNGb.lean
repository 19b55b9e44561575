/- The fast evaluator: operands, two values. Each is the evaluator's own, with what follows handed on. -/
import Derived.Test.YtkeckbmhaplkpaaGreatDoorNGa
import Derived.Test.YtkeckbmhaplkpaaGreatDoorNEvC
namespace Go.Proofs.YtkeckbmhaplkpaaGreatDoor.Ln
open Go
noncomputable section

section
variable {F : Type} (O : FrOps F)
/-! ### Operands -/
def opdK (x : Operand) : Clo (F → KV → G) := match x with
  | .tmp t => O.get t
  | .const v => ofo (cst v) fun r => match r with
    | none => .mk fun _ _ => nG
    | some v => force v fun v => .mk fun _ k => k v
  | .func f => .mk fun _ k => k (.func f [] [])
  | .global _ => .mk fun _ _ => nG
theorem opdK_run (x : Operand) (a : F) (k : KV) : (opdK O x).run a k = ob (opd (O.to a) x) k := by
  cases x with
  | tmp t => exact O.get_run t a k
  | const v =>
    unfold opdK
    simp only [ofo_eq, opd]
    cases cst v with
    | none => rfl
    | some v => simp only [force_eq]; rfl
  | func f => rfl
  | global g => rfl
def opdsK (l : List Operand) : Clo (F → KL → G) := List.rec (motive := fun _ => Clo (F → KL → G)) (.mk fun _ k => k [])
  (fun x _ ih => (opdK O x).on fun f => ih.on fun g => .mk fun a k => f a fun v => g a fun r => k (v :: r)) l
theorem opdsK_cons (x : Operand) (l : List Operand) : opdsK O (x :: l) = (opdK O x).on fun f => (opdsK O l).on fun g => .mk fun a k => f a fun v => g a fun r => k (v :: r) := rfl
theorem opdsK_run (l : List Operand) (a : F) : ∀ k, (opdsK O l).run a k = ob (opds (O.to a) l) k := by
  induction l with
  | nil => intro k; rfl
  | cons x l ih =>
    intro k
    show _ = ob (ocons (opd (O.to a) x) (opds (O.to a) l)) k
    rw [opdsK_cons, Clo.run_on, Clo.run_on, Clo.run_mk, opdK_run]
    simp only [ih]
    cases opd (O.to a) x with
    | none => rfl
    | some v => cases opds (O.to a) l <;> rfl
def opdoK (x : Option Operand) : Clo (F → (Option MV → G) → G) := match x with
  | none => .mk fun _ k => k none
  | some x => (opdK O x).on fun f => .mk fun a k => f a fun v => k (some v)
theorem opdoK_run (x : Option Operand) (a : F) (k : Option MV → G) : (opdoK O x).run a k = ob (opdo (O.to a) x) k := by
  cases x with
  | none => rfl
  | some x =>
    unfold opdoK
    simp only [Clo.run_on, Clo.run_mk, opdK_run]
    unfold opdo
    simp only
    cases opd (O.to a) x <;> rfl
end

/-! ### Two values -/
abbrev K2 := MV → MV → KV → G
def slowB (T : Types) (op : BinOp) (t : Nat) : K2 := fun x y k => ob (binV T op t x y) fun v => eForce v v k
theorem slowB_eq (T : Types) (op : BinOp) (t : Nat) (x y : MV) (k : KV) : slowB T op t x y k = ob (binV T op t x y) k := by
  unfold slowB; simp only [eForce_eq]
def cmpK (f : Nat → Nat → KV → G) (fb : K2) : K2 := fun x y k =>
  eInt x (fun q n => eInt y (fun q' m => eKind q q' (eNat n (fun n => eNat m (fun m => f n m k) (fb x y k)) (fb x y k)) (fb x y k)) (fb x y k)) (fb x y k)
def arithK (f : Nat → Nat → KV → G → G) (fb : K2) : K2 := fun x y k => eN64 x (fun n => eN64 y (fun m => f n m k (fb x y k)) (fb x y k)) (fb x y k)
theorem arithK_eq {T : Types} {op : BinOp} {t : Nat} {f : Nat → Nat → KV → G → G} (hf : ∀ n m k, f n m k (ob (binV T op t (.int .i64 (.ofNat n)) (.int .i64 (.ofNat m))) k) = ob (binV T op t (.int .i64 (.ofNat n)) (.int .i64 (.ofNat m))) k) (x y : MV) (k : KV) :
    arithK f (slowB T op t) x y k = ob (binV T op t x y) k := by
  unfold arithK
  simp only [slowB_eq]
  rcases eN64_eq x (fun n => eN64 y (fun m => f n m k (ob (binV T op t x y) k)) (ob (binV T op t x y) k)) (ob (binV T op t x y) k) with ⟨n, rfl, e⟩ | e
  · rw [e]
    rcases eN64_eq y (fun m => f n m k (ob (binV T op t (.int .i64 (.ofNat n)) y) k)) (ob (binV T op t (.int .i64 (.ofNat n)) y) k) with ⟨m, rfl, e⟩ | e
    · rw [e]; exact hf n m k
    · exact e
  · exact e
theorem cmpK_eq {T : Types} {op : BinOp} {t : Nat} {f : Nat → Nat → KV → G} (hs : isSh op = false) (hf : ∀ q n m k, f n m k = ob (intBin op q (.ofNat n) (.ofNat m)) k) (x y : MV) (k : KV) :
    cmpK f (slowB T op t) x y k = ob (binV T op t x y) k := by
  unfold cmpK
  simp only [slowB_eq]
  cases x <;> try rfl
  rename_i q n
  cases y <;> try rfl
  rename_i q' m
  have key : ∀ q, ob (binV T op t (.int q n) (.int q m)) k = ob (match kindEq q q with | true => intBin op q n m | false => none) k := by
    intro q
    show ob (match isSh op with | true => shBin op q n m | false => (match kindEq q q with | true => intBin op q n m | false => none)) k = _
    rw [hs]
  cases q <;> cases q' <;> try rfl
  all_goals
    cases n with
    | negSucc n => rfl
    | ofNat n =>
      cases m with
      | negSucc m => rfl
      | ofNat m =>
        rw [key]
        exact hf _ n m k
def addF (n m : Nat) (k : KV) (e : G) : G := fnatR (Nat.add n m) fun s => @Bool.rec (fun _ => G) e (k (.int .i64 (.ofNat s))) (Nat.ble s 4611686018427387904)
def subF (n m : Nat) (k : KV) (e : G) : G := @Bool.rec (fun _ => G) e (fnatR (Nat.sub n m) fun s => @Bool.rec (fun _ => G) e (k (.int .i64 (.ofNat s))) (Nat.ble s 4611686018427387904)) (Nat.ble m n)
theorem addF_eq (T : Types) (t n m : Nat) (k : KV) : addF n m k (ob (binV T .add t (.int .i64 (.ofNat n)) (.int .i64 (.ofNat m))) k) = ob (binV T .add t (.int .i64 (.ofNat n)) (.int .i64 (.ofNat m))) k := by
  unfold addF
  rw [fnatR_eq]
  have e : binV T .add t (.int .i64 (.ofNat n)) (.int .i64 (.ofNat m)) = some (.int .i64 (Bool.rec (motive := fun _ => Int) (IntKind.i64.wrap (.ofNat (Nat.add n m))) (.ofNat (Nat.add n m)) (Nat.ble (Nat.add n m) 4611686018427387904))) := rfl
  rw [e]
  cases Nat.ble (Nat.add n m) 4611686018427387904 <;> rfl
theorem subF_eq (T : Types) (t n m : Nat) (k : KV) : subF n m k (ob (binV T .sub t (.int .i64 (.ofNat n)) (.int .i64 (.ofNat m))) k) = ob (binV T .sub t (.int .i64 (.ofNat n)) (.int .i64 (.ofNat m))) k := by
  unfold subF
  rw [fnatR_eq]
  cases h : Nat.ble m n
  · rfl
  · have hle := Nat.le_of_ble_eq_true h
    have hi : Int.sub (.ofNat n) (.ofNat m) = .ofNat (Nat.sub n m) := by
      show (n : Int) - (m : Int) = ((n - m : Nat) : Int)
      omega
    have e : binV T .sub t (.int .i64 (.ofNat n)) (.int .i64 (.ofNat m)) = some (.int .i64 (wrapK .i64 (Int.sub (.ofNat n) (.ofNat m)))) := rfl
    rw [e, hi]
    have hw : wrapK .i64 (.ofNat (Nat.sub n m)) = Bool.rec (motive := fun _ => Int) (IntKind.i64.wrap (.ofNat (Nat.sub n m))) (.ofNat (Nat.sub n m)) (Nat.ble (Nat.sub n m) 4611686018427387904) := rfl
    rw [hw]
    show @Bool.rec (fun _ => G) (ob (some _) k) _ (Nat.ble (Nat.sub n m) 4611686018427387904) = ob (some _) k
    cases Nat.ble (Nat.sub n m) 4611686018427387904 <;> rfl
/-- Are two texts the same? Where that hangs on bytes not known: what follows elsewise. -/
def eqSK : List Nat → List Nat → G → G → G → G := @List.rec Nat (fun _ => List Nat → G → G → G → G) (fun b t f _ => @List.rec Nat (fun _ => G) t (fun _ _ _ => f) b)
  (fun x _ ih b t f e => @List.rec Nat (fun _ => G) f (fun y s _ => @Bool.rec (fun _ => G) (@Bool.rec (fun _ => G) e (@Bool.rec (fun _ => G) e f (Nat.ble y 255)) (Nat.ble x 255)) (ih s t f e) (Nat.beq x y)) b)
theorem eqSK_eq (a : List Nat) : ∀ (b : List Nat) (t f e : G), (eqSK a b t f e = t ∧ strEqS a b = some true) ∨ (eqSK a b t f e = f ∧ strEqS a b = some false) ∨ eqSK a b t f e = e := by
  induction a with
  | nil =>
    intro b t f e
    cases b with
    | nil => exact .inl ⟨rfl, rfl⟩
    | cons y s => exact .inr (.inl ⟨rfl, rfl⟩)
  | cons x a ih =>
    intro b t f e
    cases b with
    | nil => exact .inr (.inl ⟨rfl, rfl⟩)
    | cons y s =>
      have h1 : eqSK (x :: a) (y :: s) t f e = @Bool.rec (fun _ => G) (@Bool.rec (fun _ => G) e (@Bool.rec (fun _ => G) e f (Nat.ble y 255)) (Nat.ble x 255)) (eqSK a s t f e) (Nat.beq x y) := rfl
      have h2 : strEqS (x :: a) (y :: s) = same3 (byteEq x y) (strEqS a s) := rfl
      rw [h1, h2]
      unfold byteEq
      cases Nat.beq x y
      · cases hx : Nat.ble x 255
        · exact .inr (.inr rfl)
        · cases hy : Nat.ble y 255
          · exact .inr (.inr rfl)
          · refine .inr (.inl ⟨rfl, ?_⟩)
            simp only [lit, hx, hy]
            rfl
      · exact ih s t f e
def eqStrK (neg : Bool) (fb : K2) : K2 := fun x y k => eStr x (fun a => eStr y (fun b => eqSK a b (@Bool.rec (fun _ => G) (k (.bool true)) (k (.bool false)) neg) (@Bool.rec (fun _ => G) (k (.bool false)) (k (.bool true)) neg) (fb x y k)) (fb x y k)) (fb x y k)
theorem eqStrK_eq (T : Types) (t : Nat) (x y : MV) (k : KV) : eqStrK false (slowB T .eql t) x y k = ob (binV T .eql t x y) k ∧ eqStrK true (slowB T .neq t) x y k = ob (binV T .neq t x y) k := by
  unfold eqStrK
  simp only [slowB_eq]
  cases x <;> try exact ⟨rfl, rfl⟩
  rename_i a
  cases y <;> try exact ⟨rfl, rfl⟩
  rename_i b
  have e1 : binV T .eql t (.str a) (.str b) = optBo (fun b => b) (strEqS a b) := rfl
  have e2 : binV T .neq t (.str a) (.str b) = optBo Bool.not (strEqS a b) := rfl
  constructor
  · rw [e1]
    show eqSK a b (k (.bool true)) (k (.bool false)) _ = _
    rcases eqSK_eq a b (k (.bool true)) (k (.bool false)) (ob (optBo (fun b => b) (strEqS a b)) k) with ⟨h1, h2⟩ | ⟨h1, h2⟩ | h1
    · rw [h1, h2]; rfl
    · rw [h1, h2]; rfl
    · exact h1
  · rw [e2]
    show eqSK a b (k (.bool false)) (k (.bool true)) _ = _
    rcases eqSK_eq a b (k (.bool false)) (k (.bool true)) (ob (optBo Bool.not (strEqS a b)) k) with ⟨h1, h2⟩ | ⟨h1, h2⟩ | h1
    · rw [h1, h2]; rfl
    · rw [h1, h2]; rfl
    · exact h1
def ltF (n m : Nat) (k : KV) : G := @Bool.rec (fun _ => G) (k (.bool true)) (k (.bool false)) (Nat.ble m n)
def leF (n m : Nat) (k : KV) : G := @Bool.rec (fun _ => G) (k (.bool false)) (k (.bool true)) (Nat.ble n m)
def gtF (n m : Nat) (k : KV) : G := @Bool.rec (fun _ => G) (k (.bool true)) (k (.bool false)) (Nat.ble n m)
def geF (n m : Nat) (k : KV) : G := @Bool.rec (fun _ => G) (k (.bool false)) (k (.bool true)) (Nat.ble m n)
def eqF (n m : Nat) (k : KV) : G := @Bool.rec (fun _ => G) (k (.bool false)) (k (.bool true)) (Nat.beq n m)
def neF (n m : Nat) (k : KV) : G := @Bool.rec (fun _ => G) (k (.bool true)) (k (.bool false)) (Nat.beq n m)
def binK (T : Types) (op : BinOp) (t : Nat) : Clo K2 := match op with
  | .add => .mk (arithK addF (slowB T .add t))
  | .sub => .mk (arithK subF (slowB T .sub t))
  | .lss => .mk (cmpK ltF (slowB T .lss t))
  | .leq => .mk (cmpK leF (slowB T .leq t))
  | .gtr => .mk (cmpK gtF (slowB T .gtr t))
  | .geq => .mk (cmpK geF (slowB T .geq t))
  | .eql => (match isStrT T t with | true => .mk (eqStrK false (slowB T .eql t)) | false => .mk (cmpK eqF (slowB T .eql t)))
  | .neq => (match isStrT T t with | true => .mk (eqStrK true (slowB T .neq t)) | false => .mk (cmpK neF (slowB T .neq t)))
  | op => .mk (slowB T op t)
theorem binK_run (T : Types) (op : BinOp) (t : Nat) (x y : MV) (k : KV) : (binK T op t).run x y k = ob (binV T op t x y) k := by
  cases op <;> simp only [binK, Clo.run_mk] <;> try exact slowB_eq T _ t x y k
  · exact arithK_eq (addF_eq T t) x y k
  · exact arithK_eq (subF_eq T t) x y k
  · cases isStrT T t
    · refine cmpK_eq rfl (fun q n m k => ?_) x y k
      show _ = k (.bool (Nat.beq n m))
      unfold eqF
      cases Nat.beq n m <;> rfl
    · exact (eqStrK_eq T t x y k).1
  · cases isStrT T t
    · refine cmpK_eq rfl (fun q n m k => ?_) x y k
      show _ = k (.bool (Bool.not (Nat.beq n m)))
      unfold neF
      cases Nat.beq n m <;> rfl
    · exact (eqStrK_eq T t x y k).2
  · refine cmpK_eq rfl (fun q n m k => ?_) x y k
    show _ = k (.bool (Bool.not (Nat.ble m n)))
    unfold ltF
    cases Nat.ble m n <;> rfl
  · refine cmpK_eq rfl (fun q n m k => ?_) x y k
    show _ = k (.bool (Nat.ble n m))
    unfold leF
    cases Nat.ble n m <;> rfl
  · refine cmpK_eq rfl (fun q n m k => ?_) x y k
    show _ = k (.bool (Bool.not (Nat.ble n m)))
    unfold gtF
    cases Nat.ble n m <;> rfl
  · refine cmpK_eq rfl (fun q n m k => ?_) x y k
    show _ = k (.bool (Nat.ble m n))
    unfold geF
    cases Nat.ble m n <;> rfl
end
end Go.Proofs.YtkeckbmhaplkpaaGreatDoor.Ln
/- The fast evaluator: the operations that leave the heap as it is, one by one. -/
namespace Go.Proofs.YtkeckbmhaplkpaaGreatDoor.Ln
open Go
noncomputable section

/-! ### Parts of rows -/
def partC (ti : TI) (o : Nat) : Clo (List MV → KV → G) := match ti.isAgg with
  | true => (dropC o).on fun d => (takeC ti.size).on fun g => .mk fun l k => d l fun l => g l fun r => k (.agg r)
  | false => cellC o
theorem partC_run (ti : TI) (o : Nat) (l : List MV) (k : KV) : (partC ti o).run l k = ob (partV ti l o) k := by
  unfold partC partV
  cases ti.isAgg
  · exact cellC_run o l k
  · simp only [Clo.run_on, Clo.run_mk, dropC_run, takeC_run]
    rw [take_ob (ldrop l o) ti.size fun r => some (MV.agg r)]
    rfl
def ldF (ti : TI) : MV → KV → G := fun p k => ePtr p fun y o => hget y fun b => eObj b fun l _ => (partC ti o).on fun g => g l k
theorem ldF_eq (ti : TI) (p : MV) (k : KV) (h : Heap) (n : Nat) : ldF ti p k h n = ob (loadV ti h p) k h n := by
  unfold ldF
  cases p <;> try rfl
  rename_i y o
  show hget y (fun b => eObj b fun l _ => (partC ti o).on fun g => g l k) h n = ob (match cellsAt h y with | none => none | some l => partV ti l o) k h n
  rw [hget_eq]
  unfold cellsAt
  cases h.get y with
  | none => rfl
  | some b =>
    cases b with
    | cells l r =>
      show (partC ti o).on (fun g => g l k) h n = _
      rw [Clo.on_run, partC_run]
      rfl
    | map es c => rfl
    | trow t => rfl
    | dead => rfl
def ldK (T : Types) (t : Nat) : Clo (MV → KV → G) := ofo (T.get t) fun ti => match ti with
  | none => .mk fun _ _ => nG
  | some ti => .mk (ldF ti)
theorem ldK_run (T : Types) (t : Nat) (p : MV) (k : KV) (h : Heap) (n : Nat) : (ldK T t).run p k h n = ob (pLoad T h t (some p)) k h n := by
  unfold ldK pLoad
  simp only [ofo_eq]
  cases T.get t with
  | none => rfl
  | some ti => exact ldF_eq ti p k h n

/-! ### Structs built -/
theorem fillK_far (vs : List MV) : ∀ (cs : List MV) (o : Nat), vs ≠ [] → cs.length < o + vs.length → fillK vs cs o some = none := by
  induction vs with
  | nil => intro cs o h; exact absurd rfl h
  | cons v vs ih =>
    intro cs o _ hl
    rw [fillK_cons]
    by_cases hv : vs = []
    · subst hv
      cases h : lsetK cs o v (fun cs' => fillK [] cs' (Nat.succ o) some) with
      | none => rfl
      | some x =>
        have := (lsetK_some h).1
        simp at hl
        omega
    · cases h : lsetK cs o v (fun cs' => fillK vs cs' (Nat.succ o) some) with
      | none => rfl
      | some x =>
        obtain ⟨h1, h2⟩ := lsetK_some h
        rw [ih _ _ hv (by simp at hl ⊢; omega)] at h2
        cases h2
def slowPart (pl : Option (Nat × TI)) (v : MV) (cs : List MV) (k : KL) : G := ob (putPart pl (some v) cs some) k
def partF (size : Nat) (g : List MV → List MV → KL → G) : MV → List MV → KL → G := fun v cs k => eCells v v fun vs => brB (Nat.beq (llen vs) size) (g cs vs k) nG
def putC1 (pl : Option (Nat × TI)) : Clo (MV → List MV → KL → G) := match pl with
  | none => .mk fun _ _ _ => nG
  | some p => match Nat.beq p.2.size 0 with
    | true => .mk (slowPart (some p))
    | false => (overC p.1).on fun g => .mk (partF p.2.size g)
theorem putC1_run (pl : Option (Nat × TI)) (v : MV) (cs : List MV) (k : KL) : (putC1 pl).run v cs k = ob (putPart pl (some v) cs some) k := by
  unfold putC1
  cases pl with
  | none => rfl
  | some p =>
    simp only
    cases h0 : Nat.beq p.2.size 0
    · simp only [Clo.run_on, Clo.run_mk]
      unfold putPart partF
      simp only
      rw [eCells_eq]
      cases v.cells with
      | none => rfl
      | some vs =>
        simp only [ob_some, overC_run]
        cases h1 : Nat.beq (llen vs) p.2.size
        · rfl
        · cases h2 : Nat.ble (Nat.add p.1 (llen vs)) (llen cs)
          · show ob (fillK vs cs p.1 some) k = nG
            rw [fillK_far vs cs p.1 ?_ ?_]
            · rfl
            · rintro rfl
              have e := Nat.eq_of_beq_eq_true h1
              rw [show llen ([] : List MV) = 0 from rfl] at e
              rw [← e] at h0; cases h0
            · rw [llen_eq, llen_eq] at h2
              have h3 : ¬ (p.1 + vs.length ≤ cs.length) := fun h4 => by
                have h5 : Nat.ble (Nat.add p.1 vs.length) cs.length = true := Nat.ble_eq_true_of_le h4
                rw [h5] at h2; cases h2
              omega
          · rfl
    · rfl
theorem put_ob {α : Type} (pl : Option (Nat × TI)) (v : Option MV) (cs : List MV) (f : List MV → Option α) (k : α → G) : ob (putPart pl v cs f) k = ob (putPart pl v cs some) fun r => ob (f r) k := by
  unfold putPart
  cases pl with
  | none => rfl
  | some p =>
    cases v with
    | none => rfl
    | some v =>
      simp only
      cases v.cells with
      | none => rfl
      | some vs =>
        simp only
        cases Bool.and (Nat.beq (llen vs) p.2.size) (Nat.ble (Nat.add p.1 (llen vs)) (llen cs))
        · rfl
        · exact fill_ob _ _ _ _ _
theorem parts_ob (T : Types) (a : Fr) (t : Nat) (ps : List (Nat × Operand)) : ∀ {α : Type} (cs : List MV) (f : List MV → Option α) (k : α → G), ob (partsK T a t ps cs f) k = ob (partsK T a t ps cs some) fun r => ob (f r) k := by
  induction ps with
  | nil => intro α cs f k; rfl
  | cons p ps ih =>
    intro α cs f k
    show ob (putPart (placeOf T t p.1) (opd a p.2) cs fun cs' => partsK T a t ps cs' f) k = ob (putPart (placeOf T t p.1) (opd a p.2) cs fun cs' => partsK T a t ps cs' some) fun r => ob (f r) k
    rw [put_ob, put_ob _ _ _ fun cs' => partsK T a t ps cs' some]
    congr 1
    funext cs'
    exact ih _ _ _
section
variable {F : Type} (O : FrOps F)
abbrev PK (F : Type) := F → List MV → KL → G
def partsKK (T : Types) (t : Nat) (ps : List (Nat × Operand)) : Clo (PK F) :=
  List.rec (motive := fun _ => Clo (PK F)) (.mk fun _ cs k => k cs)
    (fun p _ ih => (putC1 (placeOf T t p.1)).on fun w => (opdK O p.2).on fun f => ih.on fun g => .mk fun a cs k => f a fun v => w v cs fun cs => g a cs k) ps
theorem partsKK_cons (T : Types) (t : Nat) (p : Nat × Operand) (ps : List (Nat × Operand)) : partsKK O T t (p :: ps) = (putC1 (placeOf T t p.1)).on fun w => (opdK O p.2).on fun f => (partsKK O T t ps).on fun g => .mk fun a cs k => f a fun v => w v cs fun cs => g a cs k := rfl
theorem partsKK_run (T : Types) (t : Nat) (ps : List (Nat × Operand)) (a : F) : ∀ (cs : List MV) (k : KL), (partsKK O T t ps).run a cs k = ob (partsK T (O.to a) t ps cs some) k := by
  induction ps with
  | nil => intro cs k; rfl
  | cons p ps ih =>
    intro cs k
    show _ = ob (putPart (placeOf T t p.1) (opd (O.to a) p.2) cs fun cs' => partsK T (O.to a) t ps cs' some) k
    rw [partsKK_cons, Clo.run_on, Clo.run_on, Clo.run_on, Clo.run_mk, opdK_run, put_ob]
    simp only [putC1_run, ih]
    cases opd (O.to a) p.2 with
    | some v => rfl
    | none =>
      unfold putPart
      cases placeOf T t p.1 <;> rfl
/-- An operation: what it yields is handed on. -/
abbrev OpK (F : Type) := F → KV → G
def buildK (T : Types) (t : Nat) (ps : List (Nat × Operand)) : Clo (OpK F) := ofo (T.get t) fun ti => match ti with
  | none => .mk fun _ _ => nG
  | some ti => match ti.isAgg with
    | false => .mk fun _ _ => nG
    | true => (partsKK O T t ps).on fun g => .mk fun a k => g a ti.zero fun cs => k (.agg cs)
theorem buildK_run (T : Types) (t : Nat) (ps : List (Nat × Operand)) (a : F) (k : KV) : (buildK O T t ps).run a k = ob (pBuild T (O.to a) t ps) k := by
  unfold buildK pBuild
  simp only [ofo_eq]
  cases T.get t with
  | none => rfl
  | some ti =>
    simp only
    cases ti.isAgg
    · rfl
    · simp only [Clo.run_on, Clo.run_mk, partsKK_run]
      rw [parts_ob T (O.to a) t ps ti.zero fun cs => some (MV.agg cs)]
      rfl
end

/-! ### Addresses, fields, indices -/
def faF (off : Nat) : MV → KV → G := fun x k => ePtr x fun y o => fnatR (Nat.add o off) fun o => k (.ptr y o)
def faF0 : MV → KV → G := fun x k => ePtr x fun y o => k (.ptr y o)
def faC (f : Option (Nat × TI)) : Clo (MV → KV → G) := match f with
  | none => .mk fun _ _ => nG
  | some p => match Nat.beq p.2.size 0 with
    | true => .mk fun _ _ => nG
    | false => match Nat.beq p.1 0 with
      | true => .mk faF0
      | false => .mk (faF p.1)
theorem faC_run (f : Option (Nat × TI)) (x : MV) (k : KV) : (faC f).run x k = ob (pFieldAddr (some x) f) k := by
  unfold faC
  cases f with
  | none => cases x <;> rfl
  | some p =>
    obtain ⟨off, ti⟩ := p
    simp only
    cases h1 : Nat.beq ti.size 0
    · cases h2 : Nat.beq off 0
      · unfold faF
        cases x <;> try rfl
        simp only [pFieldAddr, h1]
        exact fnatR_eq _ _
      · obtain rfl := Nat.eq_of_beq_eq_true h2
        cases x <;> try rfl
        simp only [pFieldAddr, h1]
        rfl
    · cases x <;> try rfl
      simp only [pFieldAddr, h1]
      rfl
def fiC (f : Option (Nat × TI)) : Clo (MV → KV → G) := match f with
  | none => .mk fun _ _ => nG
  | some p => (partC p.2 p.1).on fun g => .mk fun x k => eAgg x fun l => g l k
theorem fiC_run (f : Option (Nat × TI)) (x : MV) (k : KV) : (fiC f).run x k = ob (pField (some x) f) k := by
  unfold fiC
  cases f with
  | none => cases x <;> rfl
  | some p =>
    simp only [Clo.run_on, Clo.run_mk]
    cases x <;> try rfl
    exact partC_run _ _ _ _
def slowI (T : Types) (t : Nat) : K2 := fun x i k => ob (idxAddr T t x i) fun v => eForce v v k
def iaF (size : Nat) (fb : K2) : K2 := fun x i k => eN64 i (fun n => eSlice x (fun y o len _ => @Bool.rec (fun _ => G) nG (fnatR (Nat.add o (Nat.mul n size)) fun o => k (.ptr y o)) (Nat.ble (Nat.succ n) len)) (fb x i k)) (fb x i k)
def iaC (T : Types) (t : Nat) : Clo K2 := match isSliceT T t with
  | false => .mk (slowI T t)
  | true => ofo (elemTI T t) fun te => match te with
    | none => .mk (slowI T t)
    | some te => .mk (iaF te.size (slowI T t))
theorem slowI_eq (T : Types) (t : Nat) (x i : MV) (k : KV) : slowI T t x i k = ob (idxAddr T t x i) k := by
  unfold slowI; simp only [eForce_eq]
theorem iaC_run (T : Types) (t : Nat) (x i : MV) (k : KV) : (iaC T t).run x i k = ob (idxAddr T t x i) k := by
  unfold iaC
  cases hs : isSliceT T t
  · exact slowI_eq T t x i k
  · simp only [ofo_eq]
    cases he : elemTI T t with
    | none => exact slowI_eq T t x i k
    | some te =>
      show iaF te.size (slowI T t) x i k = _
      unfold iaF
      simp only [slowI_eq]
      rcases eN64_eq i (fun n => eSlice x (fun y o len _ => @Bool.rec (fun _ => G) nG (fnatR (Nat.add o (Nat.mul n te.size)) fun o => k (.ptr y o)) (Nat.ble (Nat.succ n) len)) (ob (idxAddr T t x i) k)) (ob (idxAddr T t x i) k) with ⟨n, rfl, e⟩ | e
      · rw [e]
        cases x <;> try rfl
        rename_i y o len c
        have e2 : idxAddr T t (.slice y o len c) (.int .i64 (.ofNat n)) = (match isSliceT T t with | true => idxRow y o len n (elemTI T t) | false => none) := rfl
        rw [e2, hs, he]
        show @Bool.rec (fun _ => G) nG (fnatR _ fun o => k (.ptr y o)) (Nat.ble (Nat.succ n) len) = ob (match Nat.ble (Nat.succ n) len with | true => some (.ptr y (Nat.add o (Nat.mul n te.size))) | false => none) k
        cases Nat.ble (Nat.succ n) len
        · rfl
        · exact fnatR_eq _ _
      · exact e
def slowX (T : Types) (t : Nat) : K2 := fun x i k => ob (idxV T t x i) k
def ixF (fb : K2) : K2 := fun x i k => eN64 i (fun n => eStr x (fun l => ob (lget l n) fun b => @Bool.rec (fun _ => G) (fnatR (Nat.sub b 256) fun m => k (.sym m)) (k (.int .u8 (.ofNat b))) (Nat.ble b 255)) (fb x i k)) (fb x i k)
def ixC (T : Types) (t : Nat) : Clo K2 := match isStrT T t with
  | false => .mk (slowX T t)
  | true => .mk (ixF (slowX T t))
theorem ixC_run (T : Types) (t : Nat) (x i : MV) (k : KV) : (ixC T t).run x i k = ob (idxV T t x i) k := by
  unfold ixC
  cases hs : isStrT T t
  · rfl
  · show ixF (slowX T t) x i k = _
    unfold ixF slowX
    rcases eN64_eq i (fun n => eStr x (fun l => ob (lget l n) fun b => @Bool.rec (fun _ => G) (fnatR (Nat.sub b 256) fun m => k (.sym m)) (k (.int .u8 (.ofNat b))) (Nat.ble b 255)) (ob (idxV T t x i) k)) (ob (idxV T t x i) k) with ⟨n, rfl, e⟩ | e
    · rw [e]
      cases x <;> try rfl
      rename_i l
      have e2 : idxV T t (.str l) (.int .i64 (.ofNat n)) = (match isStrT T t with | true => idxStr l n | false => none) := rfl
      rw [e2, hs]
      show ob (lget l n) _ = ob (idxStr l n) k
      unfold idxStr
      cases lget l n with
      | none => rfl
      | some b =>
        show @Bool.rec (fun _ => G) (fnatR (Nat.sub b 256) fun m => k (.sym m)) (k (.int .u8 (.ofNat b))) (Nat.ble b 255) = k (byteV b)
        unfold byteV lit
        cases Nat.ble b 255
        · exact fnatR_eq _ _
        · rfl
    · exact e

/-! ### Lengths, least and greatest -/
def slowL (T : Types) (ts : List Nat) : MV → KV → G := fun x k h n => ob (pLen T h ts (some [x])) (fun v => eForce v v k) h n
theorem slowL_eq (T : Types) (ts : List Nat) (x : MV) (k : KV) (h : Heap) (n : Nat) : slowL T ts x k h n = ob (pLen T h ts (some [x])) k h n := by
  unfold slowL; simp only [eForce_eq]
def lnStr (fb : MV → KV → G) : MV → KV → G := fun x k => eStr x (fun l => fnatR (llen l) fun n => k (.int .i64 (.ofNat n))) (fb x k)
def lnRow (fb : MV → KV → G) : MV → KV → G := fun x k => eSlice x (fun _ _ n _ => k (.int .i64 (.ofNat n))) (fb x k)
def lnC (T : Types) (ts : List Nat) : Clo (MV → KV → G) := ofo (headTI T ts) fun ti => match ti with
  | none => .mk (slowL T ts)
  | some ti => match ti.d with
    | .str => .mk (lnStr (slowL T ts))
    | .slice _ => .mk (lnRow (slowL T ts))
    | _ => .mk (slowL T ts)
theorem lnC_run (T : Types) (ts : List Nat) (x : MV) (k : KV) (h : Heap) (n : Nat) : (lnC T ts).run x k h n = ob (pLen T h ts (some [x])) k h n := by
  unfold lnC
  simp only [ofo_eq]
  cases hh : headTI T ts with
  | none => exact slowL_eq T ts x k h n
  | some ti =>
    simp only
    split
    · rename_i hd
      show lnStr (slowL T ts) x k h n = _
      unfold lnStr
      cases x <;> try exact slowL_eq T ts _ k h n
      show fnatR _ _ h n = _
      rw [fnatR_eq]
      simp only [pLen, hh, lenFits, hd, lenV]
      rfl
    · rename_i e hd
      show lnRow (slowL T ts) x k h n = _
      unfold lnRow
      cases x <;> try exact slowL_eq T ts _ k h n
      simp only [pLen, hh, lenFits, hd, lenV]
      rfl
    · exact slowL_eq T ts x k h n
def slowM (mx : Bool) : K2 := fun x y k => ob (pMin mx (some [x, y])) fun v => eForce v v k
theorem slowM_eq (mx : Bool) (x y : MV) (k : KV) : slowM mx x y k = ob (pMin mx (some [x, y])) k := by
  unfold slowM; simp only [eForce_eq]
def mnF (mx : Bool) : K2 := fun x y k => eN64 x (fun n => eN64 y (fun m => @Bool.rec (fun _ => G) (@Bool.rec (fun _ => G) (k y) (k x) (Nat.ble n m)) (@Bool.rec (fun _ => G) (k x) (k y) (Nat.ble n m)) mx) (slowM mx x y k)) (slowM mx x y k)
theorem mnF_eq (mx : Bool) (x y : MV) (k : KV) : mnF mx x y k = ob (pMin mx (some [x, y])) k := by
  unfold mnF
  simp only [slowM_eq]
  rcases eN64_eq x (fun n => eN64 y (fun m => @Bool.rec (fun _ => G) (@Bool.rec (fun _ => G) (k y) (k x) (Nat.ble n m)) (@Bool.rec (fun _ => G) (k x) (k y) (Nat.ble n m)) mx) (ob (pMin mx (some [x, y])) k)) (ob (pMin mx (some [x, y])) k) with ⟨n, rfl, e⟩ | e
  · rw [e]
    rcases eN64_eq y (fun m => @Bool.rec (fun _ => G) (@Bool.rec (fun _ => G) (k y) (k (.int .i64 (.ofNat n))) (Nat.ble n m)) (@Bool.rec (fun _ => G) (k (.int .i64 (.ofNat n))) (k y) (Nat.ble n m)) mx) (ob (pMin mx (some [.int .i64 (.ofNat n), y])) k) with ⟨m, rfl, e⟩ | e
    · rw [e]
      show _ = k (.int .i64 (minI mx (.ofNat n) (.ofNat m)))
      have h : intLe (.ofNat n) (.ofNat m) = Nat.ble n m := rfl
      unfold minI
      rw [h]
      cases mx <;> cases Nat.ble n m <;> rfl
    · exact e
  · exact e
end
end Go.Proofs.YtkeckbmhaplkpaaGreatDoor.Ln
/- The fast evaluator: every operation. -/
namespace Go.Proofs.YtkeckbmhaplkpaaGreatDoor.Ln
open Go
noncomputable section
section
variable {F : Type} (O : FrOps F)

/-! ### Operations that leave the heap as it is -/
def oneK (l : List Operand) (w : Clo (MV → KV → G)) (slow : Clo (OpK F)) : Clo (OpK F) := match l with
  | [x] => w.on fun g => (opdK O x).on fun f => .mk fun a k => f a fun v => g v k
  | _ => slow
def twoK (l : List Operand) (w : K2) (slow : Clo (OpK F)) : Clo (OpK F) := match l with
  | [x, y] => (opdK O x).on fun f => (opdK O y).on fun g => .mk fun a k => f a fun x => g a fun y => w x y k
  | _ => slow
def callPK (T : Types) (c : Call) : Clo (OpK F) := match c.callee with
  | .builtin .len => oneK O c.args.toList (lnC T c.argTypes.toList) ((opdsK O c.args.toList).on fun l => .mk fun a k => l a fun l h n => ob (pLen T h c.argTypes.toList (some l)) k h n)
  | .builtin .min => twoK O c.args.toList (mnF false) ((opdsK O c.args.toList).on fun l => .mk fun a k => l a fun l => ob (pMin false (some l)) k)
  | .builtin .max => twoK O c.args.toList (mnF true) ((opdsK O c.args.toList).on fun l => .mk fun a k => l a fun l => ob (pMin true (some l)) k)
  | _ => .mk fun _ _ => nG
theorem opds_one (a : Fr) (x : Operand) : opds a [x] = ocons (opd a x) (some []) := rfl
theorem opds_two (a : Fr) (x y : Operand) : opds a [x, y] = ocons (opd a x) (ocons (opd a y) (some [])) := rfl
theorem two_run (mx : Bool) (l : List Operand) (a : F) (k : KV) : (twoK O l (mnF mx) ((opdsK O l).on fun l => .mk fun a k => l a fun l => ob (pMin mx (some l)) k)).run a k = ob (pMin mx (opds (O.to a) l)) k := by
  unfold twoK
  split
  · rename_i x y
    simp only [Clo.run_on, Clo.run_mk, opdK_run, mnF_eq]
    rw [opds_two]
    cases opd (O.to a) x with
    | none => rfl
    | some x => cases opd (O.to a) y <;> rfl
  · simp only [Clo.run_on, Clo.run_mk, opdsK_run]
    cases opds (O.to a) l <;> rfl
theorem callPK_run (T : Types) (c : Call) (a : F) (k : KV) (h : Heap) (n : Nat) : (callPK O T c).run a k h n = ob (pCall T (O.to a) h c) k h n := by
  unfold callPK pCall
  cases c.callee with
  | value x => rfl
  | invoke r m => rfl
  | builtin b =>
    cases b <;> try rfl
    · simp only
      unfold oneK
      split
      · rename_i x hx
        simp only [Clo.run_on, Clo.run_mk, opdK_run]
        rw [hx, opds_one]
        cases opd (O.to a) x with
        | none => rfl
        | some v => exact lnC_run T _ v k h n
      · simp only [Clo.run_on, Clo.run_mk, opdsK_run]
        cases opds (O.to a) c.args.toList <;> rfl
    · exact congrFun (congrFun (two_run O true _ a k) h) n
    · exact congrFun (congrFun (two_run O false _ a k) h) n
def frc (o : Option MV) (k : KV) : G := ob o fun v => eForce v v k
theorem frc_eq (o : Option MV) (k : KV) : frc o k = ob o k := by unfold frc; simp only [eForce_eq]
def notF : MV → KV → G := fun x k => eBool x (k (.bool false)) (k (.bool true))
def unC (op : UnOp) : Clo (MV → KV → G) := match op with
  | .not => .mk notF
  | op => .mk fun x k => frc (unV op x) k
theorem unC_run (op : UnOp) (x : MV) (k : KV) : (unC op).run x k = ob (unV op x) k := by
  cases op <;> simp only [unC, Clo.run_mk, frc_eq]
  cases x <;> try rfl
  rename_i b
  cases b <;> rfl
def extC (i : Nat) : Clo (MV → KV → G) := (cellC i).on fun g => .mk fun x k => eTuple x fun l => g l k
theorem extC_run (i : Nat) (x : MV) (k : KV) : (extC i).run x k = ob (pExt (some x) i) k := by
  unfold extC
  rw [Clo.run_on, Clo.run_mk]
  cases x <;> try rfl
  exact cellC_run i _ k
def pureK (T : Types) (op : Op) : Clo (OpK F) := match op with
  | .move x => opdK O x
  | .assign x => opdK O x
  | .pick c x y => (opdK O c).on fun c => (opdK O x).on fun x => (opdK O y).on fun y => .mk fun a k => c a fun v => eBool v (x a k) (y a k)
  | .build t ps => buildK O T t ps.toList
  | .load t p => (opdK O p).on fun f => (ldK T t).on fun g => .mk fun a k => f a fun p => g p k
  | .nilCheck x => (opdK O x).on fun f => .mk fun a k => f a fun v => eNil v (k v)
  | .binOp op t x y _ => (opdK O x).on fun x => (opdK O y).on fun y => (binK T op t).on fun b => .mk fun a k => x a fun x => y a fun y => b x y k
  | .unOp op _ x => (opdK O x).on fun f => (unC op).on fun g => .mk fun a k => f a fun v => g v k
  | .convert s d x => (opdK O x).on fun f => .mk fun a k => f a fun v h n => frc (convV T s d h v) k h n
  | .makeFunc f first cap => (opdsK O first.toList).on fun l => (opdsK O cap.toList).on fun c => .mk fun a k => l a fun l => c a fun c => ob (pFunc f (some l) (some c)) k
  | .slice t x lo hi mx => (opdK O x).on fun x => (opdoK O lo).on fun lo => (opdoK O hi).on fun hi => (opdoK O mx).on fun mx => .mk fun a k => x a fun x => lo a fun lo => hi a fun hi => mx a fun mx => frc (sliceV T t x lo hi mx) k
  | .fieldAddr t x f => (opdK O x).on fun g => (faC (fieldOf T t f)).on fun p => .mk fun a k => g a fun v => p v k
  | .field t x f => (opdK O x).on fun g => (fiC (fieldOf T t f)).on fun p => .mk fun a k => g a fun v => p v k
  | .indexAddr t x i => (opdK O x).on fun x => (opdK O i).on fun i => (iaC T t).on fun g => .mk fun a k => x a fun x => i a fun i => g x i k
  | .index t x i => (opdK O x).on fun x => (opdK O i).on fun i => (ixC T t).on fun g => .mk fun a k => x a fun x => i a fun i => g x i k
  | .lookup t x i ok => (opdK O x).on fun x => (opdK O i).on fun i => .mk fun a k => x a fun x => i a fun i h n => frc (lookV T h t x i ok) k h n
  | .extract x i => (opdK O x).on fun f => (extC i).on fun g => .mk fun a k => f a fun v => g v k
  | .call c => callPK O T c
  | _ => .mk fun _ _ => nG
theorem pureK_run (T : Types) (op : Op) (a : F) (k : KV) (h : Heap) (n : Nat) : (pureK O T op).run a k h n = ob (pureOp T (O.to a) h op) k h n := by
  cases op <;> simp only [pureK, pureOp, Clo.run_on, Clo.run_mk, opdK_run, opdsK_run, opdoK_run, buildK_run, callPK_run, frc_eq, unC_run, faC_run, fiC_run, iaC_run, ixC_run, extC_run, binK_run] <;> try rfl
  case pick c x y =>
    unfold pPick
    cases opd (O.to a) c with
    | none => rfl
    | some v =>
      cases v <;> try rfl
      rename_i b
      cases b <;> rfl
  case load t p =>
    cases opd (O.to a) p with
    | none => rfl
    | some p => exact ldK_run T t p k h n
  case nilCheck x =>
    cases opd (O.to a) x with
    | none => rfl
    | some v => cases v <;> rfl
  case binOp op t x y yt =>
    unfold pBin
    cases opd (O.to a) x with
    | none => rfl
    | some x => cases opd (O.to a) y <;> rfl
  case unOp op t x => cases opd (O.to a) x <;> rfl
  case convert s d x => cases opd (O.to a) x <;> rfl
  case makeFunc f first cap =>
    cases f <;> cases opds (O.to a) first.toList <;> first | rfl | (cases opds (O.to a) cap.toList <;> rfl)
  case slice t x lo hi mx =>
    cases opd (O.to a) x with
    | none => rfl
    | some x =>
      cases opdo (O.to a) lo with
      | none => rfl
      | some lo =>
        cases opdo (O.to a) hi with
        | none => rfl
        | some hi => cases opdo (O.to a) mx <;> rfl
  case fieldAddr t x f => cases opd (O.to a) x <;> rfl
  case field t x f => cases opd (O.to a) x <;> rfl
  case indexAddr t x i =>
    cases opd (O.to a) x with
    | none => rfl
    | some x => cases opd (O.to a) i <;> rfl
  case index t x i =>
    cases opd (O.to a) x with
    | none => rfl
    | some x => cases opd (O.to a) i <;> rfl
  case lookup t x i ok =>
    cases opd (O.to a) x with
    | none => rfl
    | some x => cases opd (O.to a) i <;> rfl
  case extract x i => cases opd (O.to a) x <;> rfl

/-! ### Operations that turn the heap -/
def eRf (o : An) (k : KV) : An := obR o fun v h n => eForce v v k h n
theorem eRf_eq (o : An) (k : KV) : eRf o k = obR o k := by unfold eRf; simp only [eForce_eq]
/-- A new object at the next name. -/
def newG (o : MObj) (v : Nat → MV) (k : KV) : G := fun h n => hset n o (fun h n => fnatR (Nat.succ n) (fun n' h _ => k (v n) h n') h n) h n
theorem newG_eq (o : MObj) (v : Nat → MV) (k : KV) (h : Heap) (n : Nat) : newG o v k h n = obR (put1 h n o (v n) (Nat.succ n)) k := by
  unfold newG put1
  rw [hset_eq, fnatR_eq, PT.setK_eq, fnat_eq]
  rfl
def newF (vs : List MV) : KV → G := newG (.cells vs none) fun n => .ptr n 0
theorem newF_eq (vs : List MV) (k : KV) (h : Heap) (n : Nat) : newF vs k h n = obR (newCells h n vs (.ptr n 0)) k := newG_eq _ _ k h n
def allocC (ti : Option TI) : Clo (KV → G) := match ti with
  | none => .mk fun _ => nG
  | some ti => match ti with
    | ⟨_, _, _, z, _⟩ => .mk (newF z)
theorem allocC_run (ti : Option TI) (k : KV) (h : Heap) (n : Nat) : (allocC ti).run k h n = obR (eAlloc h n ti) k := by
  cases ti with
  | none => rfl
  | some ti => exact newF_eq _ _ _ _
def boxF : MV → KV → G := fun v k => eCells v v fun vs => newF vs k
theorem boxF_eq (v : MV) (k : KV) (h : Heap) (n : Nat) : boxF v k h n = obR (eBox h n (some v)) k := by
  unfold boxF eBox
  rw [eCells_eq]
  simp only
  cases v.cells with
  | none => rfl
  | some vs => exact newF_eq _ _ _ _
def stoF (size : Nat) : MV → MV → KV → G := fun p v k => ePtr p fun y o => eCells v v fun vs => @Bool.rec (fun _ => G) nG
  (hget y fun b => eObj b fun l r => (overC o).on fun g => g l vs fun l' => hset y (.cells l' r) (k .undef)) (Nat.beq (llen vs) size)
theorem ob_G {α : Type} (o : Option α) (k : α → G) (h : Heap) (n : Nat) : ob o k h n = (match o with | none => none | some x => k x h n) := by cases o <;> rfl
theorem fill_R (vs l : List MV) (o : Nat) (f : List MV → An) (k : KV) (h : Heap) (n : Nat) : obR (fillK vs l o f) k = ob (fillK vs l o some) (fun r _ _ => obR (f r) k) h n := by
  have e := congrFun (congrFun (fill_ob vs l o f fun r => fun _ _ => k r.v r.h r.n) h) n
  have e1 : ∀ x : An, obR x k = ob x (fun r => fun _ _ => k r.v r.h r.n) h n := fun x => by cases x <;> rfl
  rw [e1, e]
  congr 1
  congr 1
  congr 1
  funext r h' n'
  cases f r <;> rfl
theorem stoF_eq (size : Nat) (p v : MV) (k : KV) (h : Heap) (n : Nat) : stoF size p v k h n = obR (storeV h n size p v) k := by
  unfold stoF
  cases p <;> try rfl
  rename_i y o
  show eCells v v _ h n = obR (storeVs h n size y o v.cells) k
  rw [eCells_eq]
  cases v.cells with
  | none => rfl
  | some vs =>
    show @Bool.rec (fun _ => G) nG _ (Nat.beq (llen vs) size) h n = obR (match Nat.beq (llen vs) size with | true => storeCells h n y o vs .undef (h.get y) | false => none) k
    cases Nat.beq (llen vs) size
    · rfl
    · simp only
      rw [hget_eq]
      cases h.get y with
      | none => rfl
      | some b =>
        cases b with
        | map es c => rfl
        | trow t => rfl
        | dead => rfl
        | cells l r =>
          show Clo.on (overC o) (fun g => g l vs fun l' => hset y (.cells l' r) (k .undef)) h n = obR (fillK vs l o fun l' => put1 h y (.cells l' r) .undef n) k
          rw [Clo.on_run, overC_run, fill_R vs l o _ k h n, ob_G, ob_G]
          cases fillK vs l o some with
          | none => rfl
          | some l' =>
            simp only
            unfold put1
            rw [hset_eq, PT.setK_eq, fnat_eq]
            rfl
def stoC (ti : Option TI) : Clo (MV → MV → KV → G) := match ti with
  | none => .mk fun _ _ _ => nG
  | some ti => .mk (stoF ti.size)
def rowK (T : Types) (t len : Nat) (ps : List (Nat × Operand)) (te : Option TI) : Clo (OpK F) := match te with
  | none => .mk fun _ _ => nG
  | some te => match Nat.ble (Nat.mul len te.size) 16777216 with
    | false => .mk fun _ _ => nG
    | true => (partsKK O T t ps).on fun g => ofo (repK te.zero len fun z => some z) fun z => match z with
      | none => .mk fun _ _ => nG
      | some z => .mk fun a k => g a z fun cs => newG (.cells cs none) (fun n => .slice n 0 len (.just len)) k
theorem repK_one {β : Type} (z : List MV) (n : Nat) : ∀ (k : List MV → Option β), ∃ l, repK z n k = k l ∧ ∀ {γ : Type} (k' : List MV → Option γ), repK z n k' = k' l := by
  induction n with
  | zero => intro k; exact ⟨[], rfl, fun k' => rfl⟩
  | succ n ih =>
    intro k
    obtain ⟨l, h1, h2⟩ := ih fun r => k (z ++ r)
    refine ⟨z ++ l, ?_, fun k' => ?_⟩
    · show repK z n (fun r => lappK z r k) = _
      simp only [lappK_eq]
      exact h1
    · show repK z n (fun r => lappK z r k') = _
      simp only [lappK_eq]
      exact h2 _
theorem parts_R (T : Types) (a : Fr) (t : Nat) (ps : List (Nat × Operand)) (cs : List MV) (f : List MV → An) (k : KV) (h : Heap) (n : Nat) : obR (partsK T a t ps cs f) k = ob (partsK T a t ps cs some) (fun r _ _ => obR (f r) k) h n := by
  have e := congrFun (congrFun (parts_ob T a t ps cs f fun r => fun _ _ => k r.v r.h r.n) h) n
  have e1 : ∀ x : An, obR x k = ob x (fun r => fun _ _ => k r.v r.h r.n) h n := fun x => by cases x <;> rfl
  rw [e1, e]
  congr 1
  congr 1
  congr 1
  funext r h' n'
  cases f r <;> rfl
theorem rowK_run (T : Types) (t len : Nat) (ps : List (Nat × Operand)) (te : Option TI) (a : F) (k : KV) (h : Heap) (n : Nat) : (rowK O T t len ps te).run a k h n = obR (eRow T (O.to a) h n t len ps te) k := by
  unfold rowK eRow
  cases te with
  | none => rfl
  | some te =>
    simp only
    cases Nat.ble (Nat.mul len te.size) 16777216
    · rfl
    · simp only [ofo_eq, Clo.run_on]
      obtain ⟨l, h1, h2⟩ := repK_one te.zero len (fun z => some z)
      rw [h1, h2]
      simp only [Clo.run_mk, partsKK_run]
      rw [parts_R T (O.to a) t ps l _ k h n, ob_G, ob_G]
      cases partsK T (O.to a) t ps l some with
      | none => rfl
      | some cs => exact newG_eq _ _ k h n
def effK (T : Types) (op : Op) : Clo (OpK F) := match op with
  | .alloc t => (allocC (T.get t)).on fun g => .mk fun _ => g
  | .box _ x => (opdK O x).on fun x => .mk fun a k => x a fun v => boxF v k
  | .buildSlice t len ps => rowK O T t len ps.toList (rowTI T t)
  | .store t p x => (opdK O p).on fun p => (opdK O x).on fun x => (stoC (T.get t)).on fun g => .mk fun a k => p a fun p => x a fun v => g p v k
  | .makeSlice t l c => (opdK O l).on fun l => (opdK O c).on fun c => .mk fun a k => l a fun l => c a fun c h n => eRf (eMake h n (rowTI T t) (some l) (some c)) k
  | .makeMap _ none => .mk fun _ k => newG (.map [] 0) (fun n => .map n) k
  | .mapUpdate t m k v => (opdK O m).on fun m => (opdK O k).on fun k => (opdK O v).on fun v => .mk fun a q => m a fun m => k a fun k => v a fun v h n => obR (eMap T t h n (some m) (some k) (some v)) q
  | .call c => (match c.callee with
    | .builtin b => (opdsK O c.args.toList).on fun l => .mk fun a k => l a fun l h n => eRf (builtinV T h n b c.argTypes.toList (some l)) k
    | _ => .mk fun _ _ => nG)
  | _ => .mk fun _ _ => nG
theorem effK_run (T : Types) (op : Op) (a : F) (k : KV) (h : Heap) (n : Nat) : (effK O T op).run a k h n = obR (effOp T (O.to a) h n op) k := by
  cases op <;> simp only [effK, effOp, Clo.run_on, Clo.run_mk, opdK_run, allocC_run, rowK_run] <;> try rfl
  case box t x =>
    cases opd (O.to a) x with
    | none => rfl
    | some v => exact boxF_eq v k h n
  case store t p x =>
    unfold eStore stoC
    cases T.get t with
    | none =>
      cases opd (O.to a) p with
      | none => rfl
      | some p => cases opd (O.to a) x <;> rfl
    | some ti =>
      cases opd (O.to a) p with
      | none => rfl
      | some p =>
        cases opd (O.to a) x with
        | none => rfl
        | some v => exact stoF_eq _ _ _ _ _ _
  case makeMap t r =>
    cases r with
    | none => exact newG_eq _ _ k h n
    | some r => rfl
  case makeSlice t l c =>
    have e : ∀ x y, (ob (some x) (fun l => ob (some y) fun c h n => eRf (eMake h n (rowTI T t) (some l) (some c)) k) : G) h n = obR (eMake h n (rowTI T t) (some x) (some y)) k := fun x y => eRf_eq _ _
    cases hl : opd (O.to a) l with
    | none =>
      unfold eMake
      cases rowTI T t with
      | none => rfl
      | some te =>
        simp only
        cases Nat.ble (Nat.succ te.bytes) 4096 <;> rfl
    | some l' =>
      cases hc : opd (O.to a) c with
      | none =>
        unfold eMake
        cases rowTI T t with
        | none => rfl
        | some te =>
          simp only
          cases Nat.ble (Nat.succ te.bytes) 4096 <;> rfl
      | some c' => exact e l' c'
  case mapUpdate t m k v =>
    unfold eMap
    cases opd (O.to a) m with
    | none => rfl
    | some m => cases opd (O.to a) k with
      | none => rfl
      | some k => cases opd (O.to a) v <;> rfl
  case call c =>
    unfold eCall
    cases c.callee with
    | value x => rfl
    | invoke r m => rfl
    | builtin b =>
      simp only [Clo.run_on, Clo.run_mk, opdsK_run]
      cases opds (O.to a) c.args.toList with
      | none => rfl
      | some l => exact eRf_eq _ _
end
end
end Go.Proofs.YtkeckbmhaplkpaaGreatDoor.Ln
/- The fast evaluator: steps, regions in one order and in any. -/
namespace Go.Proofs.YtkeckbmhaplkpaaGreatDoor.Ln
open Go
noncomputable section

abbrev FF := Nat → List MV → KV → G
/-- A table of functions, with what follows handed on. -/
def cps (f : Nat → List MV → Heap → Nat → An) : FF := fun g args k h n => obR (f g args h n) k
/-- What follows a text, by the way it is left. -/
def disp (o : Option X) (kE : Nat → Fr → G) (kR kN : Fr → G) : An := match o with
  | none => none
  | some ⟨.normal, t⟩ => kN t.a t.h t.n
  | some ⟨.exit i, t⟩ => kE i t.a t.h t.n
  | some ⟨.ret, t⟩ => kR t.a t.h t.n
section
variable {F : Type} (O : FrOps F)

/-! ### Steps -/
def putKK (dst : Option Nat) : Clo (F → MV → (F → G) → G) := match dst with
  | none => .mk fun a _ k => k a
  | some d => O.set d
theorem putKK_run {β : Type} (o : Oper) (a : F) (v : MV) (K : Fr → G) (h : Heap) (n : Nat) (k : Fr → Option β) (q : Option β → An) (hK : ∀ b, K b h n = q (k b)) : (putKK O o.dst).run a v (fun a => K (O.to a)) h n = q (putK (O.to a) o v k) := by
  unfold putKK putK
  cases o.dst with
  | none => exact hK _
  | some d =>
    simp only [force_eq]
    rw [O.set_run, PT.setK_eq]
    exact hK _
def callK (c : Call) (x : Operand) : Clo (FF → OpK F) := match x with
  | .func g => (opdsK O c.args.toList).on fun as => .mk fun f a k => as a fun l => f g l k
  | x => (opdsK O c.args.toList).on fun as => (opdK O x).on fun x => .mk fun f a k => x a fun v => eFunc v fun g first cap => as a fun l => f g (lapp first (lapp l cap)) k
theorem callK_run (s : Fns) (c : Call) (x : Operand) (a : F) (k : KV) (h : Heap) (n : Nat) : (callK O c x).run (cps s.f) a k h n = obR (callR s (O.to a) h n c (opd (O.to a) x)) k := by
  have gen : ∀ x, ((opdsK O c.args.toList).on fun as => (opdK O x).on fun x => Clo.mk fun (f : FF) a k => x a fun v => eFunc v fun g first cap => as a fun l => f g (lapp first (lapp l cap)) k).run (cps s.f) a k h n = obR (callR s (O.to a) h n c (opd (O.to a) x)) k := by
    intro x
    simp only [Clo.run_on, Clo.run_mk, opdK_run, opdsK_run]
    unfold callR callArgs
    cases opd (O.to a) x with
    | none => rfl
    | some v =>
      cases v <;> try rfl
      rename_i g first cap
      show ob (opds (O.to a) c.args.toList) _ h n = _
      cases opds (O.to a) c.args.toList with
      | none => rfl
      | some l => simp only [ob_some, lappK_eq, lapp_eq]; rfl
  unfold callK
  split
  · rename_i g
    rw [Clo.run_on, Clo.run_mk, opdsK_run]
    unfold callR callArgs
    show _ = obR (match opds (O.to a) c.args.toList with | none => none | some l => lappK l [] fun l => lappK [] l fun l => s.f g l h n) k
    cases opds (O.to a) c.args.toList with
    | none => rfl
    | some l => simp only [ob_some, lappK_eq, List.nil_append, List.append_nil]; rfl
  · exact gen x
abbrev StK (F : Type) := FF → (F → G) → F → G
def sStepK (T : Types) (o : Oper) : Clo (StK F) := match cls o.op with
  | .pure => (pureK O T o.op).on fun p => (putKK O o.dst).on fun q => .mk fun _ k a => p a fun v => q a v k
  | .call c x => (callK O c x).on fun p => (putKK O o.dst).on fun q => .mk fun f k a => p f a fun v => q a v k
  | .fresh => (effK O T o.op).on fun p => (putKK O o.dst).on fun q => .mk fun _ k a => p a fun v => q a v k
  | .eff => (effK O T o.op).on fun p => (putKK O o.dst).on fun q => .mk fun _ k a => p a fun v => q a v k
section
variable (T : Types) (s : Fns) (kE : Nat → Fr → G) (kR kN : Fr → G)
theorem obR_put (o : Oper) (a : F) (r : Option R) (Q : St → Option X) : (obR r fun v => (putKK O o.dst).run a v fun a h n => disp (Q ⟨O.to a, h, n⟩) kE kR kN) = disp (kPutR (O.to a) o r fun a h n => Q ⟨a, h, n⟩) kE kR kN := by
  cases r with
  | none => rfl
  | some r => exact putKK_run O o a r.v (fun b h n => disp (Q ⟨b, h, n⟩) kE kR kN) r.h r.n (fun b => Q ⟨b, r.h, r.n⟩) (fun x => disp x kE kR kN) fun b => rfl
theorem sStepK_run (o : Oper) (a : F) (h : Heap) (n : Nat) (Q : St → Option X) : (sStepK O T o).run (cps s.f) (fun a h n => disp (Q ⟨O.to a, h, n⟩) kE kR kN) a h n = disp (sStep T s o ⟨O.to a, h, n⟩ Q) kE kR kN := by
  unfold sStepK sStep
  generalize cls o.op = c
  cases c <;> simp only [Clo.run_on, Clo.run_mk]
  · rw [pureK_run]
    unfold kPut
    cases pureOp T (O.to a) h o.op with
    | none => rfl
    | some v => exact putKK_run O o a v (fun b h n => disp (Q ⟨b, h, n⟩) kE kR kN) h n (fun b => Q ⟨b, h, n⟩) (fun x => disp x kE kR kN) fun b => rfl
  · rw [effK_run]; exact obR_put O kE kR kN o a _ Q
  · rw [effK_run]; exact obR_put O kE kR kN o a _ Q
  · rw [callK_run]; exact obR_put O kE kR kN o a _ Q
end
def guardK (all : List Oper) (g : Nat × Bool) : Clo (F → G → G → G) := match lget all g.1 with
  | none => .mk fun _ _ _ => nG
  | some oj => match oj.dst with
    | none => .mk fun _ _ _ => nG
    | some d => match g.2 with
      | true => (O.get d).on fun f => .mk fun a t e => f a fun v => eWantT v t e
      | false => (O.get d).on fun f => .mk fun a t e => f a fun v => eWantF v t e
theorem guardK_run (all : List Oper) (o : Oper) (g : Nat × Bool) (hg : o.guard = some g) (a : F) (t e : G) : (guardK O all g).run a t e = (match wants (O.to a) all o with | none => nG | some true => t | some false => e) := by
  unfold guardK wants
  rw [hg]
  simp only
  cases lget all g.1 with
  | none => rfl
  | some oj =>
    simp only
    cases oj.dst with
    | none => rfl
    | some d =>
      simp only
      cases g.2
      · simp only [Clo.run_on, Clo.run_mk, O.get_run]
        cases PT.get (O.to a) d with
        | none => rfl
        | some v =>
          cases v <;> try rfl
          rename_i b
          cases b <;> rfl
      · simp only [Clo.run_on, Clo.run_mk, O.get_run]
        cases PT.get (O.to a) d with
        | none => rfl
        | some v =>
          cases v <;> try rfl
          rename_i b
          cases b <;> rfl
def sOperK (T : Types) (all : List Oper) (o : Oper) : Clo (StK F) := match o.guard with
  | none => sStepK O T o
  | some g => (sStepK O T o).on fun st => (guardK O all g).on fun w => (putKK O o.dst).on fun q => .mk fun f k a => w a (st f k a) (q a .undef k)
section
variable (T : Types) (s : Fns) (kE : Nat → Fr → G) (kR kN : Fr → G)
theorem sOperK_run (all : List Oper) (o : Oper) (a : F) (h : Heap) (n : Nat) (Q : St → Option X) : (sOperK O T all o).run (cps s.f) (fun a h n => disp (Q ⟨O.to a, h, n⟩) kE kR kN) a h n = disp (sWant T s (wants (O.to a) all o) o ⟨O.to a, h, n⟩ Q) kE kR kN := by
  unfold sOperK
  split
  · rename_i hg
    rw [sStepK_run]
    simp only [wants, hg, sWant]
  · rename_i g hg
    rw [Clo.run_on, Clo.run_on, Clo.run_on, Clo.run_mk, guardK_run O all o g hg]
    unfold sWant
    cases wants (O.to a) all o with
    | none => rfl
    | some b =>
      cases b
      · exact putKK_run O o a .undef (fun b h n => disp (Q ⟨b, h, n⟩) kE kR kN) h n (fun b => Q ⟨b, h, n⟩) (fun x => disp x kE kR kN) fun b => rfl
      · exact sStepK_run O T s kE kR kN o a h n Q
def sOpsK (T : Types) (all l : List Oper) : Clo (StK F) :=
  List.rec (motive := fun _ => Clo (StK F)) (.mk fun _ k => k) (fun o _ ih => (sOperK O T all o).on fun p => ih.on fun q => .mk fun f k => p f (q f k)) l
theorem sOpsK_cons (all : List Oper) (o : Oper) (l : List Oper) : sOpsK O T all (o :: l) = (sOperK O T all o).on fun p => (sOpsK O T all l).on fun q => .mk fun f k => p f (q f k) := rfl
theorem sOpsK_run (all l : List Oper) : (sOpsK O T all l).run (cps s.f) (fun a => kN (O.to a)) = fun a h n => disp (sOps T s all l ⟨O.to a, h, n⟩) kE kR kN := by
  induction l with
  | nil => rfl
  | cons o l ih =>
    funext a h n
    rw [sOpsK_cons, Clo.run_on, Clo.run_on, Clo.run_mk, ih]
    exact sOperK_run O T s kE kR kN all o a h n (sOps T s all l)
end

/-! ### Regions in any order -/
structure RdF (F : Type) where
  a : F
  op : Op
  v : MV
  lo : Nat
  hi : Nat
def RdF.to (r : RdF F) : Rd := ⟨O.to r.a, r.op, r.v, r.lo, r.hi⟩
abbrev KD (F : Type) := F → List Pd → List Heap → List (RdF F) → G
def relF (mask : Nat) (ps : List Pd) : (List Pd → G) → G :=
  @List.rec Pd (fun _ => (List Pd → G) → G) (fun k => k [])
    (fun p _ ih k => @Bool.rec (fun _ => G) (ih fun ps => k (p :: ps)) (hset p.y p.o (ih k)) (bitOf mask p.i)) ps
theorem relF_eq {β : Type} (q : Option β → An) (n mask : Nat) (ps : List Pd) : ∀ (h : Heap) (K : List Pd → G) (f : Heap → List Pd → Option β), (∀ h ps, K ps h n = q (f h ps)) → relF mask ps K h n = q (relK mask ps h f) := by
  induction ps with
  | nil => intro h K f hK; exact hK _ _
  | cons p ps ih =>
    intro h K f hK
    show @Bool.rec (fun _ => G) (relF mask ps fun ps => K (p :: ps)) (hset p.y p.o (relF mask ps K)) (bitOf mask p.i) h n = q (relPut (bitOf mask p.i) p h (fun h => relK mask ps h f) (relK mask ps h fun h ps => f h (p :: ps)))
    cases bitOf mask p.i
    · exact ih _ _ _ fun h ps => hK _ _
    · show hset p.y p.o _ h n = q (h.setK p.y p.o fun h => relK mask ps h f)
      rw [hset_eq, PT.setK_eq]
      exact ih _ _ _ hK
def relAllF (ps : List Pd) : G → G :=
  @List.rec Pd (fun _ => G → G) (fun k => k) (fun p _ ih k => hset p.y p.o (ih k)) ps
theorem relAllF_eq {β : Type} (q : Option β → An) (n : Nat) (ps : List Pd) : ∀ (h : Heap) (K : G) (f : Heap → Option β), (∀ h, K h n = q (f h)) → relAllF ps K h n = q (relAllK ps h f) := by
  induction ps with
  | nil => intro h K f hK; exact hK _
  | cons p ps ih =>
    intro h K f hK
    show hset p.y p.o (relAllF ps K) h n = q (h.setK p.y p.o fun h => relAllK ps h f)
    rw [hset_eq, PT.setK_eq]
    exact ih _ _ _ hK
def chk1K (T : Types) (r : RdF F) (h : Heap) (k : An) : An := (pureK O T r.op).on fun p => p r.a (fun u => brB (mvEq u r.v) (fun _ _ => k) nG) h 0
def chkK (T : Types) (rs : List (RdF F)) (h : Heap) (i : Nat) (k : An) : An :=
  @List.rec (RdF F) (fun _ => An) k (fun r _ ih => @Bool.rec (fun _ => An) ih (chk1K O T r h ih) (Bool.and (Nat.ble r.lo i) (Nat.ble i r.hi))) rs
def chkAllKK (T : Types) (rs : List (RdF F)) (hs : List Heap) (k : An) : Nat → An :=
  @List.rec Heap (fun _ => Nat → An) (fun _ => k) (fun h _ ih i => chkK O T rs h i (ih (Nat.pred i))) hs
def brA (b : Bool) (k : An) : An := @Bool.rec (fun _ => An) none k b
theorem brA_and (a b : Bool) (k : An) : brA (Bool.and a b) k = brA a (brA b k) := by cases a <;> rfl
theorem chk1K_eq (T : Types) (r : RdF F) (h : Heap) (k : An) : chk1K O T r h k = brA (mvIs r.v (pureOp T (O.to r.a) h r.op)) k := by
  unfold chk1K mvIs
  rw [Clo.on_run, pureK_run, ob_G]
  cases pureOp T (O.to r.a) h r.op with
  | none => rfl
  | some u =>
    show brB (mvEq u r.v) (fun _ _ => k) nG h 0 = brA (mvEq u r.v) k
    cases mvEq u r.v <;> rfl
theorem chkK_eq (T : Types) (rs : List (RdF F)) (h : Heap) (i : Nat) (k : An) : chkK O T rs h i k = brA (chk T (rs.map (RdF.to O)) h i) k := by
  induction rs with
  | nil => rfl
  | cons r rs ih =>
    show @Bool.rec (fun _ => An) (chkK O T rs h i k) (chk1K O T r h (chkK O T rs h i k)) (Bool.and (Nat.ble r.lo i) (Nat.ble i r.hi)) = brA (Bool.and (chk1 T (r.to O) h (Bool.and (Nat.ble r.lo i) (Nat.ble i r.hi))) (chk T (rs.map (RdF.to O)) h i)) k
    rw [brA_and, ih]
    cases Bool.and (Nat.ble r.lo i) (Nat.ble i r.hi)
    · rfl
    · exact chk1K_eq O T r h _
theorem chkAllKK_eq (T : Types) (rs : List (RdF F)) (hs : List Heap) (k : An) : ∀ i, chkAllKK O T rs hs k i = brA (chkAll T (rs.map (RdF.to O)) hs i) k := by
  induction hs with
  | nil => intro i; rfl
  | cons h hs ih =>
    intro i
    show chkK O T rs h i (chkAllKK O T rs hs k (Nat.pred i)) = brA (Bool.and (chk T (rs.map (RdF.to O)) h i) (chkAll T (rs.map (RdF.to O)) hs (Nat.pred i))) k
    rw [brA_and, chkK_eq, ih]
theorem chk_nil (T : Types) (hs : List Heap) : ∀ k, chkAll T [] hs k = true := by
  induction hs with
  | nil => intro k; rfl
  | cons h hs ih => intro k; show Bool.and true (chkAll T [] hs (Nat.pred k)) = true; rw [ih]; rfl
def dEndK (T : Types) (kN : F → G) : KD F := fun a ps hs rs h n =>
  @List.rec (RdF F) (fun _ => An → An) (fun k => k) (fun r rs _ k => chkAllKK O T (r :: rs) (h :: hs) k (llen hs)) rs (relAllF ps (kN a) h n)
section
variable (T : Types) (s : Fns) (kE : Nat → Fr → G) (kR kN : Fr → G)
theorem dEndK_eq (a : F) (h : Heap) (n : Nat) (ps : List Pd) (hs : List Heap) (rs : List (RdF F)) : dEndK O T (fun a => kN (O.to a)) a ps hs rs h n = disp (dEnd T ⟨O.to a, h, n, ps, hs, rs.map (RdF.to O)⟩) kE kR kN := by
  have e : relAllF ps (kN (O.to a)) h n = disp (relAllK ps h fun h => some ⟨.normal, ⟨O.to a, h, n⟩⟩) kE kR kN := relAllF_eq (fun x => disp x kE kR kN) n ps h _ (fun h => some ⟨.normal, ⟨O.to a, h, n⟩⟩) fun h => rfl
  unfold dEnd
  simp only
  cases rs with
  | nil =>
    rw [List.map_nil, chk_nil]
    exact e
  | cons r rs =>
    show chkAllKK O T (r :: rs) (h :: hs) _ (llen hs) = _
    rw [chkAllKK_eq, e]
    cases chkAll T ((r :: rs).map (RdF.to O)) (h :: hs) (llen hs) <;> rfl
def dStepK (T : Types) (i : Nat) (o : Oper) (p : Pl) : Clo (FF → KD F → KD F) := match cls o.op with
  | .pure => (pureK O T o.op).on fun g => (putKK O o.dst).on fun q => (match p.rd with
    | none => .mk fun _ k a ps hs rs => g a fun v => q a v fun a => k a ps hs rs
    | some (lo, hi) => .mk fun _ k a ps hs rs => g a fun v => q a v fun a' => k a' ps hs (⟨a, o.op, v, lo, hi⟩ :: rs))
  | .fresh => (effK O T o.op).on fun g => (putKK O o.dst).on fun q => .mk fun _ k a ps hs rs h n => g a (fun v h' n' => hget n (fun b _ _ => q a v (fun a => k a (⟨i, n, b⟩ :: ps) hs rs) h n') h' n') h n
  | .eff => (effK O T o.op).on fun g => (putKK O o.dst).on fun q => .mk fun _ k a ps hs rs h n => relF p.mask ps (fun ps => g a fun v h' n' => @Bool.rec (fun _ => G) nG (q a v fun a => k a ps (h :: hs) rs) (Nat.ble n n') h' n') h n
  | .call c x => (callK O c x).on fun g => (putKK O o.dst).on fun q => .mk fun f k a ps hs rs h n => relF p.mask ps (fun ps => g f a fun v h' n' => @Bool.rec (fun _ => G) nG (q a v fun a => k a ps (h :: hs) rs) (Nat.ble n n') h' n') h n
theorem obR_putN (n : Nat) (o : Oper) (a : F) (r : Option R) (K : F → G) (Q : Fr → Heap → Nat → Option X) (hK : ∀ b h n, K b h n = disp (Q (O.to b) h n) kE kR kN) :
    (obR r fun v h' n' => @Bool.rec (fun _ => G) nG ((putKK O o.dst).run a v K) (Nat.ble n n') h' n') = disp (kPutN n (O.to a) o r Q) kE kR kN := by
  have hK' : K = fun b => (fun c h n => disp (Q c h n) kE kR kN : Fr → G) (O.to b) := by funext b h n; exact hK b h n
  cases r with
  | none => rfl
  | some r =>
    show @Bool.rec (fun _ => G) nG _ (Nat.ble n r.n) r.h r.n = disp (kPutN1 (Nat.ble n r.n) (O.to a) o r Q) kE kR kN
    cases Nat.ble n r.n
    · rfl
    · subst hK'
      exact putKK_run O o a r.v (fun b h n => disp (Q b h n) kE kR kN) r.h r.n (fun b => Q b r.h r.n) (fun x => disp x kE kR kN) fun b => rfl
theorem dStepK_run (i : Nat) (o : Oper) (p : Pl) (a : F) (h : Heap) (n : Nat) (ps : List Pd) (hs : List Heap) (rs : List (RdF F)) (Q : Dt → Option X) :
    (dStepK O T i o p).run (cps s.f) (fun a ps hs rs h n => disp (Q ⟨O.to a, h, n, ps, hs, rs.map (RdF.to O)⟩) kE kR kN) a ps hs rs h n = disp (dStep T s i o p ⟨O.to a, h, n, ps, hs, rs.map (RdF.to O)⟩ Q) kE kR kN := by
  unfold dStepK dStep
  generalize cls o.op = c
  cases c <;> simp only
  · unfold dPure dRead
    obtain ⟨mask, rd⟩ := p
    cases rd with
    | none =>
      simp only [Clo.run_on, Clo.run_mk]
      rw [pureK_run]
      cases pureOp T (O.to a) h o.op with
      | none => rfl
      | some v => exact putKK_run O o a v (fun b h n => disp (Q ⟨b, h, n, ps, hs, rs.map (RdF.to O)⟩) kE kR kN) h n (fun b => Q ⟨b, h, n, ps, hs, rs.map (RdF.to O)⟩) (fun x => disp x kE kR kN) fun b => rfl
    | some r =>
      simp only [Clo.run_on, Clo.run_mk]
      rw [pureK_run]
      cases pureOp T (O.to a) h o.op with
      | none => rfl
      | some v => exact putKK_run O o a v (fun b h n => disp (Q ⟨b, h, n, ps, hs, ⟨O.to a, o.op, v, r.1, r.2⟩ :: rs.map (RdF.to O)⟩) kE kR kN) h n (fun b => Q ⟨b, h, n, ps, hs, ⟨O.to a, o.op, v, r.1, r.2⟩ :: rs.map (RdF.to O)⟩) (fun x => disp x kE kR kN) fun b => rfl
  · simp only [Clo.run_on, Clo.run_mk, effK_run]
    unfold dFresh dFresh1
    cases effOp T (O.to a) h n o.op with
    | none => rfl
    | some r =>
      show hget n _ r.h r.n = _
      rw [hget_eq]
      simp only
      cases r.h.get n with
      | none => rfl
      | some b => exact putKK_run O o a r.v (fun c h' n' => disp (Q ⟨c, h', n', ⟨i, n, b⟩ :: ps, hs, rs.map (RdF.to O)⟩) kE kR kN) h r.n (fun c => Q ⟨c, h, r.n, ⟨i, n, b⟩ :: ps, hs, rs.map (RdF.to O)⟩) (fun x => disp x kE kR kN) fun b => rfl
  · simp only [Clo.run_on, Clo.run_mk]
    refine relF_eq (fun x => disp x kE kR kN) n p.mask ps h _ _ fun h1 ps1 => ?_
    simp only [effK_run]
    exact obR_putN O kE kR kN n o a _ _ (fun a h' n' => Q ⟨a, h', n', ps1, h :: hs, rs.map (RdF.to O)⟩) fun b h n => rfl
  · simp only [Clo.run_on, Clo.run_mk]
    refine relF_eq (fun x => disp x kE kR kN) n p.mask ps h _ _ fun h1 ps1 => ?_
    simp only [callK_run]
    exact obR_putN O kE kR kN n o a _ _ (fun a h' n' => Q ⟨a, h', n', ps1, h :: hs, rs.map (RdF.to O)⟩) fun b h n => rfl
def isEffB (c : Cls) : Bool := match c with | .pure => false | .fresh => false | _ => true
def dNotK (o : Oper) : Clo (KD F → KD F) := match isEffB (cls o.op) with
  | false => (putKK O o.dst).on fun q => .mk fun k a ps hs rs => q a .undef fun a => k a ps hs rs
  | true => (putKK O o.dst).on fun q => .mk fun k a ps hs rs h n => q a .undef (fun a => k a ps (h :: hs) rs) h n
theorem dNotK_run (o : Oper) (a : F) (h : Heap) (n : Nat) (ps : List Pd) (hs : List Heap) (rs : List (RdF F)) (Q : Dt → Option X) :
    (dNotK O o).run (fun a ps hs rs h n => disp (Q ⟨O.to a, h, n, ps, hs, rs.map (RdF.to O)⟩) kE kR kN) a ps hs rs h n = disp (dNot o ⟨O.to a, h, n, ps, hs, rs.map (RdF.to O)⟩ Q) kE kR kN := by
  unfold dNotK dNot
  have k1 := putKK_run O o a .undef (fun b h n => disp (Q ⟨b, h, n, ps, hs, rs.map (RdF.to O)⟩) kE kR kN) h n (fun b => Q ⟨b, h, n, ps, hs, rs.map (RdF.to O)⟩) (fun x => disp x kE kR kN) fun b => rfl
  have k2 := putKK_run O o a .undef (fun b h' n => disp (Q ⟨b, h', n, ps, h :: hs, rs.map (RdF.to O)⟩) kE kR kN) h n (fun b => Q ⟨b, h, n, ps, h :: hs, rs.map (RdF.to O)⟩) (fun x => disp x kE kR kN) fun b => rfl
  cases cls o.op <;> simp only [isEffB, Clo.run_on, Clo.run_mk]
  · exact k1
  · exact k1
  · exact k2
  · exact k2
def dOperK (T : Types) (all : List Oper) (i : Nat) (o : Oper) (p : Pl) : Clo (FF → KD F → KD F) := match o.guard with
  | none => dStepK O T i o p
  | some g => (dStepK O T i o p).on fun st => (guardK O all g).on fun w => (dNotK O o).on fun q => .mk fun f k a ps hs rs => w a (st f k a ps hs rs) (q k a ps hs rs)
theorem dOperK_run (all : List Oper) (i : Nat) (o : Oper) (p : Pl) (a : F) (h : Heap) (n : Nat) (ps : List Pd) (hs : List Heap) (rs : List (RdF F)) (Q : Dt → Option X) :
    (dOperK O T all i o p).run (cps s.f) (fun a ps hs rs h n => disp (Q ⟨O.to a, h, n, ps, hs, rs.map (RdF.to O)⟩) kE kR kN) a ps hs rs h n = disp (dWant T s (wants (O.to a) all o) i o p ⟨O.to a, h, n, ps, hs, rs.map (RdF.to O)⟩ Q) kE kR kN := by
  unfold dOperK
  split
  · rename_i hg
    rw [dStepK_run]
    simp only [wants, hg, dWant]
  · rename_i g hg
    rw [Clo.run_on, Clo.run_on, Clo.run_on, Clo.run_mk, guardK_run O all o g hg]
    unfold dWant
    cases wants (O.to a) all o with
    | none => rfl
    | some b =>
      cases b
      · exact dNotK_run O kE kR kN o a h n ps hs rs Q
      · exact dStepK_run O T s kE kR kN i o p a h n ps hs rs Q
def dOpsK (T : Types) (all l : List Oper) : List Pl → Nat → Clo (FF → (F → G) → KD F) :=
  List.rec (motive := fun _ => List Pl → Nat → Clo (FF → (F → G) → KD F)) (fun _ _ => .mk fun _ k => dEndK O T k)
    (fun o _ ih pl i => List.rec (motive := fun _ => Clo (FF → (F → G) → KD F)) (.mk fun _ _ _ _ _ _ => nG)
      (fun p pl _ => (dOperK O T all i o p).on fun g => (ih pl (Nat.succ i)).on fun q => .mk fun f k => g f (q f k)) pl) l
theorem dOpsK_cons (all : List Oper) (o : Oper) (l : List Oper) (p : Pl) (pl : List Pl) (i : Nat) : dOpsK O T all (o :: l) (p :: pl) i = (dOperK O T all i o p).on fun g => (dOpsK O T all l pl (Nat.succ i)).on fun q => .mk fun f k => g f (q f k) := rfl
theorem dOpsK_run (all l : List Oper) : ∀ (pl : List Pl) (i : Nat), (dOpsK O T all l pl i).run (cps s.f) (fun a => kN (O.to a)) = fun a ps hs rs h n => disp (dOps T s all l pl i ⟨O.to a, h, n, ps, hs, rs.map (RdF.to O)⟩) kE kR kN := by
  induction l with
  | nil => intro pl i; funext a ps hs rs h n; exact dEndK_eq O T kE kR kN a h n ps hs rs
  | cons o l ih =>
    intro pl i
    cases pl with
    | nil => rfl
    | cons p pl =>
      funext a ps hs rs h n
      rw [dOpsK_cons, Clo.run_on, Clo.run_on, Clo.run_mk, ih]
      exact dOperK_run O T s kE kR kN all i o p a h n ps hs rs (dOps T s all l pl (Nat.succ i))
end
end
end
end Go.Proofs.YtkeckbmhaplkpaaGreatDoor.Ln
/- The fast evaluator: texts by their structure, calls; and that it is sound. -/
namespace Go.Proofs.YtkeckbmhaplkpaaGreatDoor.Ln
open Go
variable {Φ : Fact}
noncomputable section

/-! ### Texts by their structure -/
def loopE (b : St → Option X) (n : Nat) : St → Option X := Nat.rec (motive := fun _ => St → Option X) (fun _ => none) (fun _ ih t => kSeq ih (b t)) n
def turns : Nat := 100000
def evC (T : Types) (f : Nat → List MV → Heap → Nat → An) (pl : Plans) : Code → St → Option X
  | .skip => fun t => some ⟨.normal, t⟩
  | .region id ops d => kRegion T ⟨fun _ _ _ => none, f⟩ pl id ops.toList d
  | .seq x y => fun t => kSeq (evC T f pl y) (evC T f pl x t)
  | .cond c x y => fun t => kCond (opd t.a c) (evC T f pl x t) (evC T f pl y t)
  | .block id b => fun t => kBlock id (evC T f pl b t)
  | .loop b => loopE (evC T f pl b) turns
  | .exit id => fun t => some ⟨.exit id, t⟩
  | .ret => fun t => some ⟨.ret, t⟩
  | _ => fun _ => none
section
variable {F : Type} (O : FrOps F)
abbrev KC (F : Type) := FF → (Nat → F → G) → (F → G) → (F → G) → F → G
def opdBK (c : Operand) : Clo (F → G → G → G) := (opdK O c).on fun f => .mk fun a t e => f a fun v => eBool v t e
def codeK (T : Types) (pl : Plans) (c : Code) : Clo (KC F) := Code.rec (motive := fun _ => Clo (KC F))
  (.mk fun _ _ _ kN => kN)
  (fun id ops d => match d with
    | true => (match pl.get id with
      | none => .mk fun _ _ _ _ _ => nG
      | some l => (dOpsK O T ops.toList ops.toList l 0).on fun g => .mk fun f _ _ kN a => g f kN a [] [] [])
    | false => (sOpsK O T ops.toList ops.toList).on fun g => .mk fun f _ _ kN => g f kN)
  (fun _ _ x y => x.on fun x => y.on fun y => .mk fun f kE kR kN => x f kE kR (y f kE kR kN))
  (fun c _ _ x y => (opdBK O c).on fun c => x.on fun x => y.on fun y => .mk fun f kE kR kN a => c a (x f kE kR kN a) (y f kE kR kN a))
  (fun id _ b => b.on fun b => .mk fun f kE kR kN => b f (fun i => @Bool.rec (fun _ => F → G) (kE i) kN (Nat.beq i id)) kR kN)
  (fun _ b => b.on fun b => .mk fun f kE kR _ => @Nat.rec (fun _ => F → G) (fun _ => nG) (fun _ ih => b f kE kR ih) turns)
  (fun _ _ _ _ _ _ => .mk fun _ _ _ _ _ => nG)
  (fun id => .mk fun _ kE _ _ => kE id)
  (fun _ _ => .mk fun _ _ _ _ _ => nG)
  (fun _ => .mk fun _ _ _ _ _ => nG)
  (fun _ => .mk fun _ _ _ _ _ => nG)
  (.mk fun _ _ kR _ => kR)
  (fun _ => .mk fun _ _ _ _ _ => nG) c
theorem disp_seq (q : St → Option X) (r : Option X) (kE : Nat → Fr → G) (kR kN : Fr → G) : disp (kSeq q r) kE kR kN = disp r kE kR fun a h n => disp (q ⟨a, h, n⟩) kE kR kN := by
  cases r with
  | none => rfl
  | some x => obtain ⟨e, t⟩ := x; cases e <;> rfl
theorem disp_block (id : Nat) (r : Option X) (kE : Nat → Fr → G) (kR kN : Fr → G) : disp (kBlock id r) kE kR kN = disp r (fun i => @Bool.rec (fun _ => Fr → G) (kE i) kN (Nat.beq i id)) kR kN := by
  cases r with
  | none => rfl
  | some x =>
    obtain ⟨e, t⟩ := x
    cases e <;> try rfl
    rename_i i
    unfold kBlock
    show disp (match Nat.beq i id with | true => some ⟨.normal, t⟩ | false => some ⟨.exit i, t⟩) kE kR kN = @Bool.rec (fun _ => Fr → G) (kE i) kN (Nat.beq i id) t.a t.h t.n
    cases Nat.beq i id <;> rfl
theorem disp_cond (v : Option MV) (x y : Option X) (kE : Nat → Fr → G) (kR kN : Fr → G) (h : Heap) (n : Nat) : disp (kCond v x y) kE kR kN = ob v (fun v => eBool v (fun _ _ => disp x kE kR kN) (fun _ _ => disp y kE kR kN)) h n := by
  cases v with
  | none => rfl
  | some v =>
    cases v <;> try rfl
    rename_i b
    cases b <;> rfl
theorem eBool_at (v : MV) (t e : G) (h : Heap) (n : Nat) : eBool v t e h n = eBool v (fun _ _ => t h n) (fun _ _ => e h n) h n := by
  cases v <;> try rfl
  rename_i b
  cases b <;> rfl
theorem codeK_run (T : Types) (sf : Nat → List MV → Heap → Nat → An) (pl : Plans) (c : Code) : ∀ (kE : Nat → Fr → G) (kR kN : Fr → G), (codeK O T pl c).run (cps sf) (fun i a => kE i (O.to a)) (fun a => kR (O.to a)) (fun a => kN (O.to a)) = fun a h n => disp (evC T sf pl c ⟨O.to a, h, n⟩) kE kR kN := by
  induction c with
  | skip => intro kE kR kN; rfl
  | region id ops d =>
    intro kE kR kN
    cases d
    · show (Clo.on (sOpsK O T ops.toList ops.toList) fun g => Clo.mk fun (f : FF) (_ : Nat → F → G) (_ kN : F → G) => g f kN).run (cps sf) (fun i a => kE i (O.to a)) (fun a => kR (O.to a)) (fun a => kN (O.to a)) = _
      rw [Clo.run_on, Clo.run_mk]
      exact sOpsK_run O T ⟨fun _ _ _ => none, sf⟩ kE kR kN _ _
    · show (match pl.get id with
        | none => Clo.mk fun (_ : FF) (_ : Nat → F → G) (_ _ : F → G) (_ : F) => nG
        | some l => (dOpsK O T ops.toList ops.toList l 0).on fun g => .mk fun f _ _ kN a => g f kN a [] [] []).run (cps sf) (fun i a => kE i (O.to a)) (fun a => kR (O.to a)) (fun a => kN (O.to a)) = fun a h n => disp (dRegion T ⟨fun _ _ _ => none, sf⟩ ops.toList (pl.get id) ⟨O.to a, h, n⟩) kE kR kN
      cases pl.get id with
      | none => rfl
      | some l =>
        simp only [Clo.run_on, Clo.run_mk]
        have := dOpsK_run O T ⟨fun _ _ _ => none, sf⟩ kE kR kN ops.toList ops.toList l 0
        simp only at this
        rw [this]
        rfl
  | seq x y ihx ihy =>
    intro kE kR kN
    show (Clo.on (codeK O T pl x) fun x => Clo.on (codeK O T pl y) fun y => Clo.mk fun (f : FF) (kE : Nat → F → G) (kR kN : F → G) => x f kE kR (y f kE kR kN)).run (cps sf) (fun i a => kE i (O.to a)) (fun a => kR (O.to a)) (fun a => kN (O.to a)) = _
    rw [Clo.run_on, Clo.run_on, Clo.run_mk, ihy]
    rw [ihx kE kR fun a h n => disp (evC T sf pl y ⟨a, h, n⟩) kE kR kN]
    funext a h n
    exact (disp_seq _ _ _ _ _).symm
  | cond c x y ihx ihy =>
    intro kE kR kN
    show (Clo.on (opdBK O c) fun c => Clo.on (codeK O T pl x) fun x => Clo.on (codeK O T pl y) fun y => Clo.mk fun (f : FF) (kE : Nat → F → G) (kR kN : F → G) (a : F) => c a (x f kE kR kN a) (y f kE kR kN a)).run (cps sf) (fun i a => kE i (O.to a)) (fun a => kR (O.to a)) (fun a => kN (O.to a)) = _
    rw [Clo.run_on, Clo.run_on, Clo.run_on, Clo.run_mk, ihy, ihx]
    funext a h n
    unfold opdBK
    rw [Clo.run_on, Clo.run_mk, opdK_run]
    have e : evC T sf pl (.cond c x y) ⟨O.to a, h, n⟩ = kCond (opd (O.to a) c) (evC T sf pl x ⟨O.to a, h, n⟩) (evC T sf pl y ⟨O.to a, h, n⟩) := rfl
    rw [e, disp_cond _ _ _ _ _ _ h n]
    cases opd (O.to a) c with
    | none => rfl
    | some v => exact eBool_at v _ _ h n
  | block id b ih =>
    intro kE kR kN
    show (Clo.on (codeK O T pl b) fun b => Clo.mk fun (f : FF) (kE : Nat → F → G) (kR kN : F → G) => b f (fun i => @Bool.rec (fun _ => F → G) (kE i) kN (Nat.beq i id)) kR kN).run (cps sf) (fun i a => kE i (O.to a)) (fun a => kR (O.to a)) (fun a => kN (O.to a)) = _
    rw [Clo.run_on, Clo.run_mk]
    have e : (fun i => @Bool.rec (fun _ => F → G) (fun a => kE i (O.to a)) (fun a => kN (O.to a)) (Nat.beq i id)) = fun i a => (fun i => @Bool.rec (fun _ => Fr → G) (kE i) kN (Nat.beq i id)) i (O.to a) := by
      funext i a
      simp only
      cases Nat.beq i id <;> rfl
    rw [e, ih]
    funext a h n
    exact (disp_block _ _ _ _ _).symm
  | loop b ih =>
    intro kE kR kN
    show (Clo.on (codeK O T pl b) fun b => Clo.mk fun (f : FF) (kE : Nat → F → G) (kR _ : F → G) => @Nat.rec (fun _ => F → G) (fun _ => nG) (fun _ ih => b f kE kR ih) turns).run (cps sf) (fun i a => kE i (O.to a)) (fun a => kR (O.to a)) (fun a => kN (O.to a)) = fun a h n => disp (loopE (evC T sf pl b) turns ⟨O.to a, h, n⟩) kE kR kN
    rw [Clo.run_on, Clo.run_mk]
    generalize turns = N
    induction N with
    | zero => rfl
    | succ N ihN =>
      show (codeK O T pl b).run (cps sf) (fun i a => kE i (O.to a)) (fun a => kR (O.to a)) (@Nat.rec (fun _ => F → G) (fun _ => nG) (fun _ ih => (codeK O T pl b).run (cps sf) (fun i a => kE i (O.to a)) (fun a => kR (O.to a)) ih) N) = fun a h n => disp (kSeq (loopE (evC T sf pl b) N) (evC T sf pl b ⟨O.to a, h, n⟩)) kE kR kN
      rw [ihN, ih kE kR fun a h n => disp (loopE (evC T sf pl b) N ⟨a, h, n⟩) kE kR kN]
      funext a h n
      exact (disp_seq _ _ _ _ _).symm
  | rangeFunc f ps x y ihx ihy => intro kE kR kN; rfl
  | exit id => intro kE kR kN; rfl
  | scope b ih => intro kE kR kN; rfl
  | label l => intro kE kR kN; rfl
  | goto l => intro kE kR kN; rfl
  | ret => intro kE kR kN; rfl
  | refuse w => intro kE kR kN; rfl

/-! ### Calls -/
def resVK (T : Types) (x : ResultVar) : Clo (OpK F) := match x with
  | .tmp t => O.get t
  | .cell p t => (O.get p).on fun f => (ldK T t).on fun g => .mk fun a k => f a fun p => g p k
theorem resVK_run (T : Types) (x : ResultVar) (a : F) (k : KV) (h : Heap) (n : Nat) : (resVK O T x).run a k h n = ob (resV T (O.to a) h x) k h n := by
  cases x with
  | tmp t => simp only [resVK, resV, O.get_run]
  | cell p t =>
    simp only [resVK, resV, Clo.run_on, Clo.run_mk, O.get_run]
    cases PT.get (O.to a) p with
    | none => rfl
    | some p => exact ldK_run T t p k h n
def ressK (T : Types) (l : List ResultVar) : Clo (F → KL → G) :=
  List.rec (motive := fun _ => Clo (F → KL → G)) (.mk fun _ k => k [])
    (fun x _ ih => (resVK O T x).on fun f => ih.on fun g => .mk fun a k => f a fun v => g a fun r => k (v :: r)) l
theorem ressK_cons (T : Types) (x : ResultVar) (l : List ResultVar) : ressK O T (x :: l) = (resVK O T x).on fun f => (ressK O T l).on fun g => .mk fun a k => f a fun v => g a fun r => k (v :: r) := rfl
theorem ressK_run (T : Types) (l : List ResultVar) (a : F) (h : Heap) (n : Nat) : ∀ k, (ressK O T l).run a k h n = ob (ress T (O.to a) h l) k h n := by
  induction l with
  | nil => intro k; rfl
  | cons x l ih =>
    intro k
    show _ = ob (ocons (resV T (O.to a) h x) (ress T (O.to a) h l)) k h n
    rw [ressK_cons, Clo.run_on, Clo.run_on, Clo.run_mk, resVK_run]
    cases resV T (O.to a) h x with
    | none => rfl
    | some v =>
      show (ressK O T l).run a (fun r => k (v :: r)) h n = _
      rw [ih]
      cases ress T (O.to a) h l <;> rfl
def oneVK (l : List MV) (k : KV) : G := @List.rec MV (fun _ => G) (k (.tuple [])) (fun v r _ => @List.rec MV (fun _ => G) (k v) (fun y s _ => k (.tuple (v :: y :: s))) r) l
theorem oneVK_eq (l : List MV) (k : KV) : oneVK l k = k (oneOf l) := by
  cases l with
  | nil => rfl
  | cons v r => cases r <;> rfl
def retK (T : Types) (l : List ResultVar) : Clo (KV → F → G) := match l with
  | [x] => (resVK O T x).on fun g => .mk fun k a => g a k
  | l => (ressK O T l).on fun g => .mk fun k a => g a fun l => oneVK l k
theorem retK_run (T : Types) (l : List ResultVar) (k : KV) (a : F) (h : Heap) (n : Nat) : (retK O T l).run k a h n = obR (kRes1 h n (ress T (O.to a) h l)) k := by
  unfold retK
  split
  · rename_i x
    rw [Clo.run_on, Clo.run_mk, resVK_run]
    show _ = obR (kRes1 h n (ocons (resV T (O.to a) h x) (some []))) k
    cases resV T (O.to a) h x <;> rfl
  · simp only [Clo.run_on, Clo.run_mk, ressK_run, oneVK_eq]
    cases ress T (O.to a) h l <;> rfl
/-- The frame's first slots. -/
def slowArgs (i : Nat) (l : List MV) (a : F) (k : F → G) : G := @List.rec MV (fun _ => Nat → F → (F → G) → G) (fun _ a k => k a) (fun v _ ih i a k => (O.set i).on fun s => s a v fun a => ih (Nat.succ i) a k) l i a k
def argsC (m : Nat) : Nat → Clo (List MV → F → (F → G) → G) := Nat.rec (motive := fun _ => Nat → Clo (List MV → F → (F → G) → G)) (fun i => .mk fun l a k => slowArgs O i l a k)
  (fun _ ih i => (O.set i).on fun s => (ih (Nat.succ i)).on fun g => .mk (@List.rec MV (fun _ => F → (F → G) → G) (fun a k => k a) (fun v r _ a k => s a v fun a => g r a k))) m
theorem argsC_succ (m i : Nat) : argsC O (m + 1) i = (O.set i).on fun s => (argsC O m (Nat.succ i)).on fun g => .mk (@List.rec MV (fun _ => F → (F → G) → G) (fun a k => k a) (fun v r _ a k => s a v fun a => g r a k)) := rfl
theorem slowArgs_eq (l : List MV) : ∀ (i : Nat) (a : F) (K : Fr → G) (h : Heap) (n : Nat), slowArgs O i l a (fun a => K (O.to a)) h n = argsK l i (O.to a) fun a => K a h n := by
  induction l with
  | nil => intro i a K h n; rfl
  | cons v r ih =>
    intro i a K h n
    show (O.set i).on (fun s => s a v fun a => slowArgs O (Nat.succ i) r a fun a => K (O.to a)) h n = (O.to a).setK i v fun a => argsK r (Nat.succ i) a fun a => K a h n
    rw [Clo.on_run, PT.setK_eq]
    have e : (fun a => slowArgs O (Nat.succ i) r a fun a => K (O.to a)) = fun a => (fun (b : Fr) (h : Heap) (n : Nat) => argsK r (Nat.succ i) b fun a => K a h n) (O.to a) := by
      funext a h n
      exact ih _ _ _ _ _
    rw [e]
    exact congrFun (congrFun (O.set_run i a v (fun (b : Fr) h n => argsK r (Nat.succ i) b fun a => K a h n)) h) n
theorem argsC_run (m : Nat) : ∀ (i : Nat) (l : List MV) (a : F) (K : Fr → G) (h : Heap) (n : Nat), (argsC O m i).run l a (fun a => K (O.to a)) h n = argsK l i (O.to a) fun a => K a h n := by
  induction m with
  | zero => intro i l a K h n; exact slowArgs_eq O l i a K h n
  | succ m ih =>
    intro i l a K h n
    rw [argsC_succ, Clo.run_on, Clo.run_on]
    cases l with
    | nil => rfl
    | cons v r =>
      show (O.set i).run a v (fun a => (argsC O m (Nat.succ i)).run r a fun a => K (O.to a)) h n = (O.to a).setK i v fun a => argsK r (Nat.succ i) a fun a => K a h n
      rw [PT.setK_eq]
      have e : (fun a => (argsC O m (Nat.succ i)).run r a fun a => K (O.to a)) = fun a => (fun (b : Fr) (h : Heap) (n : Nat) => argsK r (Nat.succ i) b fun a => K a h n) (O.to a) := by
        funext a h n
        exact ih _ _ _ _ _ _
      rw [e]
      exact congrFun (congrFun (O.set_run i a v (fun (b : Fr) h n => argsK r (Nat.succ i) b fun a => K a h n)) h) n
abbrev KFn := FF → List MV → KV → G
def funO (T : Types) (fx : FX) (b : Code) : Clo KFn := (argsC O 8 0).on fun as => (retK O T fx.fn.results.toList).on fun rs => (codeK O T fx.plans b).on fun c => .mk fun f args k => as args O.init fun a => c f (fun _ _ => nG) (rs k) (rs k) a
theorem argsK_ob {β : Type} (q : Option β → An) (l : List MV) : ∀ (i : Nat) (a : Fr) (k : Fr → Option β), argsK l i a (fun a => q (k a)) = q (argsK l i a k) := by
  induction l with
  | nil => intro i a k; rfl
  | cons v r ih =>
    intro i a k
    show a.setK i v (fun a => argsK r (Nat.succ i) a fun a => q (k a)) = q (a.setK i v fun a => argsK r (Nat.succ i) a k)
    rw [PT.setK_eq, PT.setK_eq]
    exact ih _ _ _
theorem funO_run (T : Types) (sf : Nat → List MV → Heap → Nat → An) (fx : FX) (b : Code) (hb : fx.fn.body = some b) (args : List MV) (k : KV) (h : Heap) (n : Nat) :
    (funO O T fx b).run (cps sf) args k h n = obR (kFunc T ⟨evC T sf, sf⟩ args h n (some fx)) k := by
  unfold funO kFunc
  simp only [hb, Clo.run_on, Clo.run_mk]
  have e : (fun a => (codeK O T fx.plans b).run (cps sf) (fun _ _ => nG) ((retK O T fx.fn.results.toList).run k) ((retK O T fx.fn.results.toList).run k) a) =
      fun a => (fun (c : Fr) (h : Heap) (n : Nat) => obR (kRes T fx.fn (evC T sf fx.plans b ⟨c, h, n⟩)) k) (O.to a) := by
    have er : (retK O T fx.fn.results.toList).run k = fun a => (fun (c : Fr) (h : Heap) (n : Nat) => obR (kRes1 h n (ress T c h fx.fn.results.toList)) k) (O.to a) := by
      funext a h n
      exact retK_run O T _ k a h n
    funext a h n
    rw [er]
    have := congrFun (congrFun (congrFun (codeK_run O T sf fx.plans b (fun _ _ => nG) (fun c h n => obR (kRes1 h n (ress T c h fx.fn.results.toList)) k) (fun c h n => obR (kRes1 h n (ress T c h fx.fn.results.toList)) k)) a) h) n
    refine this.trans ?_
    show disp (evC T sf fx.plans b ⟨O.to a, h, n⟩) _ _ _ = obR (kRes T fx.fn (evC T sf fx.plans b ⟨O.to a, h, n⟩)) k
    cases evC T sf fx.plans b ⟨O.to a, h, n⟩ with
    | none => rfl
    | some x =>
      obtain ⟨e, t⟩ := x
      cases e <;> rfl
  rw [e]
  refine (argsC_run O 8 0 args O.init (fun (c : Fr) (h : Heap) (n : Nat) => obR (kRes T fx.fn (evC T sf fx.plans b ⟨c, h, n⟩)) k) h n).trans ?_
  rw [O.to_init]
  exact argsK_ob (fun x => obR x k) args 0 frame0 fun a => kRes T fx.fn (evC T sf fx.plans b ⟨a, h, n⟩)
end
def funK (T : Types) (fx : Option FX) : Clo KFn := match fx with
  | none => .mk fun _ _ _ => nG
  | some fx => match fx.fn.body with
    | none => .mk fun _ _ _ => nG
    | some b => match Nat.ble fx.fn.ntmps 32 with
      | true => funO F32.ops T fx b
      | false => match Nat.ble fx.fn.ntmps 64 with
        | true => funO F64.ops T fx b
        | false => funO W256.ops T fx b
theorem funK_run (T : Types) (sf : Nat → List MV → Heap → Nat → An) (fx : Option FX) (args : List MV) (k : KV) (h : Heap) (n : Nat) :
    (funK T fx).run (cps sf) args k h n = obR (kFunc T ⟨evC T sf, sf⟩ args h n fx) k := by
  unfold funK
  cases fx with
  | none => rfl
  | some fx =>
    simp only
    cases hb : fx.fn.body with
    | none => simp only [kFunc, hb]; rfl
    | some b =>
      simp only
      cases Nat.ble fx.fn.ntmps 32
      · cases Nat.ble fx.fn.ntmps 64
        · exact funO_run W256.ops T sf fx b hb args k h n
        · exact funO_run F64.ops T sf fx b hb args k h n
      · exact funO_run F32.ops T sf fx b hb args k h n
/-- A function answered by other means: how it runs (of its text's run), what it answers (none: what its text does). -/
structure Orac where
  run : (List MV → KV → G) → List MV → KV → G
  ans : List MV → Heap → Nat → Option An
  eq : ∀ fb args k h n, run fb args k h n = match ans args h n with | none => fb args k h n | some r => obR r k
def Orac.of (g : List MV → Heap → Nat → Option An) : Orac where
  run := fun fb args k h n => @Option.rec An (fun _ => An) (fb args k h n) (fun r => obR r k) (g args h n)
  ans := g
  eq fb args k h n := by cases g args h n <;> rfl
abbrev OT := PT Orac
def orcOf (t : OT) : Orc := fun f args h n => match t.get f with
  | none => none
  | some o => o.ans args h n
def fnK (T : Types) (F : PT FX) (t : OT) (g : Nat) : Clo KFn := match t.get g with
  | none => funK T (F.get g)
  | some o => match o with
    | ⟨run, _, _⟩ => (funK T (F.get g)).on fun c => .mk fun f args k => run (c f) args k
def depth : Nat := 1000
def kf (T : Types) (F : PT FX) (t : OT) (N : Nat) : FF := @Nat.rec (fun _ => FF) (fun _ _ _ => nG) (fun _ s g args k => (fnK T F t g).on fun c => c s args k) N
def sf (T : Types) (F : PT FX) (t : OT) (N : Nat) : Nat → List MV → Heap → Nat → An := @Nat.rec (fun _ => Nat → List MV → Heap → Nat → An) (fun _ _ _ _ => none)
  (fun _ s g args h n => kOrc T F ⟨evC T s, s⟩ g args h n (orcOf t g args h n)) N
theorem kf_eq (T : Types) (F : PT FX) (t : OT) (N : Nat) : kf T F t N = cps (sf T F t N) := by
  induction N with
  | zero => rfl
  | succ N ih =>
    funext g args k h n
    show (fnK T F t g).on (fun c => c (kf T F t N) args k) h n = obR (kOrc T F ⟨evC T (sf T F t N), sf T F t N⟩ g args h n (orcOf t g args h n)) k
    rw [Clo.on_run, ih]
    unfold fnK orcOf kOrc
    cases t.get g with
    | none => exact funK_run T _ _ args k h n
    | some o =>
      obtain ⟨run, ans, eq⟩ := o
      simp only [Clo.run_on, Clo.run_mk]
      rw [eq]
      cases ans args h n with
      | none => exact funK_run T _ _ args k h n
      | some r => rfl

/-! ### It is sound -/
variable {P : Program} {T : Types} {F : PT FX} {t : OT}
/-- A text's evaluation is sound. -/
def SndC (Φ : Fact) (P : Program) (T : Types) (pl : Plans) (c : Code) (g : St → Option X) : Prop := ∀ t x, g t = some x → ∀ m, Fit Φ P T m pl c → ∀ D θ w A Q, Inv Φ D t.n θ t.h w → FrOk D θ t.a A m →
  (∀ e A' w', Post D t.n θ t.h w m x e A' w' → Q e A' w') → c.wp P Q A w
open Classical in
/-- Of some texts alone. -/
def some1 (f : Nat → List MV → Heap → Nat → An) (pl : Plans) (q : Code → Option (St → Option X)) : Fns := ⟨fun pl' c t => if pl' = pl then (match q c with | some g => g t | none => none) else none, f⟩
theorem some1_c (f : Nat → List MV → Heap → Nat → An) (pl : Plans) (q : Code → Option (St → Option X)) (c : Code) (g : St → Option X) (h : q c = some g) : (some1 f pl q).c pl c = g := by
  funext t
  simp only [some1, if_pos, h]
theorem some1_sound {f : Nat → List MV → Heap → Nat → An} {pl : Plans} {q : Code → Option (St → Option X)} (h : ∀ c g, q c = some g → SndC Φ P T pl c g) : SoundC Φ P T (some1 f pl q) := by
  intro pl' c t x e
  simp only [some1] at e
  split at e
  · rename_i hp
    subst hp
    split at e
    · rename_i g hg
      exact h c g hg t x e
    · cases e
  · cases e
open Classical in
theorem evC_sound (hT : TyOk P T) {f : Nat → List MV → Heap → Nat → An} (hf : SoundF Φ P ⟨fun _ _ _ => none, f⟩) (pl : Plans) (c : Code) : SndC Φ P T pl c (evC T f pl c) := by
  have hn : SoundC Φ P T ⟨fun _ _ _ => none, f⟩ := fun pl c t x e => by cases e
  induction c with
  | skip => exact code_step hT hn hf pl .skip (by intro b h; cases h)
  | region id ops d => exact code_step hT hn hf pl (.region id ops d) (by intro b h; cases h)
  | seq x y ihx ihy =>
    let q : Code → Option (St → Option X) := fun c => if c = x then some (evC T f pl x) else if c = y then some (evC T f pl y) else none
    have hs : SoundC Φ P T (some1 f pl q) := some1_sound fun c g h => by
      simp only [q] at h
      split at h
      · rename_i hc; obtain rfl := Option.some.inj h; rw [hc]; exact ihx
      · split at h
        · rename_i hc; obtain rfl := Option.some.inj h; rw [hc]; exact ihy
        · cases h
    have ex : (some1 f pl q).c pl x = evC T f pl x := some1_c f pl q x _ (by simp only [q, if_true])
    have ey : (some1 f pl q).c pl y = evC T f pl y := by
      by_cases h : y = x
      · rw [h]; exact ex
      · exact some1_c f pl q y _ (by simp only [q, if_neg h, if_true])
    intro t z e
    refine code_step hT hs hf pl (.seq x y) (by intro b h; cases h) t z ?_
    show kSeq ((some1 f pl q).c pl y) ((some1 f pl q).c pl x t) = some z
    rw [ex, ey]; exact e
  | cond c x y ihx ihy =>
    let q : Code → Option (St → Option X) := fun c => if c = x then some (evC T f pl x) else if c = y then some (evC T f pl y) else none
    have hs : SoundC Φ P T (some1 f pl q) := some1_sound fun c g h => by
      simp only [q] at h
      split at h
      · rename_i hc; obtain rfl := Option.some.inj h; rw [hc]; exact ihx
      · split at h
        · rename_i hc; obtain rfl := Option.some.inj h; rw [hc]; exact ihy
        · cases h
    have ex : (some1 f pl q).c pl x = evC T f pl x := some1_c f pl q x _ (by simp only [q, if_true])
    have ey : (some1 f pl q).c pl y = evC T f pl y := by
      by_cases h : y = x
      · rw [h]; exact ex
      · exact some1_c f pl q y _ (by simp only [q, if_neg h, if_true])
    intro t z e
    refine code_step hT hs hf pl (.cond c x y) (by intro b h; cases h) t z ?_
    show kCond (opd t.a c) ((some1 f pl q).c pl x t) ((some1 f pl q).c pl y t) = some z
    rw [ex, ey]; exact e
  | block id b ih =>
    let q : Code → Option (St → Option X) := fun c => if c = b then some (evC T f pl b) else none
    have hs : SoundC Φ P T (some1 f pl q) := some1_sound fun c g h => by
      simp only [q] at h
      split at h
      · rename_i hc; obtain rfl := Option.some.inj h; rw [hc]; exact ih
      · cases h
    have eb : (some1 f pl q).c pl b = evC T f pl b := some1_c f pl q b _ (by simp only [q, if_true])
    intro t z e
    refine code_step hT hs hf pl (.block id b) (by intro b h; cases h) t z ?_
    show kBlock id ((some1 f pl q).c pl b t) = some z
    rw [eb]; exact e
  | loop b ih =>
    intro t x e m hfit D θ w A Q hi hfr hQ
    change loopE (evC T f pl b) turns t = some x at e
    generalize turns = N at e
    refine wp_loop_ghost (fun k A' w' => k ≤ N ∧ ∃ t' θ', loopE (evC T f pl b) k t' = some x ∧ Leads D t.n θ t.h w t'.n θ' t'.h w' ∧ FrOk (Up D t.n t'.n) θ' t'.a A' m) N ?_ ?_
    · have hup : (Up D t.n t.n) = D := funext fun y => propext (up_self y)
      exact ⟨Nat.le_refl _, t, θ, e, Leads.refl hi.rel hi.ok, by rw [hup]; exact hfr⟩
    · rintro k A' w' ⟨hk, t', θ', e', l, fr⟩
      cases k with
      | zero => cases e'
      | succ k =>
        change kSeq (loopE (evC T f pl b) k) (evC T f pl b t') = some x at e'
        obtain ⟨p, h1, h2⟩ := kSeq_some e'
        refine ih t' p h1 m hfit _ θ' w' A' _ (l.inv hi) fr ?_
        refine then_of (h2.imp And.left id) (fun e A' w' q => hQ e A' w' (q.lead l)) fun hn A1 w1 θ1 l1 f1 => ?_
        rcases h2 with ⟨_, h3⟩ | ⟨h3, _⟩
        · refine ⟨k, by omega, by omega, p.s, θ1, h3, l.trans l1, ?_⟩
          have : (Up (Up D t.n t'.n) t'.n p.s.n) = Up D t.n p.s.n := funext fun y => propext (up_up l.le l1.le y)
          rw [← this]; exact f1
        · exact absurd hn h3
  | rangeFunc g ps x y ihx ihy => intro t z e; cases e
  | exit id => exact code_step hT hn hf pl (.exit id) (by intro b h; cases h)
  | scope b ih => intro t z e; cases e
  | label l => intro t z e; cases e
  | goto l => intro t z e; cases e
  | ret => exact code_step hT hn hf pl .ret (by intro b h; cases h)
  | refuse w => intro t z e; cases e
theorem sf_sound (hT : TyOk P T) (hF : FxOk Φ P T F) (hO : OrcOk Φ P (orcOf t)) (N : Nat) : SoundF Φ P ⟨fun _ _ _ => none, sf T F t N⟩ := by
  induction N with
  | zero => intro f args h n r e; cases e
  | succ N ih => exact fn_step hT hF hO (s := ⟨evC T (sf T F t N), sf T F t N⟩) fun pl c t x e => evC_sound hT ih pl c t x e
end
end Go.Proofs.YtkeckbmhaplkpaaGreatDoor.Ln
