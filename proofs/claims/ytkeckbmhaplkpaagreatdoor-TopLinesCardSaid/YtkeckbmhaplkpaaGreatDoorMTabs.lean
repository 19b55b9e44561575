/- The tables hold of the program; a call's contract by the fast evaluator. -/
import Derived.Test.YtkeckbmhaplkpaaGreatDoorMTyp
import Derived.Test.YtkeckbmhaplkpaaGreatDoorMFun
import Derived.Test.YtkeckbmhaplkpaaGreatDoorMGb
namespace Go.Proofs.YtkeckbmhaplkpaaGreatDoor.Ln
open Go
variable {Φ : Fact}
noncomputable section

theorem tyOk : TyOk Tryz.prog T0 := tyOk_of fun e he => (tisAll.mem e he).1.ok (tisAll.mem e he).2
theorem fxOk : FxOk Φ Tryz.prog T0 F0 := fxOk_of tyOk (by kernel_rfl) fxsAll.mem
def hasF (f : Nat) : Bool := match F0.get f with
  | none => false
  | some fx => match fx.fn.body with | none => false | some _ => true
theorem hasF_ok {f : Nat} (h : hasF f = true) : ∃ fx b, F0.get f = some fx ∧ fx.fn.body = some b := by
  unfold hasF at h
  split at h
  · cases h
  · rename_i fx h1
    split at h
    · cases h
    · rename_i b h2
      exact ⟨fx, b, h1, h2⟩
theorem isSome_ok {α : Type} {o : Option α} (h : o.isSome = true) : ∃ x, o = some x := Option.isSome_iff_exists.1 h
/-- A call by the fast evaluator, all of its answer told. -/
def okC (t : OT) (f : Nat) (args : List MV) (h : Heap) (n : Nat) (v : MV) (g : Heap) (n' : Nat) : Bool := okR (kf T0 F0 t depth f args (fun v h n => some ⟨v, h, n⟩) (fillT h 19) n) v g n'
theorem obR_some (o : An) : obR o (fun v h n => some ⟨v, h, n⟩) = o := by cases o <;> rfl
theorem con_of {t : OT} (hO : OrcOk Φ Tryz.prog (orcOf t)) {f : Nat} (hf : hasF f = true) {args : List MV} {h : Heap} {n : Nat} {v : MV} {g : Heap} {n' : Nat}
    (e : okC t f args h n v g n' = true) : Con Φ Tryz.prog f args h n ⟨v, g, n'⟩ := by
  unfold okC at e
  rw [kf_eq] at e
  change okR (obR (sf T0 F0 t depth f args (fillT h 19) n) fun v h n => some ⟨v, h, n⟩) v g n' = true at e
  rw [obR_some] at e
  obtain ⟨fx, b, h1, h2⟩ := hasF_ok hf
  exact Con.of (s := ⟨fun _ _ _ => none, sf T0 F0 t depth⟩) fxOk (sf_sound tyOk fxOk hO depth) h1 h2 e
end
end Go.Proofs.YtkeckbmhaplkpaaGreatDoor.Ln
/- What some functions answer of texts whose bytes are not all known: the definitions. -/
namespace Go.Proofs.YtkeckbmhaplkpaaGreatDoor.Ln
open Go
noncomputable section

/-! ### tally.Of, Tally.Plus, tally.Upto -/
def numMV (n : Nat) : MV := .int .i64 (.ofNat n)
/-- How many bytes, breaks, runes, units; are all bytes known? -/
structure Cnt where
  bs : Nat
  br : Nat
  ru : Nat
  un : Nat
  all : Bool
def addB (b : Bool) (n : Nat) : Nat := @Bool.rec (fun _ => Nat) n (Nat.succ n) b
def cntOf (l : List Nat) : Cnt → (Cnt → Option An) → Option An := @List.rec Nat (fun _ => Cnt → (Cnt → Option An) → Option An) (fun c k => k c)
  (fun b _ ih c k => fnat (addB (Nat.beq b 10) c.br) fun br => fnat (addB (Bool.or (Nat.ble b 127) (Nat.ble 192 b)) c.ru) fun ru => fnat (addB (Nat.ble 240 b) (addB (Bool.or (Nat.ble b 127) (Nat.ble 192 b)) c.un)) fun un =>
    ih ⟨Nat.succ c.bs, br, ru, un, Bool.and c.all (lit b)⟩ k) l
def tlyMV (a b c d : MV) : MV := .agg [a, b, c, d]
def ofEnd (h : Heap) (n : Nat) (c : Cnt) : An := match c.all with
  | true => some ⟨tlyMV (numMV c.bs) (numMV c.br) (numMV c.ru) (numMV c.un), h, n⟩
  | false => fnat (Nat.succ n) fun n1 => fnat (Nat.succ n1) fun n2 => some ⟨tlyMV (numMV c.bs) (numMV c.br) (.num n 10000 0) (.num n1 10000 0), h, n2⟩
def oOf (args : List MV) (h : Heap) (n : Nat) : Option An := match args with
  | [.str l] => (match Nat.ble (llen l) 1000 with
    | true => cntOf l ⟨0, 0, 0, 0, true⟩ fun c => some (ofEnd h n c)
    | false => none)
  | _ => none
/-- A number, or one that is not known: less than how much. -/
def capN (v : MV) : Option Nat := match v with
  | .int .i64 (.ofNat a) => some (Nat.succ a)
  | .num _ m c => some (Nat.add m c)
  | _ => none
def isNum (v : MV) : Bool := match v with | .num _ _ _ => true | _ => false
/-- A bound above nought. -/
def okNum (v : MV) : Bool := match v with | .num _ m _ => Nat.ble 1 m | _ => true
def oPlus4 (h : Heap) (n a b : Nat) (c d c' d' : Option Nat) (x y x' y' : MV) : Option An := match c with
  | none => none
  | some c => match d with
    | none => none
    | some d => match c' with
      | none => none
      | some c' => match d' with
        | none => none
        | some d' => match Bool.and (Bool.and (Nat.ble a 1000000000) (Nat.ble b 1000000000)) (Bool.and (Nat.ble (Nat.add c c') 1000000000) (Nat.ble (Nat.add d d') 1000000000)) with
          | false => none
          | true => match Bool.or (Bool.or (isNum x) (isNum y)) (Bool.or (isNum x') (isNum y')) with
            | false => some (some ⟨tlyMV (numMV a) (numMV b) (numMV (Nat.pred (Nat.pred (Nat.add c c')))) (numMV (Nat.pred (Nat.pred (Nat.add d d')))), h, n⟩)
            | true => fnat (Nat.add c c') fun q => fnat (Nat.add d d') fun q' => fnat (Nat.succ n) fun n1 => fnat (Nat.succ n1) fun n2 => some (some ⟨tlyMV (numMV a) (numMV b) (.num n q 0) (.num n1 q' 0), h, n2⟩)
def oPlus (args : List MV) (h : Heap) (n : Nat) : Option An := match args with
  | [.agg [.int .i64 (.ofNat a), .int .i64 (.ofNat b), x, y], .agg [.int .i64 (.ofNat a'), .int .i64 (.ofNat b'), x', y']] =>
    fnat (Nat.add a a') fun s => fnat (Nat.add b b') fun t => (match Bool.and (Bool.and (okNum x) (okNum y)) (Bool.and (okNum x') (okNum y')) with
      | true => oPlus4 h n s t (capN x) (capN y) (capN x') (capN y') x y x' y'
      | false => none)
  | _ => none
/-- Where the break is that is one too many. -/
def brkAt (l : List Nat) : Nat → Nat → Nat := @List.rec Nat (fun _ => Nat → Nat → Nat) (fun _ i => i)
  (fun b _ ih left i => @Bool.rec (fun _ => Nat) (ih left (Nat.succ i)) (@Bool.rec (fun _ => Nat) (ih (Nat.pred left) (Nat.succ i)) i (Nat.beq left 0)) (Nat.beq b 10)) l
def oUpto (args : List MV) (h : Heap) (n : Nat) : Option An := match args with
  | [.str l, .int .i64 (.ofNat 3), .int .i64 (.ofNat k)] => (match Bool.and (Nat.ble (llen l) 1000) (Nat.ble k 1000000) with
    | true => fnat (brkAt l k 0) fun i => some (some ⟨numMV i, h, n⟩)
    | false => none)
  | _ => none

/-! ### vars.word, editor.turn -/
/-- Is a byte not known? -/
def symIn (l : List Nat) : Bool := @List.rec Nat (fun _ => Bool) false (fun b _ ih => @Bool.rec (fun _ => Bool) true ih (lit b)) l
/-- The word at a text's beginning, where not all bytes are known and the first is b0: is it one of a word? -/
def oWord (b0 : Nat) (kw : Bool) (args : List MV) (h : Heap) (n : Nat) : Option An := match args with
  | [.str (b :: l), .int .i64 (.ofNat 0)] => (match Bool.and (Nat.beq b b0) (Bool.and (symIn (b :: l)) (Nat.ble (llen l) 1000)) with
    | true => (match kw with
      | true => fnat (Nat.succ n) fun n1 => some (some ⟨.ustr n, h, n1⟩)
      | false => fnat (Nat.add n 5) fun n5 => some (some ⟨.str [], h, n5⟩))
    | false => none)
  | _ => none
/-- How many bytes both end with, at most m; none: that hangs on bytes not known. -/
def endStop (b : Option Bool) (r : Option An) : Option An := match b with
  | some false => r
  | _ => none
def endK (a : List Nat) : List Nat → Nat → Nat → (Nat → Option An) → Option An := @List.rec Nat (fun _ => List Nat → Nat → Nat → (Nat → Option An) → Option An) (fun _ _ i k => k i)
  (fun x _ ih b m i k => @List.rec Nat (fun _ => Option An) (k i) (fun y s _ => @Bool.rec (fun _ => Option An)
    (@Bool.rec (fun _ => Option An) (endStop (byteEq x y) (k i)) (fnat (Nat.succ i) fun i => ih s (Nat.pred m) i k) (Nat.beq x y)) (k i) (Nat.beq m 0)) b) a
def lrev (l : List Nat) : List Nat → List Nat := @List.rec Nat (fun _ => List Nat → List Nat) (fun r => r) (fun x _ ih r => ih (x :: r)) l
def lmin (a b : Nat) : Nat := @Bool.rec (fun _ => Nat) b a (Nat.ble a b)
def editMV (a b : Nat) (l : List Nat) : MV := .agg [numMV a, numMV b, .str l]
def ltakeN (l : List Nat) (n : Nat) (k : List Nat → Option An) : Option An := ltakeK l n k
/-- Are two bytes the same, where the first ones that are not known are as told? -/
def codeEq (fr : List Nat) (x y : Nat) : Bool := @Bool.rec (fun _ => Bool) (match Nat.ble 256 y with | true => (match lget fr (Nat.sub y 256) with | some b => Nat.beq x b | none => false) | false => false) true (Nat.beq x y)
def textEq (fr : List Nat) (a : List Nat) : List Nat → Bool := @List.rec Nat (fun _ => List Nat → Bool) (fun b => match b with | [] => true | _ => false) (fun x _ ih b => match b with | [] => false | y :: s => @Bool.rec (fun _ => Bool) false (ih s) (codeEq fr x y)) a
/-- Do two texts part at c, where the c-th byte that is not known is not ne? -/
def partAt (c : Nat) (ne : Option Nat) (x y : Option Nat) : Bool := match x with
  | none => true
  | some x => match y with
    | none => true
    | some y => match byteEq x y with
      | some false => true
      | _ => match ne with
        | none => false
        | some d => Bool.and (Nat.beq x (Nat.add 256 c)) (Bool.and (Nat.beq y d) (lit d))
def turnEnd (c burn : Nat) (was now : List Nat) (h : Heap) (n p q : Nat) : Option An := endK (lrev was []) (lrev now []) (lmin (Nat.sub p c) (Nat.sub q c)) 0 fun e =>
  fnat (Nat.sub p e) fun t => ltakeN (ldrop now c) (Nat.sub (Nat.sub q e) c) fun r => fnat (Nat.add n burn) fun n' => some (some ⟨editMV c t r, h, n'⟩)
def headSym (l : List Nat) : Bool := match l with | [] => false | b :: _ => Bool.not (lit b)
/-- c: as many bytes as both begin with; g: where a byte must stand that is not known. -/
def oTurn (fr : List Nat) (c : Nat) (ne : Option Nat) (burn g : Nat) (args : List MV) (h : Heap) (n : Nat) : Option An := match args with
  | [.str was, .str now] => (match headSym (ldrop was g) with
    | false => none
    | true => match Bool.and (Nat.ble (llen was) 1000) (Nat.ble (llen now) 1000) with
      | false => none
      | true => ltakeN was c fun a => ltakeN now c fun b => match Bool.and (textEq fr b a) (partAt c ne (lget was c) (lget now c)) with
        | false => none
        | true => fnat (llen was) fun p => fnat (llen now) fun q => turnEnd c burn was now h n p q)
  | _ => none
end
end Go.Proofs.YtkeckbmhaplkpaaGreatDoor.Ln
