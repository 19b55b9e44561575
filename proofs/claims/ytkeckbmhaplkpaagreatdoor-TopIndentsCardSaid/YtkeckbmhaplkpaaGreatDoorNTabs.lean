/- The tables hold of the program; a call's contract by the fast evaluator. -/
import Derived.Test.YtkeckbmhaplkpaaGreatDoorNTyp
import Derived.Test.YtkeckbmhaplkpaaGreatDoorNFun
import Derived.Test.YtkeckbmhaplkpaaGreatDoorNGb
import Derived.Test.YtkeckbmhaplkpaaGreatDoorNEvC
namespace Go.Proofs.YtkeckbmhaplkpaaGreatDoor.Ln
open Go
variable {Φ : Fact}
noncomputable section

theorem tyOk : TyOk Tryz.prog T0 := tyOk_of fun e he => (tisAll.mem e he).1.ok (tisAll.mem e he).2
theorem fxOk : FxOk Φ Tryz.prog T0 F0 := fxOk_of tyOk (by kernel_rfl) fxsAll.mem
def hasF (f : Nat) : Bool := match F0.get f with
  | none => false
  | some fx => match fx.fn.body with | none => false | some _ => true
theorem hasF_ok {f : Nat} (h : hasF f = true) : ∃ fx b, F0.get f = some fx ∧ fx.fn.body = some b := by
  unfold hasF at h
  split at h
  · cases h
  · rename_i fx h1
    split at h
    · cases h
    · rename_i b h2
      exact ⟨fx, b, h1, h2⟩
theorem isSome_ok {α : Type} {o : Option α} (h : o.isSome = true) : ∃ x, o = some x := Option.isSome_iff_exists.1 h
end
end Go.Proofs.YtkeckbmhaplkpaaGreatDoor.Ln
/- What some functions answer of texts not known: the definitions. -/
namespace Go.Proofs.YtkeckbmhaplkpaaGreatDoor.Ln
open Go
noncomputable section

/-! ### tally.Of, Tally.Plus, tally.Upto -/
def numMV (n : Nat) : MV := .int .i64 (.ofNat n)
/-- How many bytes, breaks, runes, units. -/
structure Cnt where
  bs : Nat
  br : Nat
  ru : Nat
  un : Nat
def addB (b : Bool) (n : Nat) : Nat := @Bool.rec (fun _ => Nat) n (Nat.succ n) b
def runeB (b : Nat) : Bool := Bool.or (Nat.ble b 127) (Nat.ble 192 b)
def longB (b : Nat) : Bool := Bool.and (Nat.ble 240 b) (lit b)
def cntOf (l : List Nat) : Cnt → (Cnt → Option An) → Option An := @List.rec Nat (fun _ => Cnt → (Cnt → Option An) → Option An) (fun c k => k c)
  (fun b _ ih c k => fnat (addB (Nat.beq b 10) c.br) fun br => fnat (addB (runeB b) c.ru) fun ru => fnat (addB (longB b) (addB (runeB b) c.un)) fun un =>
    ih ⟨Nat.succ c.bs, br, ru, un⟩ k) l
def tlyMV (a b c d : MV) : MV := .agg [a, b, c, d]
/-- How many bytes a text has, as a number; the others are not known. -/
def oOfT (t : Txt) (h : Heap) (n : Nat) : Option An := match Nat.ble t.most 1000 with
  | false => none
  | true => match lenT t with
    | none => none
    | some b => fnat (Nat.succ n) fun n1 => fnat (Nat.succ n1) fun n2 => fnat (Nat.succ n2) fun n3 => some (some ⟨tlyMV b (.num n 10000 0) (.num n1 10000 0) (.num n2 10000 0), h, n3⟩)
def oOf (args : List MV) (h : Heap) (n : Nat) : Option An := match args with
  | [.str l] => (match Nat.ble (llen l) 1000 with
    | true => cntOf l ⟨0, 0, 0, 0⟩ fun c => some (some ⟨tlyMV (numMV c.bs) (numMV c.br) (numMV c.ru) (numMV c.un), h, n⟩)
    | false => none)
  | [.txt t] => oOfT t h n
  | _ => none
/-- Both together: of numbers of bytes. -/
def addMV (x y : MV) : Option MV := match x with
  | .int .i64 (.ofNat a) => (match y with
    | .int .i64 (.ofNat b) => (match Nat.ble (Nat.add a b) 1000000 with | true => fnat (Nat.add a b) fun s => some (numMV s) | false => none)
    | .lin z lo hi c => (match Nat.ble a 1000000 with | true => mkLin z lo hi (Int.add (.ofNat a) c) | false => none)
    | _ => none)
  | .lin z lo hi c => (match y with
    | .int .i64 (.ofNat b) => (match Nat.ble b 1000000 with | true => mkLin z lo hi (Int.add c (.ofNat b)) | false => none)
    | _ => none)
  | _ => none
/-- A number, or one that is not known: less than how much. -/
def capN (v : MV) : Option Nat := match v with
  | .int .i64 (.ofNat a) => some (Nat.succ a)
  | .num _ m c => some (Nat.add m c)
  | _ => none
def isNum (v : MV) : Bool := match v with | .num _ _ _ => true | _ => false
/-- A bound above nought. -/
def okNum (v : MV) : Bool := match v with | .num _ m _ => Nat.ble 1 m | _ => true
/-- Both together: of two numbers that may not be known; by a name. -/
def oSum (x y : MV) (n : Nat) : Option MV := match Bool.and (okNum x) (okNum y) with
  | false => none
  | true => match capN x with
    | none => none
    | some c => match capN y with
      | none => none
      | some d => match Nat.ble (Nat.add c d) 1000000000 with
        | false => none
        | true => match Bool.or (isNum x) (isNum y) with
          | false => fnat (Nat.pred (Nat.pred (Nat.add c d))) fun s => some (numMV s)
          | true => fnat (Nat.add c d) fun q => some (.num n q 0)
def oPlus (args : List MV) (h : Heap) (n : Nat) : Option An := match args with
  | [.agg [a, b, c, d], .agg [a', b', c', d']] => (match addMV a a' with
    | none => none
    | some s => fnat (Nat.succ n) fun n1 => fnat (Nat.succ n1) fun n2 => fnat (Nat.succ n2) fun n3 => match oSum b b' n with
      | none => none
      | some x => match oSum c c' n1 with
        | none => none
        | some y => match oSum d d' n2 with
          | none => none
          | some z => some (some ⟨tlyMV s x y z, h, n3⟩))
  | _ => none
/-- Where the break is that is one too many. -/
def brkAt (l : List Nat) : Nat → Nat → Nat := @List.rec Nat (fun _ => Nat → Nat → Nat) (fun _ i => i)
  (fun b _ ih left i => @Bool.rec (fun _ => Nat) (ih left (Nat.succ i)) (@Bool.rec (fun _ => Nat) (ih (Nat.pred left) (Nat.succ i)) i (Nat.beq left 0)) (Nat.beq b 10)) l
def oUpto (args : List MV) (h : Heap) (n : Nat) : Option An := match args with
  | [.str l, .int .i64 (.ofNat 3), .int .i64 (.ofNat k)] => (match Bool.and (Nat.ble (llen l) 1000) (Nat.ble k 1000000) with
    | true => fnat (brkAt l k 0) fun i => some (some ⟨numMV i, h, n⟩)
    | false => none)
  | _ => none

/-! ### guard, lead.Adapt, lead.Grown -/
def wholeT (y lo hi : Nat) : Txt := ⟨[], y, lo, hi, 0, none⟩
/-- The text, guarded, the unit; the text adapted is 3. -/
def tS : Txt := wholeT 0 1 60
def tG : Txt := wholeT 1 1 120
def tU : Txt := wholeT 2 0 10
def codes (n : Nat) : List Nat := @Nat.rec (fun _ => List Nat → List Nat) (fun r => r) (fun m ih r => ih (Nat.add 256 m :: r)) n []
def oGuard (args : List MV) (h : Heap) (n : Nat) : Option An := match args with
  | [.txt t] => (match txtEq t tS with | true => some (some ⟨.txt tG, h, n⟩) | false => none)
  | _ => none
def isLead (m : Nat) (l : List Nat) (u : Txt) : Bool := Bool.and (strEq l (codes m)) (txtEq u tU)
/-- No break: then the text is itself. -/
def noBrk (l : List Nat) : Bool := @List.rec Nat (fun _ => Bool) true (fun b _ ih => @Bool.rec (fun _ => Bool) ih false (Nat.beq b 10)) l
def oAdL (args : List MV) (h : Heap) (n : Nat) : Option An := match args with
  | [.str s, .str l, .str u] => (match Bool.and (noBrk s) (Bool.and (Nat.ble (llen s) 1000) (Bool.and (Nat.ble (llen l) 1000) (Nat.ble (llen u) 1000))) with
    | true => some (some ⟨.str s, h, n⟩)
    | false => none)
  | _ => none
def oAd (m lo hi : Nat) (args : List MV) (h : Heap) (n : Nat) : Option An := match args with
  | [.txt t, .str l, .txt u] => (match Bool.and (txtEq t tS) (isLead m l u) with | true => some (some ⟨.txt (wholeT 3 lo hi), h, n⟩) | false => none)
  | _ => none
def oAdE (m : Nat) (args : List MV) (h : Heap) (n : Nat) : Option An := match args with
  | [.str [], .str l, .txt u] => (match isLead m l u with | true => some (some ⟨.str [], h, n⟩) | false => none)
  | _ => none
def oGr (m lo hi : Nat) (args : List MV) (h : Heap) (n : Nat) : Option An := match args with
  | [.txt t, .str l, .txt u] => (match Bool.and (txtEq t tS) (isLead m l u) with | true => some (some ⟨.lin 3 lo hi 0, h, n⟩) | false => none)
  | _ => none
def oGrE (m : Nat) (args : List MV) (h : Heap) (n : Nat) : Option An := match args with
  | [.str [], .str l, .txt u] => (match isLead m l u with | true => some (some ⟨numMV 0, h, n⟩) | false => none)
  | _ => none

/-! ### lines.Indent, the snippet's reader -/
/-- Blanks and tabs alone. -/
def blank (l : List Nat) : Bool := @List.rec Nat (fun _ => Bool) true (fun b _ ih => @Bool.rec (fun _ => Bool) false ih (Bool.or (Nat.ble 256 b) (Bool.or (Nat.beq b 32) (Nat.beq b 9)))) l
def okT (v : MV) : Option MV := match v with
  | .tuple [x, .int .i64 (.ofNat 0)] => some x
  | _ => none
def indentEnd (v : MV) (h : Heap) (n : Nat) : An := match okT v with
  | some (.str l) => (match Bool.and (blank l) (Nat.ble (llen l) 1000) with | true => some ⟨.tuple [.str l, numMV 0], h, n⟩ | false => none)
  | _ => none
def obV (x : Option MV) (k : MV → An) : An := match x with | none => none | some v => k v
/-- Indent: where its line begins and ends, and what stands there, by other functions' answers. -/
def indentR (f : Nat → List MV → Heap → Nat → An) (r : MV) (h : Heap) (n : Nat) : An :=
  obR (f 139 [.agg [r], numMV 0] h n) fun v h n => obV (okT v) fun a =>
  obR (f 140 [.agg [r], numMV 0] h n) fun v h n => obV (okT v) fun b =>
  obR (f 217 [r, a, b] h n) indentEnd
def indentK (f : FF) (r : MV) (k : KV) : G :=
  f 139 [.agg [r], numMV 0] fun v h n => obV (okT v) fun a =>
  f 140 [.agg [r], numMV 0] (fun v h n => obV (okT v) fun b =>
  f 217 [r, a, b] (fun v h n => obR (indentEnd v h n) k) h n) h n
theorem obR_obR (o : An) (f k : KV) : obR (obR o f) k = obR o fun v h n => obR (f v h n) k := by cases o <;> rfl
theorem obR_obV (o : Option MV) (f : MV → An) (k : KV) : obR (obV o f) k = obV o fun a => obR (f a) k := by cases o <;> rfl
theorem indentK_eq (f : Nat → List MV → Heap → Nat → An) (r : MV) (k : KV) (h : Heap) (n : Nat) : indentK (cps f) r k h n = obR (indentR f r h n) k := by
  unfold indentK indentR cps
  simp only [obR_obR, obR_obV]
def isPtr (v : MV) : Bool := match v with | .ptr _ _ => true | _ => false
def indentA (args : List MV) : Option MV := match args with
  | [.agg [r], .int .i64 (.ofNat 0)] => (match isPtr r with | true => some r | false => none)
  | _ => none
/-- The reader's text is the guarded one, at its beginning. -/
def readsG (o : Option MObj) : Bool := match o with
  | some (.cells [.txt t, .int .i64 (.ofNat 0), _] none) => txtEq t tG
  | _ => false
def partsA (args : List MV) (h : Heap) : Option Nat := match args with
  | [.ptr y 0, .bool false] => (match readsG (h.get y) with | true => some y | false => none)
  | _ => none
end
end Go.Proofs.YtkeckbmhaplkpaaGreatDoor.Ln
/- Frames as tables, of which some slots may not be known. -/
namespace Go.Proofs.YtkeckbmhaplkpaaGreatDoor.Ln
open Go Go.RowKit
noncomputable section

/-! ### Frames as tables -/
def getT (d : Nat) : Nat → Clo (Fr → KV → G) :=
  Nat.rec (motive := fun _ => Nat → Clo (Fr → KV → G)) (fun n => .mk fun t k => ob (PT.get t n) k)
    (fun _ ih n => @Bool.rec (fun _ => Clo (Fr → KV → G))
      (@Bool.rec (fun _ => Clo (Fr → KV → G))
        ((ih (Nat.shiftRight (Nat.pred n) 1)).on fun g => .mk (@PT.rec MV (fun _ => KV → G) (fun _ => nG) (fun _ _ r _ _ k => g r k)))
        ((ih (Nat.shiftRight n 1)).on fun g => .mk (@PT.rec MV (fun _ => KV → G) (fun _ => nG) (fun l _ _ _ _ k => g l k)))
        (Nat.beq (Nat.land n 1) 1))
      (.mk (@PT.rec MV (fun _ => KV → G) (fun _ => nG) (fun _ v _ _ _ k => @Option.rec MV (fun _ => G) nG k v)))
      (Nat.beq n 0)) d
def setT (d : Nat) : Nat → Clo (Fr → MV → (Fr → G) → G) :=
  Nat.rec (motive := fun _ => Nat → Clo (Fr → MV → (Fr → G) → G)) (fun n => .mk fun t x k => PT.setK t n x k)
    (fun _ ih n => @Bool.rec (fun _ => Clo (Fr → MV → (Fr → G) → G))
      (@Bool.rec (fun _ => Clo (Fr → MV → (Fr → G) → G))
        ((ih (Nat.shiftRight (Nat.pred n) 1)).on fun g => .mk (@PT.rec MV (fun _ => MV → (Fr → G) → G) (fun _ k => k .lf) (fun l v r _ _ x k => g r x fun r' => k (.nd l v r'))))
        ((ih (Nat.shiftRight n 1)).on fun g => .mk (@PT.rec MV (fun _ => MV → (Fr → G) → G) (fun _ k => k .lf) (fun l v r _ _ x k => g l x fun l' => k (.nd l' v r))))
        (Nat.beq (Nat.land n 1) 1))
      (.mk (@PT.rec MV (fun _ => MV → (Fr → G) → G) (fun _ k => k .lf) (fun l _ r _ _ x k => k (.nd l (some x) r))))
      (Nat.beq n 0)) d
theorem getT_run (d : Nat) : ∀ (n : Nat) (t : Fr) (k : KV), (getT d n).run t k = ob (t.get n) k := by
  induction d with
  | zero => intro n t k; rfl
  | succ d ih =>
    intro n t k
    show Clo.run (@Bool.rec (fun _ => Clo (Fr → KV → G)) (@Bool.rec (fun _ => Clo (Fr → KV → G)) ((getT d _).on _) ((getT d _).on _) _) _ _) t k = _
    cases t with
    | lf =>
      cases Nat.beq n 0
      · cases Nat.beq (Nat.land n 1) 1
        · simp only [Clo.run_on]; rfl
        · simp only [Clo.run_on]; rfl
      · rfl
    | nd l v r =>
      rw [PT.get_nd]
      cases Nat.beq n 0
      · cases Nat.beq (Nat.land n 1) 1
        · simp only [Clo.run_on]; exact ih _ r k
        · simp only [Clo.run_on]; exact ih _ l k
      · rfl
theorem setT_run (d : Nat) : ∀ (n : Nat) (t : Fr) (x : MV) (k : Fr → G), (setT d n).run t x k = k (t.set n x) := by
  induction d with
  | zero => intro n t x k; exact PT.setK_eq t n x _
  | succ d ih =>
    intro n t x k
    show Clo.run (@Bool.rec (fun _ => Clo (Fr → MV → (Fr → G) → G)) (@Bool.rec (fun _ => Clo (Fr → MV → (Fr → G) → G)) ((setT d _).on _) ((setT d _).on _) _) _ _) t x k = _
    cases t with
    | lf =>
      cases Nat.beq n 0
      · cases Nat.beq (Nat.land n 1) 1
        · simp only [Clo.run_on]; rfl
        · simp only [Clo.run_on]; rfl
      · rfl
    | nd l v r =>
      rw [PT.set_nd]
      cases Nat.beq n 0
      · cases Nat.beq (Nat.land n 1) 1
        · simp only [Clo.run_on]; exact ih _ r x _
        · simp only [Clo.run_on]; exact ih _ l x _
      · rfl
def tOps : FrOps Fr where
  get := getT 12
  set := setT 12
  init := frame0
  to := fun a => a
  get_run := getT_run 12
  set_run := setT_run 12
  to_init := rfl

/-! ### Ends -/
def d0 : R := ⟨.undef, .lf, 0⟩
def finT (nx : An) : KV := fun v _ _ => eBool v (fun _ _ => nx) nG .lf 0
theorem finT_ok {v : MV} {h : Heap} {n : Nat} {nx : An} {r : R} (e : finT nx v h n = some r) : v = .bool true ∧ nx = some r := by
  unfold finT at e
  cases v <;> try cases e
  rename_i b
  cases b
  · cases e
  · exact ⟨rfl, e⟩
abbrev Any : Fact := fun _ _ => True
theorem inv_nil {Φ : Fact} {θ : Env} (hf : Φ θ.sym θ.txt) (d : Nat) (w : World) : Inv Φ (fun _ => False) 0 θ (PT.fill none d) w := by
  refine ⟨hf, fun y hy => hy.elim, ⟨fun y o e => ?_, fun y z hy => ?_, fun y hy => ?_⟩, fun y o e => ?_⟩
  · rw [get_none] at e; cases e
  · obtain ⟨o, e, _⟩ := hy; rw [get_none] at e; cases e
  · obtain ⟨o, e, _⟩ := hy; rw [get_none] at e; cases e
  · rw [get_none] at e; cases e
theorem below_of {θ θ' : Env} {d n' : Nat} {D : Nat → Prop} {n : Nat} {h' : Heap} {w w' : World} (l : Leads D n θ (PT.fill none d) w n' θ' h' w') : Below w.heap.size w w' :=
  ⟨l.os, l.tape, l.output, l.size, fun k hk => l.kept k hk fun y hy => by obtain ⟨o, e, _⟩ := hy; rw [get_none] at e; cases e⟩
theorem sf_calls {Φ : Fact} {t : OT} (hO : OrcOk Φ Tryz.prog (orcOf t)) {f : Nat} (hf : hasF f = true) {args : List MV} {h : Heap} {n : Nat} {r : R} (e : sf T0 F0 t depth f args h n = some r) {D : Nat → Prop} {θ : Env} {w : World} (hi : Inv Φ D n θ h w) (ha : oks D args) :
    (callFunc f (reals θ args).toArray).run Tryz.prog w = .ok (.enter f (reals θ args).toArray) w ∧ Calls Tryz.prog f (reals θ args).toArray w (Ret D n θ h w r) := by
  obtain ⟨fx, b, h1, h2⟩ := hasF_ok hf
  obtain ⟨g1, g2, _⟩ := fxOk (Φ := Φ) f fx h1
  rcases sf_sound tyOk fxOk hO depth f args h n r e D θ w hi ha with h3 | ⟨θ', w', x, h3, h4, _⟩
  · exact h3
  · rw [enter_fn g1 g2 h2] at h3
    injection h3 with h5 h6
    subst h5
    rcases h4 with h4 | ⟨h4, _⟩ <;> cases h4
end
end Go.Proofs.YtkeckbmhaplkpaaGreatDoor.Ln
