/- The tables of functions answered by other means, and that they hold. -/
import Derived.Test.YtkeckbmhaplkpaaGreatDoorNLo
import Derived.Test.YtkeckbmhaplkpaaGreatDoorNOk
import Derived.Test.YtkeckbmhaplkpaaGreatDoorNTabs
import Derived.Test.YtkeckbmhaplkpaaGreatDoorNIn
import Derived.Test.YtkeckbmhaplkpaaGreatDoorNPa
namespace Go.Proofs.YtkeckbmhaplkpaaGreatDoor.Ln
open Go Go.RowKit
variable {Φ : Fact}
noncomputable section

/-! ### Tables -/
theorem orc_nil (d : Nat) : OrcOk Φ Tryz.prog (orcOf (PT.fill none d)) := by
  intro f args h n r e
  unfold orcOf at e
  rw [get_none] at e
  cases e
theorem orc_set {t : OT} (ht : OrcOk Φ Tryz.prog (orcOf t)) {m : Nat} {o : Orac} (ho : ∀ args h n r, o.ans args h n = some (some r) → FnOk Φ Tryz.prog m args h n r) : OrcOk Φ Tryz.prog (orcOf (t.set m o)) := by
  intro f args h n r e
  unfold orcOf at e
  split at e
  · cases e
  · rename_i o' h1
    rcases PT.get_set h1 with ⟨rfl, rfl⟩ | ⟨_, h2⟩
    · exact ho args h n r e
    · refine ht f args h n r ?_
      unfold orcOf
      rw [h2]
      exact e
def oSrt (args : List MV) (h : Heap) (n : Nat) : Option An := some (oSorted args h n)
def tB : OT := (((((PT.fill none 10).set 127 (.of oSrt)).set 15 (.of oAdL)).set 244 (.of oOf)).set 297 (.of oPlus)).set 250 (.of oUpto)
theorem tB_ok : OrcOk Φ Tryz.prog (orcOf tB) :=
  orc_set (orc_set (orc_set (orc_set (orc_set (orc_nil 10) fun _ _ _ _ e => sorted_ok (Option.some.inj e)) fun _ _ _ _ e => adL_ok e) fun _ _ _ _ e => of_ok e) fun _ _ _ _ e => plus_ok e) fun _ _ _ _ e => upto_ok e

/-! ### Indent -/
def oIndent : Orac where
  run := fun fb args k h n => @Option.rec MV (fun _ => An) (fb args k h n) (fun r => indentK (kf T0 F0 tB depth) r k h n) (indentA args)
  ans := fun args h n => match indentA args with | none => none | some r => some (indentR (sf T0 F0 tB depth) r h n)
  eq fb args k h n := by
    rw [kf_eq]
    cases indentA args with
    | none => rfl
    | some r => exact indentK_eq _ r k h n
theorem obR_some {o : An} {k : KV} {r : R} (e : obR o k = some r) : ∃ x, o = some x ∧ k x.v x.h x.n = some r := by
  cases o with
  | none => cases e
  | some x => exact ⟨x, rfl, e⟩
theorem obV_some {o : Option MV} {k : MV → An} {r : R} (e : obV o k = some r) : ∃ x, o = some x ∧ k x = some r := by
  cases o with
  | none => cases e
  | some x => exact ⟨x, rfl, e⟩
theorem okT_ok {v x : MV} (e : okT v = some x) : v = .tuple [x, .int .i64 (.ofNat 0)] := by
  unfold okT at e
  split at e
  · obtain rfl := Option.some.inj e; rfl
  · cases e
theorem blank_ok (θ : Env) {l : List Nat} (h : blank l = true) : ∀ c ∈ l.map θ.byte, c = 32 ∨ c = 9 := by
  induction l with
  | nil => simp
  | cons b l ih =>
    change @Bool.rec (fun _ => Bool) false (blank l) (Bool.or (Nat.ble 256 b) (Bool.or (Nat.beq b 32) (Nat.beq b 9))) = true at h
    intro c hc
    rw [List.map_cons, List.mem_cons] at hc
    cases hb : Bool.or (Nat.ble 256 b) (Bool.or (Nat.beq b 32) (Nat.beq b 9))
    · rw [hb] at h; cases h
    · rw [hb] at h
      rcases hc with rfl | hc
      · simp only [Bool.or_eq_true] at hb
        rcases hb with hb | hb | hb
        · have h3 := natBle' hb
          unfold Env.byte
          rw [if_neg (by omega)]
          exact (θ.thick _).symm
        · rw [Nat.eq_of_beq_eq_true hb]; exact .inl rfl
        · rw [Nat.eq_of_beq_eq_true hb]; exact .inr rfl
      · exact ih h c hc
theorem hasF_some {f : Nat} : hasF f = true → hasF f = true := id
/-- A block that is no name's stays as it is. -/
theorem kept_box {D : Nat → Prop} {n n' : Nat} {θ θ' : Env} {h h' : Heap} {w w' : World} (l : Leads D n θ h w n' θ' h' w') {b : Nat} {o : Obj} (hb : w.heap[b]? = some o) (hne : ∀ y, Live h y → θ.blk y ≠ b) : w'.heap[b]? = some o := by
  rw [l.kept b ?_ hne]
  · exact hb
  · rcases Nat.lt_or_ge b w.heap.size with h5 | h5
    · exact h5
    · rw [Array.getElem?_eq_none h5] at hb; cases hb
theorem far_on {D : Nat → Prop} {n n' : Nat} {θ θ' : Env} {h h' : Heap} {w w' : World} (l : Leads D n θ h w n' θ' h' w') {b : Nat} (hb : b < w.heap.size) (hne : ∀ y, Live h y → θ.blk y ≠ b) : ∀ y, Live h' y → θ'.blk y ≠ b := by
  intro y hy e
  rcases l.born y hy with ⟨z, hz, e'⟩ | hge
  · exact hne z hz (e'.trans e)
  · omega
theorem indent_ok {args : List MV} {h : Heap} {n : Nat} {r : R} (e : oIndent.ans args h n = some (some r)) : FnOk Φ Tryz.prog 162 args h n r := by
  change (match indentA args with | none => none | some r => some (indentR (sf T0 F0 tB depth) r h n)) = some (some r) at e
  split at e
  · cases e
  rename_i p hp
  unfold indentA at hp
  split at hp
  · rename_i q
    split at hp
    · rename_i hq
      obtain rfl := Option.some.inj hp
      unfold isPtr at hq
      split at hq
      · rename_i y o
        have E0 := Option.some.inj e
        unfold indentR at E0
        obtain ⟨⟨v1, h1, n1⟩, e1, E1⟩ := obR_some E0
        obtain ⟨a, ea, E2⟩ := obV_some E1
        obtain ⟨⟨v2, h2, n2⟩, e2, E3⟩ := obR_some E2
        obtain ⟨b, eb, E4⟩ := obV_some E3
        obtain ⟨⟨v3, h3, n3⟩, e3, E5⟩ := obR_some E4
        obtain rfl := okT_ok ea
        obtain rfl := okT_ok eb
        clear e E0 E1 E2 E3 E4 ea eb
        simp only at e1 e2 e3 E5
        unfold indentEnd at E5
        split at E5
        · rename_i l hl
          obtain rfl := okT_ok hl
          split at E5
          · rename_i hbl
            simp only [Bool.and_eq_true] at hbl
            have hlen := natBle' hbl.2
            rw [llen_eq] at hlen
            replace hlen : l.length ≤ 1048576 := by omega
            replace hbl := hbl.1
            obtain rfl := Option.some.inj E5
            intro D θ w iv ha
            simp only [oks, MV.ok] at ha
            have hy : D y := ha.1.1.1
            refine .inl ⟨enter_fn Tryz.func162 (by kernel_rfl) (by rfl) _ w, ?_⟩
            have er : (reals θ [.agg [.ptr y o], .int .i64 (.ofNat 0)]).toArray = #[.agg #[.pointer (some ⟨θ.blk y, θ.off y + o, none⟩)], .int .i64 0] := by
              simp only [reals, MV.real]; rfl
            rw [er]
            have hbk := blank_ok θ hbl
            refine In.indent_walk _ ⟨(l.map θ.byte).toArray⟩ (fun k hk => hbk _ ?_) ?_ w _ fun w0 hb0 hx0 => ?_
            · have : (⟨(l.map θ.byte).toArray⟩ : ByteArray)[k] = (l.map θ.byte)[k]'(by rw [byte_size] at hk; simpa using hk) := rfl
              rw [this]
              exact List.getElem_mem _
            · rw [byte_size]; exact hlen
            · have iv0 : Inv Φ D n θ h w0 := by
                have := (leads_below iv hb0).inv iv
                rwa [show (Up D n n) = D from funext fun y => propext (up_self y)] at this
              have hsz : w.heap.size < w0.heap.size := by
                rcases Nat.lt_or_ge w.heap.size w0.heap.size with h5 | h5
                · exact h5
                · rw [Array.getElem?_eq_none h5] at hx0; cases hx0
              have far0 : ∀ z, Live h z → θ.blk z ≠ w.heap.size := fun z hz => by have := iv.rel.lt z hz; omega
              have c1 := (sf_calls (Φ := Φ) tB_ok (by kernel_rfl) e1 iv0 (by simp only [oks, MV.ok, numMV]; exact ⟨⟨⟨hy, trivial⟩, by simp [MV.one]⟩, trivial, trivial⟩)).2
              refine (?_ : Calls Tryz.prog 139 _ w0 _)
              have er1 : (reals θ [.agg [.ptr y o], numMV 0]).toArray = #[.agg #[.pointer (some ⟨θ.blk y, θ.off y + o, none⟩)], .int .i64 0] := by
                simp only [reals, MV.real, numMV]; rfl
              rw [er1] at c1
              refine c1.mono ?_
              rintro ex w1 ⟨θ1, rfl, l1, o1⟩
              simp only [MV.ok, oks] at o1
              refine ⟨a.real θ1, by simp only [MV.real, reals]; rfl, kept_box l1 hx0 far0, ?_⟩
              have iv1 := l1.inv iv0
              have far1 := far_on l1 hsz far0
              have hyn := iv.lt y hy
              have k1 := l1.same y hyn
              have c2 := (sf_calls (Φ := Φ) tB_ok (by kernel_rfl) e2 iv1 (by simp only [oks, MV.ok, numMV]; exact ⟨⟨⟨.inl hy, trivial⟩, by simp [MV.one]⟩, trivial, trivial⟩)).2
              have er2 : (reals θ1 [.agg [.ptr y o], numMV 0]).toArray = #[.agg #[.pointer (some ⟨θ.blk y, θ.off y + o, none⟩)], .int .i64 0] := by
                simp only [reals, MV.real, numMV, k1.1, k1.2.1]; rfl
              rw [er2] at c2
              refine c2.mono ?_
              rintro ex w2 ⟨θ2, rfl, l2, o2⟩
              simp only [MV.ok, oks] at o2
              have hx1 := kept_box l1 hx0 far0
              refine ⟨b.real θ2, by simp only [MV.real, reals]; rfl, kept_box l2 hx1 far1, ?_⟩
              have iv2 := l2.inv iv1
              have k2 := l2.same y (Nat.lt_of_lt_of_le hyn l1.le)
              have oa : a.real θ2 = a.real θ1 := MV.real_same (l2.same.mono fun z hz => iv1.lt z hz) o1.1
              have c3 := (sf_calls (Φ := Φ) tB_ok (by kernel_rfl) e3 iv2 (by simp only [oks, MV.ok]; exact ⟨.inl (.inl hy), MV.ok_mono up_mono o1.1, o2.1, trivial⟩)).2
              have er3 : (reals θ2 [.ptr y o, a, b]).toArray = #[.pointer (some ⟨θ.blk y, θ.off y + o, none⟩), a.real θ1, b.real θ2] := by
                simp only [reals, MV.real, k1.1, k1.2.1, k2.1, k2.2.1, oa]
              rw [er3] at c3
              refine c3.mono ?_
              rintro ex w3 ⟨θ3, rfl, l3, o3⟩
              have es : (MV.str l).real θ3 = .string ⟨(l.map θ.byte).toArray⟩ := by
                simp only [MV.real]
                rw [l3.same.byte, l2.same.byte, l1.same.byte]
              have ev : (MV.tuple [.str l, .int .i64 (.ofNat 0)]).real θ3 = .tuple #[.string ⟨(l.map θ.byte).toArray⟩, .int .i64 0] := by
                simp only [MV.real, reals] at es ⊢
                rw [es]; rfl
              have lead : Leads D n θ h w n3 θ3 h3 w3 := by
                have la := leads_below iv hb0
                have hup : (Up D n n) = D := funext fun y => propext (up_self y)
                refine la.trans ?_
                rw [hup]
                refine l1.trans (l2.trans ?_)
                exact l3
              refine ⟨by rw [ev], θ3, ?_, lead, by simp [numMV, MV.ok, oks]⟩
              simp only [numMV]
              rw [ev]
          · cases E5
        · cases E5
      · cases hq
    · cases hp
  · cases hp
end
end Go.Proofs.YtkeckbmhaplkpaaGreatDoor.Ln
/- The snippet's reader, answered by other means. -/
namespace Go.Proofs.YtkeckbmhaplkpaaGreatDoor.Ln
open Go Go.RowKit
noncomputable section

/-! ### The reader's parts -/
def aP (y n : Nat) : Fr := ((((PT.fill none 7).set 0 (.ptr y 0)).set 1 (.bool false)).set 6 .nilSlice).set 7 (.tsl n tS)
def prtEnd (a b : Option MV) (h : Heap) (n : Nat) : An := match a with
  | none => none
  | some v => match b with
    | some (.bool true) => some ⟨.tuple [v, .bool true], h, n⟩
    | _ => none
def prtX (x : Option X) : An := match x with
  | some ⟨.ret, s⟩ => prtEnd (s.a.get 4) (s.a.get 5) s.h s.n
  | _ => none
def prtR (y : Nat) (h : Heap) (n : Nat) : An := prtX (evC T0 (sf T0 F0 tB depth) fx96.plans Pa.c96 ⟨aP y n, (h.set y .dead).set n (.trow tS), n + 1⟩)
def prtK (y : Nat) (k : KV) : G := fun h n => h.setK y .dead fun h1 => h1.setK n (.trow tS) fun h2 => (codeK tOps T0 fx96.plans Pa.c96).on fun g => g (kf T0 F0 tB depth) (fun _ _ => nG) (fun a h n => obR (prtEnd (a.get 4) (a.get 5) h n) k) (fun _ => nG) (aP y n) h2 (Nat.succ n)
theorem prtK_eq (y : Nat) (k : KV) (h : Heap) (n : Nat) : prtK y k h n = obR (prtR y h n) k := by
  unfold prtK
  rw [PT.setK_eq, PT.setK_eq, Clo.on_run, kf_eq]
  have e := congrFun (congrFun (congrFun (codeK_run tOps T0 (sf T0 F0 tB depth) fx96.plans Pa.c96 (fun _ _ => nG) (fun a h n => obR (prtEnd (a.get 4) (a.get 5) h n) k) (fun _ => nG)) (aP y n)) ((h.set y .dead).set n (.trow tS))) (Nat.succ n)
  refine e.trans ?_
  show disp (evC T0 (sf T0 F0 tB depth) fx96.plans Pa.c96 ⟨aP y n, (h.set y .dead).set n (.trow tS), n + 1⟩) (fun _ _ => nG) _ (fun _ => nG) = obR (prtX (evC T0 (sf T0 F0 tB depth) fx96.plans Pa.c96 ⟨aP y n, (h.set y .dead).set n (.trow tS), n + 1⟩)) k
  cases evC T0 (sf T0 F0 tB depth) fx96.plans Pa.c96 ⟨aP y n, (h.set y .dead).set n (.trow tS), n + 1⟩ with
  | none => rfl
  | some x =>
    obtain ⟨ex, s⟩ := x
    cases ex <;> rfl
def oParts : Orac where
  run := fun fb args k h n => @Option.rec Nat (fun _ => An) (fb args k h n) (fun y => prtK y k h n) (partsA args h)
  ans := fun args h n => match partsA args h with | none => none | some y => some (prtR y h n)
  eq fb args k h n := by
    cases partsA args h with
    | none => rfl
    | some y => exact prtK_eq y k h n

/-! ### A name's block turned, and a new name for a block that a call has made -/
theorem lead_parts {Φ : Fact} {D : Nat → Prop} {n : Nat} {θ : Env} {h : Heap} {w w' : World} (hi : Inv Φ D n θ h w) {y : Nat} (hy : Live h y) (b : Pa.But w.heap.size (θ.blk y) w w') {g : Nat} (hg1 : w.heap.size ≤ g) (hg2 : g < w'.heap.size) {mo : MObj} (c : Nat) (hobj : ObjIs (θ.upd n g 0 c) n w' mo) (hok : mo.ok (Up D n (n + 1))) :
    Leads D n θ h w (n + 1) (θ.upd n g 0 c) ((h.set y .dead).set n mo) w' := by
  have hn := hi.lt
  have hr := hi.rel
  have ho := hi.ok
  have hs := upd_same (θ := θ) (b := g) (o := 0) (c := c) hn
  have live : ∀ z, Live ((h.set y .dead).set n mo) z → z = n ∨ (z ≠ n ∧ z ≠ y ∧ Live h z) := by
    rintro z ⟨o, ho', hd⟩
    rcases PT.get_set ho' with ⟨rfl, _⟩ | ⟨hne, h2⟩
    · exact .inl rfl
    · rcases PT.get_set h2 with ⟨rfl, e⟩ | ⟨hne', h3⟩
      · exact absurd e hd
      · exact .inr ⟨hne, hne', o, h3, hd⟩
  have blk : ∀ z, Live h z → (θ.upd n g 0 c).blk z = θ.blk z := fun z ⟨o, h1, _⟩ => (hs z (ho z o h1).1).1
  exact {
    le := Nat.le_succ n
    same := upd_same fun _ hy => hy
    rel := {
      obj := fun z ob hz => by
        rcases PT.get_set hz with ⟨rfl, rfl⟩ | ⟨hne, h2⟩
        · exact hobj
        · rcases PT.get_set h2 with ⟨rfl, rfl⟩ | ⟨hne', h3⟩
          · trivial
          · by_cases hd : ob = .dead
            · subst hd; trivial
            · exact ObjIs.move hs (ho z _ h3).1 (ho z _ h3).2 (b.block _ (hr.lt z ⟨ob, h3, hd⟩) fun e => hne' (hr.sep z y ⟨ob, h3, hd⟩ hy e)) (hr.obj z _ h3)
      sep := fun a b ha hb e => by
        rcases live a ha with rfl | ⟨hyn, hyy, ha'⟩ <;> rcases live b hb with rfl | ⟨hzn, hzy, hb'⟩
        · rfl
        · rw [blk b hb', (upd_self θ _ _ _ _).1] at e
          have := hr.lt b hb'; omega
        · rw [blk a ha', (upd_self θ _ _ _ _).1] at e
          have := hr.lt a ha'; omega
        · rw [blk a ha', blk b hb'] at e
          exact hr.sep a b ha' hb' e
      lt := fun a ha => by
        rcases live a ha with rfl | ⟨_, _, ha'⟩
        · rw [(upd_self θ _ _ _ _).1]; exact hg2
        · rw [blk a ha']; exact Nat.lt_of_lt_of_le (hr.lt a ha') b.size }
    ok := fun z o hz => by
      rcases PT.get_set hz with ⟨rfl, rfl⟩ | ⟨hne, h2⟩
      · exact ⟨.inr ⟨Nat.le_refl _, by omega⟩, hok⟩
      · rcases PT.get_set h2 with ⟨rfl, rfl⟩ | ⟨hne', h3⟩
        · obtain ⟨o', h4, _⟩ := hy
          exact ⟨.inl (ho _ _ h4).1, trivial⟩
        · exact ⟨.inl (ho z o h3).1, MObj.ok_mono up_mono (ho z o h3).2⟩
    os := b.os
    tape := b.tape
    output := b.output
    size := b.size
    kept := fun k hk hne => b.block k hk fun e => hne y hy e.symm
    born := fun z hz => by
      rcases live z hz with rfl | ⟨_, _, hz'⟩
      · exact .inr (by rw [(upd_self θ _ _ _ _).1]; exact hg1)
      · exact .inl ⟨z, hz', (blk z hz').symm⟩ }
theorem fit96 {Φ : Fact} : Fit Φ Tryz.prog T0 70 fx96.plans Pa.c96 := fitB_ok tyOk (by kernel_rfl) (by kernel_rfl)
theorem aP_get {y n t : Nat} {v : MV} (e : (aP y n).get t = some v) : (t = 7 ∧ v = .tsl n tS) ∨ (t = 6 ∧ v = .nilSlice) ∨ (t = 1 ∧ v = .bool false) ∨ (t = 0 ∧ v = .ptr y 0) := by
  unfold aP at e
  rcases PT.get_set e with ⟨rfl, rfl⟩ | ⟨_, e⟩
  · exact .inl ⟨rfl, rfl⟩
  rcases PT.get_set e with ⟨rfl, rfl⟩ | ⟨_, e⟩
  · exact .inr (.inl ⟨rfl, rfl⟩)
  rcases PT.get_set e with ⟨rfl, rfl⟩ | ⟨_, e⟩
  · exact .inr (.inr (.inl ⟨rfl, rfl⟩))
  rcases PT.get_set e with ⟨rfl, rfl⟩ | ⟨_, e⟩
  · exact .inr (.inr (.inr ⟨rfl, rfl⟩))
  rw [get_none] at e; cases e
theorem prt_ok {m lo hi : Nat} {args : List MV} {h : Heap} {n : Nat} {r : R} (e : oParts.ans args h n = some (some r)) : FnOk (FactS m lo hi) Tryz.prog 96 args h n r := by
  change (match partsA args h with | none => none | some y => some (prtR y h n)) = some (some r) at e
  split at e
  · cases e
  rename_i y hy
  unfold partsA at hy
  split at hy
  · rename_i y'
    split at hy
    · rename_i hq
      obtain rfl := Option.some.inj hy
      unfold readsG at hq
      split at hq
      · rename_i t mm hg
        obtain rfl := txtEq_ok hq
        have E0 := Option.some.inj e
        unfold prtR at E0
        intro D θ w iv ha
        have F := iv.fact
        have live : Live h y' := ⟨_, hg, by simp⟩
        have hobj := iv.rel.obj y' _ hg
        simp only [ObjIs, HasRoom] at hobj
        obtain ⟨hcells, hoff⟩ := hobj
        have s1 := F.s1
        have s2 := F.s2
        have hgl := Gd.M.gd_len (θ.txt 0).data.toList
        have h0 := list_size (θ.txt 0)
        have h1 := list_size (θ.txt 1)
        have e0 : tS.bytes θ = (θ.txt 0).data.toList := whole_bytes θ 0 F.s1 F.s2
        have e1 : tG.bytes θ = Gd.M.gd (θ.txt 0).data.toList := by
          rw [← F.g]
          rw [F.g] at h1
          exact whole_bytes θ 1 (by omega) (by omega)
        have hd : Pa.RdAt (θ.blk y') (Pa.gs (θ.txt 0).data.toList) 0 w := by
          have c0 := hcells 0 (by simp)
          have c1 := hcells 1 (by simp)
          rw [hoff] at c0 c1
          refine ⟨?_, ?_, c1.2⟩
          · have := c0.1
            simp only [List.getElem_cons_zero, MV.real, e1] at this
            exact this
          · exact c1.1
        refine .inl ⟨enter_fn Tryz.func96 (by kernel_rfl) (by rfl) _ w, ?_⟩
        have er : (reals θ [.ptr y' 0, .bool false]).toArray = #[.pointer (some ⟨θ.blk y', 0, none⟩), .bool false] := by
          simp only [reals, MV.real, hoff]
        rw [er]
        refine Pa.parts_walk (θ.blk y') (θ.txt 0).data.toList w (by omega) hd _ fun v w1 c hc hown hbut A Q t0 t1 t6 t7 hdef hsz hQ => ?_
        subst hc
        rcases hown.2 with ⟨_, hz⟩ | ⟨g, cap, cur, rfl, hg1, hg2, hle, hmax, hcs, htk⟩
        · omega
        have hlt : g < w1.heap.size := by
          rcases Nat.lt_or_ge g w1.heap.size with h5 | h5
          · exact h5
          · rw [Array.getElem?_eq_none h5] at hg2; cases hg2
        have es : tS.bytes (θ.upd n g 0 (cap - (θ.txt 0).data.toList.length)) = (θ.txt 0).data.toList := ((upd_same (θ := θ) (b := g) (o := 0) (c := cap - (θ.txt 0).data.toList.length) iv.lt).bytes tS).trans e0
        have l1 := lead_parts iv live hbut hg1 hlt (mo := .trow tS) (cap - (θ.txt 0).data.toList.length) (by
          simp only [ObjIs, HasRoom]
          rw [(upd_self θ _ _ _ _).1, (upd_self θ _ _ _ _).2.1, (upd_self θ _ _ _ _).2.2, es]
          have hcell : ∀ j, w1.cell? ⟨g, j, none⟩ = cur[j]? := fun j => by simp only [World.cell?, hg2]; rfl
          have hfr : ∀ j, w1.frozen? ⟨g, j, none⟩ = false := fun j => Lib.frozen_of_heap hg2 j
          refine ⟨fun j v hv => ?_, fun j hj => ?_⟩
          · rw [Nat.zero_add]
            refine ⟨?_, hfr _⟩
            rw [hcell, ← Array.getElem?_toList]
            have h6 : (Lib.byteCells (θ.txt 0).data.toList)[j]? = some v := hv
            rw [← htk, List.getElem?_take] at h6
            split at h6
            · exact h6
            · cases h6
          · rw [Nat.zero_add]
            refine ⟨⟨cur[(θ.txt 0).data.toList.length + j]'(by omega), ?_⟩, hfr _⟩
            rw [hcell]
            exact Array.getElem?_eq_getElem _) (by simp only [MObj.ok]; decide)
        have iv1 := l1.inv iv
        cases hx : evC T0 (sf T0 F0 tB depth) fx96.plans Pa.c96 ⟨aP y' n, (h.set y' .dead).set n (.trow tS), n + 1⟩ with
        | none => rw [hx] at E0; cases E0
        | some x =>
          rw [hx] at E0
          obtain ⟨ex, st⟩ := x
          cases ex with
          | normal => cases E0
          | exit i => cases E0
          | ret =>
            change prtEnd (st.a.get 4) (st.a.get 5) st.h st.n = some r at E0
            unfold prtEnd at E0
            split at E0
            · cases E0
            rename_i v4 h4
            split at E0
            · rename_i h5
              obtain rfl := Option.some.inj E0
              have hyD : D y' := (iv.ok y' _ hg).1
              have hyn := iv.lt y' hyD
              have hblk := (upd_same (θ := θ) (b := g) (o := 0) (c := cap - (θ.txt 0).data.toList.length) iv.lt) y' hyD
              refine evC_sound (Φ := FactS m lo hi) tyOk (sf_sound tyOk fxOk tB_ok depth) fx96.plans Pa.c96 _ _ hx 70 fit96 _ _ w1 A Q iv1 ⟨fun t v e => ?_, ⟨fun t v e => ?_, hdef⟩, hsz⟩ ?_
              · rcases aP_get e with ⟨_, rfl⟩ | ⟨_, rfl⟩ | ⟨_, rfl⟩ | ⟨_, rfl⟩
                · simp only [MV.ok]; exact ⟨.inr ⟨Nat.le_refl _, Nat.lt_succ_self _⟩, by decide⟩
                · simp [MV.ok]
                · simp [MV.ok]
                · simp only [MV.ok]; exact .inl hyD
              · rcases aP_get e with ⟨rfl, rfl⟩ | ⟨rfl, rfl⟩ | ⟨rfl, rfl⟩ | ⟨rfl, rfl⟩
                · rw [t7]
                  simp only [MV.real, es, (upd_self θ _ _ _ _).1, (upd_self θ _ _ _ _).2.1, (upd_self θ _ _ _ _).2.2]
                  congr 1
                  omega
                · rw [t6]; simp only [MV.real]
                · rw [t1]; simp only [MV.real]
                · rw [t0]; simp only [MV.real, hblk.1, hblk.2.1, hoff]
              · rintro ex A' w' ⟨rfl, θ', l2, fr⟩
                refine hQ A' w' ?_ fr.rel.2 ?_
                · rw [fr.rel.1 5 _ h5]; simp only [MV.real]
                · rw [fr.rel.1 4 _ h4]
                  refine ⟨θ', by simp only [MV.real, reals], l1.trans l2, ?_⟩
                  have o4 := fr.ok 4 _ h4
                  have hup : ∀ z, Up (Up D n (n + 1)) (n + 1) st.n z → Up D n st.n z := fun z hz => (up_up (Nat.le_succ n) l2.le z).1 hz
                  simp only [MV.ok, oks]
                  exact ⟨MV.ok_mono hup o4, trivial, trivial⟩
            · cases E0
      · cases hq
    · cases hy
  · cases hy
end
end Go.Proofs.YtkeckbmhaplkpaaGreatDoor.Ln
/- awake's contract; TopIndents behind its checks, as the kernel runs it. -/
namespace Go.Proofs.YtkeckbmhaplkpaaGreatDoor.Ln
open Go Go.RowKit
noncomputable section

/-! ### awake -/
theorem awake_run : kf T0 F0 tB depth 12 [] (finT (some d0)) (PT.fill none 19) 0 = some d0 := by kernel_rfl
theorem awake_c (w : World) : Calls Tryz.prog 12 #[] w fun e w' => e = .returned (.bool true) ∧ Below w.heap.size w w' := by
  have e := awake_run
  rw [kf_eq] at e
  change obR (sf T0 F0 tB depth 12 [] (PT.fill none 19) 0) (finT (some d0)) = some d0 at e
  cases hr : sf T0 F0 tB depth 12 [] (PT.fill none 19) 0 with
  | none => rw [hr] at e; cases e
  | some r =>
    rw [hr] at e
    obtain ⟨rv, rh, rn⟩ := r
    rw [obR_mk] at e
    obtain ⟨rfl, _⟩ := finT_ok e
    obtain ⟨_, c⟩ := sf_calls (Φ := Any) tB_ok (by kernel_rfl) hr (inv_nil (θ := E0) trivial 19 w) (by trivial)
    refine c.mono ?_
    rintro ex w' ⟨θ', rfl, l, _⟩
    exact ⟨by simp [MV.real], below_of l⟩
def oAwk (args : List MV) (h : Heap) (n : Nat) : Option An := match args with | [] => some (some ⟨.bool true, h, n⟩) | _ => none
theorem oAwk_ok {Φ : Fact} {args : List MV} {h : Heap} {n : Nat} {r : R} (e : oAwk args h n = some (some r)) : FnOk Φ Tryz.prog 12 args h n r := by
  unfold oAwk at e
  split at e
  · simp only [Option.some.injEq] at e
    subst e
    intro D θ w hi ha
    refine .inl ⟨enter_fn Tryz.func12 (by kernel_rfl) (by rfl) _ w, ?_⟩
    refine (awake_c w).mono ?_
    rintro ex w' ⟨rfl, hb⟩
    exact ⟨θ, by simp [MV.real], leads_below hi hb, by simp [MV.ok]⟩
  · cases e

/-! ### The tables: of a text, of no text -/
def tI (m lo hi : Nat) : OT := (((((tB.set 15 (.of (oAd m lo hi))).set 314 (.of (oGr m lo hi))).set 14 (.of oGuard)).set 162 oIndent).set 96 oParts).set 12 (.of oAwk)
def tE (m : Nat) : OT := (((tB.set 15 (.of (oAdE m))).set 314 (.of (oGrE m))).set 162 oIndent).set 12 (.of oAwk)
theorem tI_ok {m lo hi : Nat} (hm : m ≤ 1000) (h1 : (wholeT 3 lo hi).wf = true) (h2 : linB lo hi 0 = true) : OrcOk (FactS m lo hi) Tryz.prog (orcOf (tI m lo hi)) :=
  orc_set (orc_set (orc_set (orc_set (orc_set (orc_set tB_ok fun _ _ _ _ e => ad_ok hm h1 e) fun _ _ _ _ e => gr_ok hm h2 e) fun _ _ _ _ e => guard_ok e) fun _ _ _ _ e => indent_ok e) fun _ _ _ _ e => prt_ok e) fun _ _ _ _ e => oAwk_ok e
theorem tE_ok {m : Nat} (hm : m ≤ 1000) : OrcOk FactE Tryz.prog (orcOf (tE m)) :=
  orc_set (orc_set (orc_set (orc_set tB_ok fun _ _ _ _ e => adE_ok hm e) fun _ _ _ _ e => grE_ok hm e) fun _ _ _ _ e => indent_ok e) fun _ _ _ _ e => oAwk_ok e

/-! ### TopIndents behind its checks -/
def tl (c : Code) : Code := match c with | .seq _ b => b | c => c
def c5 : Code := match Tryz.f5.body with | none => .skip | some b => tl (tl (tl (tl b)))
def a5 (m : Nat) (s : MV) : Fr := (((PT.fill none 9).set 1 (.txt tU)).set 2 s).set 7 (.str (codes m))
def endR (nx : An) : Fr → G := fun a => (getT 12 6).on fun g => g a (finT nx)
def shT (t : OT) (m : Nat) (s : MV) (nx : An) : An := (codeK tOps T0 fx5.plans c5).on fun g => g (kf T0 F0 t depth) (fun _ _ => nG) (endR nx) (fun _ => nG) (a5 m s) (PT.fill none 19) 0
def shI (m lo hi : Nat) (nx : An) : An := shT (tI m lo hi) m (.txt tS) nx
def shE (m : Nat) (nx : An) : An := shT (tE m) m (.str []) nx
end
end Go.Proofs.YtkeckbmhaplkpaaGreatDoor.Ln
