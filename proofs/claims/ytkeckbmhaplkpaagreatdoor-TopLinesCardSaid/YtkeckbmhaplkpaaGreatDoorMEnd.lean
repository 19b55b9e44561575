/- The end of TopLines, whatever the bytes are: from the runs by the kernel. -/
import Derived.Test.YtkeckbmhaplkpaaGreatDoorMOr
namespace Go.Proofs.YtkeckbmhaplkpaaGreatDoor.Ln
open Go Go.RowKit
noncomputable section

def RunsTrue (t : OT) (l : List Nat) (many : Nat) : Prop := ∃ x, evC T0 (sf T0 F0 t depth) fx4.plans c4 ⟨aT l many, PT.fill none 19, 0⟩ = some x ∧ x.e = .ret ∧ x.s.a.get 4 = some (.bool true)
theorem shT_ok {t : OT} {l : List Nat} {many : Nat} {nx : An} (e : shT t l many nx = some d0) : RunsTrue t l many ∧ nx = some d0 := by
  unfold shT at e
  rw [Clo.on_run, kf_eq] at e
  have h := congrFun (congrFun (congrFun (codeK_run tOps T0 (sf T0 F0 t depth) fx4.plans c4 (fun _ _ => nG) (endR nx) (fun _ => nG)) (aT l many)) (PT.fill none 19)) 0
  have e' : disp (evC T0 (sf T0 F0 t depth) fx4.plans c4 ⟨aT l many, PT.fill none 19, 0⟩) (fun _ _ => nG) (endR nx) (fun _ => nG) = some d0 := h.symm.trans e
  cases hx : evC T0 (sf T0 F0 t depth) fx4.plans c4 ⟨aT l many, PT.fill none 19, 0⟩ with
  | none => rw [hx] at e'; cases e'
  | some x =>
    rw [hx] at e'
    obtain ⟨ex, y⟩ := x
    cases ex with
    | normal => cases e'
    | exit i => cases e'
    | ret =>
      change endR nx y.a y.h y.n = some d0 at e'
      unfold endR at e'
      rw [Clo.on_run, getT_run] at e'
      cases hv : PT.get y.a 4 with
      | none => rw [hv] at e'; cases e'
      | some v =>
        rw [hv] at e'
        obtain ⟨rfl, h2⟩ := finT_ok (h := y.h) (n := y.n) e'
        exact ⟨⟨⟨.ret, y⟩, hx, rfl, hv⟩, h2⟩
theorem sh_ok {many L : Nat} {nx : An} (e : sh many L nx = some d0) : RunsTrue (tM many L) (codes L) many ∧ nx = some d0 := shT_ok e
theorem shc_ok {c many L : Nat} {nx : An} (e : shc c many L nx = some d0) : RunsTrue (tMc L c) (codesT (frs c) L) many ∧ nx = some d0 := shT_ok e
/-- The bytes of a text as those that are not known. -/
def symOf (s : ByteArray) (i : Nat) : UInt8 := s.data.getD i 0
def Good (s : ByteArray) : Prop := ∀ c ∈ s.data.toList, c ≠ 9 ∧ c ≠ 10 ∧ c ≠ 32
theorem symOf_good {s : ByteArray} (h : Good s) (i : Nat) : symOf s i ≠ 9 ∧ symOf s i ≠ 10 ∧ symOf s i ≠ 32 := by
  unfold symOf
  rw [Array.getD_eq_getD_getElem?]
  cases hi : s.data[i]? with
  | none => decide
  | some c => exact h c (by rw [Array.getElem?_eq_some_iff] at hi; obtain ⟨h1, rfl⟩ := hi; simp)
def envOf (s : ByteArray) (h : Good s) : Env := { E0 with sym := symOf s, thick := symOf_good h }
theorem codes_eq (n : Nat) : codes n = (List.range n).map (256 + ·) := by
  have key : ∀ n r, (@Nat.rec (fun _ => List Nat → List Nat) (fun r => r) (fun m ih r => ih (Nat.add 256 m :: r)) n r : List Nat) = (List.range n).map (256 + ·) ++ r := by
    intro n
    induction n with
    | zero => intro r; rfl
    | succ n ih =>
      intro r
      show (@Nat.rec (fun _ => List Nat → List Nat) (fun r => r) (fun m ih r => ih (Nat.add 256 m :: r)) n (Nat.add 256 n :: r) : List Nat) = _
      rw [ih, List.range_succ]
      simp
  exact (key n []).trans (List.append_nil _)
theorem codes_byte (s : ByteArray) (h : Good s) : (codes s.size).map (envOf s h).byte = s.data.toList := by
  rw [codes_eq, List.map_map]
  refine List.ext_getElem? fun i => ?_
  rw [List.getElem?_map]
  by_cases hi : i < s.size
  · rw [List.getElem?_range hi]
    show some ((envOf s h).byte (256 + i)) = _
    have e1 : (envOf s h).byte (256 + i) = symOf s i := by
      unfold Env.byte
      rw [if_neg (Nat.not_lt.2 (Nat.le_add_right 256 i)), Nat.add_sub_cancel_left]
      rfl
    rw [e1, Array.getElem?_toList]
    unfold symOf
    rw [Array.getD_eq_getD_getElem?, Array.getElem?_eq_getElem hi]
    rfl
  · rw [List.getElem?_eq_none (by simp; omega), Array.getElem?_toList, Array.getElem?_eq_none (by show s.size ≤ i; omega)]
    rfl
theorem codesT_eq (fr : List Nat) (n : Nat) : codesT fr n = (codes n).map (litC fr) := by
  have key : ∀ n r, (@Nat.rec (fun _ => List Nat → List Nat) (fun r => r) (fun m ih r => ih (litC fr (Nat.add 256 m) :: r)) n r : List Nat) = ((List.range n).map (256 + ·)).map (litC fr) ++ r := by
    intro n
    induction n with
    | zero => intro r; rfl
    | succ n ih =>
      intro r
      show (@Nat.rec (fun _ => List Nat → List Nat) (fun r => r) (fun m ih r => ih (litC fr (Nat.add 256 m) :: r)) n (litC fr (Nat.add 256 n) :: r) : List Nat) = _
      rw [ih, List.range_succ]
      simp
  rw [codes_eq]
  exact (key n []).trans (List.append_nil _)
theorem litC_ok {fr : List Nat} {θ : Env} (ht : Told fr θ.sym) (x : Nat) : θ.byte (litC fr x) = θ.byte x := by
  unfold litC
  split
  · rfl
  · rename_i h1
    have h2 := Nat.le_of_ble_eq_true h1
    split
    · rename_i b hb
      obtain ⟨h3, h4⟩ := ht _ b hb
      unfold Env.byte
      rw [if_pos h3, if_neg (by omega)]
      exact h4.symm
    · rfl
theorem codesT_byte {fr : List Nat} (s : ByteArray) (h : Good s) (ht : Told fr (symOf s)) : (codesT fr s.size).map (envOf s h).byte = s.data.toList := by
  rw [codesT_eq, List.map_map, ← codes_byte s h]
  refine List.map_congr_left fun x _ => ?_
  exact litC_ok (θ := envOf s h) ht x
theorem fit4 {Φ : Fact} : Fit Φ Tryz.prog T0 121 fx4.plans c4 := fitB_ok tyOk (by kernel_rfl) (by kernel_rfl)
theorem aT_get {l : List Nat} {many t : Nat} {v : MV} (e : (aT l many).get t = some v) : (t = 6 ∧ v = .int .i64 (.ofNat (many + 1))) ∨ (t = 1 ∧ v = .str l) := by
  unfold aT at e
  rcases PT.get_set e with ⟨rfl, rfl⟩ | ⟨_, e⟩
  · exact .inl ⟨rfl, rfl⟩
  rcases PT.get_set e with ⟨rfl, rfl⟩ | ⟨_, e⟩
  · exact .inr ⟨rfl, rfl⟩
  rw [get_none] at e; cases e
theorem tail_c {Φ : Fact} {t : OT} {l : List Nat} {many : Nat} {s : ByteArray} (hx : RunsTrue t l many) (ht : OrcOk Φ Tryz.prog (orcOf t)) (hg : Good s) (hl : l.map (envOf s hg).byte = s.data.toList) (hf : Φ (symOf s))
    (A : Act) (w : World) (h1 : A.tmps.getD 1 undef = .string s) (h6 : A.tmps.getD 6 undef = .int .i64 ((many + 1 : Nat) : Int)) (hd : A.defers = []) (hz : 121 ≤ A.tmps.size)
    (Q : Exit → Act → World → Prop) (hQ : ∀ A' w', A'.tmps.getD 4 undef = .bool true → A'.defers = [] → Below w.heap.size w w' → Q .ret A' w') : c4.wp Tryz.prog Q A w := by
  obtain ⟨x, hx, hr, h4⟩ := hx
  refine evC_sound (Φ := Φ) tyOk (sf_sound tyOk fxOk ht depth) fx4.plans c4 _ x hx 121 fit4 (fun _ => False) (envOf s hg) w A Q (inv_nil hf 19 w) ⟨fun t v e => ?_, ⟨fun t v e => ?_, hd⟩, hz⟩ ?_
  · rcases aT_get e with ⟨_, rfl⟩ | ⟨_, rfl⟩ <;> simp [MV.ok]
  · rcases aT_get e with ⟨rfl, rfl⟩ | ⟨rfl, rfl⟩
    · rw [h6]; simp only [MV.real]; rfl
    · rw [h1]
      simp only [MV.real]
      rw [hl]
  · rintro ex A' w' ⟨rfl, θ', l, fr⟩
    rw [hr]
    refine hQ A' w' ?_ fr.rel.2 (below_of (D := fun _ => False) (n := 0) (d := 19) l)
    rw [fr.rel.1 4 _ h4]
    simp [MV.real]
end
end Go.Proofs.YtkeckbmhaplkpaaGreatDoor.Ln
