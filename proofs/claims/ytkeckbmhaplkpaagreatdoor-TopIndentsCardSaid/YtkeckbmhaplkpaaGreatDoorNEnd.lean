/- The end of TopIndents, whatever the texts are: from the runs by the kernel. -/
import Derived.Test.YtkeckbmhaplkpaaGreatDoorNOr
namespace Go.Proofs.YtkeckbmhaplkpaaGreatDoor.Ln
open Go Go.RowKit
open Gd.M (gd)
open Ad.M (ad)
noncomputable section

def RunsTrue (t : OT) (m : Nat) (s : MV) : Prop := ∃ x, evC T0 (sf T0 F0 t depth) fx5.plans c5 ⟨a5 m s, PT.fill none 19, 0⟩ = some x ∧ x.e = .ret ∧ x.s.a.get 6 = some (.bool true)
theorem shT_ok {t : OT} {m : Nat} {s : MV} {nx : An} (e : shT t m s nx = some d0) : RunsTrue t m s ∧ nx = some d0 := by
  unfold shT at e
  rw [Clo.on_run, kf_eq] at e
  have h := congrFun (congrFun (congrFun (codeK_run tOps T0 (sf T0 F0 t depth) fx5.plans c5 (fun _ _ => nG) (endR nx) (fun _ => nG)) (a5 m s)) (PT.fill none 19)) 0
  have e' : disp (evC T0 (sf T0 F0 t depth) fx5.plans c5 ⟨a5 m s, PT.fill none 19, 0⟩) (fun _ _ => nG) (endR nx) (fun _ => nG) = some d0 := h.symm.trans e
  cases hx : evC T0 (sf T0 F0 t depth) fx5.plans c5 ⟨a5 m s, PT.fill none 19, 0⟩ with
  | none => rw [hx] at e'; cases e'
  | some x =>
    rw [hx] at e'
    obtain ⟨ex, y⟩ := x
    cases ex with
    | normal => cases e'
    | exit i => cases e'
    | ret =>
      change endR nx y.a y.h y.n = some d0 at e'
      unfold endR at e'
      rw [Clo.on_run, getT_run] at e'
      cases hv : PT.get y.a 6 with
      | none => rw [hv] at e'; cases e'
      | some v =>
        rw [hv] at e'
        obtain ⟨rfl, h2⟩ := finT_ok (h := y.h) (n := y.n) e'
        exact ⟨⟨⟨.ret, y⟩, hx, rfl, hv⟩, h2⟩
theorem shI_ok {m lo hi : Nat} {nx : An} (e : shI m lo hi nx = some d0) : RunsTrue (tI m lo hi) m (.txt tS) ∧ nx = some d0 := shT_ok e
theorem shE_ok {m : Nat} {nx : An} (e : shE m nx = some d0) : RunsTrue (tE m) m (.str []) ∧ nx = some d0 := shT_ok e
/-- Blanks and tabs alone. -/
def Bl (bs : List UInt8) : Prop := ∀ c ∈ bs, c = 9 ∨ c = 32
def symB (bs : List UInt8) (k : Nat) : UInt8 := bs.getD k 32
theorem symB_thick {bs : List UInt8} (h : Bl bs) (k : Nat) : symB bs k = 9 ∨ symB bs k = 32 := by
  unfold symB
  rw [List.getD_eq_getElem?_getD]
  cases hk : bs[k]? with
  | none => exact .inr rfl
  | some c => exact h c (List.mem_of_getElem? hk)
def adB (bs : List UInt8) (u s : ByteArray) : List UInt8 := ad bs u.data.toList false s.data.toList
def txtB (bs : List UInt8) (u s : ByteArray) (y : Nat) : ByteArray := match y with
  | 0 => s
  | 1 => ⟨(gd s.data.toList).toArray⟩
  | 2 => u
  | 3 => ⟨(adB bs u s).toArray⟩
  | _ => ⟨#[]⟩
def envB (bs : List UInt8) (h : Bl bs) (u s : ByteArray) : Env := ⟨fun _ => 0, fun _ => 0, fun _ => 0, symB bs, symB_thick h, txtB bs u s⟩
theorem inB_is (bs : List UInt8) : inB bs.length (symB bs) = bs := by
  refine List.ext_getElem? fun i => ?_
  unfold inB
  rw [List.getElem?_map]
  by_cases hi : i < bs.length
  · rw [List.getElem?_range hi, List.getElem?_eq_getElem hi]
    simp [symB, List.getD_eq_getElem?_getD, List.getElem?_eq_getElem hi]
  · rw [List.getElem?_eq_none (by simpa using hi), List.getElem?_eq_none (by omega)]
    rfl
theorem factS_of (bs : List UInt8) (u s : ByteArray) {lo hi : Nat} (hu : u.size ≤ 10) (h1 : 1 ≤ s.size) (h2 : s.size ≤ 60) (l1 : lo ≤ (adB bs u s).length) (l2 : (adB bs u s).length ≤ hi) : FactS bs.length lo hi (symB bs) (txtB bs u s) where
  u := hu
  s1 := h1
  s2 := h2
  g := by simp [txtB]
  a := by rw [inB_is]; simp [txtB, adB]
  l1 := by simp only [txtB]; rw [mk_size]; exact l1
  l2 := by simp only [txtB]; rw [mk_size]; exact l2
theorem fit5 {Φ : Fact} : Fit Φ Tryz.prog T0 87 fx5.plans c5 := fitB_ok tyOk (by kernel_rfl) (by kernel_rfl)
theorem a5_get {m : Nat} {s : MV} {t : Nat} {v : MV} (e : (a5 m s).get t = some v) : (t = 7 ∧ v = .str (codes m)) ∨ (t = 2 ∧ v = s) ∨ (t = 1 ∧ v = .txt tU) := by
  unfold a5 at e
  rcases PT.get_set e with ⟨rfl, rfl⟩ | ⟨_, e⟩
  · exact .inl ⟨rfl, rfl⟩
  rcases PT.get_set e with ⟨rfl, rfl⟩ | ⟨_, e⟩
  · exact .inr (.inl ⟨rfl, rfl⟩)
  rcases PT.get_set e with ⟨rfl, rfl⟩ | ⟨_, e⟩
  · exact .inr (.inr ⟨rfl, rfl⟩)
  rw [get_none] at e; cases e
theorem tail_c {Φ : Fact} {t : OT} {bs : List UInt8} {sv : MV} {u s : ByteArray} (hx : RunsTrue t bs.length sv) (ht : OrcOk Φ Tryz.prog (orcOf t)) (hb : Bl bs) (hf : Φ (symB bs) (txtB bs u s)) (hu : u.size ≤ 10)
    (hs : sv.real (envB bs hb u s) = .string s) (hso : sv.ok fun _ => False)
    (A : Act) (w : World) (h1 : A.tmps.getD 1 undef = .string u) (h2 : A.tmps.getD 2 undef = .string s) (h7 : A.tmps.getD 7 undef = .string ⟨bs.toArray⟩) (hd : A.defers = []) (hz : 87 ≤ A.tmps.size)
    (Q : Exit → Act → World → Prop) (hQ : ∀ A' w', A'.tmps.getD 6 undef = .bool true → A'.defers = [] → Below w.heap.size w w' → Q .ret A' w') : c5.wp Tryz.prog Q A w := by
  obtain ⟨x, hx, hr, h6⟩ := hx
  have eu : tU.bytes (envB bs hb u s) = u.data.toList := whole_bytes (envB bs hb u s) 2 (Nat.zero_le _) hu
  refine evC_sound (Φ := Φ) tyOk (sf_sound tyOk fxOk ht depth) fx5.plans c5 _ x hx 87 fit5 (fun _ => False) (envB bs hb u s) w A Q (inv_nil hf 19 w) ⟨fun t v e => ?_, ⟨fun t v e => ?_, hd⟩, hz⟩ ?_
  · rcases a5_get e with ⟨_, rfl⟩ | ⟨_, rfl⟩ | ⟨_, rfl⟩
    · simp only [MV.ok]
    · exact hso
    · simp only [MV.ok]; decide
  · rcases a5_get e with ⟨rfl, rfl⟩ | ⟨rfl, rfl⟩ | ⟨rfl, rfl⟩
    · rw [h7]
      simp only [MV.real]
      rw [codes_byte]
      show _ = Value.string ⟨(inB bs.length (symB bs)).toArray⟩
      rw [inB_is]
    · rw [h2, hs]
    · rw [h1]
      simp only [MV.real]
      rw [eu]
  · rintro ex A' w' ⟨rfl, θ', l, fr⟩
    rw [hr]
    refine hQ A' w' ?_ fr.rel.2 (below_of (D := fun _ => False) (n := 0) (d := 19) l)
    rw [fr.rel.1 6 _ h6]
    simp [MV.real]
/-- The runs by the kernel: where the text is not empty, a run for each length of the text adapted. -/
def Runs : Prop := (∀ m, m ≤ 10 → RunsTrue (tE m) m (.str [])) ∧
  ∀ m, m ≤ 10 → ∀ L, 1 ≤ L → L ≤ 660 → ∃ lo hi, lo ≤ L ∧ L ≤ hi ∧ (wholeT 3 lo hi).wf = true ∧ linB lo hi 0 = true ∧ RunsTrue (tI m lo hi) m (.txt tS)
theorem adB_le (bs : List UInt8) (u s : ByteArray) (hb : bs.length ≤ 10) (hu : u.size ≤ 10) (hs : s.size ≤ 60) : (adB bs u s).length ≤ 660 := by
  have h := Ad.M.ad_le bs u.data.toList false s.data.toList 11 (by omega) (by rw [list_size]; omega)
  rw [list_size] at h
  have : s.size * 11 ≤ 60 * 11 := Nat.mul_le_mul_right _ hs
  unfold adB
  omega
theorem ad_pos (l u : List UInt8) (f : Bool) (s : List UInt8) (h : s ≠ []) : 1 ≤ (ad l u f s).length := by
  cases s with
  | nil => exact absurd rfl h
  | cons c r =>
    rw [ad]
    split
    · simp
    · split
      · rename_i h2
        have : u.length ≠ 0 := fun e => h2.2.2 (List.length_eq_zero_iff.1 e)
        rw [List.length_append]; omega
      · simp
theorem tail_of (hR : Runs) {bs : List UInt8} (hb : Bl bs) (hl : bs.length ≤ 10) (u s : ByteArray) (hu : u.size ≤ 10) (hs : s.size ≤ 60) (c : Code) (hc : c = c5)
    (A : Act) (w : World) (h1 : A.tmps.getD 1 undef = .string u) (h2 : A.tmps.getD 2 undef = .string s) (h7 : A.tmps.getD 7 undef = .string ⟨bs.toArray⟩) (hd : A.defers = []) (hz : 87 ≤ A.tmps.size)
    (Q : Exit → Act → World → Prop) (hQ : ∀ A' w', A'.tmps.getD 6 undef = .bool true → A'.defers = [] → Below w.heap.size w w' → Q .ret A' w') : c.wp Tryz.prog Q A w := by
  subst hc
  by_cases h0 : s.size = 0
  · have es : s = ⟨#[]⟩ := by
      apply ByteArray.ext
      exact Array.eq_empty_of_size_eq_zero h0
    refine tail_c (hR.1 bs.length hl) (tE_ok (by omega)) hb (u := u) (s := s) (by exact hu) hu ?_ (by simp only [MV.ok]) A w h1 h2 h7 hd hz Q hQ
    simp only [MV.real]
    rw [es]
    rfl
  · have hne : s.data.toList ≠ [] := fun e => h0 (by rw [← list_size, e]; rfl)
    obtain ⟨lo, hi, a1, a2, a3, a4, hx⟩ := hR.2 bs.length hl (adB bs u s).length (ad_pos _ _ _ _ hne) (adB_le bs u s hl hu hs)
    refine tail_c hx (tI_ok (by omega) a3 a4) hb (factS_of bs u s hu (by omega) hs a1 a2) hu ?_ (by simp only [MV.ok]; decide) A w h1 h2 h7 hd hz Q hQ
    simp only [MV.real]
    have e0 : tS.bytes (envB bs hb u s) = s.data.toList := whole_bytes (envB bs hb u s) 0 (by show 1 ≤ s.size; omega) hs
    rw [e0]
end
end Go.Proofs.YtkeckbmhaplkpaaGreatDoor.Ln
