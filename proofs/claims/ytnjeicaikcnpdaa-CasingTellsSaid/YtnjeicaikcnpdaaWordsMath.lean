/- The words of a text, in plain lists of bytes: how they come about byte for byte, their heads turned and joined. No program in sight. -/
import Derived.Test.YtnjeicaikcnpdaaMath
namespace Go.Proofs.Ytnjeicaikcnpdaa.M

/-- c put behind the last word. -/
def addLast (L : List (List UInt8)) (c : UInt8) : List (List UInt8) := L.set (L.length - 1) (L.getD (L.length - 1) [] ++ [c])
theorem addLast_snoc (L : List (List UInt8)) (m : List UInt8) (c : UInt8) : addLast (L ++ [m]) c = L ++ [m ++ [c]] := by
  unfold addLast
  rw [List.length_append, List.length_singleton, Nat.add_sub_cancel, List.getD_eq_getElem?_getD, List.getElem?_append_right (Nat.le_refl _), List.set_append_right _ _ (Nat.le_refl _)]
  simp
/-- The words that come about behind those of L; p: was the byte ahead in a word? -/
def wsr : List (List UInt8) → Bool → List UInt8 → List (List UInt8)
  | L, _, [] => L
  | L, p, c :: r => if wd c then wsr (addLast (if p then L else L ++ [[]]) c) true r else wsr L false r
theorem wsr_drop (L : List (List UInt8)) (l : List UInt8) (k : Nat) (h : k < l.length) (p : Bool) :
    wsr L p (l.drop k) = if wd l[k] then wsr (addLast (if p then L else L ++ [[]]) l[k]) (pv l (k + 1)) (l.drop (k + 1)) else wsr L (pv l (k + 1)) (l.drop (k + 1)) := by
  rw [List.drop_eq_getElem_cons h]
  simp only [wsr, pv]
  rw [List.getD_eq_getElem?_getD, List.getElem?_eq_getElem h, Option.getD_some]
  cases hw : wd l[k] <;> simp

def hd1 (f : UInt8 → UInt8) : List UInt8 → List UInt8
  | [] => []
  | c :: r => f c :: r
theorem hd1_len (f : UInt8 → UInt8) (l : List UInt8) : (hd1 f l).length = l.length := by cases l <;> rfl
theorem hd1_snoc (f : UInt8 → UInt8) (m : List UInt8) (c : UInt8) (h : m ≠ []) : hd1 f (m ++ [c]) = hd1 f m ++ [c] := by
  cases m with
  | nil => exact absurd rfl h
  | cons a r => rfl
def how (b : Bool) : UInt8 → UInt8 := if b then dn else up
/-- The words' heads turned, one word behind the other; e: is it the first one? -/
def hds (small : Bool) : Bool → List (List UInt8) → List UInt8
  | _, [] => []
  | e, m :: r => hd1 (how (small && e)) m ++ hds small false r
theorem hds_snoc (small e : Bool) (L : List (List UInt8)) (m : List UInt8) : hds small e (L ++ [m]) = hds small e L ++ hd1 (how (small && (e && L.isEmpty))) m := by
  induction L generalizing e with
  | nil => simp [hds]
  | cons a r ih =>
    simp only [List.cons_append, hds]
    rw [ih false]
    simp
theorem hds_len (small e : Bool) (L : List (List UInt8)) : (hds small e L).length = L.flatten.length := by
  induction L generalizing e with
  | nil => rfl
  | cons a r ih => simp only [hds, List.flatten_cons, List.length_append, hd1_len]; rw [ih]
theorem hds_wsr (small : Bool) (l : List UInt8) (L : List (List UInt8)) (p : Bool) (hne : ∀ m ∈ L, m ≠ []) (hp : p = true → L ≠ []) :
    hds small true (wsr L p l) = hds small true L ++ jn small p L.isEmpty l := by
  induction l generalizing L p with
  | nil => simp [wsr, jn]
  | cons c r ih =>
    simp only [wsr, jn]
    by_cases hw : wd c = true
    · rw [if_pos hw, if_pos hw]
      cases p with
      | true =>
        obtain ⟨M, m, rfl⟩ : ∃ M m, L = M ++ [m] := ⟨_, _, (List.dropLast_concat_getLast (hp rfl)).symm⟩
        have hm : m ≠ [] := hne m (by simp)
        simp only [if_true]
        rw [addLast_snoc, ih _ _ (by intro x hx; simp at hx; rcases hx with hx | rfl; exact hne x (by simp [hx]); simp) (fun _ => by simp)]
        rw [hds_snoc, hds_snoc, hd1_snoc _ _ _ hm]
        have e1 : (M ++ [m ++ [c]]).isEmpty = false := by simp
        have e2 : (M ++ [m]).isEmpty = false := by simp
        rw [e1]
        simp
      | false =>
        simp only [Bool.false_eq_true, if_false]
        rw [addLast_snoc, ih _ _ (by intro x hx; simp at hx; rcases hx with hx | rfl; exact hne x hx; simp) (fun _ => by simp)]
        rw [hds_snoc]
        have e1 : (L ++ [[] ++ [c]]).isEmpty = false := by simp
        rw [e1]
        simp only [List.nil_append, hd1, Bool.true_and, List.append_assoc, List.cons_append, List.nil_append]
        unfold how
        split <;> rename_i h
        · rfl
        · rfl
    · rw [if_neg hw, if_neg hw]
      exact ih L false hne (fun h => by cases h)
/-- A text's words. -/
def words (l : List UInt8) : List (List UInt8) := wsr [] false l
theorem hds_words (small : Bool) (l : List UInt8) : hds small true (words l) = jn small false true l := by
  have := hds_wsr small l [] false (by simp) (fun h => by cases h)
  simpa [words, hds] using this
end Go.Proofs.Ytnjeicaikcnpdaa.M
