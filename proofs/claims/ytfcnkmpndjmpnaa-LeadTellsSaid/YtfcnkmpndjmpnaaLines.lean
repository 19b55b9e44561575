/- A text's lines and what is made of them, in plain lists. No program in sight. -/
import Derived.Test.YtfcnkmpndjmpnaaMath
namespace Go.Proofs.Ytfcnkmpndjmpnaa.M

/-- A line's tabs at its beginning, a unit for each. -/
def tb (u : List UInt8) : List UInt8 → List UInt8
  | [] => []
  | c :: r => if c = 9 then u ++ tb u r else c :: r
/-- The lines, a break behind each. -/
def flat : List (List UInt8) → List UInt8
  | [] => []
  | l :: r => l ++ 10 :: flat r
theorem flat_app (a b : List (List UInt8)) : flat (a ++ b) = flat a ++ flat b := by
  induction a with
  | nil => rfl
  | cons l r ih => simp [flat, ih]
/-- Each line behind the first, with the lead and the units. -/
def rest (lead u : List UInt8) : List (List UInt8) → List UInt8
  | [] => []
  | l :: r => 10 :: (lead ++ tb u l) ++ rest lead u r
theorem rest_snoc (lead u : List UInt8) (a : List (List UInt8)) (l : List UInt8) : rest lead u (a ++ [l]) = rest lead u a ++ 10 :: (lead ++ tb u l) := by
  induction a with
  | nil => simp [rest]
  | cons m r ih => simp [rest, ih]
def un (unit : List UInt8) : List UInt8 := if unit = [] then [9] else unit
theorem ad_down (lead unit : List UInt8) (l m : List UInt8) (h : ∀ x ∈ l, x ≠ 10) : ad lead unit false (l ++ 10 :: m) = l ++ 10 :: (lead ++ ad lead unit true m) := by
  induction l with
  | nil => simp [ad]
  | cons c r ih =>
    have hc : c ≠ 10 := h c (by simp)
    simp only [List.cons_append, ad, hc, if_false, Bool.false_eq_true, false_and, and_false, Bool.false_and]
    rw [ih fun x hx => h x (by simp [hx])]
theorem ad_line (lead unit : List UInt8) (l : List UInt8) (h : ∀ x ∈ l, x ≠ 10) : ad lead unit false l = l := by
  induction l with
  | nil => rfl
  | cons c r ih =>
    have hc : c ≠ 10 := h c (by simp)
    simp only [ad, hc, if_false, Bool.false_eq_true, false_and, and_false, Bool.false_and]
    rw [ih fun x hx => h x (by simp [hx])]
theorem ad_same (unit : List UInt8) (f : Bool) (l : List UInt8) (h : unit = [] ∨ unit = [9]) : ad [] unit f l = l := by
  induction l generalizing f with
  | nil => rfl
  | cons c r ih =>
    simp only [ad]
    split
    · next hc => rw [ih, hc]; rfl
    · split
      · next h2 =>
        rcases h with rfl | rfl
        · exact absurd rfl h2.2.2
        · rw [ih, h2.1]; rfl
      · rw [ih]
theorem ad_up (lead unit : List UInt8) (l m : List UInt8) (h : ∀ x ∈ l, x ≠ 10) : ad lead unit true (l ++ 10 :: m) = tb (un unit) l ++ 10 :: (lead ++ ad lead unit true m) := by
  induction l with
  | nil => simp [ad, tb]
  | cons c r ih =>
    have hc : c ≠ 10 := h c (by simp)
    have hr : ∀ x ∈ r, x ≠ 10 := fun x hx => h x (by simp [hx])
    by_cases h9 : c = 9
    · subst h9
      by_cases hu : unit = []
      · subst hu
        have := ih hr
        simp only [List.cons_append, ad, tb, un] at this ⊢
        simp [this]
      · have := ih hr
        simp only [List.cons_append, ad, tb, un, hu, if_false] at this ⊢
        simp [this, hu]
    · have := ad_down lead unit r m hr
      simp only [List.cons_append, ad, tb, h9, hc, if_false, false_and, Bool.true_and]
      have e : (c == 9) = false := by simp [h9]
      rw [e, this]
theorem ad_flat (lead unit : List UInt8) (L : List (List UInt8)) (h : ∀ l ∈ L, ∀ x ∈ l, x ≠ 10) : lead ++ ad lead unit true (flat L) = (match rest lead (un unit) L with | [] => [] | _ :: q => q) ++ (if L = [] then lead else 10 :: lead) := by
  induction L with
  | nil => simp [flat, ad, rest]
  | cons l r ih =>
    have h1 := ad_up lead unit l (flat r) (h l (by simp))
    have h2 := ih fun m hm => h m (by simp [hm])
    simp only [flat, h1, rest]
    rw [h2]
    cases r with
    | nil => simp [rest]
    | cons m r => simp [rest]
theorem ad_lines (lead unit s l : List UInt8) (r : List (List UInt8)) (h : ∀ m ∈ l :: r, ∀ x ∈ m, x ≠ 10) (hs : s ++ [10] = flat (l :: r)) : ad lead unit false s = l ++ rest lead (un unit) r := by
  have e1 : ad lead unit false (s ++ [10]) = ad lead unit false s ++ 10 :: lead := by
    rw [ad_app]; simp [ad]
  have e2 : ad lead unit false (flat (l :: r)) = l ++ rest lead (un unit) r ++ 10 :: lead := by
    simp only [flat]
    rw [ad_down _ _ _ _ (h l (by simp)), ad_flat _ _ _ fun m hm => h m (by simp [hm])]
    cases r with
    | nil => simp [rest]
    | cons m r => simp [rest]
  rw [hs, e2] at e1
  exact (List.append_cancel_right e1).symm
theorem tb_hit (u l : List UInt8) (j : Nat) (h : j < l.length) (h9 : l[j] = 9) : tb u (l.drop j) = u ++ tb u (l.drop (j + 1)) := by
  rw [List.drop_eq_getElem_cons h]; simp [tb, h9]
theorem tb_miss (u l : List UInt8) (j : Nat) (h : j < l.length) (h9 : l[j] ≠ 9) : tb u (l.drop j) = l.drop j := by
  rw [List.drop_eq_getElem_cons h]; simp [tb, h9]
theorem tb_le (u l : List UInt8) (N : Nat) (h : u.length ≤ N) (h1 : 1 ≤ N) : (tb u l).length ≤ l.length * N := by
  induction l with
  | nil => simp [tb]
  | cons c r ih =>
    have e : (c :: r).length * N = r.length * N + N := by simp [Nat.add_mul]
    have e2 : r.length ≤ r.length * N := Nat.le_mul_of_pos_right _ h1
    rw [e]
    simp only [tb]
    split
    · simp only [List.length_append]; omega
    · simp only [List.length_cons]; omega
end Go.Proofs.Ytfcnkmpndjmpnaa.M
