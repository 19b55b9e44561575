/- A text adapted, in plain lists of bytes: a lead behind each break, a unit for each tab at a line's beginning. No program in sight. -/
namespace Go.Proofs.Ytfcnkmpndjmpnaa.M

/-- f: are we at a line's beginning, behind a break? -/
def ad (lead unit : List UInt8) : Bool → List UInt8 → List UInt8
  | _, [] => []
  | f, c :: r => if c = 10 then 10 :: (lead ++ ad lead unit true r) else if c = 9 ∧ f = true ∧ unit ≠ [] then unit ++ ad lead unit true r else c :: ad lead unit (f && c == 9) r
/-- The flag behind a text. -/
def fl (f : Bool) : List UInt8 → Bool
  | [] => f
  | c :: r => fl (if c = 10 then true else f && c == 9) r
theorem fl_snoc (f : Bool) (l : List UInt8) (c : UInt8) : fl f (l ++ [c]) = if c = 10 then true else fl f l && c == 9 := by
  induction l generalizing f with
  | nil => rfl
  | cons d r ih => simp only [List.cons_append, fl]; exact ih _
theorem ad_app (lead unit : List UInt8) (f : Bool) (l m : List UInt8) : ad lead unit f (l ++ m) = ad lead unit f l ++ ad lead unit (fl f l) m := by
  induction l generalizing f with
  | nil => rfl
  | cons c r ih =>
    simp only [List.cons_append, ad, fl]
    by_cases h : c = 10
    · simp [h, ih]
    · by_cases h2 : c = 9 ∧ f = true ∧ unit ≠ []
      · rw [if_neg h, if_pos h2, if_neg h, if_pos h2, if_neg h, ih]
        have : (f && c == 9) = true := by simp [h2.1, h2.2.1]
        rw [this]; simp
      · rw [if_neg h, if_neg h2, if_neg h, if_neg h2, if_neg h, ih]; simp
theorem ad_le (lead unit : List UInt8) (f : Bool) (l : List UInt8) (N : Nat) (h1 : lead.length + 1 ≤ N) (h2 : unit.length ≤ N) : (ad lead unit f l).length ≤ l.length * N := by
  induction l generalizing f with
  | nil => simp [ad]
  | cons c r ih =>
    have e : (c :: r).length * N = r.length * N + N := by simp [Nat.add_mul]
    rw [e]
    simp only [ad]
    split
    · have := ih true; simp only [List.length_cons, List.length_append]; omega
    · split
      · have := ih true; simp only [List.length_append]; omega
      · have := ih (f && c == 9); simp only [List.length_cons]; omega
end Go.Proofs.Ytfcnkmpndjmpnaa.M
