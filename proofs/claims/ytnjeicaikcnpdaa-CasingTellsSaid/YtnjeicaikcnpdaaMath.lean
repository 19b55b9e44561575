/- Turning letters in plain lists of bytes: single bytes, whole texts, words joined. No program in sight. -/
namespace Go.Proofs.Ytnjeicaikcnpdaa.M

def up (c : UInt8) : UInt8 := if 97 ≤ c.toNat ∧ c.toNat ≤ 122 then c - 32 else c
def dn (c : UInt8) : UInt8 := if 65 ≤ c.toNat ∧ c.toNat ≤ 90 then c + 32 else c
def letter (c : UInt8) : Bool := decide (97 ≤ c.toNat ∧ c.toNat ≤ 122) || decide (65 ≤ c.toNat ∧ c.toNat ≤ 90)
def wd (c : UInt8) : Bool := letter c || decide (48 ≤ c.toNat ∧ c.toNat ≤ 57) || decide (128 ≤ c.toNat)

theorem up_nat (c : UInt8) (h : 97 ≤ c.toNat ∧ c.toNat ≤ 122) : (up c).toNat = c.toNat - 32 := by
  unfold up
  rw [if_pos h, UInt8.toNat_sub_of_le]
  · rfl
  · rw [UInt8.le_iff_toNat_le]; show 32 ≤ c.toNat; omega
theorem dn_nat (c : UInt8) (h : 65 ≤ c.toNat ∧ c.toNat ≤ 90) : (dn c).toNat = c.toNat + 32 := by
  unfold dn
  rw [if_pos h, UInt8.toNat_add]
  show (c.toNat + 32) % 256 = _
  omega
theorem up_same (c : UInt8) (h : ¬ (97 ≤ c.toNat ∧ c.toNat ≤ 122)) : up c = c := if_neg h
theorem dn_same (c : UInt8) (h : ¬ (65 ≤ c.toNat ∧ c.toNat ≤ 90)) : dn c = c := if_neg h

/-- The words of a text joined, each one's first byte upper (small: of the first one lower). p: was the byte ahead in a word? e: is nothing written yet? -/
def jn (small : Bool) : Bool → Bool → List UInt8 → List UInt8
  | _, _, [] => []
  | p, e, c :: r => if wd c then (if p then c else if small && e then dn c else up c) :: jn small true false r else jn small false e r
def capd : List UInt8 → List UInt8
  | [] => []
  | c :: r => up c :: r
/-- A text turned in a way, and the code. -/
def turn (l : List UInt8) (way : Int) : List UInt8 :=
  if way = 1 then l.map up else if way = 2 then l.map dn else if way = 3 then capd l else if way = 4 then jn true false true l else if way = 5 then jn false false true l else []
def code (way : Int) : Int := if 1 ≤ way ∧ way ≤ 5 then 0 else 2

theorem jn_le (small p e : Bool) (l : List UInt8) : (jn small p e l).length ≤ l.length := by
  induction l generalizing p e with
  | nil => simp [jn]
  | cons c r ih =>
    simp only [jn]
    split
    · simp only [List.length_cons]; have := ih true false; omega
    · have := ih false e; simp only [List.length_cons]; omega
theorem capd_len (l : List UInt8) : (capd l).length = l.length := by cases l <;> rfl

/-- The first k bytes turned by f, the others as they are. -/
def mix (f : UInt8 → UInt8) (l : List UInt8) (k : Nat) : List UInt8 := (l.take k).map f ++ l.drop k
theorem mix_zero (f : UInt8 → UInt8) (l : List UInt8) : mix f l 0 = l := by simp [mix]
theorem mix_all (f : UInt8 → UInt8) (l : List UInt8) : mix f l l.length = l.map f := by simp [mix]
theorem mix_len (f : UInt8 → UInt8) (l : List UInt8) (k : Nat) : (mix f l k).length = l.length := by simp [mix]; omega
theorem mix_get (f : UInt8 → UInt8) (l : List UInt8) (k : Nat) (h : k < l.length) : (mix f l k)[k]'(by rw [mix_len]; exact h) = l[k] := by
  have e : (mix f l k)[k]? = some l[k] := by
    unfold mix
    rw [List.getElem?_append_right (by simp; omega)]
    simp only [List.length_map, List.length_take]
    rw [show k - min k l.length = 0 by omega, List.getElem?_drop, Nat.add_zero, List.getElem?_eq_getElem h]
  rw [List.getElem?_eq_getElem (by rw [mix_len]; exact h)] at e
  exact Option.some.inj e
theorem mix_succ (f : UInt8 → UInt8) (l : List UInt8) (k : Nat) (h : k < l.length) : (mix f l k).set k (f l[k]) = mix f l (k + 1) := by
  unfold mix
  rw [List.set_append_right _ _ (by simp; omega), List.take_succ_eq_append_getElem h, List.drop_eq_getElem_cons h]
  simp only [List.length_map, List.length_take, List.map_append, List.map_cons, List.map_nil, List.append_assoc, List.cons_append, List.nil_append]
  rw [show k - min k l.length = 0 by omega, List.set_cons_zero]

/-- Was the byte ahead of place k in a word? -/
def pv (l : List UInt8) : Nat → Bool
  | 0 => false
  | k + 1 => wd (l.getD k 0)
theorem jn_drop (small e : Bool) (l : List UInt8) (k : Nat) (h : k < l.length) (p : Bool) :
    jn small p e (l.drop k) = if wd l[k] then (if p then l[k] else if small && e then dn l[k] else up l[k]) :: jn small (pv l (k + 1)) false (l.drop (k + 1)) else jn small (pv l (k + 1)) e (l.drop (k + 1)) := by
  rw [List.drop_eq_getElem_cons h]
  simp only [jn, pv]
  rw [List.getD_eq_getElem?_getD, List.getElem?_eq_getElem h, Option.getD_some]
  cases hw : wd l[k] <;> simp
end Go.Proofs.Ytnjeicaikcnpdaa.M
