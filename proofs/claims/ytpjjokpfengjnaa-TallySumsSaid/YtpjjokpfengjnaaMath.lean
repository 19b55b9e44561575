/- The plain counts over a list of bytes: how much each byte weighs by each way, sums of weights, and the greatest front whose weight is at most a bound. No program in sight. -/
namespace Go.Proofs.Ytpjjokpfengjnaa.M

def wK (n : Int) : Int := if n = 10 then 1 else 0
def wR (n : Int) : Int := if n < 128 then 1 else if n ≤ 191 then 0 else 1
def wU (n : Int) : Int := if n < 128 then 1 else if n ≤ 191 then 0 else if n < 240 then 1 else 2
def one (_ : Int) : Int := 1
def byF (a b c d way : Int) : Int := if way = 0 then a else if way = 1 then c else if way = 2 then d else if way = 3 then b else 0
def wBy (way n : Int) : Int := byF 1 (wK n) (wR n) (wU n) way

theorem wK_bd (n : Int) : 0 ≤ wK n ∧ wK n ≤ 2 := by unfold wK; split <;> omega
theorem wR_bd (n : Int) : 0 ≤ wR n ∧ wR n ≤ 2 := by unfold wR; repeat' split <;> omega
theorem wU_bd (n : Int) : 0 ≤ wU n ∧ wU n ≤ 2 := by unfold wU; repeat' split <;> omega
theorem one_bd (n : Int) : 0 ≤ one n ∧ one n ≤ 2 := by unfold one; omega
theorem wBy_bd (way n : Int) : 0 ≤ wBy way n ∧ wBy way n ≤ 2 := by
  have h1 := wK_bd n
  have h2 := wR_bd n
  have h3 := wU_bd n
  unfold wBy byF
  repeat' split <;> omega

def tot (f : Int → Int) : List UInt8 → Int
  | [] => 0
  | c :: r => f c.toNat + tot f r

theorem tot_append (f : Int → Int) (l m : List UInt8) : tot f (l ++ m) = tot f l + tot f m := by
  induction l with
  | nil => simp [tot]
  | cons c r ih => simp [tot, ih]; omega
theorem tot_bd (f : Int → Int) (hf : ∀ n, 0 ≤ f n ∧ f n ≤ 2) (l : List UInt8) : 0 ≤ tot f l ∧ tot f l ≤ 2 * l.length := by
  induction l with
  | nil => simp [tot]
  | cons c r ih => have := hf c.toNat; simp [tot]; omega
theorem take_snoc (l : List UInt8) (k : Nat) (h : k < l.length) : l.take (k + 1) = l.take k ++ [l[k]] := by
  rw [List.take_succ_eq_append_getElem h]
theorem tot_snoc (f : Int → Int) (l : List UInt8) (k : Nat) (h : k < l.length) : tot f (l.take (k + 1)) = tot f (l.take k) + f (l[k]).toNat := by
  rw [take_snoc l k h, tot_append]; simp [tot]

def upto (f : Int → Int) : List UInt8 → Int → Nat
  | [], _ => 0
  | c :: r, n => if n < f c.toNat then 0 else upto f r (n - f c.toNat) + 1

theorem upto_le (f : Int → Int) (l : List UInt8) (n : Int) : upto f l n ≤ l.length := by
  induction l generalizing n with
  | nil => simp [upto]
  | cons c r ih => simp only [upto]; split <;> simp; exact ih _
theorem upto_drop (f : Int → Int) (l : List UInt8) (k : Nat) (h : k < l.length) (n : Int) :
    upto f (l.drop k) n = if n < f (l[k]).toNat then 0 else upto f (l.drop (k + 1)) (n - f (l[k]).toNat) + 1 := by
  rw [List.drop_eq_getElem_cons h]; rfl
theorem upto_tot (f : Int → Int) (l : List UInt8) (n : Int) (hn : 0 ≤ n) : tot f (l.take (upto f l n)) ≤ n := by
  induction l generalizing n with
  | nil => simpa [upto, tot] using hn
  | cons c r ih =>
    simp only [upto]
    split
    · simpa [tot] using hn
    · simp only [List.take_succ_cons, tot]
      have := ih (n - f c.toNat) (by omega)
      omega
theorem upto_more (f : Int → Int) (l : List UInt8) (n : Int) (h : upto f l n < l.length) : n < tot f (l.take (upto f l n + 1)) := by
  induction l generalizing n with
  | nil => simp at h
  | cons c r ih =>
    simp only [upto] at h ⊢
    split at h
    · rename_i hc
      simp [hc, tot]
    · rename_i hc
      simp only [hc, if_false, List.take_succ_cons, tot]
      have := ih (n - f c.toNat) (by simpa using h)
      omega
theorem upto_app_lt (f : Int → Int) (l m : List UInt8) (n : Int) (hn : 0 ≤ n) (h : n < tot f l) : upto f (l ++ m) n = upto f l n ∧ upto f l n < l.length := by
  induction l generalizing n with
  | nil => simp only [tot] at h; omega
  | cons c r ih =>
    simp only [List.cons_append, upto]
    split
    · simp
    · have := ih (n - f c.toNat) (by omega) (by simp only [tot] at h; omega)
      simp [this.1, this.2]
theorem upto_app_ge (f : Int → Int) (hf : ∀ n, 0 ≤ f n ∧ f n ≤ 2) (l m : List UInt8) (n : Int) (h : tot f l ≤ n) : upto f (l ++ m) n = l.length + upto f m (n - tot f l) := by
  induction l generalizing n with
  | nil => simp [tot]
  | cons c r ih =>
    have hb := tot_bd f hf r
    simp only [List.cons_append, upto, tot] at h ⊢
    rw [if_neg (by omega), ih _ (by omega)]
    simp only [List.length_cons]
    have : n - f c.toNat - tot f r = n - (f c.toNat + tot f r) := by omega
    rw [this]
    omega
theorem byF_tot (way : Int) (l : List UInt8) : byF (tot one l) (tot wK l) (tot wR l) (tot wU l) way = tot (wBy way) l := by
  induction l with
  | nil => simp [tot, byF]
  | cons c r ih =>
    simp only [tot]
    rw [← ih]
    unfold wBy byF one
    repeat' split <;> omega
theorem tot_one (l : List UInt8) : tot one l = l.length := by
  induction l with
  | nil => simp [tot]
  | cons c r ih => simp [tot, ih, one]; omega

end Go.Proofs.Ytpjjokpfengjnaa.M
