/- The contracts of package past at int, told by what the past holds alone. -/
import Derived.Test.YtjmammphomijfaaPushI
import Derived.Test.YtjmammphomijfaaOk
namespace Go.Proofs.Ytjmammphomijfaa
open Go.RowKit

def LI (l : List Int) : List Value := l.map (Value.int .i64)
theorem lenI (l : List Int) : (LI l).length = l.length := by simp [LI]
theorem snocI (l : List Int) (x : Int) : LI (l ++ [x]) = LI l ++ [.int .i64 x] := by simp [LI]
theorem oneI (l : List Int) : ∀ u ∈ LI l, u.oneCell' = true := by
  intro u hu
  simp only [LI, List.mem_map] at hu
  obtain ⟨n, _, rfl⟩ := hu
  rfl
theorem okPushI {base : Nat} {w0 w : World} {g : Nat} {most : Int} {bs fs : List Int} (h : Ok 47 3 base w0 w g most (LI bs) (LI fs)) (x : Int) (hl : bs.length ≤ 1048576) (h1 : 1 ≤ most) :
    Calls Try.prog 10 #[.pointer (some ⟨g, 0, none⟩), .int .i64 x] w fun e w' => e = .returned (.tuple #[]) ∧ Ok 47 3 base w0 w' g most (LI (pushed most bs x)) (LI []) := by
  obtain ⟨F, hP, hb⟩ := h
  by_cases hm : (bs.length : Int) + 1 ≤ most
  · refine (pushI_few base w g most _ _ F x hP (by rw [lenI]; exact hl) (by rw [lenI]; exact hm)).mono fun e w' ⟨he, hL⟩ => ⟨he, ?_⟩
    rw [pushed, if_pos hm, snocI]
    exact Ok.left hP hb hL
  · refine (pushI_more base w g most _ _ F x hP (by rw [lenI]; exact hl) (by rw [lenI]; omega) h1 (oneI bs)).mono fun e w' ⟨he, hL⟩ => ⟨he, ?_⟩
    rw [pushed, if_neg hm, snocI]
    have et : LI bs.tail = (LI bs).tail := by simp [LI, List.map_tail]
    rw [et]
    exact Ok.left hP hb hL
theorem okManyI {base : Nat} {w0 w : World} {g : Nat} {most : Int} {bs fs : List Int} (h : Ok 47 3 base w0 w g most (LI bs) (LI fs)) :
    Calls Try.prog 13 #[.pointer (some ⟨g, 0, none⟩)] w fun e w' => e = .returned (.tuple #[.int .i64 (bs.length : Int), .int .i64 (fs.length : Int)]) ∧ Ok 47 3 base w0 w' g most (LI bs) (LI fs) := by
  have h0 := h
  obtain ⟨F, hP, hb⟩ := h
  refine (manyI base w g most _ _ F hP).mono fun e w' ⟨he, n, hw⟩ => ⟨by rw [he, lenI, lenI], ?_⟩
  rw [← hw]
  exact h0.drewN n
theorem okBackI {base : Nat} {w0 w : World} {g : Nat} {most : Int} {bs fs : List Int} (x : Int) (h : Ok 47 3 base w0 w g most (LI (bs ++ [x])) (LI fs)) (y : Int) (hl : bs.length ≤ 1048576) (hl2 : fs.length ≤ 1048576) :
    Calls Try.prog 11 #[.pointer (some ⟨g, 0, none⟩), .int .i64 y] w fun e w' => e = .returned (.tuple #[.int .i64 x, .bool true]) ∧ Ok 47 3 base w0 w' g most (LI bs) (LI (fs ++ [y])) := by
  obtain ⟨F, hP, hb⟩ := h
  rw [snocI] at hP
  refine (backI base w g most _ _ F x y hP (by rw [lenI]; exact hl) (by rw [lenI]; exact hl2)).mono fun e w' ⟨he, hL⟩ => ⟨he, ?_⟩
  rw [snocI]
  exact Ok.left hP hb hL
theorem okForthI {base : Nat} {w0 w : World} {g : Nat} {most : Int} {bs fs : List Int} (x : Int) (h : Ok 47 3 base w0 w g most (LI bs) (LI (fs ++ [x]))) (y : Int) (hl : bs.length ≤ 1048576) (hl2 : fs.length ≤ 1048576) :
    Calls Try.prog 12 #[.pointer (some ⟨g, 0, none⟩), .int .i64 y] w fun e w' => e = .returned (.tuple #[.int .i64 x, .bool true]) ∧ Ok 47 3 base w0 w' g most (LI (bs ++ [y])) (LI fs) := by
  obtain ⟨F, hP, hb⟩ := h
  rw [snocI] at hP
  refine (forthI base w g most _ _ F x y hP (by rw [lenI]; exact hl2) (by rw [lenI]; exact hl)).mono fun e w' ⟨he, hL⟩ => ⟨he, ?_⟩
  rw [snocI]
  exact Ok.left hP hb hL
theorem okBackI_none {base : Nat} {w0 w : World} {g : Nat} {most : Int} {fs : List Int} (h : Ok 47 3 base w0 w g most (LI []) (LI fs)) (y : Int) :
    Calls Try.prog 11 #[.pointer (some ⟨g, 0, none⟩), .int .i64 y] w fun e w' => e = .returned (.tuple #[.int .i64 0, .bool false]) ∧ Ok 47 3 base w0 w' g most (LI []) (LI fs) := by
  have h0 := h
  obtain ⟨F, hP, hb⟩ := h
  refine (backI_none base w g most _ F y hP).mono fun e w' ⟨he, n, hw⟩ => ⟨he, ?_⟩
  rw [← hw]
  exact h0.drewN n
theorem okForthI_none {base : Nat} {w0 w : World} {g : Nat} {most : Int} {bs : List Int} (h : Ok 47 3 base w0 w g most (LI bs) (LI [])) (y : Int) :
    Calls Try.prog 12 #[.pointer (some ⟨g, 0, none⟩), .int .i64 y] w fun e w' => e = .returned (.tuple #[.int .i64 0, .bool false]) ∧ Ok 47 3 base w0 w' g most (LI bs) (LI []) := by
  have h0 := h
  obtain ⟨F, hP, hb⟩ := h
  refine (forthI_none base w g most _ F y hP).mono fun e w' ⟨he, n, hw⟩ => ⟨he, ?_⟩
  rw [← hw]
  exact h0.drewN n
end Go.Proofs.Ytjmammphomijfaa
