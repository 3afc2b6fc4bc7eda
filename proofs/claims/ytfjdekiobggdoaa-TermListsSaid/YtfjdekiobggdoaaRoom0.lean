/- Is there room for terms in the place of variables: as a function of trees. -/
import Derived.Test.YtfjdekiobggdoaaContains
import Derived.Test.YtfjdekiobggdoaaPlain
namespace Go.Proofs.Ytfjdekiobggdoaa
open Go.RowKit
set_option linter.unusedVariables false
set_option linter.unusedSimpArgs false
set_option maxRecDepth 20000
set_option maxHeartbeats 4000000

/-- What one node counts for: how many, how deep. -/
def sizeN (of : List Tm) (k n : Int) : Int × Int := if k = 1 ∧ n < of.length then (nodesE (of.getD n.toNat Tm.zero), depthE (of.getD n.toNat Tm.zero)) else (1, 1)
/-- The count behind a node. -/
def addN (of : List Tm) (k n d : Int) (x : Int × Int) : Int × Int := (x.1 + (sizeN of k n).1, if x.2 < d + (sizeN of k n).2 - 1 then d + (sizeN of k n).2 - 1 else x.2)
mutual
/-- Is there room, from a count on? And the count behind it. -/
def lookE (of : List Tm) : Tm → Int → Int × Int → Bool × (Int × Int)
  | .mk k s n r i l, d, x =>
    if (sizeN of k n).1 = 0 then (false, x)
    else if 2000 < (addN of k n d x).1 ∨ 500 < (addN of k n d x).2 then (false, addN of k n d x)
    else if k = 5 then lookL of l (d + 1) (addN of k n d x) else (true, addN of k n d x)
def lookL (of : List Tm) : List Tm → Int → Int × Int → Bool × (Int × Int)
  | [], _, x => (true, x)
  | t :: ts, d, x => if (lookE of t d x).1 = true then lookL of ts d (lookE of t d x).2 else (false, (lookE of t d x).2)
end
def notLook (of : List Tm) (d : Int) (x : Int × Int) (t : Tm) : Bool × (Int × Int) := (!(lookE of t d x).1, (lookE of t d x).2)
theorem any_look (of : List Tm) (d : Int) : ∀ (l : List Tm) (x : Int × Int), anyF (notLook of d) l x = (!(lookL of l d x).1, (lookL of l d x).2)
  | [], x => rfl
  | t :: l, x => by
    unfold anyF lookL notLook
    cases h : (lookE of t d x).1
    · simp
    · have := any_look of d l (lookE of t d x).2
      unfold notLook at this
      simpa using this
def okC (x : Int × Int) : Prop := 0 ≤ x.1 ∧ x.1 ≤ 2000 ∧ 0 ≤ x.2 ∧ x.2 ≤ 500
theorem size_bd (of : List Tm) (k n : Int) : 0 ≤ (sizeN of k n).1 ∧ (sizeN of k n).1 ≤ 2000 ∧ 0 ≤ (sizeN of k n).2 ∧ (sizeN of k n).2 ≤ 500 := by
  unfold sizeN
  split
  · by_cases h : mayE (of.getD n.toNat Tm.zero) = 0
    · simp only [nodesE_ok h, depthE_ok h]
      have := (mayE_ok.1 h).2
      omega
    · simp only [nodesE_err h, depthE_err h]; omega
  · simp
theorem add_bd {of : List Tm} {k n d : Int} {x : Int × Int} (hx : okC x) (hd : 1 ≤ d) (h : ¬(2000 < (addN of k n d x).1 ∨ 500 < (addN of k n d x).2)) : okC (addN of k n d x) := by
  have hs := size_bd of k n
  unfold okC addN at *
  simp only [not_or, Int.not_lt] at h
  refine ⟨by simp only; omega, by simp only; omega, ?_, by simp only; omega⟩
  simp only
  split <;> omega
mutual
theorem look_ok (of : List Tm) : ∀ (t : Tm) (d : Int) (x : Int × Int), okC x → 1 ≤ d → (lookE of t d x).1 = true → okC (lookE of t d x).2
  | .mk k s n r i l, d, x, hx, hd, h => by
    unfold lookE at h ⊢
    split
    · rename_i h1; rw [if_pos h1] at h; cases h
    · rename_i h1
      rw [if_neg h1] at h
      split
      · rename_i h2; rw [if_pos h2] at h; cases h
      · rename_i h2
        rw [if_neg h2] at h
        have ha := add_bd hx hd h2
        split
        · rename_i h3
          rw [if_pos h3] at h
          exact lookL_ok of l (d + 1) _ ha (by omega) h
        · exact ha
theorem lookL_ok (of : List Tm) : ∀ (l : List Tm) (d : Int) (x : Int × Int), okC x → 1 ≤ d → (lookL of l d x).1 = true → okC (lookL of l d x).2
  | [], d, x, hx, _, _ => hx
  | t :: ts, d, x, hx, hd, h => by
    unfold lookL at h ⊢
    split
    · rename_i h1
      rw [if_pos h1] at h
      exact lookL_ok of ts d _ (look_ok of t d x hx hd h1) hd h
    · rename_i h1
      rw [if_neg h1] at h
      cases h
end

end Go.Proofs.Ytfjdekiobggdoaa
