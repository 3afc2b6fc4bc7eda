/- Walks: Rename. -/
import Derived.Test.YtgopldabdheehaaVars
namespace Go.Proofs.Ytgopldabdheehaa
open Go.RowKit
set_option linter.unusedVariables false
set_option linter.unusedSimpArgs false
set_option maxRecDepth 20000
set_option maxHeartbeats 1000000

/-- Numbers given in order. -/
def renM : List Int → Int → List (Int × Value) → List (Int × Value)
  | [], _, m => m
  | a :: l, i, m => renM l (i + 1) (putL m a (.int .i64 i))
/-- The number of a variable, d if it has none. -/
def renF : List Int → Int → Int → Int → Int
  | [], _, d, _ => d
  | a :: l, i, d, n => renF l (i + 1) (if n = a then i else d) n
theorem renM_get : ∀ (l : List Int) (i : Int) (m : List (Int × Value)) (d n : Int), (getL m n).getD (.int .i64 0) = .int .i64 d → (getL (renM l i m) n).getD (.int .i64 0) = .int .i64 (renF l i d n)
  | [], _, _, _, _, h => h
  | a :: l, i, m, d, n, h => by
    refine renM_get l (i + 1) _ _ n ?_
    rw [getL_putL]
    split <;> simp [h]
def renameE (t : Tm) : Tm := if mayE t = 0 then turnT (fun n => varT (renF (varsE t) 0 0 n)) t else Tm.zero

theorem varF_len (x : List Int) (t : Tm) : (varF x t).length ≤ x.length + 1 := by unfold varF; split <;> simp
mutual
theorem foldT_len : ∀ (t : Tm) (x : List Int), (foldT varF t x).length ≤ x.length + nT t
  | .mk k s n r i l, x => by
    unfold foldT nT
    have := varF_len x (.mk k s n r i l)
    split
    · have := foldL_len l (varF x (.mk k s n r i l)); omega
    · omega
theorem foldL_len : ∀ (l : List Tm) (x : List Int), (foldL varF l x).length ≤ x.length + nL l
  | [], x => by simp [foldL, nL]
  | t :: ts, x => by
    unfold foldL nL
    have h1 := foldT_len t x
    have h2 := foldL_len ts (foldT varF t x)
    omega
end
theorem varsE_ok {t : Tm} (h : mayE t = 0) : varsE t = foldT varF t [] := by
  obtain ⟨a, b, c⟩ := mayE_ok.1 h
  unfold varsE
  rw [chkG_of_ok varF t 1 0 0 [] a (by omega) (by omega)]
theorem varsE_len {t : Tm} (h : mayE t = 0) : (varsE t).length ≤ 2000 := by
  have := foldT_len t []
  rw [varsE_ok h]
  obtain ⟨a, b, c⟩ := mayE_ok.1 h
  simp at this
  omega

theorem Try.tzI64 : tyZero Try.prog 2 = some (.int .i64 0) := by kernel_rfl

end Go.Proofs.Ytgopldabdheehaa
