/- TermCounts: the walk and what it says of trees. -/
import Derived.Test.YthiionkikammkaaLit
import Derived.Test.YthiionkikammkaaLight
import Derived.Test.YthiionkikammkaaOpen
import Derived.Test.YthiionkikammkaaPlain
namespace Go.Proofs.Ythiionkikammkaa
open Go.RowKit
set_option linter.unusedVariables false
set_option linter.unusedSimpArgs false
set_option maxRecDepth 20000
set_option maxHeartbeats 2000000

theorem nL_snoc (t : Tm) : ∀ l : List Tm, nL (l ++ [t]) = nL l + nT t
  | [] => by simp [nL]
  | a :: l => by rw [List.cons_append, nL, nL, nL_snoc t l]; omega
theorem hL_snoc (t : Tm) : ∀ l : List Tm, hL (l ++ [t]) = max (hL l) (hT t)
  | [] => by simp [hL]
  | a :: l => by rw [List.cons_append, hL, hL, hL_snoc t l]; omega
theorem okL_snoc (t : Tm) : ∀ l : List Tm, okL l → okT t → okL (l ++ [t])
  | [], _, h => by rw [List.nil_append]; unfold okL; exact ⟨h, by unfold okL; trivial⟩
  | a :: l, h, ht => by rw [List.cons_append]; unfold okL at h ⊢; exact ⟨h.1, okL_snoc t l h.2 ht⟩
theorem take_snoc {l : List Tm} {j : Nat} (h : j < l.length) : l.take (j + 1) = l.take j ++ [l[j]] := by rw [List.take_succ_eq_append_getElem h]
/-- A compound of good arguments. -/
theorem comp_ok {s : ByteArray} {l : List Tm} (hs : s.size ≤ 50) (h0 : l.length ≠ 0) (h8 : l.length ≤ 8) (ho : okL l) (hn : nL l ≤ 1600) (hh : hL l ≤ 300) :
    mayE (.mk 5 s 0 0 0 l) = 0 ∧ nodesE (.mk 5 s 0 0 0 l) = 1 + nL l ∧ depthE (.mk 5 s 0 0 0 l) = 1 + hL l := by
  have e1 : nT (.mk 5 s 0 0 0 l) = 1 + nL l := by rw [nT, if_pos rfl]
  have e2 : hT (.mk 5 s 0 0 0 l) = 1 + hL l := by rw [hT, if_pos rfl]
  have hm : mayE (.mk 5 s 0 0 0 l) = 0 := mayE_ok.2 ⟨by
    unfold okT
    refine ⟨?_, fun _ => ho⟩
    simp only [oneE]
    rw [if_neg (by decide), if_neg (by decide), if_pos trivial, if_neg h0, if_neg (by omega), if_neg (by omega)], by omega, by omega⟩
  refine ⟨hm, ?_, ?_⟩
  · rw [nodesE_ok hm, e1]; simp
  · rw [depthE_ok hm, e2]; simp

end Go.Proofs.Ythiionkikammkaa
