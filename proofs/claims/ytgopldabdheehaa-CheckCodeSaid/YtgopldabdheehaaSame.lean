/- Walks: same, Same. -/
import Derived.Test.YtgopldabdheehaaPlain
namespace Go.Proofs.Ytgopldabdheehaa
open Go.RowKit
set_option linter.unusedVariables false
set_option linter.unusedSimpArgs false
set_option maxRecDepth 20000
set_option maxHeartbeats 1000000

/-- Cells in a row that stay. -/
def CellF (b a : Nat) (cs : List Value) (M : List Nat) (w : World) : Prop := b ∉ M ∧ b < w.heap.size ∧ ∀ (j : Nat) (v : Value), cs[j]? = some v → w.cell? ⟨b, a + j, none⟩ = some v
theorem CellF.stab (b a : Nat) (cs : List Value) : Stab (CellF b a cs) := stab_of_to fun M M' w w' H h =>
  let ⟨k1, k2, k3⟩ := H b h.1 h.2.1
  ⟨k1, k2, fun j v hj => (cell_same k3 _).trans (h.2.2 j v hj)⟩

mutual
def sameE : Tm → Tm → Bool
  | .mk k s n r i l, .mk k' s' n' r' i' l' => k == k' && (s.toList == s'.toList && (n == n' && (r == r' && (i == i' && sameL l l'))))
def sameL : List Tm → List Tm → Bool
  | [], [] => true
  | a :: l, b :: m => sameE a b && sameL l m
  | _, _ => false
end
theorem sameL_len : ∀ {l m : List Tm}, l.length ≠ m.length → sameL l m = false
  | [], [], h => by simp at h
  | [], _ :: _, _ => rfl
  | _ :: _, [], _ => rfl
  | a :: l, b :: m, h => by
    unfold sameL
    rw [sameL_len (l := l) (m := m) (by simpa using h), Bool.and_false]


mutual
/-- No row of arguments is too long. -/
def slimA : Tm → Prop
  | .mk _ _ _ _ _ l => l.length ≤ 1000000 ∧ slimAL l
def slimAL : List Tm → Prop
  | [] => True
  | t :: ts => slimA t ∧ slimAL ts
end
theorem slimAL_mem : ∀ {l : List Tm} {t : Tm}, slimAL l → t ∈ l → slimA t
  | _ :: _, _, h, .head _ => h.1
  | _ :: _, _, h, .tail _ m => slimAL_mem h.2 m
mutual
theorem slimA_turn (F : Int → Tm) (hF : ∀ n, slimA (F n)) : ∀ t : Tm, okT t → slimA (turnT F t)
  | .mk k s n r i l, h => by
    unfold okT at h
    unfold turnT
    have h0 : ∀ k s n r i, slimA (.mk k s n r i []) := fun k s n r i => by unfold slimA; exact ⟨Nat.zero_le _, trivial⟩
    split
    · exact hF n
    · split
      · exact h0 ..
      · split
        · exact h0 ..
        · split
          · exact h0 ..
          · split
            · rename_i h5
              unfold slimA
              refine ⟨?_, slimAL_turn F hF l (h.2 h5)⟩
              rw [turnL_map, List.length_map]
              exact Nat.le_trans (oneE_args h.1 h5) (by decide)
            · exact h0 ..
theorem slimAL_turn (F : Int → Tm) (hF : ∀ n, slimA (F n)) : ∀ l : List Tm, okL l → slimAL (turnL F l)
  | [], _ => trivial
  | t :: ts, h => ⟨slimA_turn F hF t h.1, slimAL_turn F hF ts h.2⟩
end
theorem slimA_var (n : Int) : slimA (varT n) := by unfold varT slimA; exact ⟨Nat.zero_le _, trivial⟩
theorem slimA_plain (t : Tm) : slimA (plainE t) := by
  unfold plainE
  split
  · rename_i h; exact slimA_turn _ slimA_var t (mayE_ok.1 h).1
  · unfold Tm.zero slimA; exact ⟨Nat.zero_le _, trivial⟩


end Go.Proofs.Ytgopldabdheehaa
