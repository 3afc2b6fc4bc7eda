/- TermVars: the walk and what it says of trees. -/
import Derived.Test.YtfjdekiobggdoaaCounts
namespace Go.Proofs.Ytfjdekiobggdoaa
open Go.RowKit
set_option linter.unusedVariables false
set_option linter.unusedSimpArgs false
set_option maxRecDepth 20000
set_option maxHeartbeats 2000000

def add1 (x : List Int) (v : Int) : List Int := if v ∈ x then x else x ++ [v]
def addAll (x vs : List Int) : List Int := vs.foldl add1 x
theorem addAll_nil (x : List Int) : addAll x [] = x := rfl
theorem addAll_snoc (x vs : List Int) (v : Int) : addAll x (vs ++ [v]) = add1 (addAll x vs) v := by simp [addAll]
theorem mem_add1 {x : List Int} {v u : Int} : u ∈ add1 x v ↔ u ∈ x ∨ u = v := by
  unfold add1
  split
  · rename_i h
    constructor
    · exact .inl
    · rintro (h | rfl) <;> assumption
  · simp
theorem mem_addAll {u : Int} : ∀ (vs x : List Int), u ∈ addAll x vs ↔ u ∈ x ∨ u ∈ vs
  | [], x => by simp [addAll]
  | v :: vs, x => by
    have := mem_addAll (u := u) vs (add1 x v)
    simp only [addAll, List.foldl_cons] at this ⊢
    rw [this, mem_add1, List.mem_cons]
    exact ⟨fun h => by rcases h with (h | h) | h <;> simp [h], fun h => by rcases h with h | h | h <;> simp [h]⟩
theorem addAll_add1 (x y : List Int) (v : Int) : addAll x (add1 y v) = add1 (addAll x y) v := by
  by_cases h : v ∈ y
  · rw [add1, if_pos h, add1, if_pos ((mem_addAll y x).2 (.inr h))]
  · conv => lhs; rw [add1, if_neg h]
    rw [addAll_snoc]
theorem addAll_assoc (x : List Int) : ∀ (vs y : List Int), addAll x (addAll y vs) = addAll (addAll x y) vs
  | [], y => rfl
  | v :: vs, y => by
    show addAll x (addAll (add1 y v) vs) = addAll (add1 (addAll x y) v) vs
    rw [addAll_assoc x vs, addAll_add1]
theorem add1_len (x : List Int) (v : Int) : (add1 x v).length ≤ x.length + 1 := by unfold add1; split <;> simp
theorem addAll_len : ∀ (vs x : List Int), (addAll x vs).length ≤ x.length + vs.length
  | [], x => by simp [addAll]
  | v :: vs, x => by
    have := addAll_len vs (add1 x v)
    have h1 := add1_len x v
    show (addAll (add1 x v) vs).length ≤ _
    simp only [List.length_cons]
    omega
mutual
theorem foldT_add : ∀ (t : Tm) (x : List Int), foldT varF t x = addAll x (foldT varF t [])
  | .mk k s n r i l, x => by
    unfold foldT
    by_cases h5 : k = 5
    · have e : ∀ x, varF x (.mk k s n r i l) = x := fun x => by simp [varF, Tm.kind, h5]
      rw [if_pos h5, if_pos h5, e, e]
      exact foldL_add l x
    · rw [if_neg h5, if_neg h5]
      unfold varF
      simp only [Tm.kind, Tm.int]
      by_cases h1 : k = 1
      · by_cases hm : n ∈ x
        · simp [h1, hm, addAll, add1]
        · simp [h1, hm, addAll, add1]
      · simp [h1, addAll]
theorem foldL_add : ∀ (l : List Tm) (x : List Int), foldL varF l x = addAll x (foldL varF l [])
  | [], x => rfl
  | t :: ts, x => by
    rw [foldL, foldL, foldL_add ts (foldT varF t x), foldL_add ts (foldT varF t []), foldT_add t x, addAll_assoc]
end
theorem foldL_snoc {σ : Type} (f : σ → Tm → σ) (t : Tm) : ∀ (l : List Tm) (x : σ), foldL f (l ++ [t]) x = foldT f t (foldL f l x)
  | [], x => by simp [foldL]
  | a :: l, x => by rw [List.cons_append, foldL, foldL, foldL_snoc f t l]
theorem varsE_le {t : Tm} (h : mayE t = 0) : (varsE t).length ≤ nT t := by
  have := foldT_len t []
  rw [varsE_ok h]
  simpa using this
theorem vars_comp {s : ByteArray} {l : List Tm} (h : mayE (.mk 5 s 0 0 0 l) = 0) : varsE (.mk 5 s 0 0 0 l) = foldL varF l [] := by
  rw [varsE_ok h, foldT, if_pos rfl]
  congr 1
/-- An own row's value: a slice of that length. -/
theorem St.rowVal {M X : List Nat} {w0 w : World} {L : List Res} {F : List Nat → World → Prop} (H : St M X w0 w L F) {k : Nat} {v : Value} {n : Nat} {xs : List Value} {ty sz : Nat} (hk : L[k]? = some (.row v n xs ty sz)) : ∃ a c, v = .slice a n c := by
  rcases (H.getRow hk).2 with ⟨rfl, h0⟩ | ⟨g, cap, cur, rfl, _⟩
  · subst h0; exact ⟨_, _, rfl⟩
  · exact ⟨_, _, rfl⟩
theorem take_int {l : List Int} {j : Nat} (h : j < l.length) : l.take (j + 1) = l.take j ++ [l[j]] := by rw [List.take_succ_eq_append_getElem h]
theorem VR.at2 {A : Option Addr} {cap : Nat} {l : List Value} {M : List Nat} {w : World} (h : VR A cap l M w) (j : Nat) (hj : j < l.length) :
    ∃ b o, A = some ⟨b, o, none⟩ ∧ b < w.heap.size ∧ ∀ k v, [l[j]][k]? = some v → w.cell? ⟨b, o + j + k, none⟩ = some v := by
  rcases h.2 with rfl | ⟨b, o, e, _, hb, hc⟩
  · simp at hj
  · refine ⟨b, o, e, hb, fun k v hk => ?_⟩
    cases k with
    | zero => exact hc j v (by simpa [List.getElem?_eq_getElem hj] using hk)
    | succ k => simp at hk

end Go.Proofs.Ytfjdekiobggdoaa
