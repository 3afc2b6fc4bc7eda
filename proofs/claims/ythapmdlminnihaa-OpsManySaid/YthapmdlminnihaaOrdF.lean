/- Laws of the comparisons of numbers and of texts (no terms). -/
import Derived.Test.YthapmdlminnihaaOpB
namespace Go.Proofs.Ythapmdlminnihaa
open Go.RowKit
set_option linter.unusedVariables false
set_option linter.unusedSimpArgs false
set_option maxRecDepth 20000
set_option maxHeartbeats 4000000
/-! ### Numbers -/
def T3 (x y z : Int) : Prop := x ≤ 0 → y ≤ 0 → z ≤ 0 ∧ (z = 0 ↔ x = 0 ∧ y = 0)
def R3 (x : Int) : Prop := x = -1 ∨ x = 0 ∨ x = 1
theorem or_T3 {a b c a' b' c' : Int} (h : T3 a b c) (h' : a = 0 → b = 0 → T3 a' b' c') (ha : R3 a) (hb : R3 b) (hc : R3 c) : T3 (orI a a') (orI b b') (orI c c') := by
  unfold T3 R3 orI at *
  intro h1 h2
  by_cases x : a = 0
  · rw [if_pos x] at h1
    by_cases y : b = 0
    · rw [if_pos y] at h2
      have hz : c = 0 := (h (by omega) (by omega)).2.2 ⟨x, y⟩
      rw [if_pos x, if_pos y, if_pos hz]
      exact h' x y h1 h2
    · rw [if_neg y] at h2
      have hz := h (by omega) h2
      have hz' : ¬ c = 0 := fun e => y (hz.2.1 e).2
      rw [if_pos x, if_neg y, if_neg hz']
      omega
  · rw [if_neg x] at h1
    by_cases y : b = 0
    · rw [if_pos y] at h2
      have hz := h h1 (by omega)
      have hz' : ¬ c = 0 := fun e => x (hz.2.1 e).1
      rw [if_neg x, if_pos y, if_neg hz']
      omega
    · rw [if_neg y] at h2
      have hz := h h1 h2
      have hz' : ¬ c = 0 := fun e => x (hz.2.1 e).1
      rw [if_neg x, if_neg y, if_neg hz']
      omega
theorem or_R3 {a b : Int} (h : R3 a) (h' : R3 b) : R3 (orI a b) := by unfold orI; split <;> assumption
theorem or_zero {a b : Int} : orI a b = 0 ↔ a = 0 ∧ b = 0 := by
  unfold orI
  split
  · rename_i h; simp [h]
  · rename_i h; simp [h]
theorem or_neg {a b a' b' : Int} (h : a' = -a) (h' : a = 0 → b' = -b) : orI a' b' = - orI a b := by
  unfold orI
  by_cases x : a = 0
  · rw [if_pos x, if_pos (by omega), h' x]
  · rw [if_neg x, if_neg (by omega), h]
theorem cmpI_def (a b : Int) : cmpI a b = if a < b then -1 else if b < a then 1 else 0 := by unfold cmpI; rfl
theorem cmpS_def (a b : ByteArray) : cmpS a b = if Op.bytesLess a.toList b.toList = true then -1 else if (a.toList == b.toList) = true then 0 else 1 := by unfold cmpS; rfl
theorem cmpC_def (r i r' i' : Int) : cmpC r i r' i' = orI (cmpI r r') (cmpI i i') := by unfold cmpC; rfl
theorem rankI_def (k : Int) : rankI k = if k = 1 then 0 else if k = 4 then 1 else if k = 3 then 2 else if k = 2 then 3 else 4 := by unfold rankI; rfl
theorem cmpI_R (a b : Int) : R3 (cmpI a b) := by rw [cmpI_def]; unfold R3; split <;> (try split) <;> simp
theorem cmpI_zero {a b : Int} : cmpI a b = 0 ↔ a = b := by rw [cmpI_def]; split <;> (try split) <;> omega
theorem cmpI_neg (a b : Int) : cmpI b a = - cmpI a b := by rw [cmpI_def, cmpI_def]; split <;> split <;> (try split) <;> omega
theorem cmpI_T (a b c : Int) : T3 (cmpI a b) (cmpI b c) (cmpI a c) := by
  rw [cmpI_def, cmpI_def, cmpI_def]
  unfold T3
  intro h1 h2
  by_cases x : a < b
  · rw [if_pos x]
    by_cases y : b < c
    · rw [if_pos y, if_pos (by omega)]; omega
    · rw [if_neg y] at h2 ⊢
      by_cases y' : c < b
      · rw [if_pos y'] at h2; omega
      · rw [if_neg y', if_pos (by omega)]; omega
  · rw [if_neg x] at h1 ⊢
    by_cases x' : b < a
    · rw [if_pos x'] at h1; omega
    · rw [if_neg x']
      obtain rfl : a = b := by omega
      by_cases y : a < c
      · rw [if_pos y]; omega
      · rw [if_neg y] at h2 ⊢
        by_cases y' : c < a
        · rw [if_pos y'] at h2; omega
        · rw [if_neg y']; omega
/-! ### Texts -/
theorem bl_irr : ∀ x : List UInt8, Op.bytesLess x x = false
  | [] => rfl
  | a :: x => by unfold Op.bytesLess; rw [bl_irr x]; simp
theorem bl_tri : ∀ x y : List UInt8, Op.bytesLess x y = false → (x == y) = false → Op.bytesLess y x = true
  | [], [], _, h => by simp at h
  | [], _ :: _, h, _ => by simp [Op.bytesLess] at h
  | _ :: _, [], _, _ => rfl
  | a :: x, b :: y, h, h' => by
    unfold Op.bytesLess at h ⊢
    simp only [Bool.or_eq_false_iff, decide_eq_false_iff_not, UInt8.not_lt, Bool.or_eq_true, decide_eq_true_eq, Bool.and_eq_true, beq_iff_eq] at h ⊢
    by_cases e : a = b
    · subst e
      right
      refine ⟨rfl, bl_tri x y (by simpa using h.2) (by simpa using h')⟩
    · left
      exact UInt8.lt_of_le_of_ne h.1 (fun q => e q.symm)
theorem bl_trans : ∀ x y z : List UInt8, Op.bytesLess x y = true → Op.bytesLess y z = true → Op.bytesLess x z = true
  | _, [], _, h, _ => by unfold Op.bytesLess at h; cases h
  | _, _ :: _, [], _, h => by unfold Op.bytesLess at h; cases h
  | [], _ :: _, _ :: _, _, _ => rfl
  | a :: x, b :: y, c :: z, h, h' => by
    unfold Op.bytesLess at h h' ⊢
    simp only [Bool.or_eq_true, decide_eq_true_eq, Bool.and_eq_true, beq_iff_eq] at h h' ⊢
    rcases h with h | ⟨rfl, h⟩
    · rcases h' with h' | ⟨rfl, h'⟩
      · exact .inl (UInt8.lt_trans h h')
      · exact .inl h
    · rcases h' with h' | ⟨rfl, h'⟩
      · exact .inl h'
      · exact .inr ⟨rfl, bl_trans x y z h h'⟩
theorem cmpS_R (a b : ByteArray) : R3 (cmpS a b) := by rw [cmpS_def]; unfold R3; split <;> (try split) <;> simp
theorem cmpS_zero {a b : ByteArray} : cmpS a b = 0 ↔ (a.toList == b.toList) = true := by
  rw [cmpS_def]
  by_cases x : Op.bytesLess a.toList b.toList = true
  · rw [if_pos x]
    refine ⟨fun h => by omega, fun h => ?_⟩
    have e : a.toList = b.toList := by simpa using h
    rw [e, bl_irr] at x
    cases x
  · rw [if_neg x]
    by_cases y : (a.toList == b.toList) = true
    · rw [if_pos y]; simp [y]
    · rw [if_neg y]; exact ⟨fun h => by omega, fun h => absurd h y⟩
theorem cmpS_neg (a b : ByteArray) : cmpS b a = - cmpS a b := by
  rw [cmpS_def, cmpS_def]
  cases x : Op.bytesLess a.toList b.toList with
  | true =>
    have y : Op.bytesLess b.toList a.toList = false := by
      cases q : Op.bytesLess b.toList a.toList with
      | false => rfl
      | true => have := bl_trans _ _ _ x q; rw [bl_irr] at this; cases this
    have z : (b.toList == a.toList) = false := by
      cases q : (b.toList == a.toList) with
      | false => rfl
      | true => have e : b.toList = a.toList := by simpa using q
                rw [e, bl_irr] at x; cases x
    rw [y, z]; simp
  | false =>
    cases z : (a.toList == b.toList) with
    | true =>
      have e : a.toList = b.toList := by simpa using z
      rw [e, bl_irr]; simp
    | false =>
      have z' : (b.toList == a.toList) = false := by
        cases q : (b.toList == a.toList) with
        | false => rfl
        | true => have e : b.toList = a.toList := by simpa using q
                  rw [e] at z; simp at z
      rw [bl_tri _ _ x z]; simp
theorem cmpS_T (a b c : ByteArray) : T3 (cmpS a b) (cmpS b c) (cmpS a c) := by
  have hz1 := cmpS_zero (a := a) (b := b)
  have hz2 := cmpS_zero (a := b) (b := c)
  unfold T3
  intro h1 h2
  have r1 := cmpS_R a b
  have r2 := cmpS_R b c
  unfold R3 at r1 r2
  have lt : ∀ {x y : ByteArray}, cmpS x y = -1 ↔ Op.bytesLess x.toList y.toList = true := by
    intro x y
    rw [cmpS_def]
    by_cases q : Op.bytesLess x.toList y.toList = true
    · rw [if_pos q]; simp [q]
    · rw [if_neg q]
      refine ⟨fun h => ?_, fun h => absurd h q⟩
      split at h <;> omega
  by_cases x : cmpS a b = 0
  · have e : a.toList = b.toList := by simpa using hz1.1 x
    have e2 : cmpS a c = cmpS b c := by rw [cmpS_def, cmpS_def, e]
    rw [e2]
    exact ⟨h2, by simp [x]⟩
  · have x' := lt.1 (show cmpS a b = -1 by omega)
    by_cases y : cmpS b c = 0
    · have e : b.toList = c.toList := by simpa using hz2.1 y
      have e2 : cmpS a c = cmpS a b := by rw [cmpS_def, cmpS_def, e]
      rw [e2]
      exact ⟨h1, by simp [y]⟩
    · have y' := lt.1 (show cmpS b c = -1 by omega)
      have := lt.2 (bl_trans _ _ _ x' y')
      rw [this]
      omega
theorem cmpC_R (r i r' i' : Int) : R3 (cmpC r i r' i') := by rw [cmpC_def]; exact or_R3 (cmpI_R _ _) (cmpI_R _ _)
theorem cmpC_zero {r i r' i' : Int} : cmpC r i r' i' = 0 ↔ r = r' ∧ i = i' := by rw [cmpC_def, or_zero, cmpI_zero, cmpI_zero]
theorem cmpC_neg (r i r' i' : Int) : cmpC r' i' r i = - cmpC r i r' i' := by rw [cmpC_def, cmpC_def]; exact or_neg (cmpI_neg _ _) (fun _ => cmpI_neg _ _)
theorem cmpC_T (a b c d e f : Int) : T3 (cmpC a b c d) (cmpC c d e f) (cmpC a b e f) := by rw [cmpC_def, cmpC_def, cmpC_def]; exact or_T3 (cmpI_T _ _ _) (fun _ _ => cmpI_T _ _ _) (cmpI_R _ _) (cmpI_R _ _) (cmpI_R _ _)
end Go.Proofs.Ythapmdlminnihaa
