/- Of the same terms, of variants: laws of trees. -/
import Derived.Test.YthiionkikammkaaSame2
import Derived.Laws.Strings
namespace Go.Proofs.Ythiionkikammkaa
open Go.RowKit
set_option linter.unusedVariables false
set_option linter.unusedSimpArgs false

theorem bytes_inj {a b : ByteArray} (h : a.toList = b.toList) : a = b := by
  rw [ByteArray.toList_eq, ByteArray.toList_eq] at h
  cases a; cases b
  congr 1
  exact Array.toList_inj.1 h
mutual
theorem sameE_iff : ∀ t u : Tm, sameE t u = true ↔ t = u
  | .mk k s n r i l, .mk k' s' n' r' i' l' => by
    unfold sameE
    simp only [Bool.and_eq_true, beq_iff_eq, sameL_iff l l', Tm.mk.injEq]
    exact ⟨fun ⟨h1, h2, h3, h4, h5, h6⟩ => ⟨h1, bytes_inj h2, h3, h4, h5, h6⟩, fun ⟨h1, h2, h3, h4, h5, h6⟩ => ⟨h1, by rw [h2], h3, h4, h5, h6⟩⟩
theorem sameL_iff : ∀ l m : List Tm, sameL l m = true ↔ l = m
  | [], [] => by simp [sameL]
  | a :: l, b :: m => by
    unfold sameL
    simp only [Bool.and_eq_true, sameE_iff a b, sameL_iff l m, List.cons.injEq]
  | [], b :: m => by simp [sameL]
  | a :: l, [] => by simp [sameL]
end
theorem SameE_iff {t u : Tm} : SameE t u = true ↔ mayE t = 0 ∧ mayE u = 0 ∧ plainE t = plainE u := by
  unfold SameE
  simp only [Bool.and_eq_true, beq_iff_eq, sameE_iff]
theorem SameE_symm (t u : Tm) : SameE u t = SameE t u := by
  rw [Bool.eq_iff_iff, SameE_iff, SameE_iff]
  exact ⟨fun ⟨a, b, c⟩ => ⟨b, a, c.symm⟩, fun ⟨a, b, c⟩ => ⟨b, a, c.symm⟩⟩
theorem SameE_trans {t u v : Tm} (h : SameE t u = true) (k : SameE u v = true) : SameE t v = true := by
  rw [SameE_iff] at h k ⊢
  exact ⟨h.1, k.2.1, h.2.2.trans k.2.2⟩
theorem SameE_self (t : Tm) : SameE t t = (mayE t == 0) := by
  rw [Bool.eq_iff_iff, SameE_iff, beq_iff_eq]
  exact ⟨fun h => h.1, fun h => ⟨h, h, rfl⟩⟩

mutual
theorem turn_turn (F G : Int → Tm) : ∀ t : Tm, okT t → turnT F (turnT varT t) = turnT F t
  | .mk k s n r i l, h => by
    unfold okT at h
    by_cases h1 : k = 1
    · subst h1; simp [turnT, varT]
    by_cases h2 : k = 2
    · subst h2; simp [turnT]
    by_cases h3 : k = 3
    · subst h3; simp [turnT]
    by_cases h4 : k = 4
    · subst h4; simp [turnT]
    by_cases h5 : k = 5
    · subst h5
      simp [turnT]
      exact turnL_turnL F G l (h.2 rfl)
    · simp [turnT, h1, h2, h3, h4, h5]
theorem turnL_turnL (F G : Int → Tm) : ∀ l : List Tm, okL l → turnL F (turnL varT l) = turnL F l
  | [], _ => by simp [turnL]
  | t :: ts, h => by
    unfold okL at h
    simp only [turnL]
    rw [turn_turn F G t h.1, turnL_turnL F G ts h.2]
end

mutual
theorem fold_turn : ∀ (t : Tm) (x : List Int), foldT varF (turnT varT t) x = foldT varF t x
  | .mk k s n r i l, x => by
    by_cases h1 : k = 1
    · subst h1; simp [turnT, varT, foldT, varF, Tm.kind, Tm.int]
    by_cases h2 : k = 2
    · subst h2; simp [turnT, foldT, varF, Tm.kind]
    by_cases h3 : k = 3
    · subst h3; simp [turnT, foldT, varF, Tm.kind]
    by_cases h4 : k = 4
    · subst h4; simp [turnT, foldT, varF, Tm.kind]
    by_cases h5 : k = 5
    · subst h5
      simp [turnT, foldT, varF, Tm.kind]
      exact fold_turnL l x
    · simp [turnT, h1, h2, h3, h4, h5, foldT, varF, Tm.kind]
theorem fold_turnL : ∀ (l : List Tm) (x : List Int), foldL varF (turnL varT l) x = foldL varF l x
  | [], _ => by simp [turnL, foldL]
  | t :: ts, x => by
    simp only [turnL, foldL]
    rw [fold_turn t x, fold_turnL ts]
end
mutual
/-- Variables replaced by what is one node: as it may be, as large, as deep. -/
theorem turn_ok (F : Int → Tm) (hF : ∀ n, okT (F n) ∧ nT (F n) = 1 ∧ hT (F n) = 1) : ∀ t : Tm, okT t → okT (turnT F t) ∧ nT (turnT F t) = nT t ∧ hT (turnT F t) = hT t
  | .mk k s n r i l, h => by
    unfold okT at h
    have ho := h.1
    by_cases h1 : k = 1
    · subst h1
      have e : turnT F (.mk 1 s n r i l) = F n := by simp [turnT]
      rw [e]
      exact ⟨(hF n).1, by rw [(hF n).2.1]; simp [nT], by rw [(hF n).2.2]; simp [hT]⟩
    by_cases h2 : k = 2
    · subst h2
      have e : turnT F (.mk 2 s n r i l) = .mk 2 s 0 0 0 [] := by simp [turnT]
      rw [e]
      simp only [oneE] at ho
      refine ⟨by unfold okT; exact ⟨by simpa [oneE] using ho, fun h => by simp at h⟩, by simp [nT], by simp [hT]⟩
    by_cases h3 : k = 3
    · subst h3
      have e : turnT F (.mk 3 s n r i l) = .mk 3 ⟨#[]⟩ n 0 0 [] := by simp [turnT]
      rw [e]
      refine ⟨by unfold okT; exact ⟨by simp [oneE], fun h => by simp at h⟩, by simp [nT], by simp [hT]⟩
    by_cases h4 : k = 4
    · subst h4
      have e : turnT F (.mk 4 s n r i l) = .mk 4 ⟨#[]⟩ 0 r i [] := by simp [turnT]
      rw [e]
      refine ⟨by unfold okT; exact ⟨by simp [oneE], fun h => by simp at h⟩, by simp [nT], by simp [hT]⟩
    by_cases h5 : k = 5
    · subst h5
      have e : turnT F (.mk 5 s n r i l) = .mk 5 s 0 0 0 (turnL F l) := by simp [turnT]
      rw [e]
      obtain ⟨k1, k2, k3⟩ := turn_okL F hF l (h.2 rfl)
      have hlen : (turnL F l).length = l.length := by rw [turnL_map, List.length_map]
      have ho' : oneE (.mk 5 s 0 0 0 (turnL F l)) = 0 := by
        simp only [oneE, hlen] at ho ⊢
        exact ho
      exact ⟨by unfold okT; exact ⟨ho', fun _ => k1⟩, by rw [nT, nT, if_pos rfl, if_pos rfl, k2], by rw [hT, hT, if_pos rfl, if_pos rfl, k3]⟩
    · simp [oneE, h1, h2, h3, h4, h5] at ho
theorem turn_okL (F : Int → Tm) (hF : ∀ n, okT (F n) ∧ nT (F n) = 1 ∧ hT (F n) = 1) : ∀ l : List Tm, okL l → okL (turnL F l) ∧ nL (turnL F l) = nL l ∧ hL (turnL F l) = hL l
  | [], _ => by simp [turnL, okL, nL, hL]
  | t :: ts, h => by
    unfold okL at h
    obtain ⟨a1, a2, a3⟩ := turn_ok F hF t h.1
    obtain ⟨b1, b2, b3⟩ := turn_okL F hF ts h.2
    simp only [turnL]
    exact ⟨by unfold okL; exact ⟨a1, b1⟩, by rw [nL, nL, a2, b2], by rw [hL, hL, a3, b3]⟩
end
theorem varT_ok {n : Int} (h : 0 ≤ n) : okT (varT n) ∧ nT (varT n) = 1 ∧ hT (varT n) = 1 := by
  unfold varT
  exact ⟨by unfold okT; exact ⟨by simp [oneE]; omega, fun h => by simp at h⟩, by simp [nT], by simp [hT]⟩
theorem renF_pos : ∀ (l : List Int) (i d n : Int), 0 ≤ i → 0 ≤ d → 0 ≤ renF l i d n
  | [], _, d, _, _, h => h
  | a :: l, i, d, n, hi, hd => by
    unfold renF
    refine renF_pos l (i + 1) _ n (by omega) ?_
    split <;> assumption
theorem may_turn (F : Int → Tm) (hF : ∀ n, okT (F n) ∧ nT (F n) = 1 ∧ hT (F n) = 1) {t : Tm} (h : mayE t = 0) : mayE (turnT F t) = 0 := by
  obtain ⟨a, b, c⟩ := mayE_ok.1 h
  obtain ⟨k1, k2, k3⟩ := turn_ok F hF t a
  exact mayE_ok.2 ⟨k1, by omega, by omega⟩
theorem rename_may {t : Tm} (h : mayE t = 0) : mayE (renameE t) = 0 := by
  unfold renameE
  rw [if_pos h]
  exact may_turn _ (fun n => varT_ok (renF_pos _ _ _ _ (Int.le_refl _) (Int.le_refl _))) h
theorem rename_plain {t u : Tm} (h : mayE t = 0) (k : mayE u = 0) (e : plainE t = plainE u) : renameE t = renameE u := by
  unfold plainE at e
  rw [if_pos h, if_pos k] at e
  have hv : varsE t = varsE u := by
    rw [varsE_ok h, varsE_ok k, ← fold_turn t, ← fold_turn u, e]
  unfold renameE
  rw [if_pos h, if_pos k, hv, ← turn_turn _ varT t (mayE_ok.1 h).1, ← turn_turn _ varT u (mayE_ok.1 k).1, e]
theorem Same_variant {t u : Tm} (h : SameE t u = true) : variantE t u = true := by
  obtain ⟨h1, h2, h3⟩ := SameE_iff.1 h
  unfold variantE
  rw [rename_plain h1 h2 h3, SameE_self, rename_may h2]
  rfl
end Go.Proofs.Ythiionkikammkaa
