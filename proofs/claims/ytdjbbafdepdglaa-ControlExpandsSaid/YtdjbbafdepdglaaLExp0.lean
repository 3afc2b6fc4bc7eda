/- What stands for a goal: laws of trees. -/
import Derived.Test.YtdjbbafdepdglaaCtl9
import Derived.Test.YtdjbbafdepdglaaVIn
namespace Go.Proofs.Ytdjbbafdepdglaa
open Go.RowKit
set_option linter.unusedVariables false
set_option linter.unusedSimpArgs false
set_option maxRecDepth 20000
set_option maxHeartbeats 8000000

/-- The five forms. -/
theorem exp_forms {t : Tm} (hk : kindE t = 15) (f : Int) :
    (∃ p, t.args = [p] ∧ (expT t f = thenT (compT ⟨#[99, 97, 108, 108]⟩ [p]) (atomT ⟨#[116, 114, 117, 101]⟩) (atomT ⟨#[102, 97, 105, 108]⟩) ∨ expT t f = thenT (compT ⟨#[99, 97, 108, 108]⟩ [p]) (atomT ⟨#[116, 114, 117, 101]⟩) (atomT ⟨#[116, 114, 117, 101]⟩))) ∨
    (∃ p q, t.args = [p, q] ∧ (expT t f = notT (andT (compT ⟨#[99, 97, 108, 108]⟩ [p]) (notT (compT ⟨#[99, 97, 108, 108]⟩ [q]))) ∨ expT t f = notT (compT ⟨#[61]⟩ [p, q]))) ∨
    (∃ p q w, t.args = [p, q, w] ∧ expT t f = cleanupT p q w (varT f)) := by
  obtain ⟨hm, hd, hk⟩ := kind15 hk
  cases t with
  | mk k s n r i l =>
  simp only [Tm.name, Tm.args] at hd
  rcases derived_cases hd with ⟨hu, h1⟩ | ⟨hu, h1⟩ | ⟨hu, h1⟩
  · obtain ⟨p, rfl⟩ : ∃ p, l = [p] := by
      match l, h1 with
      | [p], _ => exact ⟨p, rfl⟩
      | [], h => simp at h
      | a :: b :: d, h => simp at h; omega
    refine .inl ⟨p, rfl, ?_⟩
    rcases hu with hu | hu
    · left; unfold expT; simp [Tm.name, Tm.args, hu]
    · right; unfold expT; simp [Tm.name, Tm.args, hu]
  · obtain ⟨p, q, rfl⟩ := two_of' l h1
    refine .inr (.inl ⟨p, q, rfl, ?_⟩)
    rcases hu with hu | hu
    · left; unfold expT; simp [Tm.name, Tm.args, hu]
    · right; unfold expT; simp [Tm.name, Tm.args, hu]
  · obtain ⟨p, q, w', rfl⟩ : ∃ p q w', l = [p, q, w'] := by
      match l, h1 with
      | [p, q, w'], _ => exact ⟨p, q, w', rfl⟩
      | [], h => simp at h
      | [a], h => simp at h
      | [a, b], h => simp at h
      | a :: b :: c :: d :: e, h => simp at h; omega
    refine .inr (.inr ⟨p, q, w', rfl, ?_⟩)
    unfold expT; simp [Tm.name, Tm.args, hu]
theorem exp_args {t : Tm} (hm : mayE t = 0) (hk : t.kind = 5) : okL t.args ∧ nT t = 1 + nL t.args ∧ hT t = 1 + hL t.args := by
  obtain ⟨a, _, _⟩ := mayE_ok.1 hm
  cases t with
  | mk k s n r i l =>
    simp only [Tm.kind] at hk
    subst hk
    unfold okT at a
    exact ⟨a.2 rfl, by rw [nT, if_pos rfl]; rfl, by rw [hT, if_pos rfl]; rfl⟩
theorem exp_may {t : Tm} (hk : kindE t = 15) {f : Int} (hn : nT t ≤ 200) (hh : hT t ≤ 300) (hf : 0 ≤ f) : mayE (expT t f) = 0 := by
  obtain ⟨hm, _, h5⟩ := kind15 hk
  obtain ⟨a1, a2, a3⟩ := exp_args hm h5
  rw [mayE_ok]
  rcases exp_forms hk f with ⟨p, ea, e | e⟩ | ⟨p, q, ea, e | e⟩ | ⟨p, q, w, ea, e⟩
  all_goals
    rw [ea] at a1 a2 a3
    simp only [okL, nL, hL] at a1 a2 a3
    rw [e]
    refine ⟨?_, ?_, ?_⟩
    · simp [thenT, notT, andT, compT, atomT, cleanupT, lastT, varT, okT, okL, oneE, ByteArray.size, a1, hf]
    · simp [thenT, notT, andT, compT, atomT, cleanupT, lastT, varT, nT, nL]; omega
    · simp [thenT, notT, andT, compT, atomT, cleanupT, lastT, varT, hT, hL]; omega
/-- Its name is none of a derived goal. -/
theorem exp_name {t : Tm} (hk : kindE t = 15) (f : Int) : ∃ s l, expT t f = .mk 5 s 0 0 0 l ∧ (s = ⟨#[59]⟩ ∨ s = ⟨#[92, 43]⟩ ∨ s = ⟨#[44]⟩) := by
  rcases exp_forms hk f with ⟨p, ea, e | e⟩ | ⟨p, q, ea, e | e⟩ | ⟨p, q, w, ea, e⟩
  · unfold thenT at e; exact ⟨_, _, e, .inl rfl⟩
  · unfold thenT at e; exact ⟨_, _, e, .inl rfl⟩
  · unfold notT at e; exact ⟨_, _, e, .inr (.inl rfl)⟩
  · unfold notT at e; exact ⟨_, _, e, .inr (.inl rfl)⟩
  · unfold cleanupT andT at e; exact ⟨_, _, e, .inr (.inr rfl)⟩
theorem exp_kind {t : Tm} (hk : kindE t = 15) (f : Int) : kindE (plainE (expT t f)) ≠ 15 := by
  intro h
  obtain ⟨s, l, e, hs⟩ := exp_name hk f
  obtain ⟨hm, hd, h5⟩ := kind15 h
  have hp : plainE (expT t f) = .mk 5 s 0 0 0 (turnL varT l) := by
    unfold plainE
    by_cases h0 : mayE (expT t f) = 0
    · rw [if_pos h0, e]; simp [turnT]
    · exfalso
      unfold plainE at h5
      rw [if_neg h0] at h5
      simp [Tm.zero, Tm.kind] at h5
  rw [hp] at hd
  simp only [Tm.name, Tm.args] at hd
  rcases hs with rfl | rfl | rfl
  all_goals
    rcases derived_cases hd with ⟨hu | hu, _⟩ | ⟨hu | hu, _⟩ | ⟨hu, _⟩ <;> exact absurd hu (by decide +kernel)
/-- Its variables are the goal's, and one more. -/
theorem exp_vars {t : Tm} (hk : kindE t = 15) {f : Int} (hu : mayE (expT t f) = 0) : ∀ v ∈ varsE (plainE (expT t f)), v = f ∨ v ∈ varsE t := by
  obtain ⟨hm, _, h5⟩ := kind15 hk
  have hp : plainE (expT t f) = turnT varT (expT t f) := by unfold plainE; rw [if_pos hu]
  have hmp : mayE (turnT varT (expT t f)) = 0 := may_plainT hu
  rw [hp, varsE_ok hmp, fold_turn]
  have hin : vinL (fun n => n = f ∨ n ∈ varsE t) t.args := by
    have := vars_in hm
    cases t with
    | mk k s n r i l =>
      simp only [Tm.kind] at h5
      subst h5
      unfold vinT at this
      exact vinL_mono (fun n hn => .inr hn.2) l (this.2 rfl)
  refine fold_sub (S := fun n => n = f ∨ n ∈ varsE t) (expT t f) [] ?_ (by simp)
  rcases exp_forms hk f with ⟨p, ea, e | e⟩ | ⟨p, q, ea, e | e⟩ | ⟨p, q, w, ea, e⟩
  all_goals
    rw [ea] at hin
    simp only [vinL] at hin
    rw [e]
    simp [thenT, notT, andT, compT, atomT, cleanupT, lastT, varT, vinT, vinL, hin]
theorem count_nodup {v : Int} : ∀ {l : List Int}, l.Nodup → l.count v ≤ 1
  | [], _ => by simp
  | a :: l, h => by
    rw [List.nodup_cons] at h
    rw [List.count_cons]
    by_cases e : a = v
    · subst e
      rw [List.count_eq_zero.2 h.1]
      simp
    · have := count_nodup h.2 (v := v)
      simp [e]
      omega
end Go.Proofs.Ytdjbbafdepdglaa
