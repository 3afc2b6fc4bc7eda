/- Which variables a term has: laws of trees. -/
import Derived.Test.YtdjbbafdepdglaaItems0
import Derived.Test.YtdjbbafdepdglaaLVars
namespace Go.Proofs.Ytdjbbafdepdglaa
open Go.RowKit
set_option linter.unusedVariables false
set_option linter.unusedSimpArgs false

mutual
/-- Each variable of a term is in S. -/
def vinT (S : Int → Prop) : Tm → Prop
  | .mk k s n r i l => (k = 1 → S n) ∧ (k = 5 → vinL S l)
def vinL (S : Int → Prop) : List Tm → Prop
  | [] => True
  | t :: ts => vinT S t ∧ vinL S ts
end
mutual
theorem vinT_mono {S T : Int → Prop} (h : ∀ n, S n → T n) : ∀ t : Tm, vinT S t → vinT T t
  | .mk k s n r i l, ht => by unfold vinT at ht ⊢; exact ⟨fun hk => h n (ht.1 hk), fun hk => vinL_mono h l (ht.2 hk)⟩
theorem vinL_mono {S T : Int → Prop} (h : ∀ n, S n → T n) : ∀ l : List Tm, vinL S l → vinL T l
  | [], _ => by unfold vinL; trivial
  | t :: ts, ht => by unfold vinL at ht ⊢; exact ⟨vinT_mono h t ht.1, vinL_mono h ts ht.2⟩
end
mutual
theorem vinT_and {S T : Int → Prop} : ∀ t : Tm, vinT S t → vinT T t → vinT (fun n => S n ∧ T n) t
  | .mk k s n r i l, h1, h2 => by unfold vinT at h1 h2 ⊢; exact ⟨fun hk => ⟨h1.1 hk, h2.1 hk⟩, fun hk => vinL_and l (h1.2 hk) (h2.2 hk)⟩
theorem vinL_and {S T : Int → Prop} : ∀ l : List Tm, vinL S l → vinL T l → vinL (fun n => S n ∧ T n) l
  | [], _, _ => by unfold vinL; trivial
  | t :: ts, h1, h2 => by unfold vinL at h1 h2 ⊢; exact ⟨vinT_and t h1.1 h2.1, vinL_and ts h1.2 h2.2⟩
end
mutual
theorem vinT_ok : ∀ t : Tm, okT t → vinT (fun n => 0 ≤ n) t
  | .mk k s n r i l, h => by
    unfold okT at h
    unfold vinT
    exact ⟨fun hk => by have := h.1; subst hk; simp [oneE] at this; omega, fun hk => vinL_ok l (h.2 hk)⟩
theorem vinL_ok : ∀ l : List Tm, okL l → vinL (fun n => 0 ≤ n) l
  | [], _ => by unfold vinL; trivial
  | t :: ts, h => by unfold okL at h; unfold vinL; exact ⟨vinT_ok t h.1, vinL_ok ts h.2⟩
end
theorem mem_varF {a : Int} {x : List Int} {t : Tm} : a ∈ varF x t ↔ a ∈ x ∨ (t.kind = 1 ∧ a = t.int) := by
  unfold varF
  split
  · rename_i h; simp [h.1]
  · rename_i h
    constructor
    · exact .inl
    · rintro (h' | ⟨h1, rfl⟩)
      · exact h'
      · exact Classical.byContradiction fun hn => h ⟨h1, hn⟩
mutual
theorem fold_keep : ∀ (t : Tm) (x : List Int) (a : Int), a ∈ x → a ∈ foldT varF t x
  | .mk k s n r i l, x, a, h => by
    unfold foldT
    have h' := mem_varF (t := .mk k s n r i l).2 (.inl h)
    split
    · exact fold_keepL l _ a h'
    · exact h'
theorem fold_keepL : ∀ (l : List Tm) (x : List Int) (a : Int), a ∈ x → a ∈ foldL varF l x
  | [], _, _, h => h
  | t :: ts, x, a, h => by rw [foldL]; exact fold_keepL ts _ a (fold_keep t x a h)
end
mutual
theorem vinT_fold : ∀ (t : Tm) (x : List Int), vinT (fun a => a ∈ foldT varF t x) t
  | .mk k s n r i l, x => by
    unfold vinT foldT
    refine ⟨fun hk => ?_, fun hk => ?_⟩
    · rw [if_neg (by omega)]
      exact mem_varF.2 (.inr ⟨hk, rfl⟩)
    · rw [if_pos hk]; exact vinL_fold l _
theorem vinL_fold : ∀ (l : List Tm) (x : List Int), vinL (fun a => a ∈ foldL varF l x) l
  | [], _ => by unfold vinL; trivial
  | t :: ts, x => by
    unfold vinL
    rw [foldL]
    exact ⟨vinT_mono (fun a h => fold_keepL ts _ a h) t (vinT_fold t x), vinL_fold ts _⟩
end
mutual
theorem fold_sub {S : Int → Prop} : ∀ (t : Tm) (x : List Int), vinT S t → (∀ a ∈ x, S a) → ∀ a ∈ foldT varF t x, S a
  | .mk k s n r i l, x, h, hx => by
    unfold vinT at h
    have h' : ∀ a ∈ varF x (.mk k s n r i l), S a := fun a ha => by
      rcases mem_varF.1 ha with ha | ⟨h1, rfl⟩
      · exact hx a ha
      · exact h.1 h1
    unfold foldT
    split
    · rename_i hk; exact fold_subL l _ (h.2 hk) h'
    · exact h'
theorem fold_subL {S : Int → Prop} : ∀ (l : List Tm) (x : List Int), vinL S l → (∀ a ∈ x, S a) → ∀ a ∈ foldL varF l x, S a
  | [], _, _, hx => hx
  | t :: ts, x, h, hx => by
    unfold vinL at h
    rw [foldL]
    exact fold_subL ts _ h.2 (fold_sub t x h.1 hx)
end
mutual
theorem fold_nodup : ∀ (t : Tm) (x : List Int), x.Nodup → (foldT varF t x).Nodup
  | .mk k s n r i l, x, h => by
    have h' : (varF x (.mk k s n r i l)).Nodup := by
      unfold varF
      split
      · rename_i hk; rw [List.nodup_append]; exact ⟨h, by simp, fun a ha b hb => by rw [List.mem_singleton.1 hb]; rintro rfl; exact hk.2 ha⟩
      · exact h
    unfold foldT
    split
    · exact fold_nodupL l _ h'
    · exact h'
theorem fold_nodupL : ∀ (l : List Tm) (x : List Int), x.Nodup → (foldL varF l x).Nodup
  | [], _, h => h
  | t :: ts, x, h => by rw [foldL]; exact fold_nodupL ts _ (fold_nodup t x h)
end
theorem vars_in {t : Tm} (h : mayE t = 0) : vinT (fun n => 0 ≤ n ∧ n ∈ varsE t) t := by
  rw [varsE_ok h]
  exact vinT_and t (vinT_ok t (mayE_ok.1 h).1) (vinT_fold t [])
theorem vars_pos {t : Tm} (h : mayE t = 0) : ∀ a ∈ varsE t, 0 ≤ a := by
  rw [varsE_ok h]
  exact fold_sub t [] (vinT_ok t (mayE_ok.1 h).1) (by simp)
theorem vars_nodup {t : Tm} (h : mayE t = 0) : (varsE t).Nodup := by
  rw [varsE_ok h]
  exact fold_nodup t [] (by simp)
end Go.Proofs.Ytdjbbafdepdglaa
