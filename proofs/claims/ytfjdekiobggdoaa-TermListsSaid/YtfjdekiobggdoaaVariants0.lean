/- How variables are numbered makes no difference: laws of trees. -/
import Derived.Test.YtfjdekiobggdoaaItems0
import Derived.Test.YtfjdekiobggdoaaLVars
namespace Go.Proofs.Ytfjdekiobggdoaa
open Go.RowKit
set_option linter.unusedVariables false
set_option linter.unusedSimpArgs false

mutual
/-- Each variable of a term is in S. -/
def inT (S : Int → Prop) : Tm → Prop
  | .mk k s n r i l => (k = 1 → S n) ∧ (k = 5 → inL S l)
def inL (S : Int → Prop) : List Tm → Prop
  | [] => True
  | t :: ts => inT S t ∧ inL S ts
end
mutual
theorem inT_mono {S T : Int → Prop} (h : ∀ n, S n → T n) : ∀ t : Tm, inT S t → inT T t
  | .mk k s n r i l, ht => by unfold inT at ht ⊢; exact ⟨fun hk => h n (ht.1 hk), fun hk => inL_mono h l (ht.2 hk)⟩
theorem inL_mono {S T : Int → Prop} (h : ∀ n, S n → T n) : ∀ l : List Tm, inL S l → inL T l
  | [], _ => by unfold inL; trivial
  | t :: ts, ht => by unfold inL at ht ⊢; exact ⟨inT_mono h t ht.1, inL_mono h ts ht.2⟩
end
mutual
theorem inT_and {S T : Int → Prop} : ∀ t : Tm, inT S t → inT T t → inT (fun n => S n ∧ T n) t
  | .mk k s n r i l, h1, h2 => by unfold inT at h1 h2 ⊢; exact ⟨fun hk => ⟨h1.1 hk, h2.1 hk⟩, fun hk => inL_and l (h1.2 hk) (h2.2 hk)⟩
theorem inL_and {S T : Int → Prop} : ∀ l : List Tm, inL S l → inL T l → inL (fun n => S n ∧ T n) l
  | [], _, _ => by unfold inL; trivial
  | t :: ts, h1, h2 => by unfold inL at h1 h2 ⊢; exact ⟨inT_and t h1.1 h2.1, inL_and ts h1.2 h2.2⟩
end
mutual
theorem inT_ok : ∀ t : Tm, okT t → inT (fun n => 0 ≤ n) t
  | .mk k s n r i l, h => by
    unfold okT at h
    unfold inT
    exact ⟨fun hk => by have := h.1; subst hk; simp [oneE] at this; omega, fun hk => inL_ok l (h.2 hk)⟩
theorem inL_ok : ∀ l : List Tm, okL l → inL (fun n => 0 ≤ n) l
  | [], _ => by unfold inL; trivial
  | t :: ts, h => by unfold okL at h; unfold inL; exact ⟨inT_ok t h.1, inL_ok ts h.2⟩
end
theorem mem_varF {a : Int} {x : List Int} {t : Tm} : a ∈ varF x t ↔ a ∈ x ∨ (t.kind = 1 ∧ a = t.int) := by
  unfold varF
  split
  · rename_i h; simp [h.1]
  · rename_i h
    constructor
    · exact .inl
    · rintro (h' | ⟨h1, rfl⟩)
      · exact h'
      · exact Classical.byContradiction fun hn => h ⟨h1, hn⟩
mutual
theorem fold_keep : ∀ (t : Tm) (x : List Int) (a : Int), a ∈ x → a ∈ foldT varF t x
  | .mk k s n r i l, x, a, h => by
    unfold foldT
    have h' := mem_varF (t := .mk k s n r i l).2 (.inl h)
    split
    · exact fold_keepL l _ a h'
    · exact h'
theorem fold_keepL : ∀ (l : List Tm) (x : List Int) (a : Int), a ∈ x → a ∈ foldL varF l x
  | [], _, _, h => h
  | t :: ts, x, a, h => by rw [foldL]; exact fold_keepL ts _ a (fold_keep t x a h)
end
mutual
theorem inT_fold : ∀ (t : Tm) (x : List Int), inT (fun a => a ∈ foldT varF t x) t
  | .mk k s n r i l, x => by
    unfold inT foldT
    refine ⟨fun hk => ?_, fun hk => ?_⟩
    · rw [if_neg (by omega)]
      exact mem_varF.2 (.inr ⟨hk, rfl⟩)
    · rw [if_pos hk]; exact inL_fold l _
theorem inL_fold : ∀ (l : List Tm) (x : List Int), inL (fun a => a ∈ foldL varF l x) l
  | [], _ => by unfold inL; trivial
  | t :: ts, x => by
    unfold inL
    rw [foldL]
    exact ⟨inT_mono (fun a h => fold_keepL ts _ a h) t (inT_fold t x), inL_fold ts _⟩
end
mutual
theorem fold_sub {S : Int → Prop} : ∀ (t : Tm) (x : List Int), inT S t → (∀ a ∈ x, S a) → ∀ a ∈ foldT varF t x, S a
  | .mk k s n r i l, x, h, hx => by
    unfold inT at h
    have h' : ∀ a ∈ varF x (.mk k s n r i l), S a := fun a ha => by
      rcases mem_varF.1 ha with ha | ⟨h1, rfl⟩
      · exact hx a ha
      · exact h.1 h1
    unfold foldT
    split
    · rename_i hk; exact fold_subL l _ (h.2 hk) h'
    · exact h'
theorem fold_subL {S : Int → Prop} : ∀ (l : List Tm) (x : List Int), inL S l → (∀ a ∈ x, S a) → ∀ a ∈ foldL varF l x, S a
  | [], _, _, hx => hx
  | t :: ts, x, h, hx => by
    unfold inL at h
    rw [foldL]
    exact fold_subL ts _ h.2 (fold_sub t x h.1 hx)
end
mutual
theorem fold_nodup : ∀ (t : Tm) (x : List Int), x.Nodup → (foldT varF t x).Nodup
  | .mk k s n r i l, x, h => by
    have h' : (varF x (.mk k s n r i l)).Nodup := by
      unfold varF
      split
      · rename_i hk; rw [List.nodup_append]; exact ⟨h, by simp, fun a ha b hb => by rw [List.mem_singleton.1 hb]; rintro rfl; exact hk.2 ha⟩
      · exact h
    unfold foldT
    split
    · exact fold_nodupL l _ h'
    · exact h'
theorem fold_nodupL : ∀ (l : List Tm) (x : List Int), x.Nodup → (foldL varF l x).Nodup
  | [], _, h => h
  | t :: ts, x, h => by rw [foldL]; exact fold_nodupL ts _ (fold_nodup t x h)
end
mutual
theorem turn_congr {S : Int → Prop} {F G : Int → Tm} (h : ∀ n, S n → F n = G n) : ∀ t : Tm, inT S t → turnT F t = turnT G t
  | .mk k s n r i l, ht => by
    unfold inT at ht
    unfold turnT
    split
    · rename_i hk; exact h n (ht.1 hk)
    · split
      · rfl
      · split
        · rfl
        · split
          · rfl
          · split
            · rename_i hk; rw [turn_congrL h l (ht.2 hk)]
            · rfl
theorem turn_congrL {S : Int → Prop} {F G : Int → Tm} (h : ∀ n, S n → F n = G n) : ∀ l : List Tm, inL S l → turnL F l = turnL G l
  | [], _ => rfl
  | t :: ts, ht => by unfold inL at ht; rw [turnL, turnL, turn_congr h t ht.1, turn_congrL h ts ht.2]
end
mutual
theorem turn_comp (G : Int → Tm) (f : Int → Int) : ∀ t : Tm, okT t → turnT G (turnT (fun n => varT (f n)) t) = turnT (fun n => G (f n)) t
  | .mk k s n r i l, h => by
    unfold okT at h
    by_cases h1 : k = 1
    · subst h1; simp [turnT, varT]
    by_cases h2 : k = 2
    · subst h2; simp [turnT]
    by_cases h3 : k = 3
    · subst h3; simp [turnT]
    by_cases h4 : k = 4
    · subst h4; simp [turnT]
    by_cases h5 : k = 5
    · subst h5
      simp [turnT]
      exact turn_compL G f l (h.2 rfl)
    · have := h.1; simp [oneE, h1, h2, h3, h4, h5] at this
theorem turn_compL (G : Int → Tm) (f : Int → Int) : ∀ l : List Tm, okL l → turnL G (turnL (fun n => varT (f n)) l) = turnL (fun n => G (f n)) l
  | [], _ => by simp [turnL]
  | t :: ts, h => by
    unfold okL at h
    simp only [turnL]
    rw [turn_comp G f t h.1, turn_compL G f ts h.2]
end
mutual
theorem fold_map {S : Int → Prop} {f : Int → Int} (hf : ∀ a b, S a → S b → f a = f b → a = b) : ∀ (t : Tm) (x : List Int), inT S t → (∀ a ∈ x, S a) → foldT varF (turnT (fun n => varT (f n)) t) (x.map f) = (foldT varF t x).map f
  | .mk k s n r i l, x, h, hx => by
    unfold inT at h
    by_cases h1 : k = 1
    · subst h1
      have hS := h.1 rfl
      have hm : f n ∈ x.map f ↔ n ∈ x := by
        rw [List.mem_map]
        constructor
        · rintro ⟨a, ha, e⟩; rw [← hf a n (hx a ha) hS e]; exact ha
        · exact fun ha => ⟨n, ha, rfl⟩
      simp only [turnT, if_true, varT, foldT, varF, Tm.kind, Tm.int, hm]
      by_cases hn : n ∈ x <;> simp [hn]
    by_cases h5 : k = 5
    · subst h5
      have e : varF x (.mk 5 s n r i l) = x := by simp [varF, Tm.kind]
      have e2 : turnT (fun n => varT (f n)) (.mk 5 s n r i l) = .mk 5 s 0 0 0 (turnL (fun n => varT (f n)) l) := by simp [turnT]
      rw [e2, foldT, foldT, if_pos rfl, if_pos rfl, e]
      have e3 : varF (x.map f) (.mk 5 s 0 0 0 (turnL (fun n => varT (f n)) l)) = x.map f := by simp [varF, Tm.kind]
      rw [e3]
      exact fold_mapL hf l x (h.2 rfl) hx
    · have e : varF x (.mk k s n r i l) = x := by simp [varF, Tm.kind, h1]
      rw [foldT.eq_def varF (.mk k s n r i l), ]
      simp only [h5, if_false, e]
      unfold turnT
      simp only [h1, h5, if_false]
      split
      · simp [foldT, varF, Tm.kind, h1, h5]
      · split
        · simp [foldT, varF, Tm.kind, h1, h5]
        · split <;> simp [foldT, varF, Tm.kind, h1, h5]
theorem fold_mapL {S : Int → Prop} {f : Int → Int} (hf : ∀ a b, S a → S b → f a = f b → a = b) : ∀ (l : List Tm) (x : List Int), inL S l → (∀ a ∈ x, S a) → foldL varF (turnL (fun n => varT (f n)) l) (x.map f) = (foldL varF l x).map f
  | [], _, _, _ => rfl
  | t :: ts, x, h, hx => by
    unfold inL at h
    rw [turnL, foldL, foldL, fold_map hf t x h.1 hx, fold_mapL hf ts _ h.2 (fold_sub t x h.1 hx)]
end
mutual
theorem turn_okS {S : Int → Prop} (F : Int → Tm) (hF : ∀ n, S n → okT (F n) ∧ nT (F n) = 1 ∧ hT (F n) = 1) : ∀ t : Tm, okT t → inT S t → okT (turnT F t) ∧ nT (turnT F t) = nT t ∧ hT (turnT F t) = hT t
  | .mk k s n r i l, h, hS => by
    unfold okT at h
    unfold inT at hS
    have ho := h.1
    by_cases h1 : k = 1
    · subst h1
      have e : turnT F (.mk 1 s n r i l) = F n := by simp [turnT]
      rw [e]
      have hn := hF n (hS.1 rfl)
      exact ⟨hn.1, by rw [hn.2.1]; simp [nT], by rw [hn.2.2]; simp [hT]⟩
    by_cases h5 : k = 5
    · subst h5
      have e : turnT F (.mk 5 s n r i l) = .mk 5 s 0 0 0 (turnL F l) := by simp [turnT]
      rw [e]
      obtain ⟨k1, k2, k3⟩ := turn_okLS F hF l (h.2 rfl) (hS.2 rfl)
      have hlen : (turnL F l).length = l.length := by rw [turnL_map, List.length_map]
      have ho' : oneE (.mk 5 s 0 0 0 (turnL F l)) = 0 := by
        simp only [oneE, hlen] at ho ⊢
        exact ho
      exact ⟨by unfold okT; exact ⟨ho', fun _ => k1⟩, by rw [nT, nT, if_pos rfl, if_pos rfl, k2], by rw [hT, hT, if_pos rfl, if_pos rfl, k3]⟩
    · have e : turnT F (.mk k s n r i l) = turnT varT (.mk k s n r i l) := by simp [turnT, h1, h5]
      rw [e]
      exact plain_ok (.mk k s n r i l) (by unfold okT; exact h)
theorem turn_okLS {S : Int → Prop} (F : Int → Tm) (hF : ∀ n, S n → okT (F n) ∧ nT (F n) = 1 ∧ hT (F n) = 1) : ∀ l : List Tm, okL l → inL S l → okL (turnL F l) ∧ nL (turnL F l) = nL l ∧ hL (turnL F l) = hL l
  | [], _, _ => by simp [turnL, okL, nL, hL]
  | t :: ts, h, hS => by
    unfold okL at h
    unfold inL at hS
    obtain ⟨a1, a2, a3⟩ := turn_okS F hF t h.1 hS.1
    obtain ⟨b1, b2, b3⟩ := turn_okLS F hF ts h.2 hS.2
    simp only [turnL]
    exact ⟨by unfold okL; exact ⟨a1, b1⟩, by rw [nL, nL, a2, b2], by rw [hL, hL, a3, b3]⟩
end
mutual
theorem turn_in {S T : Int → Prop} {g : Int → Int} (hg : ∀ n, S n → T (g n)) : ∀ t : Tm, inT S t → okT t → inT T (turnT (fun n => varT (g n)) t)
  | .mk k s n r i l, h, ho => by
    unfold inT at h
    unfold okT at ho
    by_cases h1 : k = 1
    · subst h1
      have e : turnT (fun n => varT (g n)) (.mk 1 s n r i l) = varT (g n) := by simp [turnT]
      rw [e]
      unfold varT inT
      exact ⟨fun _ => hg n (h.1 rfl), fun hk => by simp at hk⟩
    by_cases h5 : k = 5
    · subst h5
      have e : turnT (fun n => varT (g n)) (.mk 5 s n r i l) = .mk 5 s 0 0 0 (turnL (fun n => varT (g n)) l) := by simp [turnT]
      rw [e]
      unfold inT
      exact ⟨fun hk => by simp at hk, fun _ => turn_inL hg l (h.2 rfl) (ho.2 rfl)⟩
    · unfold turnT
      rw [if_neg h1, if_neg h5]
      split
      · unfold inT; exact ⟨fun hk => absurd hk h1, fun hk => absurd hk h5⟩
      · split
        · unfold inT; exact ⟨fun hk => absurd hk h1, fun hk => absurd hk h5⟩
        · split <;> (unfold inT; exact ⟨fun hk => absurd hk h1, fun hk => absurd hk h5⟩)
theorem turn_inL {S T : Int → Prop} {g : Int → Int} (hg : ∀ n, S n → T (g n)) : ∀ l : List Tm, inL S l → okL l → inL T (turnL (fun n => varT (g n)) l)
  | [], _, _ => by unfold turnL inL; trivial
  | t :: ts, h, ho => by
    unfold inL at h
    unfold okL at ho
    unfold turnL inL
    exact ⟨turn_in hg t h.1 ho.1, turn_inL hg ts h.2 ho.2⟩
end
theorem renF_out : ∀ (l : List Int) (i d a : Int), a ∉ l → renF l i d a = d
  | [], _, _, _, _ => rfl
  | x :: l, i, d, a, h => by
    rw [renF, renF_out l _ _ a (fun hm => h (by simp [hm])), if_neg (fun e => h (by simp [e]))]
theorem renF_in : ∀ (l : List Int) (i d a : Int), a ∈ l → i ≤ renF l i d a
  | x :: l, i, d, a, h => by
    rw [renF]
    by_cases hm : a ∈ l
    · have := renF_in l (i + 1) (if a = x then i else d) a hm; omega
    · rw [renF_out l _ _ a hm]
      rcases List.mem_cons.1 h with e | h
      · rw [if_pos e]; exact Int.le_refl _
      · exact absurd h hm
theorem renF_inj : ∀ (l : List Int) (i d a b : Int), l.Nodup → a ∈ l → b ∈ l → renF l i d a = renF l i d b → a = b
  | x :: l, i, d, a, b, hn, ha, hb, h => by
    rw [List.nodup_cons] at hn
    rw [renF, renF] at h
    rcases List.mem_cons.1 ha with ea | ha
    · rcases List.mem_cons.1 hb with eb | hb
      · rw [ea, eb]
      · exfalso
        have hbx : b ≠ x := fun e => hn.1 (e ▸ hb)
        rw [if_pos ea, if_neg hbx, renF_out l _ _ a (by rw [ea]; exact hn.1)] at h
        have := renF_in l (i + 1) d b hb
        omega
    · have hax : a ≠ x := fun e => hn.1 (e ▸ ha)
      rcases List.mem_cons.1 hb with eb | hb
      · exfalso
        rw [if_neg hax, if_pos eb, renF_out l _ _ b (by rw [eb]; exact hn.1)] at h
        have := renF_in l (i + 1) d a ha
        omega
      · have hbx : b ≠ x := fun e => hn.1 (e ▸ hb)
        rw [if_neg hax, if_neg hbx] at h
        exact renF_inj l (i + 1) d a b hn.2 ha hb h
theorem renF_map {S : Int → Prop} {f : Int → Int} (hf : ∀ a b, S a → S b → f a = f b → a = b) : ∀ (l : List Int) (i d a : Int), (∀ b ∈ l, S b) → S a → renF (l.map f) i d (f a) = renF l i d a
  | [], _, _, _, _, _ => rfl
  | x :: l, i, d, a, h, ha => by
    rw [List.map_cons, renF, renF, renF_map hf l _ _ a (fun b hb => h b (by simp [hb])) ha]
    congr 1
    by_cases e : a = x
    · rw [if_pos e, if_pos (by rw [e])]
    · rw [if_neg e, if_neg (fun e' => e (hf a x ha (h x (by simp)) e'))]
theorem sub_len : ∀ (l m : List Int), l.Nodup → (∀ a ∈ l, a ∈ m) → l.length ≤ m.length
  | [], _, _, _ => Nat.zero_le _
  | a :: l, m, hn, h => by
    rw [List.nodup_cons] at hn
    have ha := h a (by simp)
    have hl := sub_len l (m.erase a) hn.2 fun b hb => (List.mem_erase_of_ne (fun e => hn.1 (by rw [← e]; exact hb))).2 (h b (by simp [hb]))
    rw [List.length_erase_of_mem ha] at hl
    have := List.length_pos_of_mem ha
    simp only [List.length_cons]
    omega

/-- Each variable's number is in the list of them, and not below nought. -/
theorem vars_in {t : Tm} (h : mayE t = 0) : inT (fun n => 0 ≤ n ∧ n ∈ varsE t) t := by
  rw [varsE_ok h]
  exact inT_and t (inT_ok t (mayE_ok.1 h).1) (inT_fold t [])
theorem vars_pos {t : Tm} (h : mayE t = 0) : ∀ a ∈ varsE t, 0 ≤ a := by
  rw [varsE_ok h]
  exact fold_sub t [] (inT_ok t (mayE_ok.1 h).1) (by simp)
theorem vars_nodup {t : Tm} (h : mayE t = 0) : (varsE t).Nodup := by
  rw [varsE_ok h]
  exact fold_nodup t [] (by simp)
theorem may_turnS {t : Tm} (h : mayE t = 0) {f : Int → Int} (hp : ∀ a ∈ varsE t, 0 ≤ f a) : mayE (turnT (fun n => varT (f n)) t) = 0 := by
  obtain ⟨a, b, c⟩ := mayE_ok.1 h
  obtain ⟨k1, k2, k3⟩ := turn_okS (fun n => varT (f n)) (fun n hn => varT_ok (hp n hn.2)) t a (vars_in h)
  exact mayE_ok.2 ⟨k1, by omega, by omega⟩
/-- Renamed one for one, a term's renaming is the same. -/
theorem rename_inj {t : Tm} (h : mayE t = 0) {f : Int → Int} (hp : ∀ a ∈ varsE t, 0 ≤ f a) (hf : ∀ a b, a ∈ varsE t → b ∈ varsE t → f a = f b → a = b) :
    varsE (turnT (fun n => varT (f n)) t) = (varsE t).map f ∧ renameE (turnT (fun n => varT (f n)) t) = renameE t := by
  have hm := may_turnS h hp
  have hv : varsE (turnT (fun n => varT (f n)) t) = (varsE t).map f := by
    rw [varsE_ok hm]
    have := fold_map (S := fun n => n ∈ varsE t) hf t [] (inT_mono (fun n hn => hn.2) t (vars_in h)) (by simp)
    rw [List.map_nil] at this
    rw [this, varsE_ok h]
  refine ⟨hv, ?_⟩
  unfold renameE
  rw [if_pos hm, if_pos h, hv, turn_comp (fun n => varT (renF ((varsE t).map f) 0 0 n)) f t (mayE_ok.1 h).1]
  refine turn_congr (S := fun n => 0 ≤ n ∧ n ∈ varsE t) (fun n hn => ?_) t (vars_in h)
  rw [renF_map (S := fun n => n ∈ varsE t) hf (varsE t) 0 0 n (fun b hb => hb) hn.2]
theorem rename_form {t : Tm} (h : mayE t = 0) : renameE t = turnT (fun n => varT (renF (varsE t) 0 0 n)) t := by unfold renameE; rw [if_pos h]
theorem rename_rename {t : Tm} (h : mayE t = 0) : varsE (renameE t) = (varsE t).map (renF (varsE t) 0 0) ∧ renameE (renameE t) = renameE t := by
  rw [rename_form h]
  have := rename_inj h (f := renF (varsE t) 0 0) (fun a _ => renF_pos _ _ _ _ (Int.le_refl _) (Int.le_refl _)) (fun a b ha hb e => renF_inj _ _ _ a b (vars_nodup h) ha hb e)
  rw [rename_form h] at this
  exact this
theorem Same_refl {t : Tm} (h : mayE t = 0) : SameE t t = true := by rw [SameE_self, h]; rfl
theorem variant_rename {t u : Tm} (h : mayE t = 0) (e : renameE u = renameE t) : variantE t u = true := by
  unfold variantE
  rw [e]
  exact Same_refl (rename_may h)
/-- Two variables made one: no variant, if they were two. -/
theorem variant_one {t : Tm} (h : mayE t = 0) {p q : Int} (hp : p ∈ varsE t) (hq : q ∈ varsE t) : variantE t (turnT (fun n => varT (if n = p then q else n)) t) = (p == q) := by
  have hpos : ∀ a ∈ varsE t, 0 ≤ (if a = p then q else a) := fun a ha => by split; exact vars_pos h q hq; exact vars_pos h a ha
  by_cases e : p = q
  · subst e
    have := (rename_inj h (f := fun n => if n = p then p else n) hpos (fun a b ha hb e => by
      have f1 : ∀ a : Int, (if a = p then p else a) = a := fun a => by split <;> simp_all
      simpa [f1] using e)).2
    rw [variant_rename h this]
    simp
  · have hw := may_turnS h hpos
    rw [show (p == q) = false by simpa using e]
    cases hv : variantE t (turnT (fun n => varT (if n = p then q else n)) t) with
    | false => rfl
    | true =>
      exfalso
      generalize hu : turnT (fun n => varT (if n = p then q else n)) t = u at hw hv
      unfold variantE at hv
      obtain ⟨_, _, h3⟩ := SameE_iff.1 hv
      have hr : ∀ t : Tm, mayE t = 0 → varsE (plainE (renameE t)) = varsE (renameE t) := fun t h => by
        have hm := rename_may h
        have e : plainE (renameE t) = turnT varT (renameE t) := by unfold plainE; rw [if_pos hm]
        rw [e, varsE_ok (may_plainT hm), varsE_ok hm, fold_turn]
      have h4 : (varsE t).length = (varsE u).length := by
        have h5 : (varsE (plainE (renameE t))).length = (varsE (plainE (renameE u))).length := by rw [h3]
        rw [hr t h, hr u hw, (rename_rename h).1, (rename_rename hw).1, List.length_map, List.length_map] at h5
        exact h5
      have h6 : ∀ a ∈ varsE u, a ∈ (varsE t).erase p := by
        rw [varsE_ok hw, ← hu]
        have key : inT (fun a => a ∈ (varsE t).erase p) (turnT (fun n => varT (if n = p then q else n)) t) := by
          have : ∀ t' : Tm, inT (fun n => 0 ≤ n ∧ n ∈ varsE t) t' → okT t' → inT (fun a => a ∈ (varsE t).erase p) (turnT (fun n => varT (if n = p then q else n)) t') := fun t' h1 h2 => turn_in (fun n hn => by
            split
            · exact (List.mem_erase_of_ne (fun e' => e e'.symm)).2 hq
            · rename_i hne; exact (List.mem_erase_of_ne hne).2 hn.2) t' h1 h2
          exact this t (vars_in h) (mayE_ok.1 h).1
        exact fold_sub _ [] key (by simp)
      have h7 := sub_len _ _ (vars_nodup hw) h6
      rw [List.length_erase_of_mem hp] at h7
      have := List.length_pos_of_mem hp
      omega
end Go.Proofs.Ytfjdekiobggdoaa
