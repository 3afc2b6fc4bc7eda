/- Of terms with others in the place of their variables: laws of trees. -/
import Derived.Test.YtfjdekiobggdoaaRoom0
import Derived.Test.YtfjdekiobggdoaaVariants0
namespace Go.Proofs.Ytfjdekiobggdoaa
open Go.RowKit
set_option linter.unusedVariables false
set_option linter.unusedSimpArgs false
set_option maxRecDepth 20000
set_option maxHeartbeats 4000000

def appF (of : List Tm) (n : Int) : Tm := if n < of.length then plainE (of.getD n.toNat Tm.zero) else varT n
def applyE (t : Tm) (of : List Tm) : Tm := if mayE t ≠ 0 ∨ (lookE of t 1 (0, 0)).1 = false then Tm.zero else turnT (appF of) t
mutual
/-- Where all that comes in is one node each, there is room. -/
theorem look_ones (of : List Tm) (h : ∀ k n, (k = 1 → 0 ≤ n) → sizeN of k n = (1, 1)) : ∀ (t : Tm) (d : Int) (x : Int × Int), okT t → 1 ≤ d → 0 ≤ x.1 → x.1 + nT t ≤ 2000 → d + hT t ≤ 501 → 0 ≤ x.2 → x.2 ≤ 500 → (lookE of t d x).1 = true ∧ (lookE of t d x).2.1 = x.1 + nT t ∧ 0 ≤ (lookE of t d x).2.2 ∧ (lookE of t d x).2.2 ≤ 500
  | .mk k s n r i l, d, x, ho, hd, h0, h1, h2, h3, h4 => by
    unfold okT at ho
    have hpos : k = 1 → 0 ≤ n := fun hk => by
      subst hk
      have := ho.1
      simp [oneE] at this
      omega
    have hs := h k n hpos
    have hn1 := nT_pos (.mk k s n r i l)
    have hh1 := hT_pos (.mk k s n r i l)
    have ha : addN of k n d x = (x.1 + 1, if x.2 < d then d else x.2) := by
      unfold addN
      rw [hs]
      simp only
      rw [show d + 1 - 1 = d by omega]
    unfold lookE
    rw [ha, hs]
    simp only
    rw [if_neg (by decide), if_neg (by simp only [not_or, Int.not_lt]; refine ⟨by omega, ?_⟩; split <;> omega)]
    unfold nT at h1 ⊢
    unfold hT at h2
    by_cases h5 : k = 5
    · rw [if_pos h5] at h1 h2 ⊢
      rw [if_pos h5]
      obtain ⟨a1, a2, a3, a4⟩ := lookL_ones of h l (d + 1) (x.1 + 1, if x.2 < d then d else x.2) (ho.2 h5) (by omega) (by simp only; omega) (by simp only; omega) (fun hl => by omega) (by simp only; split <;> omega) (by simp only; split <;> omega)
      refine ⟨a1, ?_, a3, a4⟩
      rw [a2]
      simp only
      omega
    · rw [if_neg h5] at h1 h2 ⊢
      rw [if_neg h5]
      refine ⟨rfl, by simp, ?_, ?_⟩ <;> (simp only; split <;> omega)
theorem lookL_ones (of : List Tm) (h : ∀ k n, (k = 1 → 0 ≤ n) → sizeN of k n = (1, 1)) : ∀ (l : List Tm) (d : Int) (x : Int × Int), okL l → 1 ≤ d → 0 ≤ x.1 → x.1 + nL l ≤ 2000 → (l ≠ [] → d + hL l ≤ 501) → 0 ≤ x.2 → x.2 ≤ 500 → (lookL of l d x).1 = true ∧ (lookL of l d x).2.1 = x.1 + nL l ∧ 0 ≤ (lookL of l d x).2.2 ∧ (lookL of l d x).2.2 ≤ 500
  | [], d, x, _, _, _, _, _, h3, h4 => by unfold lookL nL; exact ⟨rfl, by simp, h3, h4⟩
  | t :: ts, d, x, ho, hd, h0, h1, h2, h3, h4 => by
    unfold okL at ho
    unfold nL at h1 ⊢
    have h2' := h2 (by simp)
    unfold hL at h2'
    have hn1 := nT_pos t
    obtain ⟨a1, a2, a3, a4⟩ := look_ones of h t d x ho.1 hd h0 (by omega) (by omega) h3 h4
    unfold lookL
    rw [if_pos a1]
    obtain ⟨b1, b2, b3, b4⟩ := lookL_ones of h ts d (lookE of t d x).2 ho.2 hd (by omega) (by omega) (fun _ => by omega) a3 a4
    refine ⟨b1, ?_, b3, b4⟩
    rw [b2, a2]
    omega
end
theorem renF_lt : ∀ (l : List Int) (i d a : Int), a ∈ l → renF l i d a < i + l.length
  | b :: l, i, d, a, h => by
    unfold renF
    by_cases hl : a ∈ l
    · have := renF_lt l (i + 1) (if a = b then i else d) a hl
      simp only [List.length_cons]
      omega
    · rw [renF_out l _ _ a hl]
      rcases List.mem_cons.1 h with rfl | h
      · simp; omega
      · exact absurd h hl
/-- A renamed term's variables are the numbers below how many there are. -/
theorem rename_below {t : Tm} (hm : mayE t = 0) : ∀ a ∈ varsE (renameE t), 0 ≤ a ∧ a < (varsE (renameE t)).length := by
  intro a ha
  refine ⟨vars_pos (rename_may hm) a ha, ?_⟩
  rw [(rename_rename hm).1] at ha ⊢
  obtain ⟨b, hb, rfl⟩ := List.mem_map.1 ha
  rw [List.length_map]
  have := renF_lt (varsE t) 0 0 b hb
  omega
/-- The numbers themselves, as variables. -/
def selfL (m : Nat) : List Tm := (List.range m).map (fun (i : Nat) => varT (i : Int))
theorem selfL_len (m : Nat) : (selfL m).length = m := by simp [selfL]
theorem selfL_get (m : Nat) (n : Int) (h0 : 0 ≤ n) (h : n < m) : (selfL m).getD n.toNat Tm.zero = varT n := by
  unfold selfL
  rw [List.getD_eq_getElem?_getD, List.getElem?_map, List.getElem?_range (by omega)]
  simp only [Option.map_some, Option.getD_some]
  congr 1
  omega
theorem may_var {n : Int} (h : 0 ≤ n) : mayE (varT n) = 0 := by
  obtain ⟨a, b, c⟩ := varT_ok h
  exact mayE_ok.2 ⟨a, by omega, by omega⟩
theorem self_size (m : Nat) : ∀ k n, (k = 1 → 0 ≤ n) → sizeN (selfL m) k n = (1, 1) := by
  intro k n h
  unfold sizeN
  split
  · rename_i hk
    rw [selfL_len] at hk
    rw [selfL_get m n (h hk.1) hk.2]
    have hv := may_var (h hk.1)
    rw [nodesE_ok hv, depthE_ok hv, (varT_ok (h hk.1)).2.1, (varT_ok (h hk.1)).2.2]
    rfl
  · rfl
theorem plain_var {n : Int} (h : 0 ≤ n) : plainE (varT n) = varT n := by unfold plainE; rw [if_pos (may_var h)]; simp [turnT, varT]
theorem rename_fix' {t : Tm} (h : mayE t = 0) : turnT varT (renameE t) = renameE t := by rw [rename_form h]; exact turn_comp varT _ t (mayE_ok.1 h).1
/-- Replaced by themselves variables change nothing. -/
theorem apply_self {t : Tm} (hm : mayE t = 0) : applyE (renameE t) (selfL (varsE (renameE t)).length) = renameE t := by
  have mR := rename_may hm
  obtain ⟨o1, o2, o3⟩ := mayE_ok.1 mR
  have hl := (look_ones _ (self_size (varsE (renameE t)).length) (renameE t) 1 (0, 0) o1 (by decide) (by decide) (by simp only; omega) (by omega) (by decide) (by decide)).1
  unfold applyE
  rw [if_neg (by rintro (h | h); · exact h mR
                 · rw [hl] at h; cases h)]
  have hin := vars_in mR
  rw [turn_congr (S := fun n => 0 ≤ n ∧ n ∈ varsE (renameE t)) (F := appF (selfL (varsE (renameE t)).length)) (G := varT) (fun n hn => ?_) (renameE t) hin, rename_fix' hm]
  have := (rename_below hm n hn.2).2
  unfold appF
  rw [selfL_len, if_pos this, selfL_get _ n hn.1 this, plain_var hn.1]
theorem rep_get (m : Nat) (g : Tm) (n : Int) (h0 : 0 ≤ n) (h : n < m) : (List.replicate m g).getD n.toNat Tm.zero = g := by
  rw [List.getD_eq_getElem?_getD, List.getElem?_replicate, if_pos (by omega)]
  rfl
theorem no_vars {g : Tm} (hm : mayE g = 0) (hv : varsE g = []) : inT (fun _ => False) (plainE g) := by
  have hp : plainE g = turnT varT g := by unfold plainE; rw [if_pos hm]
  have hmp : mayE (turnT varT g) = 0 := may_plainT hm
  have e : varsE (turnT varT g) = [] := by rw [varsE_ok hmp, fold_turn, ← varsE_ok hm, hv]
  rw [hp]
  refine inT_mono (fun n hn => ?_) _ (vars_in hmp)
  rw [e] at hn
  cases hn.2
mutual
theorem turn_none {S : Int → Prop} {F : Int → Tm} (hF : ∀ n, S n → inT (fun _ => False) (F n)) : ∀ t : Tm, inT S t → okT t → inT (fun _ => False) (turnT F t)
  | .mk k s n r i l, h, ho => by
    unfold inT at h
    unfold okT at ho
    by_cases h1 : k = 1
    · subst h1; simp only [turnT, if_true]; exact hF n (h.1 rfl)
    by_cases h5 : k = 5
    · subst h5
      have e : turnT F (.mk 5 s n r i l) = .mk 5 s 0 0 0 (turnL F l) := by simp [turnT]
      rw [e]
      unfold inT
      exact ⟨fun h => absurd h (by decide), fun _ => turn_noneL hF l (h.2 rfl) (ho.2 rfl)⟩
    · unfold turnT
      rw [if_neg h1]
      repeat' split
      all_goals (unfold inT; exact ⟨fun h => absurd h h1, fun h => absurd h h5⟩)
theorem turn_noneL {S : Int → Prop} {F : Int → Tm} (hF : ∀ n, S n → inT (fun _ => False) (F n)) : ∀ l : List Tm, inL S l → okL l → inL (fun _ => False) (turnL F l)
  | [], _, _ => trivial
  | t :: ts, h, ho => by
    unfold inL at h
    unfold okL at ho
    unfold turnL inL
    exact ⟨turn_none hF t h.1 ho.1, turn_noneL hF ts h.2 ho.2⟩
end
theorem varsE_err {t : Tm} (h : mayE t ≠ 0) : varsE t = [] := by
  unfold varsE
  split
  · rfl
  · rename_i c m x hq
    obtain ⟨a, b, e, _⟩ := ok_of_chkG _ _ _ _ _ _ _ (by decide) hq
    exact absurd (mayE_ok.2 ⟨a, by omega, by omega⟩) h
/-- By a ground term none is left. -/
theorem apply_all {t g : Tm} (hm : mayE t = 0) (hg : mayE g = 0) (hv : varsE g = []) (hk : (applyE (renameE t) (List.replicate (varsE (renameE t)).length g)).kind ≠ 0) :
    varsE (applyE (renameE t) (List.replicate (varsE (renameE t)).length g)) = [] ∧ ((varsE (renameE t)).length = 0 → applyE (renameE t) (List.replicate (varsE (renameE t)).length g) = renameE t) := by
  have mR := rename_may hm
  obtain ⟨o1, o2, o3⟩ := mayE_ok.1 mR
  have hin := vars_in mR
  unfold applyE at hk ⊢
  split at hk
  · exact absurd rfl hk
  · rename_i hc
    rw [if_neg hc]
    constructor
    · have hn := turn_none (S := fun n => 0 ≤ n ∧ n ∈ varsE (renameE t)) (F := appF (List.replicate (varsE (renameE t)).length g)) (fun n hn => by
        have := (rename_below hm n hn.2).2
        unfold appF
        rw [List.length_replicate, if_pos this, rep_get _ g n hn.1 this]
        exact no_vars hg hv) (renameE t) hin o1
      by_cases hu : mayE (turnT (appF (List.replicate (varsE (renameE t)).length g)) (renameE t)) = 0
      · rw [varsE_ok hu]
        have := fold_sub (S := fun _ => False) _ [] hn (by simp)
        exact List.eq_nil_iff_forall_not_mem.2 this
      · exact varsE_err hu
    · intro h0
      have e0 : varsE (renameE t) = [] := List.eq_nil_of_length_eq_zero h0
      rw [turn_congr (S := fun n => 0 ≤ n ∧ n ∈ varsE (renameE t)) (G := varT) (fun n hn => by rw [e0] at hn; cases hn.2) (renameE t) hin, rename_fix' hm]
end Go.Proofs.Ytfjdekiobggdoaa
