/- Terms with others in the place of their variables: both ways are one. -/
import Derived.Test.YtfjdekiobggdoaaRApp
import Derived.Test.YtfjdekiobggdoaaItems0
namespace Go.Proofs.Ytfjdekiobggdoaa
open Go.RowKit
set_option linter.unusedVariables false
set_option linter.unusedSimpArgs false
set_option maxRecDepth 20000
set_option maxHeartbeats 4000000

def okV (of : List Tm) (n : Int) : Prop := 0 ≤ n ∧ badV of n = false
def rawF (of : List Tm) (n : Int) : Tm := if n < of.length then of.getD n.toNat Tm.zero else varT n
theorem okV_may {of : List Tm} {n : Int} (h : okV of n) (hn : n < of.length) : mayE (of.getD n.toNat Tm.zero) = 0 := by
  have := h.2
  unfold badV at this
  have d : decide (n < (of.length : Int)) = true := by simpa using hn
  rw [d, Bool.true_and] at this
  simpa using this
theorem raw_may {of : List Tm} {n : Int} (h : okV of n) : mayE (rawF of n) = 0 := by
  unfold rawF
  split
  · exact okV_may h ‹_›
  · exact may_var h.1
theorem app_raw {of : List Tm} {n : Int} (h : okV of n) : turnT varT (rawF of n) = appF of n := by
  unfold rawF appF
  split
  · have := okV_may h ‹_›
    unfold plainE
    rw [if_pos this]
  · simp [turnT, varT]
mutual
theorem turn_okV {S : Int → Prop} {F : Int → Tm} (hF : ∀ n, S n → okT (F n)) : ∀ t : Tm, okT t → inT S t → okT (turnT F t)
  | .mk k s n r i l, h, hS => by
    unfold okT at h
    unfold inT at hS
    have ho := h.1
    by_cases h1 : k = 1
    · subst h1
      have e : turnT F (.mk 1 s n r i l) = F n := by simp [turnT]
      rw [e]
      exact hF n (hS.1 rfl)
    by_cases h5 : k = 5
    · subst h5
      have e : turnT F (.mk 5 s n r i l) = .mk 5 s 0 0 0 (turnL F l) := by simp [turnT]
      rw [e]
      have hlen : (turnL F l).length = l.length := by rw [turnL_map, List.length_map]
      have ho' : oneE (.mk 5 s 0 0 0 (turnL F l)) = 0 := by
        simp only [oneE, hlen] at ho ⊢
        exact ho
      unfold okT
      exact ⟨ho', fun _ => turn_okVL hF l (h.2 rfl) (hS.2 rfl)⟩
    · have e : turnT F (.mk k s n r i l) = turnT varT (.mk k s n r i l) := by unfold turnT; rw [if_neg h1, if_neg h1]; simp [h5]
      rw [e]
      exact (plain_ok _ (by unfold okT; exact h)).1
theorem turn_okVL {S : Int → Prop} {F : Int → Tm} (hF : ∀ n, S n → okT (F n)) : ∀ l : List Tm, okL l → inL S l → okL (turnL F l)
  | [], _, _ => by simp [turnL, okL]
  | t :: ts, h, hS => by
    unfold okL at h
    unfold inL at hS
    unfold turnL okL
    exact ⟨turn_okV hF t h.1 hS.1, turn_okVL hF ts h.2 hS.2⟩
end
mutual
theorem turn_compS {S : Int → Prop} {F G H : Int → Tm} (hF : ∀ n, S n → turnT G (F n) = H n) : ∀ t : Tm, okT t → inT S t → turnT G (turnT F t) = turnT H t
  | .mk k s n r i l, h, hS => by
    unfold okT at h
    unfold inT at hS
    by_cases h1 : k = 1
    · subst h1; simp only [turnT, if_true]; exact hF n (hS.1 rfl)
    by_cases h2 : k = 2
    · subst h2; simp [turnT]
    by_cases h3 : k = 3
    · subst h3; simp [turnT]
    by_cases h4 : k = 4
    · subst h4; simp [turnT]
    by_cases h5 : k = 5
    · subst h5
      simp [turnT]
      exact turn_compSL hF l (h.2 rfl) (hS.2 rfl)
    · have := h.1; simp [oneE, h1, h2, h3, h4, h5] at this
theorem turn_compSL {S : Int → Prop} {F G H : Int → Tm} (hF : ∀ n, S n → turnT G (F n) = H n) : ∀ l : List Tm, okL l → inL S l → turnL G (turnL F l) = turnL H l
  | [], _, _ => by simp [turnL]
  | t :: ts, h, hS => by
    unfold okL at h
    unfold inL at hS
    simp only [turnL]
    rw [turn_compS hF t h.1 hS.1, turn_compSL hF ts h.2 hS.2]
end
theorem leaf_nT {F : Int → Tm} {k : Int} (s : ByteArray) (n r i : Int) (l : List Tm) (h1 : k ≠ 1) (h5 : k ≠ 5) : nT (turnT F (.mk k s n r i l)) = 1 ∧ hT (turnT F (.mk k s n r i l)) = 1 := by
  unfold turnT
  rw [if_neg h1]
  repeat' split
  all_goals first | exact absurd ‹_› h5 | (subst_vars; simp [nT, hT]; done) | (simp [nT, hT, h5]; done)
theorem not_ok_zero : ¬ okT Tm.zero := by unfold Tm.zero okT; simp [oneE]
mutual
/-- What the reference makes: all, or nothing good. -/
theorem map_form (of : List Tm) : ∀ (t : Tm) (x : Int), okT t → inT (okV of) t → 0 ≤ x →
    mapE of t x = (turnT (rawF of) t, x + nT (turnT (rawF of) t)) ∨ (¬ okT (mapE of t x).1 ∧ 2000 < x + nT (turnT (rawF of) t))
  | .mk k s n r i l, x, ho, hS, h0 => by
    unfold okT at ho
    unfold inT at hS
    by_cases hx : 2000 < x
    · right
      unfold mapE
      rw [if_pos hx]
      exact ⟨not_ok_zero, by omega⟩
    by_cases h1 : k = 1
    · subst h1
      left
      have hV := hS.1 rfl
      have e : turnT (rawF of) (.mk 1 s n r i l) = rawF of n := by simp [turnT]
      rw [e]
      unfold mapE
      rw [if_neg hx]
      by_cases hn : n < of.length
      · rw [if_pos ⟨rfl, hn⟩]
        have hm := okV_may hV hn
        rw [nodesE_ok hm]
        unfold rawF
        rw [if_pos hn]
      · rw [if_neg (by simp [hn]), if_neg (by decide)]
        unfold rawF
        rw [if_neg hn]
        simp [turnT, varT, nT]
    by_cases h5 : k = 5
    · subst h5
      have e : turnT (rawF of) (.mk 5 s n r i l) = .mk 5 s 0 0 0 (turnL (rawF of) l) := by simp [turnT]
      rw [e]
      unfold mapE
      rw [if_neg hx, if_neg (by simp), if_pos rfl]
      have en : nT (.mk 5 s 0 0 0 (turnL (rawF of) l)) = 1 + nL (turnL (rawF of) l) := by rw [nT, if_pos rfl]
      rw [en]
      rcases mapL_form of l (x + 1) (ho.2 rfl) (hS.2 rfl) (by omega) with h | ⟨h, h'⟩
      · left
        rw [h]
        simp only [Prod.mk.injEq, true_and]
        omega
      · right
        refine ⟨fun hk => ?_, by omega⟩
        simp only at hk
        unfold okT at hk
        exact h (hk.2 rfl)
    · left
      have e : turnT (rawF of) (.mk k s n r i l) = turnT varT (.mk k s n r i []) := by unfold turnT; rw [if_neg h1, if_neg h1]; simp [h5]
      have en := (leaf_nT (F := rawF of) s n r i l h1 h5).1
      rw [en, e]
      unfold mapE
      rw [if_neg hx, if_neg (by simp [h1]), if_neg h5]
      simp
theorem mapL_form (of : List Tm) : ∀ (l : List Tm) (x : Int), okL l → inL (okV of) l → 0 ≤ x →
    mapL of l x = (turnL (rawF of) l, x + nL (turnL (rawF of) l)) ∨ (¬ okL (mapL of l x).1 ∧ 2000 < x + nL (turnL (rawF of) l))
  | [], x, _, _, _ => by left; simp [mapL, turnL, nL]
  | t :: ts, x, ho, hS, h0 => by
    unfold okL at ho
    unfold inL at hS
    unfold mapL turnL
    rw [nL]
    rcases map_form of t x ho.1 hS.1 h0 with h | ⟨h, h'⟩
    · rw [h]
      simp only
      rcases mapL_form of ts (x + nT (turnT (rawF of) t)) ho.2 hS.2 (by omega) with g | ⟨g, g'⟩
      · left
        rw [g]
        simp only [Prod.mk.injEq, true_and]
        omega
      · right
        refine ⟨fun hk => ?_, by omega⟩
        unfold okL at hk
        exact g hk.2
    · right
      refine ⟨fun hk => ?_, by omega⟩
      simp only at hk
      unfold okL at hk
      exact h hk.1
end
mutual
/-- Is there room? Just if what comes of it has room. -/
theorem look_form (of : List Tm) : ∀ (t : Tm) (d : Int) (x : Int × Int), okT t → inT (okV of) t → okC x → 1 ≤ d →
    ((lookE of t d x).1 = true ↔ x.1 + nT (turnT (rawF of) t) ≤ 2000 ∧ d - 1 + hT (turnT (rawF of) t) ≤ 500) ∧ ((lookE of t d x).1 = true → (lookE of t d x).2.1 = x.1 + nT (turnT (rawF of) t))
  | .mk k s n r i l, d, x, ho, hS, hx, hd => by
    unfold okT at ho
    unfold inT at hS
    obtain ⟨x1, x2, x3, x4⟩ := hx
    have key : ∀ a b : Int, sizeN of k n = (a, b) → 1 ≤ a → k ≠ 5 → ((lookE of (.mk k s n r i l) d x).1 = true ↔ x.1 + a ≤ 2000 ∧ d - 1 + b ≤ 500) ∧ ((lookE of (.mk k s n r i l) d x).1 = true → (lookE of (.mk k s n r i l) d x).2.1 = x.1 + a) := by
      intro a b hab ha h5
      unfold lookE addN
      rw [hab]
      simp only
      rw [if_neg (by omega), if_neg h5]
      by_cases hc : 2000 < x.1 + a ∨ 500 < (if x.2 < d + b - 1 then d + b - 1 else x.2)
      · rw [if_pos hc]
        simp only [Bool.false_eq_true, false_iff, false_implies, and_true]
        intro h
        rcases hc with hc | hc
        · omega
        · split at hc <;> omega
      · rw [if_neg hc]
        simp only [true_iff, true_implies, and_true]
        simp only [not_or, Int.not_lt] at hc
        obtain ⟨c1, c2⟩ := hc
        split at c2 <;> omega
    by_cases h1 : k = 1
    · subst h1
      have hV := hS.1 rfl
      have e : turnT (rawF of) (.mk 1 s n r i l) = rawF of n := by simp [turnT]
      have hm := raw_may hV
      have hs : sizeN of 1 n = ((nT (rawF of n) : Int), (hT (rawF of n) : Int)) := by
        unfold sizeN
        by_cases hn : n < of.length
        · rw [if_pos ⟨rfl, hn⟩]
          have hm' := okV_may hV hn
          rw [nodesE_ok hm', depthE_ok hm']
          unfold rawF
          rw [if_pos hn]
        · rw [if_neg (by simp [hn])]
          unfold rawF
          rw [if_neg hn]
          simp [varT, nT, hT]
      rw [e]
      have := nT_pos (rawF of n)
      exact key _ _ hs (by omega) (by decide)
    by_cases h5 : k = 5
    · subst h5
      clear key
      have e : turnT (rawF of) (.mk 5 s n r i l) = .mk 5 s 0 0 0 (turnL (rawF of) l) := by simp [turnT]
      have en : nT (.mk 5 s 0 0 0 (turnL (rawF of) l)) = 1 + nL (turnL (rawF of) l) := by rw [nT, if_pos rfl]
      have eh : hT (.mk 5 s 0 0 0 (turnL (rawF of) l)) = 1 + hL (turnL (rawF of) l) := by rw [hT, if_pos rfl]
      have hs : sizeN of 5 n = (1, 1) := by unfold sizeN; rw [if_neg (by simp)]
      have ha : addN of 5 n d x = (x.1 + 1, if x.2 < d then d else x.2) := by
        unfold addN
        rw [hs]
        simp only
        rw [show d + 1 - 1 = d by omega]
      rw [e, en, eh]
      unfold lookE
      rw [ha, hs]
      simp only
      rw [if_neg (by decide)]
      simp only [if_true]
      by_cases hc : 2000 < x.1 + 1 ∨ 500 < (if x.2 < d then d else x.2)
      · rw [if_pos hc]
        simp only [Bool.false_eq_true, false_iff, false_implies, and_true]
        intro h
        rcases hc with hc | hc
        · omega
        · split at hc <;> omega
      · rw [if_neg hc]
        simp only [not_or, Int.not_lt] at hc
        obtain ⟨c1, c2⟩ := hc
        have hC : okC (x.1 + 1, if x.2 < d then d else x.2) := ⟨by simp only; omega, by simp only; omega, by simp only; split <;> omega, c2⟩
        obtain ⟨g1, g2⟩ := lookL_form of l (d + 1) _ (ho.2 rfl) (hS.2 rfl) hC (by omega) (by split at c2 <;> omega)
        simp only at g1 g2
        refine ⟨g1.trans ?_, fun h => ?_⟩
        · omega
        · rw [g2 h]; omega
    · have e1 := leaf_nT (F := rawF of) s n r i l h1 h5
      rw [e1.1, e1.2]
      exact key 1 1 (by unfold sizeN; rw [if_neg (by simp [h1])]) (by decide) h5
theorem lookL_form (of : List Tm) : ∀ (l : List Tm) (d : Int) (x : Int × Int), okL l → inL (okV of) l → okC x → 1 ≤ d → d ≤ 501 →
    ((lookL of l d x).1 = true ↔ x.1 + nL (turnL (rawF of) l) ≤ 2000 ∧ d - 1 + hL (turnL (rawF of) l) ≤ 500) ∧ ((lookL of l d x).1 = true → (lookL of l d x).2.1 = x.1 + nL (turnL (rawF of) l))
  | [], d, x, _, _, hx, hd, hd' => by
    unfold lookL turnL nL hL
    obtain ⟨x1, x2, x3, x4⟩ := hx
    simp only [true_iff, true_implies]
    omega
  | t :: ts, d, x, ho, hS, hx, hd, hd' => by
    unfold okL at ho
    unfold inL at hS
    unfold lookL turnL
    rw [nL, hL]
    obtain ⟨g1, g2⟩ := look_form of t d x ho.1 hS.1 hx hd
    by_cases hl : (lookE of t d x).1 = true
    · rw [if_pos hl]
      have hx' := look_ok of t d x hx hd hl
      obtain ⟨k1, k2⟩ := lookL_form of ts d (lookE of t d x).2 ho.2 hS.2 hx' hd hd'
      have a1 := g1.1 hl
      have a2 := g2 hl
      refine ⟨k1.trans ?_, fun h => ?_⟩
      · rw [a2]; omega
      · rw [k2 h, a2]; omega
    · rw [if_neg hl]
      have : ¬ (x.1 + nT (turnT (rawF of) t) ≤ 2000 ∧ d - 1 + hT (turnT (rawF of) t) ≤ 500) := fun h => hl (g1.2 h)
      simp only [Bool.false_eq_true, false_iff, false_implies, and_true]
      omega
end
mutual
/-- Where there is room each variable has a good term. -/
theorem look_good (of : List Tm) : ∀ (t : Tm) (d : Int) (x : Int × Int), (lookE of t d x).1 = true → inT (fun n => badV of n = false) t
  | .mk k s n r i l, d, x, h => by
    unfold lookE at h
    unfold inT
    split at h
    · cases h
    · rename_i hs
      split at h
      · cases h
      · refine ⟨fun hk => ?_, fun hk => ?_⟩
        · subst hk
          cases hb : badV of n with
          | false => rfl
          | true =>
            exfalso
            unfold badV at hb
            simp only [Bool.and_eq_true, decide_eq_true_eq, bne_iff_ne, ne_eq] at hb
            apply hs
            unfold sizeN
            rw [if_pos ⟨rfl, hb.1⟩]
            exact nodesE_err hb.2
        · rw [if_pos hk] at h
          exact lookL_good of l _ _ h
theorem lookL_good (of : List Tm) : ∀ (l : List Tm) (d : Int) (x : Int × Int), (lookL of l d x).1 = true → inL (fun n => badV of n = false) l
  | [], _, _, _ => by unfold inL; trivial
  | t :: ts, d, x, h => by
    unfold lookL at h
    unfold inL
    split at h
    · exact ⟨look_good of t d x ‹_›, lookL_good of ts d _ h⟩
    · cases h
end
/-- Both ways are one. -/
theorem apply_eq (t : Tm) (of : List Tm) : applyE t of = rApplyE t of := by
  have hA : ∀ b, (lookE of t 1 (0, 0)).1 = b → mayE t = 0 → applyE t of = if b = true then turnT (appF of) t else Tm.zero := by
    intro b hb hm
    unfold applyE
    rw [hb]
    cases b
    · rw [if_pos (.inr rfl), if_neg (by decide)]
    · rw [if_neg (by simp [hm]), if_pos rfl]
  by_cases hm : mayE t = 0
  · have ho := (mayE_ok.1 hm).1
    cases hb : (varsE t).any (badV of) with
    | true =>
      have hR : rApplyE t of = Tm.zero := by unfold rApplyE; rw [if_pos (.inr hb)]
      rw [hR]
      cases hl : (lookE of t 1 (0, 0)).1 with
      | false => rw [hA _ hl hm, if_neg (by decide)]
      | true =>
        exfalso
        have hg := look_good of t 1 (0, 0) hl
        obtain ⟨n, hn, hbn⟩ := List.any_eq_true.1 hb
        rw [varsE_ok hm] at hn
        have := fold_sub t [] hg (by simp) n hn
        rw [hbn] at this
        cases this
    | false =>
      have hR : rApplyE t of = plainE (mapE of t 0).1 := by unfold rApplyE; rw [if_neg (by simp [hm, hb])]
      rw [hR]
      have hS : inT (okV of) t := inT_mono (fun n hn => ⟨hn.1, by
        cases hq : badV of n with
        | false => rfl
        | true => rw [List.any_eq_true.2 ⟨n, hn.2, hq⟩] at hb; cases hb⟩) t (vars_in hm)
      have hok := turn_okV (F := rawF of) (fun n hn => (mayE_ok.1 (raw_may hn)).1) t ho hS
      have hcomp := turn_compS (F := rawF of) (fun n hn => app_raw hn) t ho hS
      have hlook := (look_form of t 1 (0, 0) ho hS ⟨by decide, by decide, by decide, by decide⟩ (by decide)).1
      simp only at hlook
      obtain ⟨u, hu⟩ : ∃ u, turnT (rawF of) t = u := ⟨_, rfl⟩
      have hmf := map_form of t 0 ho hS (by decide)
      rw [hu] at hok hcomp hlook hmf
      rcases hmf with h | ⟨h, h'⟩
      · rw [h]
        simp only
        unfold plainE
        by_cases hmu : mayE u = 0
        · obtain ⟨_, b, c⟩ := mayE_ok.1 hmu
          rw [if_pos hmu, hA true (hlook.2 ⟨by omega, by omega⟩) hm, if_pos rfl, hcomp]
        · rw [if_neg hmu, hA false ?_ hm, if_neg (by decide)]
          cases hl : (lookE of t 1 (0, 0)).1 with
          | false => rfl
          | true =>
            exfalso
            obtain ⟨b, c⟩ := hlook.1 hl
            exact hmu (mayE_ok.2 ⟨hok, by omega, by omega⟩)
      · have hmn : mayE (mapE of t 0).1 ≠ 0 := fun hk => h (mayE_ok.1 hk).1
        unfold plainE
        rw [if_neg hmn, hA false ?_ hm, if_neg (by decide)]
        cases hl : (lookE of t 1 (0, 0)).1 with
        | false => rfl
        | true =>
          exfalso
          obtain ⟨b, c⟩ := hlook.1 hl
          omega
  · unfold applyE rApplyE
    rw [if_pos (.inl hm), if_pos (.inl hm)]
/-- What comes of it equals itself. -/
theorem Equal_apply (t : Tm) (of : List Tm) : EqualE (applyE t of) (applyE t of) = true := by
  rw [apply_eq]
  unfold rApplyE
  split
  · have : Tm.zero = plainE Tm.zero := by
      unfold plainE
      rw [if_neg (fun hk => not_ok_zero (mayE_ok.1 hk).1)]
    rw [this]
    exact Equal_plain _
  · exact Equal_plain _
theorem slimA_apply (t : Tm) (of : List Tm) : slimA (applyE t of) := by
  rw [apply_eq]
  unfold rApplyE
  split
  · unfold Tm.zero slimA; exact ⟨Nat.zero_le _, trivial⟩
  · exact slimA_plain _
theorem Equal_list (l : List Tm) (t : Tm) : EqualE (listE l t) (listE l t) = true := by
  unfold listE
  split
  · have : Tm.zero = plainE Tm.zero := by
      unfold plainE
      rw [if_neg (fun hk => not_ok_zero (mayE_ok.1 hk).1)]
    rw [this]
    exact Equal_plain _
  · exact Equal_plain _
theorem slimA_list (l : List Tm) (t : Tm) : slimA (listE l t) := by
  unfold listE
  split
  · unfold Tm.zero slimA; exact ⟨Nat.zero_le _, trivial⟩
  · exact slimA_plain _
end Go.Proofs.Ytfjdekiobggdoaa
