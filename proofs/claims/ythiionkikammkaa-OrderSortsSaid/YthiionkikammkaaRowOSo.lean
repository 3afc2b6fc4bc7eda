/- OrderSorts answers true, whatever its terms, and leaves all that it was handed as it was. Conditions: none. -/
import Derived.Test.YthiionkikammkaaRows
import Derived.Test.YthiionkikammkaaOpen
import Derived.Test.YthiionkikammkaaSameTs
import Derived.Test.YthiionkikammkaaItems0
import Derived.Test.YthiionkikammkaaRSortW
namespace Go.Proofs.Ythiionkikammkaa
open Go.RowKit
set_option linter.unusedVariables false
set_option linter.unusedSimpArgs false
set_option maxRecDepth 20000
set_option maxHeartbeats 16000000

theorem keepE_good {l : List Tm} {t : Tm} (h : t ∈ keepE l) : mayE t = 0 ∧ plainE t = t ∧ slimA t := by
  unfold keepE at h
  obtain ⟨u, hu, rfl⟩ := List.mem_map.1 h
  have h0 : mayE u = 0 := by have := (List.mem_filter.1 hu).2; simpa using this
  have e : plainE u = turnT varT u := by unfold plainE; rw [if_pos h0]
  rw [e]
  exact ⟨may_plainT h0, plain_plain h0, slimA_turn varT slimA_var u (mayE_ok.1 h0).1⟩
theorem sortE_good {l : List Tm} {t : Tm} (h : t ∈ sortE l) : mayE t = 0 ∧ plainE t = t ∧ slimA t := keepE_good (sortF_in.1 h)
theorem keep_id : ∀ l : List Tm, (∀ t ∈ l, mayE t = 0 ∧ plainE t = t) → keepE l = l
  | [], _ => rfl
  | t :: l, h => by
    have ih := keep_id l (fun u hu => h u (by simp [hu]))
    unfold keepE at ih ⊢
    rw [List.filter_cons_of_pos (by simp [(h t (by simp)).1]), List.map_cons, ih, (h t (by simp)).2]
theorem sortE_sortE (l : List Tm) : sortE (sortE l) = sortE l := by
  have e : keepE (sortE l) = sortE l := keep_id _ (fun t ht => ⟨(sortE_good ht).1, (sortE_good ht).2.1⟩)
  have : sortE (sortE l) = sortF (keepE (sortE l)) := rfl
  rw [this, e]
  exact sortF_id _ (sortE_ok l) (sortF_srt (keepE_ok l))
theorem compactE_mem {t : Tm} : ∀ {l : List Tm}, t ∈ compactE l → t ∈ l := by
  have key : ∀ (l : List Tm) (p : Tm), t ∈ cmGo p l → t ∈ l := by
    intro l
    induction l with
    | nil => intro p h; simp [cmGo] at h
    | cons y l ih =>
      intro p h
      unfold cmGo at h
      split at h
      · exact List.mem_cons_of_mem _ (ih _ h)
      · rcases List.mem_cons.1 h with rfl | h
        · exact List.mem_cons_self
        · exact List.mem_cons_of_mem _ (ih _ h)
  intro l h
  cases l with
  | nil => simp [compactE] at h
  | cons x l =>
    unfold compactE at h
    rcases List.mem_cons.1 h with rfl | h
    · exact List.mem_cons_self
    · exact List.mem_cons_of_mem _ (key _ _ h)
theorem compactE_len (l : List Tm) : (compactE l).length ≤ l.length := by
  have key : ∀ (l : List Tm) (p : Tm), (cmGo p l).length ≤ l.length := by
    intro l
    induction l with
    | nil => intro p; simp [cmGo]
    | cons y l ih =>
      intro p
      unfold cmGo
      split
      · have := ih y; simp; omega
      · have := ih y; simp; omega
  cases l with
  | nil => simp [compactE]
  | cons x l => unfold compactE; have := key l x; simp; omega
theorem Equal_fixO {t : Tm} (h : mayE t = 0) : EqualE t t = true := by
  have hk : rSameE t t = true := by
    unfold rSameE
    rw [h, like_refl]
    rfl
  unfold EqualE
  split
  · rename_i h0
    have hok := (mayE_ok.1 h).1
    have hk0 : t.kind = 0 := by rcases h0 with h0 | h0 <;> exact h0
    cases t with
    | mk k s n r i l =>
      simp only [Tm.kind] at hk0
      subst hk0
      have := ok_kind hok
      omega
  · exact hk
theorem allEq_selfO : ∀ l : List Tm, (∀ g ∈ l, mayE g = 0) → allEq l l = true
  | [], _ => by rw [allEq]; intros; simp_all
  | g :: l, h => by rw [allEq, Equal_fixO (h g (by simp)), allEq_selfO l (fun x hx => h x (by simp [hx]))]; rfl
theorem sameTerms_selfO {l : List Tm} (h : ∀ g ∈ l, mayE g = 0) : sameTermsE l l = true := by
  unfold sameTermsE
  rw [allEq_selfO l h]
  simp
theorem AR.nthAt {b o c : Nat} {l : List Tm} {M : List Nat} {w : World} (h : AR (some ⟨b, o, none⟩) c l M w) {j : Nat} {t : Tm} (hj : l[j]? = some t) : ∃ A' c', CellF b (o + j * 6) (cellsT t.kind t.name t.int t.re t.im A' t.args.length c') M w ∧ AR A' c' t.args M w := by
  obtain ⟨hl, rfl⟩ := List.getElem?_eq_some_iff.1 hj
  obtain ⟨b1, o1, A1, c1, e, hm1, hb1, hc1, h1⟩ := h.at j hl
  simp only [Option.some.injEq, Addr.mk.injEq, and_true] at e
  obtain ⟨rfl, rfl⟩ := e
  exact ⟨A1, c1, ⟨hm1, hb1, hc1⟩, h1⟩
theorem setE_sub {l : List Tm} {x : Tm} (h : x ∈ setE l) : x ∈ sortE l := compactE_mem h
theorem setE_len (l : List Tm) : (setE l).length ≤ (sortE l).length := compactE_len _
theorem setE_sortE (l : List Tm) : setE (sortE l) = setE l := by unfold setE; rw [sortE_sortE]
theorem sortE_keep (l : List Tm) : (keepE l).length = (sortE l).length := by unfold sortE; rw [sortF_len]
theorem keepE_zero (l : List Tm) : (keepE (l.take 0)).length = 0 := rfl
theorem sortE_rises {l : List Tm} {i j : Nat} (h : i < j) {u t : Tm} (hu : (sortE l)[i]? = some u) (ht : (sortE l)[j]? = some t) : ¬ ordE t u < 0 := srt_nth (sortF_srt (keepE_ok l)) h hu ht
theorem sorts_facts (l : List Tm) : sameTermsE (sortE l) (rsE false l) = true ∧ sameTermsE (setE l) (rsE true l) = true ∧ (sortE l).length ≤ l.length ∧ (setE l).length ≤ l.length ∧ (∀ x ∈ sortE l, slimA x) ∧ (∀ x ∈ setE l, slimA x) ∧ (∀ x ∈ rsE false l, slimA x) ∧ ∀ x ∈ rsE true l, slimA x := by
  rw [rsE_false, rsE_true]
  have s1 : ∀ x ∈ sortE l, slimA x := fun x hx => (sortE_good hx).2.2
  have s2 : ∀ x ∈ setE l, slimA x := fun x hx => (sortE_good (setE_sub hx)).2.2
  exact ⟨sameTerms_selfO (fun x hx => (sortE_good hx).1), sameTerms_selfO (fun x hx => (sortE_good (setE_sub hx)).1), sortE_len l, Nat.le_trans (setE_len l) (sortE_len l), s1, s2, s1, s2⟩
attribute [local irreducible] mayE nodesE depthE plainE renameE varsE EqualE LightE rSameE turnT compE ordE sortE setE keepE allEq sameTermsE rsE
theorem sorts_no (Al : Option Addr) (cl : Nat) (l : List Tm) (M : List Nat) (w0 : World) (hM : ∀ b ∈ M, b < w0.heap.size) (hl : AR Al cl l M w0) (pre0 : 40 < List.length l ∨ (List.length l ≤ 40 ∧ LightE l 0 4000 = false)) (pre1 : List.length l ≤ maxLen) : Calls Try.prog 7 #[.slice Al l.length cl] w0 (RetV w0 (.bool true)) := by
  have H := St.start hM (AR.stab Al cl l) hl
  clear hl
  rcases pre0 with h | ⟨h, L⟩
  · have d1 : decide ((40 : Int) < (l.length : Int)) = true := by simp; omega
    have d2 : decide (40 < l.length) = true := by simp; omega
    go_enter Try.func7, Try.ntmps7
    go_wp2_with (first | ((with_reducible refine wpl_runx ?_ ?_); (focus exact rfl); refine ⟨_, runs_load H 0 rfl rfl rfl rfl rfl, ?_⟩; rintro _ _ ⟨rfl, rfl⟩) | ((with_reducible refine wpl_runx ?_ ?_); (focus exact rfl); refine ⟨_, runs_load H 1 rfl rfl rfl rfl rfl, ?_⟩; rintro _ _ ⟨rfl, rfl⟩) | ((with_reducible refine wpl_runx ?_ ?_); (focus exact rfl); refine ⟨_, runs_load_cell H rfl rfl rfl rfl, ?_⟩; rintro _ _ ⟨rfl, rfl⟩) | ((with_reducible refine wpl_runx ?_ ?_); (focus exact rfl); refine ⟨_, runs_load_cell0 H rfl rfl rfl rfl, ?_⟩; rintro _ _ ⟨rfl, rfl⟩) | ((with_reducible refine wpl_runx ?_ ?_); (focus exact rfl); refine ⟨_, runs_load_obj H rfl rfl rfl rfl, ?_⟩; rintro _ _ ⟨rfl, rfl⟩) | ((with_reducible refine wpl_runx ?_ ?_); (focus exact rfl); refine ⟨_, runs_store H 0 rfl rfl rfl rfl rfl rfl rfl rfl rfl, ?_⟩; clear H; rintro _ w ⟨rfl, hE, H⟩; clear hE) | ((with_reducible refine wpl_runx ?_ ?_); (focus exact rfl); refine ⟨_, runs_store H 1 rfl rfl rfl rfl rfl rfl rfl rfl rfl, ?_⟩; clear H; rintro _ w ⟨rfl, hE, H⟩; clear hE) | ((with_reducible refine wpl_callX ?_); refine ⟨rfl, rfl, fun K hK => ?_⟩; go_simp; (first | (go_at_call 10; (with_reducible refine Calls.mono (Light_c H _ _ _ _ ?_ ?_) ?_); (focus (first | with_reducible rfl | rfl | simp)); (focus (first | assumption | (simp [maxLen]; done) | (unfold maxLen; omega))); intro e w h; obtain ⟨rfl, hE⟩ := h; replace H := H.step hE; clear hE) | (go_at_call 13; (with_reducible refine Calls.mono (awake_spec_c H ) ?_); intro e w h; obtain ⟨rfl, hE⟩ := h; replace H := H.step hE; clear hE) | (go_at_call 20; (with_reducible refine Calls.mono (oSort_spec_c H _ _ _ _ ?_ ?_) ?_); (focus (first | with_reducible rfl | rfl | simp)); (focus ((first | assumption | omega))); intro e w h; obtain ⟨A_20, c_20, rfl, hA, hE⟩ := h; replace H := (H.step hE).add hA (AR.stab _ _ _); clear hE hA) | (go_at_call 21; (with_reducible refine Calls.mono (rSort_spec_c H _ _ _ _ _ ?_ ?_ ?_) ?_); (focus (first | with_reducible rfl | rfl | simp)); (focus ((first | assumption | omega))); (focus (assumption)); intro e w h; obtain ⟨A_21, c_21, rfl, hA, hE⟩ := h; replace H := (H.step hE).add hA (AR.stab _ _ _); clear hE hA) | (go_at_call 19; (with_reducible refine Calls.mono (sameTerms_spec_c H _ _ _ _ _ _ _ _ ?_ ?_ ?_ ?_ ?_) ?_); (focus (first | with_reducible rfl | rfl | simp)); (focus (first | with_reducible rfl | rfl | simp)); (focus ((first | assumption | omega))); (focus (assumption)); (focus (assumption)); intro e w h; obtain ⟨rfl, hE⟩ := h; replace H := H.step hE; clear hE) | (go_at_call 22; (with_reducible refine Calls.mono (oSet_spec_c H _ _ _ _ ?_ ?_) ?_); (focus (first | with_reducible rfl | rfl | simp)); (focus ((first | assumption | omega))); intro e w h; obtain ⟨A_22, c_22, rfl, hA, hE⟩ := h; replace H := (H.step hE).add hA (AR.stab _ _ _); clear hE hA)); refine hK _ _ ?_; clear hK K; (try simp only [Act.put, List.setIfInBounds_toArray, List.set_cons_succ, List.set_cons_zero])) | ((with_reducible refine wpl_pureX ?_); refine ⟨rfl, rfl, ?_⟩; apply Exists.intro; apply And.intro; (focus (intro w; go_simp; (try with_reducible rfl); done)); (try simp only [Act.put, List.setIfInBounds_toArray, List.set_cons_succ, List.set_cons_zero])) | ((fail_if_success ((with_reducible refine wpl_runx ?_ ?_); (focus exact rfl))); ((with_reducible refine wpl_gcaseE ?_); refine ⟨_, rfl, ?_, ?_⟩) <;> (intro hg; first | (simp only [reduceCtorEq] at hg; done) | contradiction | ((with_reducible have hx := eq_of_beq hg); contradiction) | ((with_reducible have hx := ne_of_beq_false hg); contradiction) | ((with_reducible have hx := bne_iff_ne.1 hg); contradiction) | ((with_reducible have hx := bne_eq_false_iff_eq.1 hg); contradiction) | ((with_reducible have hx := of_decide_eq_true hg); first | contradiction | omega) | ((with_reducible have hx := of_decide_eq_false hg); first | contradiction | omega) | (simp only [Bool.not_eq_true', Bool.not_eq_false', beq_iff_eq, beq_eq_false_iff_ne, bne_iff_ne, ne_eq] at hg; contradiction) | (simp only [hg]))))
    all_goals
      go_ret
      refine ⟨?_, H.ext⟩
      clear H
      go_tidy
      first | rfl | (simp only [Tm.zero, *, Tm.eta, Bool.false_eq_true, reduceIte, Bool.and_self, Bool.true_and, Bool.and_true, Bool.false_and, Bool.and_false, Bool.true_or, Bool.or_true, Bool.false_or, Bool.or_false, Bool.not_true, Bool.not_false, bne]; done) | (simp [Tm.zero, Tm.eta, *]; done) | (simp_all [Tm.zero, Tm.eta]; done) | (simp_all [Tm.zero, Tm.eta]; omega)
  · have d1 : decide ((40 : Int) < (l.length : Int)) = false := by simp; omega
    have d2 : decide (40 < l.length) = false := by simp; omega
    go_enter Try.func7, Try.ntmps7
    go_wp2_with (first | ((with_reducible refine wpl_runx ?_ ?_); (focus exact rfl); refine ⟨_, runs_load H 0 rfl rfl rfl rfl rfl, ?_⟩; rintro _ _ ⟨rfl, rfl⟩) | ((with_reducible refine wpl_runx ?_ ?_); (focus exact rfl); refine ⟨_, runs_load H 1 rfl rfl rfl rfl rfl, ?_⟩; rintro _ _ ⟨rfl, rfl⟩) | ((with_reducible refine wpl_runx ?_ ?_); (focus exact rfl); refine ⟨_, runs_load_cell H rfl rfl rfl rfl, ?_⟩; rintro _ _ ⟨rfl, rfl⟩) | ((with_reducible refine wpl_runx ?_ ?_); (focus exact rfl); refine ⟨_, runs_load_cell0 H rfl rfl rfl rfl, ?_⟩; rintro _ _ ⟨rfl, rfl⟩) | ((with_reducible refine wpl_runx ?_ ?_); (focus exact rfl); refine ⟨_, runs_load_obj H rfl rfl rfl rfl, ?_⟩; rintro _ _ ⟨rfl, rfl⟩) | ((with_reducible refine wpl_runx ?_ ?_); (focus exact rfl); refine ⟨_, runs_store H 0 rfl rfl rfl rfl rfl rfl rfl rfl rfl, ?_⟩; clear H; rintro _ w ⟨rfl, hE, H⟩; clear hE) | ((with_reducible refine wpl_runx ?_ ?_); (focus exact rfl); refine ⟨_, runs_store H 1 rfl rfl rfl rfl rfl rfl rfl rfl rfl, ?_⟩; clear H; rintro _ w ⟨rfl, hE, H⟩; clear hE) | ((with_reducible refine wpl_callX ?_); refine ⟨rfl, rfl, fun K hK => ?_⟩; go_simp; (first | (go_at_call 10; (with_reducible refine Calls.mono (Light_c H _ _ _ _ ?_ ?_) ?_); (focus (first | with_reducible rfl | rfl | simp)); (focus (first | assumption | (simp [maxLen]; done) | (unfold maxLen; omega))); intro e w h; obtain ⟨rfl, hE⟩ := h; replace H := H.step hE; clear hE) | (go_at_call 13; (with_reducible refine Calls.mono (awake_spec_c H ) ?_); intro e w h; obtain ⟨rfl, hE⟩ := h; replace H := H.step hE; clear hE) | (go_at_call 20; (with_reducible refine Calls.mono (oSort_spec_c H _ _ _ _ ?_ ?_) ?_); (focus (first | with_reducible rfl | rfl | simp)); (focus ((first | assumption | omega))); intro e w h; obtain ⟨A_20, c_20, rfl, hA, hE⟩ := h; replace H := (H.step hE).add hA (AR.stab _ _ _); clear hE hA) | (go_at_call 21; (with_reducible refine Calls.mono (rSort_spec_c H _ _ _ _ _ ?_ ?_ ?_) ?_); (focus (first | with_reducible rfl | rfl | simp)); (focus ((first | assumption | omega))); (focus (assumption)); intro e w h; obtain ⟨A_21, c_21, rfl, hA, hE⟩ := h; replace H := (H.step hE).add hA (AR.stab _ _ _); clear hE hA) | (go_at_call 19; (with_reducible refine Calls.mono (sameTerms_spec_c H _ _ _ _ _ _ _ _ ?_ ?_ ?_ ?_ ?_) ?_); (focus (first | with_reducible rfl | rfl | simp)); (focus (first | with_reducible rfl | rfl | simp)); (focus ((first | assumption | omega))); (focus (assumption)); (focus (assumption)); intro e w h; obtain ⟨rfl, hE⟩ := h; replace H := H.step hE; clear hE) | (go_at_call 22; (with_reducible refine Calls.mono (oSet_spec_c H _ _ _ _ ?_ ?_) ?_); (focus (first | with_reducible rfl | rfl | simp)); (focus ((first | assumption | omega))); intro e w h; obtain ⟨A_22, c_22, rfl, hA, hE⟩ := h; replace H := (H.step hE).add hA (AR.stab _ _ _); clear hE hA)); refine hK _ _ ?_; clear hK K; (try simp only [Act.put, List.setIfInBounds_toArray, List.set_cons_succ, List.set_cons_zero])) | ((with_reducible refine wpl_pureX ?_); refine ⟨rfl, rfl, ?_⟩; apply Exists.intro; apply And.intro; (focus (intro w; go_simp; (try with_reducible rfl); done)); (try simp only [Act.put, List.setIfInBounds_toArray, List.set_cons_succ, List.set_cons_zero])) | ((fail_if_success ((with_reducible refine wpl_runx ?_ ?_); (focus exact rfl))); ((with_reducible refine wpl_gcaseE ?_); refine ⟨_, rfl, ?_, ?_⟩) <;> (intro hg; first | (simp only [reduceCtorEq] at hg; done) | contradiction | ((with_reducible have hx := eq_of_beq hg); contradiction) | ((with_reducible have hx := ne_of_beq_false hg); contradiction) | ((with_reducible have hx := bne_iff_ne.1 hg); contradiction) | ((with_reducible have hx := bne_eq_false_iff_eq.1 hg); contradiction) | ((with_reducible have hx := of_decide_eq_true hg); first | contradiction | omega) | ((with_reducible have hx := of_decide_eq_false hg); first | contradiction | omega) | (simp only [Bool.not_eq_true', Bool.not_eq_false', beq_iff_eq, beq_eq_false_iff_ne, bne_iff_ne, ne_eq] at hg; contradiction) | (simp only [hg]))))
    all_goals
      go_ret
      refine ⟨?_, H.ext⟩
      clear H
      go_tidy
      first | rfl | (simp only [Tm.zero, *, Tm.eta, Bool.false_eq_true, reduceIte, Bool.and_self, Bool.true_and, Bool.and_true, Bool.false_and, Bool.and_false, Bool.true_or, Bool.or_true, Bool.false_or, Bool.or_false, Bool.not_true, Bool.not_false, bne]; done) | (simp [Tm.zero, Tm.eta, *]; done) | (simp_all [Tm.zero, Tm.eta]; done) | (simp_all [Tm.zero, Tm.eta]; omega)
theorem sorts_yes (Al : Option Addr) (cl : Nat) (l : List Tm) (M : List Nat) (w0 : World) (hM : ∀ b ∈ M, b < w0.heap.size) (hl : AR Al cl l M w0) (pre0 : List.length l ≤ 40) (pre1 : LightE l 0 4000 = true) : Calls Try.prog 7 #[.slice Al l.length cl] w0 (RetV w0 (.bool true)) := by
  have H := St.start hM (AR.stab Al cl l) hl
  clear hl
  have d1 : decide ((40 : Int) < (l.length : Int)) = false := by simp; omega
  have d2 : decide (40 < l.length) = false := by simp; omega
  have m1 : l.length ≤ maxLen := by unfold maxLen; omega
  have sl : ∀ x ∈ l, slim x := fun x hx => slim_of_slimA x (Light_slimA _ _ _ pre1 x hx)
  obtain ⟨v1, v2, l1, l2, s1, s2, s3, s4⟩ := sorts_facts l
  have l3 : (sortE l).length ≤ 1000000 := by omega
  have l4 : (setE l).length ≤ 1000000 := by omega
  clear l1 l2
  go_enter Try.func7, Try.ntmps7
  go_wp2_with (first | ((with_reducible refine wpl_runx ?_ ?_); (focus exact rfl); refine ⟨_, runs_load H 0 rfl rfl rfl rfl rfl, ?_⟩; rintro _ _ ⟨rfl, rfl⟩) | ((with_reducible refine wpl_runx ?_ ?_); (focus exact rfl); refine ⟨_, runs_load H 1 rfl rfl rfl rfl rfl, ?_⟩; rintro _ _ ⟨rfl, rfl⟩) | ((with_reducible refine wpl_runx ?_ ?_); (focus exact rfl); refine ⟨_, runs_load_cell H rfl rfl rfl rfl, ?_⟩; rintro _ _ ⟨rfl, rfl⟩) | ((with_reducible refine wpl_runx ?_ ?_); (focus exact rfl); refine ⟨_, runs_load_cell0 H rfl rfl rfl rfl, ?_⟩; rintro _ _ ⟨rfl, rfl⟩) | ((with_reducible refine wpl_runx ?_ ?_); (focus exact rfl); refine ⟨_, runs_load_obj H rfl rfl rfl rfl, ?_⟩; rintro _ _ ⟨rfl, rfl⟩) | ((with_reducible refine wpl_runx ?_ ?_); (focus exact rfl); refine ⟨_, runs_store H 0 rfl rfl rfl rfl rfl rfl rfl rfl rfl, ?_⟩; clear H; rintro _ w ⟨rfl, hE, H⟩; clear hE) | ((with_reducible refine wpl_runx ?_ ?_); (focus exact rfl); refine ⟨_, runs_store H 1 rfl rfl rfl rfl rfl rfl rfl rfl rfl, ?_⟩; clear H; rintro _ w ⟨rfl, hE, H⟩; clear hE) | ((with_reducible refine wpl_callX ?_); refine ⟨rfl, rfl, fun K hK => ?_⟩; go_simp; (first | (go_at_call 10; (with_reducible refine Calls.mono (Light_c H _ _ _ _ ?_ ?_) ?_); (focus (first | with_reducible rfl | rfl | simp)); (focus (first | assumption | (simp [maxLen]; done) | (unfold maxLen; omega))); intro e w h; obtain ⟨rfl, hE⟩ := h; replace H := H.step hE; clear hE) | (go_at_call 13; (with_reducible refine Calls.mono (awake_spec_c H ) ?_); intro e w h; obtain ⟨rfl, hE⟩ := h; replace H := H.step hE; clear hE) | (go_at_call 20; (with_reducible refine Calls.mono (oSort_spec_c H _ _ _ _ ?_ ?_) ?_); (focus (first | with_reducible rfl | rfl | simp)); (focus ((first | assumption | omega))); intro e w h; obtain ⟨A_20, c_20, rfl, hA, hE⟩ := h; replace H := (H.step hE).add hA (AR.stab _ _ _); clear hE hA) | (go_at_call 21; (with_reducible refine Calls.mono (rSort_spec_c H _ _ _ _ _ ?_ ?_ ?_) ?_); (focus (first | with_reducible rfl | rfl | simp)); (focus ((first | assumption | omega))); (focus (assumption)); intro e w h; obtain ⟨A_21, c_21, rfl, hA, hE⟩ := h; replace H := (H.step hE).add hA (AR.stab _ _ _); clear hE hA) | (go_at_call 19; (with_reducible refine Calls.mono (sameTerms_spec_c H _ _ _ _ _ _ _ _ ?_ ?_ ?_ ?_ ?_) ?_); (focus (first | with_reducible rfl | rfl | simp)); (focus (first | with_reducible rfl | rfl | simp)); (focus ((first | assumption | omega))); (focus (assumption)); (focus (assumption)); intro e w h; obtain ⟨rfl, hE⟩ := h; replace H := H.step hE; clear hE) | (go_at_call 22; (with_reducible refine Calls.mono (oSet_spec_c H _ _ _ _ ?_ ?_) ?_); (focus (first | with_reducible rfl | rfl | simp)); (focus ((first | assumption | omega))); intro e w h; obtain ⟨A_22, c_22, rfl, hA, hE⟩ := h; replace H := (H.step hE).add hA (AR.stab _ _ _); clear hE hA)); refine hK _ _ ?_; clear hK K; (try simp only [Act.put, List.setIfInBounds_toArray, List.set_cons_succ, List.set_cons_zero])) | ((with_reducible refine wpl_pureX ?_); refine ⟨rfl, rfl, ?_⟩; apply Exists.intro; apply And.intro; (focus (intro w; go_simp; (try with_reducible rfl); done)); (try simp only [Act.put, List.setIfInBounds_toArray, List.set_cons_succ, List.set_cons_zero])) | ((fail_if_success ((with_reducible refine wpl_runx ?_ ?_); (focus exact rfl))); ((with_reducible refine wpl_gcaseE ?_); refine ⟨_, rfl, ?_, ?_⟩) <;> (intro hg; first | (simp only [reduceCtorEq] at hg; done) | contradiction | ((with_reducible have hx := eq_of_beq hg); contradiction) | ((with_reducible have hx := ne_of_beq_false hg); contradiction) | ((with_reducible have hx := bne_iff_ne.1 hg); contradiction) | ((with_reducible have hx := bne_eq_false_iff_eq.1 hg); contradiction) | ((with_reducible have hx := of_decide_eq_true hg); first | contradiction | omega) | ((with_reducible have hx := of_decide_eq_false hg); first | contradiction | omega) | (simp only [Bool.not_eq_true', Bool.not_eq_false', beq_iff_eq, beq_eq_false_iff_ne, bne_iff_ne, ne_eq] at hg; contradiction) | (simp only [hg]))))
  all_goals
    go_ret
    refine ⟨?_, H.ext⟩
    clear H
    go_tidy
    first | rfl | (simp only [Tm.zero, *, Tm.eta, Bool.false_eq_true, reduceIte, Bool.and_self, Bool.true_and, Bool.and_true, Bool.false_and, Bool.and_false, Bool.true_or, Bool.or_true, Bool.false_or, Bool.or_false, Bool.not_true, Bool.not_false, bne]; done) | (simp [Tm.zero, Tm.eta, *]; done) | (simp_all [Tm.zero, Tm.eta]; done) | (simp_all [Tm.zero, Tm.eta]; omega)
theorem lawsorts_spec (A : Option Addr) (c : Nat) (l : List Tm) (W : World) (hA : AR A c l [] W) (hl : l.length ≤ maxLen) (_ : wfL l) : Calls Try.prog 7 #[.slice A l.length c] W (RetV W (.bool true)) := by
  by_cases q : 40 < l.length
  · exact sorts_no A c l [] W (by simp) hA (.inl q) hl
  cases L : LightE l 0 4000 with
  | false => exact sorts_no A c l [] W (by simp) hA (.inr ⟨by omega, L⟩) hl
  | true => exact sorts_yes A c l [] W (by simp) hA (by omega) L
end Go.Proofs.Ythiionkikammkaa
namespace Go.Proofs.Ythiionkikammkaa.orderSorts
open Go.ChangeShapes Go.WideShapes Go.ChangeAt Go.RowKit
open Go.ChangeMaps (open_string shut_string)
set_option linter.unusedVariables false
theorem own : ownKnob Try.prog.godebug = none := by kernel_rfl
theorem laidOut : laidOutB Try.prog = true := by kernel_rfl
set_option maxRecDepth 100000 in
theorem lifted (os : Os) (started : os.Started) (H : Type) (enc : TypeId × Value → H) :
    ReturnsInHanded {} Try.checked os 7 .any (Rows.orderSortsSpec.pre6 enc Try.prog Try.f7 Rows.orderSortsRow.domain false) (Rows.orderSortsSpec.post enc Try.prog Try.f7 false true false false) := by
  refine returnsInHanded_of_change_sized (C := Try.checked) own started (by kernel_rfl) Try.func7
    (ChangeSpec.witness6 (enc := enc) (C := Try.checked) false ⟨#[], #[.slice none 0 0], []⟩ 8 (by kernel_rfl) (by kernel_rfl) (by kernel_rfl) (by kernel_rfl)) ?_
  intro W base args ds gs before hval0 hW hcnd hsz0 _
  have hsz : (DataW.weightsEach Try.prog (Try.f7.params.toList ++ Rows.orderSortsSpec.plain.varTypes Try.prog) (ds ++ gs)).all (· ≤ reachBytes) = true := hsz0
  have hval : ∀ (j : Nat) t v, Try.f7.params[j]? = some t → args[j]? = some v → Value.okWide Try.prog W .any base t v := hval0
  have hW' := hW
  obtain ⟨p, q, hA0, hV, rfl, hfz, hnd⟩ := hW
  have hA : DataW.TrodAll enc Try.prog W 0 (fun _ => true) true Try.f7.params.toList args.toList ds p := hA0
  rw [Try.params7] at hA hval hsz
  obtain ⟨v0, vs0, d0, ds0, p0, q0, hargs, rfl, rfl, h0, r0⟩ := trodAll_cons hA
  obtain ⟨rfl, rfl, rfl⟩ := trodAll_nil r0
  obtain rfl : args = #[v0] := by cases args; simp_all
  obtain ⟨rfl, rfl⟩ := trodVars_none hV
  have k0 := h0
  have lt0 : ∀ x ∈ p0, x.block < W.heap.size := by obtain ⟨m, hm⟩ := k0; exact DataW.trod_lt m _ _ _ hm
  obtain ⟨A0, c0, l0, rfl, ar0, hl0, hw0⟩ := open_terms (hval 0 23 v0 rfl rfl) h0
  clear hA0 hval0 hsz0 hsz
  refine (lawsorts_spec A0 c0 l0 W ar0 hl0 hw0).mono fun e W' ⟨he, ext⟩ => ?_
  have bel := ext.below
  subst he
  exact ⟨_, rfl, _, _, _, [], _, [], hW', trodAll_mk1 (shut_bool Try.underlying4 _), (trodAll_cons_mk (Below.trod laidOut (by kernel_rfl) (of_decide_eq_true (by kernel_rfl)) k0 bel lt0) trodAll_mk0), rfl, bel.frame _, fun h => by cases h⟩
theorem over : Rows.orderSortsRow.holds Try.pinned (OpenSpec.ofChange Rows.orderSortsSpec) :=
  OpenClaim.holds_of_wide 7 Try.f7 rfl rfl rfl rfl rfl rfl rfl ⟨rfl, rfl, rfl, rfl, rfl⟩ rfl rfl rfl rfl rfl (by kernel_rfl) Try.func7 (by kernel_rfl)
    (of_decide_eq_true (by kernel_rfl)) (by unfold Func.isWrapper; first | (rw [if_pos (by decide +kernel)]; kernel_rfl) | (rw [if_neg (by decide +kernel)]; exact ⟨rfl, rfl⟩))
    (fun os started H enc _ => lifted os started H enc)
theorem proved : Rows.OrderSortsSaid := over
end Go.Proofs.Ythiionkikammkaa.orderSorts
namespace Go.Proofs.Ythiionkikammkaa
/-- The row, under a short name, for the claim. -/
theorem orderSorts_holds : Rows.OrderSortsSaid := orderSorts.proved
end Go.Proofs.Ythiionkikammkaa
