/- Walks: one operator taken out of a row; one put in. -/
import Derived.Test.YthapmdlminnihaaOpAll
namespace Go.Proofs.Ythapmdlminnihaa
open Go.RowKit
set_option linter.unusedVariables false
set_option linter.unusedSimpArgs false
set_option maxRecDepth 20000
set_option maxHeartbeats 4000000
attribute [local irreducible] infE placeE mayO cmpO
/-- What is made of an own row of operators. -/
def RetRow (l' : List OpT) (v : Value) (w : World) (e : Ending) (w' : World) : Prop := ∃ v', e = .returned v' ∧ St [] v.ownBlock.toList w w' [.row v' l'.length (opsL l') 32 3] (fun _ _ => True)
theorem layL_take {xs cs : List Value} {off n : Nat} (h : off + cs.length = n) (ho : off ≤ xs.length) : (layL xs off cs).take n = xs.take off ++ cs := by
  unfold layL
  rw [List.append_assoc, ← List.append_assoc, List.take_append_of_le_length (by simp; omega), List.take_of_length_le (by simp; omega)]
theorem layL_take2 {xs cs : List Value} {off n : Nat} (h : n ≤ off) (ho : off ≤ xs.length) : (layL xs off cs).take n = xs.take n := by
  unfold layL
  rw [List.append_assoc, List.take_append_of_le_length (by simp; omega), List.take_take, Nat.min_eq_left h]
theorem zeroOp_one : ∀ v ∈ (Value.agg #[.string ⟨#[]⟩, .int .i64 0, .int .i64 0]).cells, v.oneCell' = true := by
  intro v hv
  simp only [Value.cells, List.mem_toArray, List.mem_cons, List.not_mem_nil, or_false] at hv
  rcases hv with rfl | rfl | rfl <;> rfl
theorem St.rowOps {M X : List Nat} {w0 w : World} {L : List Res} {F : List Nat → World → Prop} (H : St M X w0 w L F) (k : Nat) {g n cap : Nat} {l : List OpT} {ty : TypeId} (hk : L[k]? = some (.row (.slice (some ⟨g, 0, none⟩) n cap) n (opsL l) ty 3)) (j : Nat) :
    ∀ q u, (opsL (l.drop j))[q]? = some u → w.cell? ((⟨g, j * 3, none⟩ : Addr).add q) = some u := by
  obtain ⟨hxl, cur, hg, hc', hmx, hsz, ht⟩ := H.rowBlock k hk
  intro q u hq
  rw [add_off, cell_of_row w g (j * 3 + q) cur ty (0, 0) hg]
  rw [opsL_drop, List.getElem?_drop, ← ht, List.getElem?_take] at hq
  split at hq
  · simpa using hq
  · cases hq
theorem del_xs {l G : List OpT} {D Z : List Value} {p k n : Nat} (hG : (opsL l).take (k * 3) ++ D = opsL G) (hll : (opsL l).length = n * 3) (hk : k < n) (hp : G.length + 1 = n) (hp2 : p + 1 = n) (hD : D.length = (n - (k + 1)) * 3) :
    (layL (layL (opsL l) (k * 3) D) (p * 3) Z).take (G.length * 3) = opsL G := by
  obtain rfl : p = G.length := by omega
  rw [layL_take2 (Nat.le_refl _) (by rw [layL_len (by omega)]; omega), layL_take (by omega) (by omega), hG]
theorem delete_spec (l : List OpT) (hl : l.length ≤ 1000) (k : Nat) (hk : k < l.length) (v : Value) (n : Nat) (w0 : World) (hv : w0.ownsRow 0 32 3 v n (opsL l)) :
    Calls Try.prog 32 #[v, .int .i64 k, .int .i64 ((k : Int) + 1)] w0 (RetRow (l.take k ++ l.drop (k + 1)) v w0) := by
  have hn : n = l.length := by have := hv.1; rw [opsL_len] at this; omega
  have H := St.startR (M := []) (F := fun _ _ => True) (r := .row v n (opsL l) 32 3) (by simp) (Stab.const True) hv (by cases h : v.ownBlock <;> simp [Res.ids, h]) trivial
  clear hv
  obtain ⟨va, vk, rfl⟩ := H.rowVal0 (k := 0) rfl
  obtain ⟨g, rfl⟩ := H.rowSome 0 rfl (by omega)
  have hNv : n ≤ vk := by obtain ⟨_, cur, _, h, _⟩ := H.rowBlock 0 rfl; exact h
  have hvm : vk ≤ maxLen := by obtain ⟨_, cur, _, _, h, _⟩ := H.rowBlock 0 rfl; exact h
  have hlen : (l.take k ++ l.drop (k + 1)).length + 1 = n := by rw [List.length_append, List.length_take, List.length_drop]; omega
  have hG : (opsL l).take (k * 3) ++ opsL (l.drop (k + 1)) = opsL (l.take k ++ l.drop (k + 1)) := by rw [opsL_app, opsL_take]
  have hd : (opsL (l.drop (k + 1))).length = (n - (k + 1)) * 3 := by rw [opsL_len, List.length_drop, hn]
  have hll : (opsL l).length = n * 3 := by rw [opsL_len, hn]
  have hkn : k < n := by omega
  have hn1 : n ≤ 1000 := by omega
  obtain ⟨G, hGe⟩ : ∃ G, l.take k ++ l.drop (k + 1) = G := ⟨_, rfl⟩
  rw [hGe] at hG hlen ⊢
  have g1 : ((k : Int) == (k : Int) + 1) = false := by simp; omega
  have g2 : ¬ vk + 1 = n := by omega
  have i1 : k ≤ vk := by omega
  have i2 : k + 1 ≤ n := by omega
  have i3 : (0 : Int) ≤ (k : Int) + 1 := by omega
  have i4 : (k : Int) + 1 ≤ (n : Int) := by omega
  replace hG := Lib.hid hG; replace hd := Lib.hid hd; replace hll := Lib.hid hll; replace hlen := Lib.hid hlen
  clear hGe hn hl hk
  go_enter Try.func32, Try.ntmps32
  by_cases q : k + 1 = n
  · have hd0 : (opsL (l.drop (k + 1))).length = 0 * 3 := by rw [hd.out, q]; omega
    replace hd0 := Lib.hid hd0
    go_wp2_with (first | ((with_reducible refine wpl_runx ?_ ?_); (focus exact rfl); refine ⟨_, runs_load H 0 rfl rfl rfl rfl rfl, ?_⟩; rintro _ _ ⟨rfl, rfl⟩) | ((with_reducible refine wpl_runx ?_ ?_); (focus exact rfl); refine ⟨_, runs_load H 1 rfl rfl rfl rfl rfl, ?_⟩; rintro _ _ ⟨rfl, rfl⟩) | ((with_reducible refine wpl_runx ?_ ?_); (focus exact rfl); refine ⟨_, runs_load_cell H rfl rfl rfl rfl, ?_⟩; rintro _ _ ⟨rfl, rfl⟩) | ((with_reducible refine wpl_runx ?_ ?_); (focus exact rfl); refine ⟨_, runs_load_cell0 H rfl rfl rfl rfl, ?_⟩; rintro _ _ ⟨rfl, rfl⟩) | ((with_reducible refine wpl_runx ?_ ?_); (focus exact rfl); refine ⟨_, runs_load_obj H rfl rfl rfl rfl, ?_⟩; rintro _ _ ⟨rfl, rfl⟩) | ((with_reducible refine wpl_runx ?_ ?_); (focus exact rfl); refine ⟨_, runs_store H 0 rfl rfl rfl rfl rfl rfl rfl rfl rfl, ?_⟩; clear H; rintro _ w ⟨rfl, hE, H⟩; clear hE) | ((with_reducible refine wpl_runx ?_ ?_); (focus exact rfl); refine ⟨_, runs_store H 1 rfl rfl rfl rfl rfl rfl rfl rfl rfl, ?_⟩; clear H; rintro _ w ⟨rfl, hE, H⟩; clear hE) | ((with_reducible refine wpl_runx ?_ ?_); (focus exact rfl); refine ⟨_, runs_clearRowN H 0 rfl rfl rfl rfl Try.infoOp rfl (by decide) zeroOp_one (by omega) (by omega) (fun r => rfl), ?_⟩; clear H; rintro _ w ⟨rfl, hE, H⟩; clear hE) | ((with_reducible refine wp_region_Ts 5 H [] [[], [], [0, 1], [], [], [3, 4], [0, 1, 2, 3, 4, 5], [0, 1, 2, 3, 4, 5, 6]] [] [0, 1, 2, 3, 4, 5, 7] (.step 0 (.step 1 (.step 2 (.step 3 (.step 4 (.step 5 (.step 6 (.step 7 .nil)))))))) ?_ ?_ ?_ ?_); (focus kernel_rfl); (focus kernel_rfl); (focus (intro d v c a w h; cases d <;> exact h)); clear H; intro w H; have HS := Ext.refl [] w; have H0 := H; all_goals ((with_reducible refine T_pureX ?_); refine ⟨_, rfl, rfl, rfl, rfl, ?_⟩; apply Exists.intro; apply And.intro; (focus (intro w; go_simp; (try with_reducible rfl); done)); (try simp only [Act.put, List.setIfInBounds_toArray, List.set_cons_succ, List.set_cons_zero])); all_goals ((with_reducible refine T_pureX ?_); refine ⟨_, rfl, rfl, rfl, rfl, ?_⟩; apply Exists.intro; apply And.intro; (focus (intro w; go_simp; (try with_reducible rfl); done)); (try simp only [Act.put, List.setIfInBounds_toArray, List.set_cons_succ, List.set_cons_zero])); all_goals ((with_reducible refine T_pureX ?_); refine ⟨_, rfl, rfl, rfl, rfl, ?_⟩; apply Exists.intro; apply And.intro; (focus (intro w; go_simp; (try with_reducible rfl); done)); (try simp only [Act.put, List.setIfInBounds_toArray, List.set_cons_succ, List.set_cons_zero])); all_goals ((with_reducible refine T_pureX ?_); refine ⟨_, rfl, rfl, rfl, rfl, ?_⟩; apply Exists.intro; apply And.intro; (focus (intro w; go_simp; (try with_reducible rfl); done)); (try simp only [Act.put, List.setIfInBounds_toArray, List.set_cons_succ, List.set_cons_zero])); all_goals ((with_reducible refine T_pureX ?_); refine ⟨_, rfl, rfl, rfl, rfl, ?_⟩; apply Exists.intro; apply And.intro; (focus (intro w; go_simp; (try with_reducible rfl); done)); (try simp only [Act.put, List.setIfInBounds_toArray, List.set_cons_succ, List.set_cons_zero])); all_goals ((with_reducible refine T_pureX ?_); refine ⟨_, rfl, rfl, rfl, rfl, ?_⟩; apply Exists.intro; apply And.intro; (focus (intro w; go_simp; (try with_reducible rfl); done)); (try simp only [Act.put, List.setIfInBounds_toArray, List.set_cons_succ, List.set_cons_zero])); all_goals ((with_reducible refine T_stepX ?_); refine ⟨_, rfl, rfl, rfl, ?_⟩; refine ⟨_, runs_appendIn H 0 rfl rfl rfl rfl rfl Try.infoOp (m := 0) hd0.out (.inl rfl) (opsL_one _) (by omega) (by omega) (fun r => rfl), ?_⟩; clear H; rintro _ w ⟨rfl, hE, H⟩; clear hE; refine ⟨(fun h => absurd h (by decide)), ?_⟩; (try simp only [Act.put, List.setIfInBounds_toArray, List.set_cons_succ, List.set_cons_zero])); all_goals ((with_reducible refine T_pureX ?_); refine ⟨_, rfl, rfl, rfl, rfl, ?_⟩; apply Exists.intro; apply And.intro; (focus (intro w; go_simp; (try with_reducible rfl); done)); (try simp only [Act.put, List.setIfInBounds_toArray, List.set_cons_succ, List.set_cons_zero])); all_goals ((with_reducible refine T_nil ?_); clear H0 HS)) | ((with_reducible refine wpl_pureX ?_); refine ⟨rfl, rfl, ?_⟩; apply Exists.intro; apply And.intro; (focus (intro w; go_simp; (try with_reducible rfl); done)); (try simp only [Act.put, List.setIfInBounds_toArray, List.set_cons_succ, List.set_cons_zero])) | ((fail_if_success ((with_reducible refine wpl_runx ?_ ?_); (focus exact rfl))); ((with_reducible refine wpl_gcaseE ?_); refine ⟨_, rfl, ?_, ?_⟩) <;> (intro hg; first | (simp only [reduceCtorEq] at hg; done) | contradiction | ((with_reducible have hx := eq_of_beq hg); contradiction) | ((with_reducible have hx := ne_of_beq_false hg); contradiction) | ((with_reducible have hx := bne_iff_ne.1 hg); contradiction) | ((with_reducible have hx := bne_eq_false_iff_eq.1 hg); contradiction) | ((with_reducible have hx := of_decide_eq_true hg); first | contradiction | omega) | ((with_reducible have hx := of_decide_eq_false hg); first | contradiction | omega) | (simp only [Bool.not_eq_true', Bool.not_eq_false', beq_iff_eq, beq_eq_false_iff_ne, bne_iff_ne, ne_eq] at hg; contradiction) | (simp only [hg]))))
    all_goals
      go_ret
      refine ⟨_, rfl, ?_⟩
      have H2 := H.shorterAt 0 rfl (m := G.length) (by have := hlen.out; omega) (fun r => rfl)
      rw [del_xs hG.out hll.out hkn hlen.out (by omega) hd.out] at H2
      obtain rfl : k = G.length := by have := hlen.out; omega
      first | exact H2 | (rename_i h; rw [h] at H2; exact H2)
  · have q2 : ¬ vk = k + 1 := by omega
    go_wp2_with (first | ((with_reducible refine wpl_runx ?_ ?_); (focus exact rfl); refine ⟨_, runs_load H 0 rfl rfl rfl rfl rfl, ?_⟩; rintro _ _ ⟨rfl, rfl⟩) | ((with_reducible refine wpl_runx ?_ ?_); (focus exact rfl); refine ⟨_, runs_load H 1 rfl rfl rfl rfl rfl, ?_⟩; rintro _ _ ⟨rfl, rfl⟩) | ((with_reducible refine wpl_runx ?_ ?_); (focus exact rfl); refine ⟨_, runs_load_cell H rfl rfl rfl rfl, ?_⟩; rintro _ _ ⟨rfl, rfl⟩) | ((with_reducible refine wpl_runx ?_ ?_); (focus exact rfl); refine ⟨_, runs_load_cell0 H rfl rfl rfl rfl, ?_⟩; rintro _ _ ⟨rfl, rfl⟩) | ((with_reducible refine wpl_runx ?_ ?_); (focus exact rfl); refine ⟨_, runs_load_obj H rfl rfl rfl rfl, ?_⟩; rintro _ _ ⟨rfl, rfl⟩) | ((with_reducible refine wpl_runx ?_ ?_); (focus exact rfl); refine ⟨_, runs_store H 0 rfl rfl rfl rfl rfl rfl rfl rfl rfl, ?_⟩; clear H; rintro _ w ⟨rfl, hE, H⟩; clear hE) | ((with_reducible refine wpl_runx ?_ ?_); (focus exact rfl); refine ⟨_, runs_store H 1 rfl rfl rfl rfl rfl rfl rfl rfl rfl, ?_⟩; clear H; rintro _ w ⟨rfl, hE, H⟩; clear hE) | ((with_reducible refine wpl_runx ?_ ?_); (focus exact rfl); refine ⟨_, runs_clearRowN H 0 rfl rfl rfl rfl Try.infoOp rfl (by decide) zeroOp_one (by omega) (by omega) (fun r => rfl), ?_⟩; clear H; rintro _ w ⟨rfl, hE, H⟩; clear hE) | ((with_reducible refine wp_region_Ts 5 H [] [[], [], [0, 1], [], [], [3, 4], [0, 1, 2, 3, 4, 5], [0, 1, 2, 3, 4, 5, 6]] [] [0, 1, 2, 3, 4, 5, 7] (.step 0 (.step 1 (.step 2 (.step 3 (.step 4 (.step 5 (.step 6 (.step 7 .nil)))))))) ?_ ?_ ?_ ?_); (focus kernel_rfl); (focus kernel_rfl); (focus (intro d v c a w h; cases d <;> exact h)); clear H; intro w H; have HS := Ext.refl [] w; have H0 := H; all_goals ((with_reducible refine T_pureX ?_); refine ⟨_, rfl, rfl, rfl, rfl, ?_⟩; apply Exists.intro; apply And.intro; (focus (intro w; go_simp; (try with_reducible rfl); done)); (try simp only [Act.put, List.setIfInBounds_toArray, List.set_cons_succ, List.set_cons_zero])); all_goals ((with_reducible refine T_pureX ?_); refine ⟨_, rfl, rfl, rfl, rfl, ?_⟩; apply Exists.intro; apply And.intro; (focus (intro w; go_simp; (try with_reducible rfl); done)); (try simp only [Act.put, List.setIfInBounds_toArray, List.set_cons_succ, List.set_cons_zero])); all_goals ((with_reducible refine T_pureX ?_); refine ⟨_, rfl, rfl, rfl, rfl, ?_⟩; apply Exists.intro; apply And.intro; (focus (intro w; go_simp; (try with_reducible rfl); done)); (try simp only [Act.put, List.setIfInBounds_toArray, List.set_cons_succ, List.set_cons_zero])); all_goals ((with_reducible refine T_pureX ?_); refine ⟨_, rfl, rfl, rfl, rfl, ?_⟩; apply Exists.intro; apply And.intro; (focus (intro w; go_simp; (try with_reducible rfl); done)); (try simp only [Act.put, List.setIfInBounds_toArray, List.set_cons_succ, List.set_cons_zero])); all_goals ((with_reducible refine T_pureX ?_); refine ⟨_, rfl, rfl, rfl, rfl, ?_⟩; apply Exists.intro; apply And.intro; (focus (intro w; go_simp; (try with_reducible rfl); done)); (try simp only [Act.put, List.setIfInBounds_toArray, List.set_cons_succ, List.set_cons_zero])); all_goals ((with_reducible refine T_pureX ?_); refine ⟨_, rfl, rfl, rfl, rfl, ?_⟩; apply Exists.intro; apply And.intro; (focus (intro w; go_simp; (try with_reducible rfl); done)); (try simp only [Act.put, List.setIfInBounds_toArray, List.set_cons_succ, List.set_cons_zero])); all_goals ((with_reducible refine T_stepX ?_); refine ⟨_, rfl, rfl, rfl, ?_⟩; refine ⟨_, runs_appendIn H 0 rfl rfl rfl rfl rfl Try.infoOp (m := n - (k + 1)) hd.out (.inr ⟨_, rfl, H.rowOps 0 rfl (k + 1)⟩) (opsL_one _) (by omega) (by omega) (fun r => rfl), ?_⟩; clear H; rintro _ w ⟨rfl, hE, H⟩; clear hE; refine ⟨(fun h => absurd h (by decide)), ?_⟩; (try simp only [Act.put, List.setIfInBounds_toArray, List.set_cons_succ, List.set_cons_zero])); all_goals ((with_reducible refine T_pureX ?_); refine ⟨_, rfl, rfl, rfl, rfl, ?_⟩; apply Exists.intro; apply And.intro; (focus (intro w; go_simp; (try with_reducible rfl); done)); (try simp only [Act.put, List.setIfInBounds_toArray, List.set_cons_succ, List.set_cons_zero])); all_goals ((with_reducible refine T_nil ?_); clear H0 HS)) | ((with_reducible refine wpl_pureX ?_); refine ⟨rfl, rfl, ?_⟩; apply Exists.intro; apply And.intro; (focus (intro w; go_simp; (try with_reducible rfl); done)); (try simp only [Act.put, List.setIfInBounds_toArray, List.set_cons_succ, List.set_cons_zero])) | ((fail_if_success ((with_reducible refine wpl_runx ?_ ?_); (focus exact rfl))); ((with_reducible refine wpl_gcaseE ?_); refine ⟨_, rfl, ?_, ?_⟩) <;> (intro hg; first | (simp only [reduceCtorEq] at hg; done) | contradiction | ((with_reducible have hx := eq_of_beq hg); contradiction) | ((with_reducible have hx := ne_of_beq_false hg); contradiction) | ((with_reducible have hx := bne_iff_ne.1 hg); contradiction) | ((with_reducible have hx := bne_eq_false_iff_eq.1 hg); contradiction) | ((with_reducible have hx := of_decide_eq_true hg); first | contradiction | omega) | ((with_reducible have hx := of_decide_eq_false hg); first | contradiction | omega) | (simp only [Bool.not_eq_true', Bool.not_eq_false', beq_iff_eq, beq_eq_false_iff_ne, bne_iff_ne, ne_eq] at hg; contradiction) | (simp only [hg]))))
    go_ret
    refine ⟨_, rfl, ?_⟩
    have H2 := H.shorterAt 0 rfl (m := G.length) (by have := hlen.out; omega) (fun r => rfl)
    rw [del_xs hG.out hll.out hkn hlen.out (by omega) hd.out] at H2
    have e : k + (n - (k + 1)) = G.length := by have := hlen.out; omega
    rw [e]
    exact H2
end Go.Proofs.Ythapmdlminnihaa
