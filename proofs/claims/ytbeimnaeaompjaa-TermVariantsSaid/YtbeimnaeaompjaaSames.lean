/- TermSames: the walk. -/
import Derived.Test.YtbeimnaeaompjaaSames0
import Derived.Test.YtbeimnaeaompjaaLight
import Derived.Test.YtbeimnaeaompjaaLit
import Derived.Test.YtbeimnaeaompjaaOpen
namespace Go.Proofs.Ytbeimnaeaompjaa
open Go.RowKit
set_option linter.unusedVariables false
set_option linter.unusedSimpArgs false
set_option maxHeartbeats 4000000

theorem variant_symm (t u : Tm) : variantE u t = variantE t u := SameE_symm _ _
theorem variant_trans {t u v : Tm} (h : variantE t u = true) (k : variantE u v = true) : variantE t v = true := SameE_trans h k

theorem lawsames_spec (a : Tm) (A1 : Option Addr) (c1 : Nat) (b : Tm) (A2 : Option Addr) (c2 : Nat) (c : Tm) (A3 : Option Addr) (c3 : Nat) (w0 : World) (h1 : AR A1 c1 a.args [] w0) (_ : wfT a) (h2 : AR A2 c2 b.args [] w0) (_ : wfT b) (h3 : AR A3 c3 c.args [] w0) (_ : wfT c) :
    Calls Try.prog 7 #[.agg #[.int .i64 a.kind, .string a.name, .int .i64 a.int, .int .u64 a.re, .int .u64 a.im, .slice A1 a.args.length c1], .agg #[.int .i64 b.kind, .string b.name, .int .i64 b.int, .int .u64 b.re, .int .u64 b.im, .slice A2 b.args.length c2], .agg #[.int .i64 c.kind, .string c.name, .int .i64 c.int, .int .u64 c.re, .int .u64 c.im, .slice A3 c.args.length c3]] w0 (RetV w0 (.bool true)) := by
  have H := St.start (M := []) (by simp) ((AR.stab A1 c1 a.args).and ((AR.stab A2 c2 b.args).and (AR.stab A3 c3 c.args))) ⟨h1, h2, h3⟩
  clear h1 h2 h3
  obtain ⟨s1, es1⟩ : ∃ s, SameE a b = s := ⟨_, rfl⟩
  obtain ⟨s2, es2⟩ : ∃ s, SameE b c = s := ⟨_, rfl⟩
  obtain ⟨s3, es3⟩ : ∃ s, SameE a c = s := ⟨_, rfl⟩
  obtain ⟨v1, ev1⟩ : ∃ s, variantE a b = s := ⟨_, rfl⟩
  obtain ⟨v2, ev2⟩ : ∃ s, variantE b c = s := ⟨_, rfl⟩
  obtain ⟨v3, ev3⟩ : ∃ s, variantE a c = s := ⟨_, rfl⟩
  have es1' : SameE b a = s1 := by rw [SameE_symm, es1]
  have ev1' : variantE b a = v1 := by rw [variant_symm, ev1]
  obtain ⟨m, em⟩ : ∃ m, SameE a a = m := ⟨_, rfl⟩
  have emm : (mayE a == 0) = m := by rw [← SameE_self, em]
  obtain ⟨E, eE⟩ : ∃ E, mayE a = E := ⟨_, rfl⟩
  rw [eE] at emm
  have i1 : s1 = true → v1 = true := fun h => by rw [← ev1]; exact Same_variant (by rw [es1, h])
  have i2 : s1 = true → s2 = true → s3 = true := fun h k => by rw [← es3]; exact SameE_trans (by rw [es1, h]) (by rw [es2, k])
  have i3 : v1 = true → v2 = true → v3 = true := fun h k => by rw [← ev3]; exact variant_trans (by rw [ev1, h]) (by rw [ev2, k])
  have hS1 : ∀ w, (AR A1 c1 a.args [] w ∧ AR A2 c2 b.args [] w ∧ AR A3 c3 c.args [] w) → Calls Try.prog 26 #[.agg #[.int .i64 a.kind, .string a.name, .int .i64 a.int, .int .u64 a.re, .int .u64 a.im, .slice A1 a.args.length c1], .agg #[.int .i64 b.kind, .string b.name, .int .i64 b.int, .int .u64 b.re, .int .u64 b.im, .slice A2 b.args.length c2]] w (RetV w (.bool s1)) := fun w h => by rw [← es1]; exact Same_spec a b _ _ _ _ w h.1 h.2.1
  have hS1' : ∀ w, (AR A1 c1 a.args [] w ∧ AR A2 c2 b.args [] w ∧ AR A3 c3 c.args [] w) → Calls Try.prog 26 #[.agg #[.int .i64 b.kind, .string b.name, .int .i64 b.int, .int .u64 b.re, .int .u64 b.im, .slice A2 b.args.length c2], .agg #[.int .i64 a.kind, .string a.name, .int .i64 a.int, .int .u64 a.re, .int .u64 a.im, .slice A1 a.args.length c1]] w (RetV w (.bool s1)) := fun w h => by rw [← es1']; exact Same_spec b a _ _ _ _ w h.2.1 h.1
  have hS2 : ∀ w, (AR A1 c1 a.args [] w ∧ AR A2 c2 b.args [] w ∧ AR A3 c3 c.args [] w) → Calls Try.prog 26 #[.agg #[.int .i64 b.kind, .string b.name, .int .i64 b.int, .int .u64 b.re, .int .u64 b.im, .slice A2 b.args.length c2], .agg #[.int .i64 c.kind, .string c.name, .int .i64 c.int, .int .u64 c.re, .int .u64 c.im, .slice A3 c.args.length c3]] w (RetV w (.bool s2)) := fun w h => by rw [← es2]; exact Same_spec b c _ _ _ _ w h.2.1 h.2.2
  have hS3 : ∀ w, (AR A1 c1 a.args [] w ∧ AR A2 c2 b.args [] w ∧ AR A3 c3 c.args [] w) → Calls Try.prog 26 #[.agg #[.int .i64 a.kind, .string a.name, .int .i64 a.int, .int .u64 a.re, .int .u64 a.im, .slice A1 a.args.length c1], .agg #[.int .i64 c.kind, .string c.name, .int .i64 c.int, .int .u64 c.re, .int .u64 c.im, .slice A3 c.args.length c3]] w (RetV w (.bool s3)) := fun w h => by rw [← es3]; exact Same_spec a c _ _ _ _ w h.1 h.2.2
  have hV1 : ∀ w, (AR A1 c1 a.args [] w ∧ AR A2 c2 b.args [] w ∧ AR A3 c3 c.args [] w) → Calls Try.prog 25 #[.agg #[.int .i64 a.kind, .string a.name, .int .i64 a.int, .int .u64 a.re, .int .u64 a.im, .slice A1 a.args.length c1], .agg #[.int .i64 b.kind, .string b.name, .int .i64 b.int, .int .u64 b.re, .int .u64 b.im, .slice A2 b.args.length c2]] w (RetV w (.bool v1)) := fun w h => by rw [← ev1]; exact variant_spec a b _ _ _ _ w h.1 h.2.1
  have hV1' : ∀ w, (AR A1 c1 a.args [] w ∧ AR A2 c2 b.args [] w ∧ AR A3 c3 c.args [] w) → Calls Try.prog 25 #[.agg #[.int .i64 b.kind, .string b.name, .int .i64 b.int, .int .u64 b.re, .int .u64 b.im, .slice A2 b.args.length c2], .agg #[.int .i64 a.kind, .string a.name, .int .i64 a.int, .int .u64 a.re, .int .u64 a.im, .slice A1 a.args.length c1]] w (RetV w (.bool v1)) := fun w h => by rw [← ev1']; exact variant_spec b a _ _ _ _ w h.2.1 h.1
  have hV2 : ∀ w, (AR A1 c1 a.args [] w ∧ AR A2 c2 b.args [] w ∧ AR A3 c3 c.args [] w) → Calls Try.prog 25 #[.agg #[.int .i64 b.kind, .string b.name, .int .i64 b.int, .int .u64 b.re, .int .u64 b.im, .slice A2 b.args.length c2], .agg #[.int .i64 c.kind, .string c.name, .int .i64 c.int, .int .u64 c.re, .int .u64 c.im, .slice A3 c.args.length c3]] w (RetV w (.bool v2)) := fun w h => by rw [← ev2]; exact variant_spec b c _ _ _ _ w h.2.1 h.2.2
  have hV3 : ∀ w, (AR A1 c1 a.args [] w ∧ AR A2 c2 b.args [] w ∧ AR A3 c3 c.args [] w) → Calls Try.prog 25 #[.agg #[.int .i64 a.kind, .string a.name, .int .i64 a.int, .int .u64 a.re, .int .u64 a.im, .slice A1 a.args.length c1], .agg #[.int .i64 c.kind, .string c.name, .int .i64 c.int, .int .u64 c.re, .int .u64 c.im, .slice A3 c.args.length c3]] w (RetV w (.bool v3)) := fun w h => by rw [← ev3]; exact variant_spec a c _ _ _ _ w h.1 h.2.2
  have hM : ∀ w, (AR A1 c1 a.args [] w ∧ AR A2 c2 b.args [] w ∧ AR A3 c3 c.args [] w) → Calls Try.prog 26 #[.agg #[.int .i64 a.kind, .string a.name, .int .i64 a.int, .int .u64 a.re, .int .u64 a.im, .slice A1 a.args.length c1], .agg #[.int .i64 a.kind, .string a.name, .int .i64 a.int, .int .u64 a.re, .int .u64 a.im, .slice A1 a.args.length c1]] w (RetV w (.bool m)) := fun w h => by rw [← em]; exact Same_spec a a _ _ _ _ w h.1 h.1
  have hMay : ∀ w, (AR A1 c1 a.args [] w ∧ AR A2 c2 b.args [] w ∧ AR A3 c3 c.args [] w) → Calls Try.prog 13 #[.agg #[.int .i64 a.kind, .string a.name, .int .i64 a.int, .int .u64 a.re, .int .u64 a.im, .slice A1 a.args.length c1]] w (RetV w (.int .i64 E)) := fun w h => by rw [← eE]; exact may_spec a _ _ w h.1
  replace i1 := Lib.hid i1
  replace i2 := Lib.hid i2
  replace i3 := Lib.hid i3
  obtain ⟨B, hB⟩ : ∃ B, LightE [a, b, c] 0 4000 = B := ⟨_, rfl⟩
  have hLight : ∀ A c' w, AR A c' [a, b, c] [] w → Calls Try.prog 17 #[.slice A 3 c'] w (RetV w (.bool B)) := fun A c' w h => by rw [← hB]; exact Light_spec [a, b, c] A c' w (by simp [maxLen]) h
  clear es1 es2 es3 ev1 ev2 ev3 es1' ev1' em eE hB
  cases B
  · go_enter Try.func7, Try.ntmps7
    go_wp2_with (first | ((with_reducible refine wpl_runx_d 3 rfl ?_ ?_); (focus exact rfl); refine ⟨_, runs_box H rfl rfl, ?_⟩; clear H; rintro _ w ⟨b3, rfl, hE, H⟩; clear hE) | ((with_reducible refine wpl_runx_d 4 rfl ?_ ?_); (focus exact rfl); refine ⟨_, runs_box H rfl rfl, ?_⟩; clear H; rintro _ w ⟨b4, rfl, hE, H⟩; clear hE) | ((with_reducible refine wpl_runx_d 5 rfl ?_ ?_); (focus exact rfl); refine ⟨_, runs_box H rfl rfl, ?_⟩; clear H; rintro _ w ⟨b5, rfl, hE, H⟩; clear hE) | ((with_reducible refine wpl_runx_d 10 rfl ?_ ?_); (focus exact rfl); refine ⟨_, by apply runs_buildSlice H; iterate 10 rfl, ?_⟩; clear H; rintro _ w ⟨b10, rfl, hE, H⟩; clear hE) | ((with_reducible refine wpl_runx ?_ ?_); (focus exact rfl); refine ⟨_, runs_load H 0 rfl rfl rfl rfl rfl, ?_⟩; rintro _ _ ⟨rfl, rfl⟩) | ((with_reducible refine wpl_runx ?_ ?_); (focus exact rfl); refine ⟨_, runs_load H 1 rfl rfl rfl rfl rfl, ?_⟩; rintro _ _ ⟨rfl, rfl⟩) | ((with_reducible refine wpl_runx ?_ ?_); (focus exact rfl); refine ⟨_, runs_load H 2 rfl rfl rfl rfl rfl, ?_⟩; rintro _ _ ⟨rfl, rfl⟩) | ((with_reducible refine wpl_runx ?_ ?_); (focus exact rfl); refine ⟨_, runs_load H 3 rfl rfl rfl rfl rfl, ?_⟩; rintro _ _ ⟨rfl, rfl⟩) | ((with_reducible refine wpl_runx ?_ ?_); (focus exact rfl); refine ⟨_, runs_store H 0 rfl rfl rfl rfl rfl rfl rfl rfl rfl, ?_⟩; clear H; rintro _ w ⟨rfl, hE, H⟩; clear hE) | ((with_reducible refine wpl_runx ?_ ?_); (focus exact rfl); refine ⟨_, runs_store H 1 rfl rfl rfl rfl rfl rfl rfl rfl rfl, ?_⟩; clear H; rintro _ w ⟨rfl, hE, H⟩; clear hE) | ((with_reducible refine wpl_runx ?_ ?_); (focus exact rfl); refine ⟨_, runs_store H 2 rfl rfl rfl rfl rfl rfl rfl rfl rfl, ?_⟩; clear H; rintro _ w ⟨rfl, hE, H⟩; clear hE) | ((with_reducible refine wpl_runx ?_ ?_); (focus exact rfl); refine ⟨_, runs_store H 3 rfl rfl rfl rfl rfl rfl rfl rfl rfl, ?_⟩; clear H; rintro _ w ⟨rfl, hE, H⟩; clear hE) | (replace H := H.sealLit 0 rfl (l := [a, b, c]) (fun M w h => TsR.cons h.1 (TsR.cons h.2.1 (TsR.cons h.2.2 (TsR.nil _ _)))) rfl; refine (hLight _ _ _ H.out.2).mono ?_; rintro _ w ⟨rfl, hE⟩; replace H := (H.step hE).weaken (fun h => h.1) ((AR.stab _ _ _).and ((AR.stab _ _ _).and (AR.stab _ _ _))); clear hE) | ((with_reducible refine Calls.mono (awake_spec _) ?_); rintro _ w ⟨rfl, hE⟩; replace H := H.step hE; clear hE))
    go_ret
    exact ⟨rfl, H.ext⟩
  cases s1
  · go_enter Try.func7, Try.ntmps7
    go_wp2_with (first | ((with_reducible refine wpl_runx_d 3 rfl ?_ ?_); (focus exact rfl); refine ⟨_, runs_box H rfl rfl, ?_⟩; clear H; rintro _ w ⟨b3, rfl, hE, H⟩; clear hE) | ((with_reducible refine wpl_runx_d 4 rfl ?_ ?_); (focus exact rfl); refine ⟨_, runs_box H rfl rfl, ?_⟩; clear H; rintro _ w ⟨b4, rfl, hE, H⟩; clear hE) | ((with_reducible refine wpl_runx_d 5 rfl ?_ ?_); (focus exact rfl); refine ⟨_, runs_box H rfl rfl, ?_⟩; clear H; rintro _ w ⟨b5, rfl, hE, H⟩; clear hE) | ((with_reducible refine wpl_runx_d 10 rfl ?_ ?_); (focus exact rfl); refine ⟨_, by apply runs_buildSlice H; iterate 10 rfl, ?_⟩; clear H; rintro _ w ⟨b10, rfl, hE, H⟩; clear hE) | ((with_reducible refine wpl_runx ?_ ?_); (focus exact rfl); refine ⟨_, runs_load H 0 rfl rfl rfl rfl rfl, ?_⟩; rintro _ _ ⟨rfl, rfl⟩) | ((with_reducible refine wpl_runx ?_ ?_); (focus exact rfl); refine ⟨_, runs_load H 1 rfl rfl rfl rfl rfl, ?_⟩; rintro _ _ ⟨rfl, rfl⟩) | ((with_reducible refine wpl_runx ?_ ?_); (focus exact rfl); refine ⟨_, runs_load H 2 rfl rfl rfl rfl rfl, ?_⟩; rintro _ _ ⟨rfl, rfl⟩) | ((with_reducible refine wpl_runx ?_ ?_); (focus exact rfl); refine ⟨_, runs_load H 3 rfl rfl rfl rfl rfl, ?_⟩; rintro _ _ ⟨rfl, rfl⟩) | ((with_reducible refine wpl_runx ?_ ?_); (focus exact rfl); refine ⟨_, runs_store H 0 rfl rfl rfl rfl rfl rfl rfl rfl rfl, ?_⟩; clear H; rintro _ w ⟨rfl, hE, H⟩; clear hE) | ((with_reducible refine wpl_runx ?_ ?_); (focus exact rfl); refine ⟨_, runs_store H 1 rfl rfl rfl rfl rfl rfl rfl rfl rfl, ?_⟩; clear H; rintro _ w ⟨rfl, hE, H⟩; clear hE) | ((with_reducible refine wpl_runx ?_ ?_); (focus exact rfl); refine ⟨_, runs_store H 2 rfl rfl rfl rfl rfl rfl rfl rfl rfl, ?_⟩; clear H; rintro _ w ⟨rfl, hE, H⟩; clear hE) | ((with_reducible refine wpl_runx ?_ ?_); (focus exact rfl); refine ⟨_, runs_store H 3 rfl rfl rfl rfl rfl rfl rfl rfl rfl, ?_⟩; clear H; rintro _ w ⟨rfl, hE, H⟩; clear hE) | (replace H := H.sealLit 0 rfl (l := [a, b, c]) (fun M w h => TsR.cons h.1 (TsR.cons h.2.1 (TsR.cons h.2.2 (TsR.nil _ _)))) rfl; refine (hLight _ _ _ H.out.2).mono ?_; rintro _ w ⟨rfl, hE⟩; replace H := (H.step hE).weaken (fun h => h.1) ((AR.stab _ _ _).and ((AR.stab _ _ _).and (AR.stab _ _ _))); clear hE))
    refine wp_region_st H [] [[], [], [0, 1], [], [], [0, 1, 2, 3, 4], [0, 1, 2, 3, 4, 5], [0, 1, 2, 3, 4, 5, 6], [0, 1, 2, 3, 4, 5, 6, 7], [0, 1, 2, 3, 4, 5, 6, 7], [0, 1, 2, 3, 4, 5, 6, 7, 8, 9], [0, 1, 2, 3, 4, 5, 6, 7], [0, 1, 2, 3, 4, 5, 6, 7], [0, 1, 2, 3, 4, 5, 6, 7, 8, 9, 10, 11, 12], [0, 1, 2, 3, 4, 5, 6, 7, 8, 9, 10, 11, 12, 13], [0, 1, 2, 3, 4, 5, 6, 7, 8, 9, 10, 11, 12, 13, 14], [0, 1, 2, 3, 4, 5, 6, 7, 8, 9, 10, 11, 12, 13, 14, 15], [0, 1, 2, 3, 4, 5, 6, 7, 8, 9, 10, 11, 12, 13, 14, 15, 16], [0, 1, 2, 3, 4, 5, 6, 7, 8, 9, 10, 11, 12, 13, 14, 15, 16], [0, 1, 2, 3, 4, 5, 6, 7, 8, 9, 10, 11, 12, 13, 14, 15, 16, 17, 18], [0, 1, 2, 3, 4, 5, 6, 7, 8, 9, 10, 11, 12, 13, 14, 15, 16, 17, 18, 19], [0, 1, 2, 3, 4, 5, 6, 7, 8, 9, 10, 11, 12, 13, 14, 15, 16, 17, 18, 19, 20], [0, 1, 2, 3, 4, 5, 6, 7, 8, 9, 10, 11, 12, 13, 14, 15, 16, 17, 18, 19, 20], [0, 1, 2, 3, 4, 5, 6, 7, 8, 9, 10, 11, 12, 13, 14, 15, 16, 17, 18, 19, 20, 21, 22], [0, 1, 2, 3, 4, 5, 6, 7, 8, 9, 10, 11, 12, 13, 14, 15, 16, 17, 18, 19, 20, 21, 22, 23], [0, 1, 2, 3, 4, 5, 6, 7, 8, 9, 10, 11, 12, 13, 14, 15, 16, 17, 18, 19, 20, 21, 22, 23, 24], [0, 1, 2, 3, 4, 5, 6, 7, 8, 9, 10, 11, 12, 13, 14, 15, 16, 17, 18, 19, 20, 21, 22, 23, 24, 25]] [0, 1, 3, 4, 8, 9, 11, 12, 17, 18, 21, 22] [0, 1, 3, 4, 6, 7, 8, 9, 11, 12, 14, 15, 16, 17, 18, 20, 21, 22, 24, 25, 26] [0, 1, 3, 4, 2, 5, 6, 7, 8, 9, 11, 12, 10, 13, 14, 15, 16, 17, 18, 19, 20, 21, 22, 23, 24, 25, 26] (by kernel_rfl) (by kernel_rfl) (fun d v c a w h => by cases d <;> exact h) ?_
    clear H
    intro w H
    have HS := Ext.refl [] w
    have H0 := H
    first | refine plan_load_open H0 HS 0 rfl (by simp) rfl (by decide) (by decide) rfl rfl rfl rfl rfl ?_ | refine plan_load_open H0 HS 1 rfl (by simp) rfl (by decide) (by decide) rfl rfl rfl rfl rfl ?_ | refine plan_load_open H0 HS 2 rfl (by simp) rfl (by decide) (by decide) rfl rfl rfl rfl rfl ?_ | refine plan_load_open H0 HS 3 rfl (by simp) rfl (by decide) (by decide) rfl rfl rfl rfl rfl ?_ | refine plan_load_open H0 HS 4 rfl (by simp) rfl (by decide) (by decide) rfl rfl rfl rfl rfl ?_ | refine plan_load_open H0 HS 5 rfl (by simp) rfl (by decide) (by decide) rfl rfl rfl rfl rfl ?_ | refine plan_load_open H0 HS 6 rfl (by simp) rfl (by decide) (by decide) rfl rfl rfl rfl rfl ?_ | refine plan_load_open H0 HS 7 rfl (by simp) rfl (by decide) (by decide) rfl rfl rfl rfl rfl ?_
    (try simp only [Act.put, List.setIfInBounds_toArray, List.set_cons_succ, List.set_cons_zero])
    first | refine plan_load_open H0 HS 0 rfl (by simp) rfl (by decide) (by decide) rfl rfl rfl rfl rfl ?_ | refine plan_load_open H0 HS 1 rfl (by simp) rfl (by decide) (by decide) rfl rfl rfl rfl rfl ?_ | refine plan_load_open H0 HS 2 rfl (by simp) rfl (by decide) (by decide) rfl rfl rfl rfl rfl ?_ | refine plan_load_open H0 HS 3 rfl (by simp) rfl (by decide) (by decide) rfl rfl rfl rfl rfl ?_ | refine plan_load_open H0 HS 4 rfl (by simp) rfl (by decide) (by decide) rfl rfl rfl rfl rfl ?_ | refine plan_load_open H0 HS 5 rfl (by simp) rfl (by decide) (by decide) rfl rfl rfl rfl rfl ?_ | refine plan_load_open H0 HS 6 rfl (by simp) rfl (by decide) (by decide) rfl rfl rfl rfl rfl ?_ | refine plan_load_open H0 HS 7 rfl (by simp) rfl (by decide) (by decide) rfl rfl rfl rfl rfl ?_
    (try simp only [Act.put, List.setIfInBounds_toArray, List.set_cons_succ, List.set_cons_zero])
    first | refine plan_load_open H0 HS 0 rfl (by simp) rfl (by decide) (by decide) rfl rfl rfl rfl rfl ?_ | refine plan_load_open H0 HS 1 rfl (by simp) rfl (by decide) (by decide) rfl rfl rfl rfl rfl ?_ | refine plan_load_open H0 HS 2 rfl (by simp) rfl (by decide) (by decide) rfl rfl rfl rfl rfl ?_ | refine plan_load_open H0 HS 3 rfl (by simp) rfl (by decide) (by decide) rfl rfl rfl rfl rfl ?_ | refine plan_load_open H0 HS 4 rfl (by simp) rfl (by decide) (by decide) rfl rfl rfl rfl rfl ?_ | refine plan_load_open H0 HS 5 rfl (by simp) rfl (by decide) (by decide) rfl rfl rfl rfl rfl ?_ | refine plan_load_open H0 HS 6 rfl (by simp) rfl (by decide) (by decide) rfl rfl rfl rfl rfl ?_ | refine plan_load_open H0 HS 7 rfl (by simp) rfl (by decide) (by decide) rfl rfl rfl rfl rfl ?_
    (try simp only [Act.put, List.setIfInBounds_toArray, List.set_cons_succ, List.set_cons_zero])
    first | refine plan_load_open H0 HS 0 rfl (by simp) rfl (by decide) (by decide) rfl rfl rfl rfl rfl ?_ | refine plan_load_open H0 HS 1 rfl (by simp) rfl (by decide) (by decide) rfl rfl rfl rfl rfl ?_ | refine plan_load_open H0 HS 2 rfl (by simp) rfl (by decide) (by decide) rfl rfl rfl rfl rfl ?_ | refine plan_load_open H0 HS 3 rfl (by simp) rfl (by decide) (by decide) rfl rfl rfl rfl rfl ?_ | refine plan_load_open H0 HS 4 rfl (by simp) rfl (by decide) (by decide) rfl rfl rfl rfl rfl ?_ | refine plan_load_open H0 HS 5 rfl (by simp) rfl (by decide) (by decide) rfl rfl rfl rfl rfl ?_ | refine plan_load_open H0 HS 6 rfl (by simp) rfl (by decide) (by decide) rfl rfl rfl rfl rfl ?_ | refine plan_load_open H0 HS 7 rfl (by simp) rfl (by decide) (by decide) rfl rfl rfl rfl rfl ?_
    (try simp only [Act.put, List.setIfInBounds_toArray, List.set_cons_succ, List.set_cons_zero])
    refine plan_op rfl (by decide) rfl (fun K hK => ?_)
    go_simp
    ((with_reducible refine Calls.mono (hS1 _ ?_) ?_); (focus exact H.out); rintro _ w ⟨rfl, hE⟩; replace HS := HS.trans hE; replace H := H.step hE; clear hE)
    refine hK _ _ (fun _ => HS) ?_
    clear hK K
    (try simp only [Act.put, List.setIfInBounds_toArray, List.set_cons_succ, List.set_cons_zero])
    refine plan_op rfl (by decide) rfl (fun K hK => ?_)
    go_simp
    ((with_reducible refine Calls.mono (hS1' _ ?_) ?_); (focus exact H.out); rintro _ w ⟨rfl, hE⟩; replace HS := HS.trans hE; replace H := H.step hE; clear hE)
    refine hK _ _ (fun _ => HS) ?_
    clear hK K
    (try simp only [Act.put, List.setIfInBounds_toArray, List.set_cons_succ, List.set_cons_zero])
    refine plan_pure (v := ?pv1) rfl (by decide) (by decide) rfl ?ph1 ?_
    case ph1 => (intro w; go_simp; try with_reducible rfl)
    (try simp only [Act.put, List.setIfInBounds_toArray, List.set_cons_succ, List.set_cons_zero])
    refine plan_pure (v := ?pv2) rfl (by decide) (by decide) rfl ?ph2 ?_
    case ph2 => (intro w; go_simp; try with_reducible rfl)
    (try simp only [Act.put, List.setIfInBounds_toArray, List.set_cons_succ, List.set_cons_zero])
    first | refine plan_load_open H0 HS 0 rfl (by simp) rfl (by decide) (by decide) rfl rfl rfl rfl rfl ?_ | refine plan_load_open H0 HS 1 rfl (by simp) rfl (by decide) (by decide) rfl rfl rfl rfl rfl ?_ | refine plan_load_open H0 HS 2 rfl (by simp) rfl (by decide) (by decide) rfl rfl rfl rfl rfl ?_ | refine plan_load_open H0 HS 3 rfl (by simp) rfl (by decide) (by decide) rfl rfl rfl rfl rfl ?_ | refine plan_load_open H0 HS 4 rfl (by simp) rfl (by decide) (by decide) rfl rfl rfl rfl rfl ?_ | refine plan_load_open H0 HS 5 rfl (by simp) rfl (by decide) (by decide) rfl rfl rfl rfl rfl ?_ | refine plan_load_open H0 HS 6 rfl (by simp) rfl (by decide) (by decide) rfl rfl rfl rfl rfl ?_ | refine plan_load_open H0 HS 7 rfl (by simp) rfl (by decide) (by decide) rfl rfl rfl rfl rfl ?_
    (try simp only [Act.put, List.setIfInBounds_toArray, List.set_cons_succ, List.set_cons_zero])
    first | refine plan_load_open H0 HS 0 rfl (by simp) rfl (by decide) (by decide) rfl rfl rfl rfl rfl ?_ | refine plan_load_open H0 HS 1 rfl (by simp) rfl (by decide) (by decide) rfl rfl rfl rfl rfl ?_ | refine plan_load_open H0 HS 2 rfl (by simp) rfl (by decide) (by decide) rfl rfl rfl rfl rfl ?_ | refine plan_load_open H0 HS 3 rfl (by simp) rfl (by decide) (by decide) rfl rfl rfl rfl rfl ?_ | refine plan_load_open H0 HS 4 rfl (by simp) rfl (by decide) (by decide) rfl rfl rfl rfl rfl ?_ | refine plan_load_open H0 HS 5 rfl (by simp) rfl (by decide) (by decide) rfl rfl rfl rfl rfl ?_ | refine plan_load_open H0 HS 6 rfl (by simp) rfl (by decide) (by decide) rfl rfl rfl rfl rfl ?_ | refine plan_load_open H0 HS 7 rfl (by simp) rfl (by decide) (by decide) rfl rfl rfl rfl rfl ?_
    (try simp only [Act.put, List.setIfInBounds_toArray, List.set_cons_succ, List.set_cons_zero])
    first | refine plan_load_open H0 HS 0 rfl (by simp) rfl (by decide) (by decide) rfl rfl rfl rfl rfl ?_ | refine plan_load_open H0 HS 1 rfl (by simp) rfl (by decide) (by decide) rfl rfl rfl rfl rfl ?_ | refine plan_load_open H0 HS 2 rfl (by simp) rfl (by decide) (by decide) rfl rfl rfl rfl rfl ?_ | refine plan_load_open H0 HS 3 rfl (by simp) rfl (by decide) (by decide) rfl rfl rfl rfl rfl ?_ | refine plan_load_open H0 HS 4 rfl (by simp) rfl (by decide) (by decide) rfl rfl rfl rfl rfl ?_ | refine plan_load_open H0 HS 5 rfl (by simp) rfl (by decide) (by decide) rfl rfl rfl rfl rfl ?_ | refine plan_load_open H0 HS 6 rfl (by simp) rfl (by decide) (by decide) rfl rfl rfl rfl rfl ?_ | refine plan_load_open H0 HS 7 rfl (by simp) rfl (by decide) (by decide) rfl rfl rfl rfl rfl ?_
    (try simp only [Act.put, List.setIfInBounds_toArray, List.set_cons_succ, List.set_cons_zero])
    first | refine plan_load_open H0 HS 0 rfl (by simp) rfl (by decide) (by decide) rfl rfl rfl rfl rfl ?_ | refine plan_load_open H0 HS 1 rfl (by simp) rfl (by decide) (by decide) rfl rfl rfl rfl rfl ?_ | refine plan_load_open H0 HS 2 rfl (by simp) rfl (by decide) (by decide) rfl rfl rfl rfl rfl ?_ | refine plan_load_open H0 HS 3 rfl (by simp) rfl (by decide) (by decide) rfl rfl rfl rfl rfl ?_ | refine plan_load_open H0 HS 4 rfl (by simp) rfl (by decide) (by decide) rfl rfl rfl rfl rfl ?_ | refine plan_load_open H0 HS 5 rfl (by simp) rfl (by decide) (by decide) rfl rfl rfl rfl rfl ?_ | refine plan_load_open H0 HS 6 rfl (by simp) rfl (by decide) (by decide) rfl rfl rfl rfl rfl ?_ | refine plan_load_open H0 HS 7 rfl (by simp) rfl (by decide) (by decide) rfl rfl rfl rfl rfl ?_
    (try simp only [Act.put, List.setIfInBounds_toArray, List.set_cons_succ, List.set_cons_zero])
    refine plan_op rfl (by decide) rfl (fun K hK => ?_)
    go_simp
    ((with_reducible refine Calls.mono (hV1 _ ?_) ?_); (focus exact H.out); rintro _ w ⟨rfl, hE⟩; replace HS := HS.trans hE; replace H := H.step hE; clear hE)
    refine hK _ _ (fun _ => HS) ?_
    clear hK K
    (try simp only [Act.put, List.setIfInBounds_toArray, List.set_cons_succ, List.set_cons_zero])
    refine plan_op rfl (by decide) rfl (fun K hK => ?_)
    go_simp
    ((with_reducible refine Calls.mono (hV1' _ ?_) ?_); (focus exact H.out); rintro _ w ⟨rfl, hE⟩; replace HS := HS.trans hE; replace H := H.step hE; clear hE)
    refine hK _ _ (fun _ => HS) ?_
    clear hK K
    (try simp only [Act.put, List.setIfInBounds_toArray, List.set_cons_succ, List.set_cons_zero])
    refine plan_pure (v := ?pv3) rfl (by decide) (by decide) rfl ?ph3 ?_
    case ph3 => (intro w; go_simp; try with_reducible rfl)
    (try simp only [Act.put, List.setIfInBounds_toArray, List.set_cons_succ, List.set_cons_zero])
    refine plan_pure (v := ?pv4) rfl (by decide) (by decide) rfl ?ph4 ?_
    case ph4 => (intro w; go_simp; try with_reducible rfl)
    (try simp only [Act.put, List.setIfInBounds_toArray, List.set_cons_succ, List.set_cons_zero])
    refine plan_pure (v := ?pv5) rfl (by decide) (by decide) rfl ?ph5 ?_
    case ph5 => (intro w; go_simp; try with_reducible rfl)
    (try simp only [Act.put, List.setIfInBounds_toArray, List.set_cons_succ, List.set_cons_zero])
    first | refine plan_load_open H0 HS 0 rfl (by simp) rfl (by decide) (by decide) rfl rfl rfl rfl rfl ?_ | refine plan_load_open H0 HS 1 rfl (by simp) rfl (by decide) (by decide) rfl rfl rfl rfl rfl ?_ | refine plan_load_open H0 HS 2 rfl (by simp) rfl (by decide) (by decide) rfl rfl rfl rfl rfl ?_ | refine plan_load_open H0 HS 3 rfl (by simp) rfl (by decide) (by decide) rfl rfl rfl rfl rfl ?_ | refine plan_load_open H0 HS 4 rfl (by simp) rfl (by decide) (by decide) rfl rfl rfl rfl rfl ?_ | refine plan_load_open H0 HS 5 rfl (by simp) rfl (by decide) (by decide) rfl rfl rfl rfl rfl ?_ | refine plan_load_open H0 HS 6 rfl (by simp) rfl (by decide) (by decide) rfl rfl rfl rfl rfl ?_ | refine plan_load_open H0 HS 7 rfl (by simp) rfl (by decide) (by decide) rfl rfl rfl rfl rfl ?_
    (try simp only [Act.put, List.setIfInBounds_toArray, List.set_cons_succ, List.set_cons_zero])
    first | refine plan_load_open H0 HS 0 rfl (by simp) rfl (by decide) (by decide) rfl rfl rfl rfl rfl ?_ | refine plan_load_open H0 HS 1 rfl (by simp) rfl (by decide) (by decide) rfl rfl rfl rfl rfl ?_ | refine plan_load_open H0 HS 2 rfl (by simp) rfl (by decide) (by decide) rfl rfl rfl rfl rfl ?_ | refine plan_load_open H0 HS 3 rfl (by simp) rfl (by decide) (by decide) rfl rfl rfl rfl rfl ?_ | refine plan_load_open H0 HS 4 rfl (by simp) rfl (by decide) (by decide) rfl rfl rfl rfl rfl ?_ | refine plan_load_open H0 HS 5 rfl (by simp) rfl (by decide) (by decide) rfl rfl rfl rfl rfl ?_ | refine plan_load_open H0 HS 6 rfl (by simp) rfl (by decide) (by decide) rfl rfl rfl rfl rfl ?_ | refine plan_load_open H0 HS 7 rfl (by simp) rfl (by decide) (by decide) rfl rfl rfl rfl rfl ?_
    (try simp only [Act.put, List.setIfInBounds_toArray, List.set_cons_succ, List.set_cons_zero])
    refine plan_op rfl (by decide) rfl (fun K hK => ?_)
    go_simp
    ((with_reducible refine Calls.mono (hS1 _ ?_) ?_); (focus exact H.out); rintro _ w ⟨rfl, hE⟩; replace HS := HS.trans hE; replace H := H.step hE; clear hE)
    refine hK _ _ (fun _ => HS) ?_
    clear hK K
    (try simp only [Act.put, List.setIfInBounds_toArray, List.set_cons_succ, List.set_cons_zero])
    refine plan_pure (v := ?pv6) rfl (by decide) (by decide) rfl ?ph6 ?_
    case ph6 => (intro w; go_simp; try with_reducible rfl)
    (try simp only [Act.put, List.setIfInBounds_toArray, List.set_cons_succ, List.set_cons_zero])
    refine plan_skip rfl (by decide) (fun _ => HS) rfl ?_
    (try simp only [Act.put, List.setIfInBounds_toArray, List.set_cons_succ, List.set_cons_zero])
    refine plan_skip rfl (by decide) (fun _ => HS) rfl ?_
    (try simp only [Act.put, List.setIfInBounds_toArray, List.set_cons_succ, List.set_cons_zero])
    refine plan_skip' rfl (by decide) (fun h => absurd h (by decide)) rfl ?_
    (try simp only [Act.put, List.setIfInBounds_toArray, List.set_cons_succ, List.set_cons_zero])
    refine plan_skip rfl (by decide) (fun _ => HS) rfl ?_
    (try simp only [Act.put, List.setIfInBounds_toArray, List.set_cons_succ, List.set_cons_zero])
    refine plan_pure (v := ?pv7) rfl (by decide) (by decide) rfl ?ph7 ?_
    case ph7 => (intro w; go_simp; try with_reducible rfl)
    (try simp only [Act.put, List.setIfInBounds_toArray, List.set_cons_succ, List.set_cons_zero])
    refine plan_pure (v := ?pv8) rfl (by decide) (by decide) rfl ?ph8 ?_
    case ph8 => (intro w; go_simp; try with_reducible rfl)
    (try simp only [Act.put, List.setIfInBounds_toArray, List.set_cons_succ, List.set_cons_zero])
    refine plan_nil ?_
    clear H0 HS
    cases v1
    · skip
      go_wp2_with (first | ((with_reducible refine wpl_runx_d 3 rfl ?_ ?_); (focus exact rfl); refine ⟨_, runs_box H rfl rfl, ?_⟩; clear H; rintro _ w ⟨b3, rfl, hE, H⟩; clear hE) | ((with_reducible refine wpl_runx_d 4 rfl ?_ ?_); (focus exact rfl); refine ⟨_, runs_box H rfl rfl, ?_⟩; clear H; rintro _ w ⟨b4, rfl, hE, H⟩; clear hE) | ((with_reducible refine wpl_runx_d 5 rfl ?_ ?_); (focus exact rfl); refine ⟨_, runs_box H rfl rfl, ?_⟩; clear H; rintro _ w ⟨b5, rfl, hE, H⟩; clear hE) | ((with_reducible refine wpl_runx_d 10 rfl ?_ ?_); (focus exact rfl); refine ⟨_, by apply runs_buildSlice H; iterate 10 rfl, ?_⟩; clear H; rintro _ w ⟨b10, rfl, hE, H⟩; clear hE) | ((with_reducible refine wpl_runx ?_ ?_); (focus exact rfl); refine ⟨_, runs_load H 0 rfl rfl rfl rfl rfl, ?_⟩; rintro _ _ ⟨rfl, rfl⟩) | ((with_reducible refine wpl_runx ?_ ?_); (focus exact rfl); refine ⟨_, runs_load H 1 rfl rfl rfl rfl rfl, ?_⟩; rintro _ _ ⟨rfl, rfl⟩) | ((with_reducible refine wpl_runx ?_ ?_); (focus exact rfl); refine ⟨_, runs_load H 2 rfl rfl rfl rfl rfl, ?_⟩; rintro _ _ ⟨rfl, rfl⟩) | ((with_reducible refine wpl_runx ?_ ?_); (focus exact rfl); refine ⟨_, runs_load H 3 rfl rfl rfl rfl rfl, ?_⟩; rintro _ _ ⟨rfl, rfl⟩) | ((with_reducible refine wpl_runx ?_ ?_); (focus exact rfl); refine ⟨_, runs_store H 0 rfl rfl rfl rfl rfl rfl rfl rfl rfl, ?_⟩; clear H; rintro _ w ⟨rfl, hE, H⟩; clear hE) | ((with_reducible refine wpl_runx ?_ ?_); (focus exact rfl); refine ⟨_, runs_store H 1 rfl rfl rfl rfl rfl rfl rfl rfl rfl, ?_⟩; clear H; rintro _ w ⟨rfl, hE, H⟩; clear hE) | ((with_reducible refine wpl_runx ?_ ?_); (focus exact rfl); refine ⟨_, runs_store H 2 rfl rfl rfl rfl rfl rfl rfl rfl rfl, ?_⟩; clear H; rintro _ w ⟨rfl, hE, H⟩; clear hE) | ((with_reducible refine wpl_runx ?_ ?_); (focus exact rfl); refine ⟨_, runs_store H 3 rfl rfl rfl rfl rfl rfl rfl rfl rfl, ?_⟩; clear H; rintro _ w ⟨rfl, hE, H⟩; clear hE) | ((with_reducible refine Calls.mono (hS1 _ ?_) ?_); (focus exact H.out); rintro _ w ⟨rfl, hE⟩; replace H := H.step hE; clear hE) | ((with_reducible refine Calls.mono (hS2 _ ?_) ?_); (focus exact H.out); rintro _ w ⟨rfl, hE⟩; replace H := H.step hE; clear hE) | ((with_reducible refine Calls.mono (hS3 _ ?_) ?_); (focus exact H.out); rintro _ w ⟨rfl, hE⟩; replace H := H.step hE; clear hE) | ((with_reducible refine Calls.mono (hV1 _ ?_) ?_); (focus exact H.out); rintro _ w ⟨rfl, hE⟩; replace H := H.step hE; clear hE) | ((with_reducible refine Calls.mono (hV2 _ ?_) ?_); (focus exact H.out); rintro _ w ⟨rfl, hE⟩; replace H := H.step hE; clear hE) | ((with_reducible refine Calls.mono (hV3 _ ?_) ?_); (focus exact H.out); rintro _ w ⟨rfl, hE⟩; replace H := H.step hE; clear hE))
      refine wp_region_st H [] [[], [], [0, 1], [], [0, 1, 2, 3], [0, 1, 2, 3, 4], [0, 1, 2, 3, 4, 5], [0, 1, 2, 3, 4, 5, 6], [0, 1, 2, 3, 4, 5, 6, 7], [0, 1, 2, 3, 4, 5, 6, 7, 8], [0, 1, 2, 3, 4, 5, 6, 7, 8, 9]] [0, 1, 3] [0, 1, 3, 5, 6, 7, 9, 10] [0, 1, 3, 2, 4, 5, 6, 7, 8, 9, 10] (by kernel_rfl) (by kernel_rfl) (fun d v c a w h => by cases d <;> exact h) ?_
      clear H
      intro w H
      have HS := Ext.refl [] w
      have H0 := H
      first | refine plan_load_open H0 HS 0 rfl (by simp) rfl (by decide) (by decide) rfl rfl rfl rfl rfl ?_ | refine plan_load_open H0 HS 1 rfl (by simp) rfl (by decide) (by decide) rfl rfl rfl rfl rfl ?_ | refine plan_load_open H0 HS 2 rfl (by simp) rfl (by decide) (by decide) rfl rfl rfl rfl rfl ?_ | refine plan_load_open H0 HS 3 rfl (by simp) rfl (by decide) (by decide) rfl rfl rfl rfl rfl ?_ | refine plan_load_open H0 HS 4 rfl (by simp) rfl (by decide) (by decide) rfl rfl rfl rfl rfl ?_ | refine plan_load_open H0 HS 5 rfl (by simp) rfl (by decide) (by decide) rfl rfl rfl rfl rfl ?_ | refine plan_load_open H0 HS 6 rfl (by simp) rfl (by decide) (by decide) rfl rfl rfl rfl rfl ?_ | refine plan_load_open H0 HS 7 rfl (by simp) rfl (by decide) (by decide) rfl rfl rfl rfl rfl ?_
      (try simp only [Act.put, List.setIfInBounds_toArray, List.set_cons_succ, List.set_cons_zero])
      first | refine plan_load_open H0 HS 0 rfl (by simp) rfl (by decide) (by decide) rfl rfl rfl rfl rfl ?_ | refine plan_load_open H0 HS 1 rfl (by simp) rfl (by decide) (by decide) rfl rfl rfl rfl rfl ?_ | refine plan_load_open H0 HS 2 rfl (by simp) rfl (by decide) (by decide) rfl rfl rfl rfl rfl ?_ | refine plan_load_open H0 HS 3 rfl (by simp) rfl (by decide) (by decide) rfl rfl rfl rfl rfl ?_ | refine plan_load_open H0 HS 4 rfl (by simp) rfl (by decide) (by decide) rfl rfl rfl rfl rfl ?_ | refine plan_load_open H0 HS 5 rfl (by simp) rfl (by decide) (by decide) rfl rfl rfl rfl rfl ?_ | refine plan_load_open H0 HS 6 rfl (by simp) rfl (by decide) (by decide) rfl rfl rfl rfl rfl ?_ | refine plan_load_open H0 HS 7 rfl (by simp) rfl (by decide) (by decide) rfl rfl rfl rfl rfl ?_
      (try simp only [Act.put, List.setIfInBounds_toArray, List.set_cons_succ, List.set_cons_zero])
      first | refine plan_load_open H0 HS 0 rfl (by simp) rfl (by decide) (by decide) rfl rfl rfl rfl rfl ?_ | refine plan_load_open H0 HS 1 rfl (by simp) rfl (by decide) (by decide) rfl rfl rfl rfl rfl ?_ | refine plan_load_open H0 HS 2 rfl (by simp) rfl (by decide) (by decide) rfl rfl rfl rfl rfl ?_ | refine plan_load_open H0 HS 3 rfl (by simp) rfl (by decide) (by decide) rfl rfl rfl rfl rfl ?_ | refine plan_load_open H0 HS 4 rfl (by simp) rfl (by decide) (by decide) rfl rfl rfl rfl rfl ?_ | refine plan_load_open H0 HS 5 rfl (by simp) rfl (by decide) (by decide) rfl rfl rfl rfl rfl ?_ | refine plan_load_open H0 HS 6 rfl (by simp) rfl (by decide) (by decide) rfl rfl rfl rfl rfl ?_ | refine plan_load_open H0 HS 7 rfl (by simp) rfl (by decide) (by decide) rfl rfl rfl rfl rfl ?_
      (try simp only [Act.put, List.setIfInBounds_toArray, List.set_cons_succ, List.set_cons_zero])
      refine plan_op rfl (by decide) rfl (fun K hK => ?_)
      go_simp
      ((with_reducible refine Calls.mono (hM _ ?_) ?_); (focus exact H.out); rintro _ w ⟨rfl, hE⟩; replace HS := HS.trans hE; replace H := H.step hE; clear hE)
      refine hK _ _ (fun _ => HS) ?_
      clear hK K
      (try simp only [Act.put, List.setIfInBounds_toArray, List.set_cons_succ, List.set_cons_zero])
      refine plan_op rfl (by decide) rfl (fun K hK => ?_)
      go_simp
      ((with_reducible refine Calls.mono (hMay _ ?_) ?_); (focus exact H.out); rintro _ w ⟨rfl, hE⟩; replace HS := HS.trans hE; replace H := H.step hE; clear hE)
      refine hK _ _ (fun h => absurd h (by decide)) ?_
      clear hK K
      (try simp only [Act.put, List.setIfInBounds_toArray, List.set_cons_succ, List.set_cons_zero])
      refine plan_pure (v := ?pv9) rfl (by decide) (by decide) rfl ?ph9 ?_
      case ph9 => (intro w; go_simp; try with_reducible rfl)
      (try simp only [Act.put, List.setIfInBounds_toArray, List.set_cons_succ, List.set_cons_zero])
      refine plan_pure (v := ?pv10) rfl (by decide) (by decide) rfl ?ph10 ?_
      case ph10 => (intro w; go_simp; try with_reducible rfl)
      (try simp only [Act.put, List.setIfInBounds_toArray, List.set_cons_succ, List.set_cons_zero])
      refine plan_pure (v := ?pv11) rfl (by decide) (by decide) rfl ?ph11 ?_
      case ph11 => (intro w; go_simp; try with_reducible rfl)
      (try simp only [Act.put, List.setIfInBounds_toArray, List.set_cons_succ, List.set_cons_zero])
      refine plan_op rfl (by decide) rfl (fun K hK => ?_)
      go_simp
      ((with_reducible refine Calls.mono (awake_spec _) ?_); rintro _ w ⟨rfl, hE⟩; replace HS := HS.trans hE; replace H := H.step hE; clear hE)
      refine hK _ _ (fun h => absurd h (by decide)) ?_
      clear hK K
      (try simp only [Act.put, List.setIfInBounds_toArray, List.set_cons_succ, List.set_cons_zero])
      refine plan_pure (v := ?pv12) rfl (by decide) (by decide) rfl ?ph12 ?_
      case ph12 => (intro w; go_simp; try with_reducible rfl)
      (try simp only [Act.put, List.setIfInBounds_toArray, List.set_cons_succ, List.set_cons_zero])
      refine plan_pure (v := ?pv13) rfl (by decide) (by decide) rfl ?ph13 ?_
      case ph13 => (intro w; go_simp; try with_reducible rfl)
      (try simp only [Act.put, List.setIfInBounds_toArray, List.set_cons_succ, List.set_cons_zero])
      refine plan_nil ?_
      clear H0 HS
      go_wp2
      go_ret
      exact ⟨rfl, H.ext⟩
    · cases v2
      · skip
        go_wp2_with (first | ((with_reducible refine wpl_runx_d 3 rfl ?_ ?_); (focus exact rfl); refine ⟨_, runs_box H rfl rfl, ?_⟩; clear H; rintro _ w ⟨b3, rfl, hE, H⟩; clear hE) | ((with_reducible refine wpl_runx_d 4 rfl ?_ ?_); (focus exact rfl); refine ⟨_, runs_box H rfl rfl, ?_⟩; clear H; rintro _ w ⟨b4, rfl, hE, H⟩; clear hE) | ((with_reducible refine wpl_runx_d 5 rfl ?_ ?_); (focus exact rfl); refine ⟨_, runs_box H rfl rfl, ?_⟩; clear H; rintro _ w ⟨b5, rfl, hE, H⟩; clear hE) | ((with_reducible refine wpl_runx_d 10 rfl ?_ ?_); (focus exact rfl); refine ⟨_, by apply runs_buildSlice H; iterate 10 rfl, ?_⟩; clear H; rintro _ w ⟨b10, rfl, hE, H⟩; clear hE) | ((with_reducible refine wpl_runx ?_ ?_); (focus exact rfl); refine ⟨_, runs_load H 0 rfl rfl rfl rfl rfl, ?_⟩; rintro _ _ ⟨rfl, rfl⟩) | ((with_reducible refine wpl_runx ?_ ?_); (focus exact rfl); refine ⟨_, runs_load H 1 rfl rfl rfl rfl rfl, ?_⟩; rintro _ _ ⟨rfl, rfl⟩) | ((with_reducible refine wpl_runx ?_ ?_); (focus exact rfl); refine ⟨_, runs_load H 2 rfl rfl rfl rfl rfl, ?_⟩; rintro _ _ ⟨rfl, rfl⟩) | ((with_reducible refine wpl_runx ?_ ?_); (focus exact rfl); refine ⟨_, runs_load H 3 rfl rfl rfl rfl rfl, ?_⟩; rintro _ _ ⟨rfl, rfl⟩) | ((with_reducible refine wpl_runx ?_ ?_); (focus exact rfl); refine ⟨_, runs_store H 0 rfl rfl rfl rfl rfl rfl rfl rfl rfl, ?_⟩; clear H; rintro _ w ⟨rfl, hE, H⟩; clear hE) | ((with_reducible refine wpl_runx ?_ ?_); (focus exact rfl); refine ⟨_, runs_store H 1 rfl rfl rfl rfl rfl rfl rfl rfl rfl, ?_⟩; clear H; rintro _ w ⟨rfl, hE, H⟩; clear hE) | ((with_reducible refine wpl_runx ?_ ?_); (focus exact rfl); refine ⟨_, runs_store H 2 rfl rfl rfl rfl rfl rfl rfl rfl rfl, ?_⟩; clear H; rintro _ w ⟨rfl, hE, H⟩; clear hE) | ((with_reducible refine wpl_runx ?_ ?_); (focus exact rfl); refine ⟨_, runs_store H 3 rfl rfl rfl rfl rfl rfl rfl rfl rfl, ?_⟩; clear H; rintro _ w ⟨rfl, hE, H⟩; clear hE) | ((with_reducible refine Calls.mono (hS1 _ ?_) ?_); (focus exact H.out); rintro _ w ⟨rfl, hE⟩; replace H := H.step hE; clear hE) | ((with_reducible refine Calls.mono (hS2 _ ?_) ?_); (focus exact H.out); rintro _ w ⟨rfl, hE⟩; replace H := H.step hE; clear hE) | ((with_reducible refine Calls.mono (hS3 _ ?_) ?_); (focus exact H.out); rintro _ w ⟨rfl, hE⟩; replace H := H.step hE; clear hE) | ((with_reducible refine Calls.mono (hV1 _ ?_) ?_); (focus exact H.out); rintro _ w ⟨rfl, hE⟩; replace H := H.step hE; clear hE) | ((with_reducible refine Calls.mono (hV2 _ ?_) ?_); (focus exact H.out); rintro _ w ⟨rfl, hE⟩; replace H := H.step hE; clear hE) | ((with_reducible refine Calls.mono (hV3 _ ?_) ?_); (focus exact H.out); rintro _ w ⟨rfl, hE⟩; replace H := H.step hE; clear hE))
        refine wp_region_st H [] [[], [], [0, 1], [], [0, 1, 2, 3], [0, 1, 2, 3, 4], [0, 1, 2, 3, 4, 5], [0, 1, 2, 3, 4, 5, 6], [0, 1, 2, 3, 4, 5, 6, 7], [0, 1, 2, 3, 4, 5, 6, 7, 8], [0, 1, 2, 3, 4, 5, 6, 7, 8, 9]] [0, 1, 3] [0, 1, 3, 5, 6, 7, 9, 10] [0, 1, 3, 2, 4, 5, 6, 7, 8, 9, 10] (by kernel_rfl) (by kernel_rfl) (fun d v c a w h => by cases d <;> exact h) ?_
        clear H
        intro w H
        have HS := Ext.refl [] w
        have H0 := H
        first | refine plan_load_open H0 HS 0 rfl (by simp) rfl (by decide) (by decide) rfl rfl rfl rfl rfl ?_ | refine plan_load_open H0 HS 1 rfl (by simp) rfl (by decide) (by decide) rfl rfl rfl rfl rfl ?_ | refine plan_load_open H0 HS 2 rfl (by simp) rfl (by decide) (by decide) rfl rfl rfl rfl rfl ?_ | refine plan_load_open H0 HS 3 rfl (by simp) rfl (by decide) (by decide) rfl rfl rfl rfl rfl ?_ | refine plan_load_open H0 HS 4 rfl (by simp) rfl (by decide) (by decide) rfl rfl rfl rfl rfl ?_ | refine plan_load_open H0 HS 5 rfl (by simp) rfl (by decide) (by decide) rfl rfl rfl rfl rfl ?_ | refine plan_load_open H0 HS 6 rfl (by simp) rfl (by decide) (by decide) rfl rfl rfl rfl rfl ?_ | refine plan_load_open H0 HS 7 rfl (by simp) rfl (by decide) (by decide) rfl rfl rfl rfl rfl ?_
        (try simp only [Act.put, List.setIfInBounds_toArray, List.set_cons_succ, List.set_cons_zero])
        first | refine plan_load_open H0 HS 0 rfl (by simp) rfl (by decide) (by decide) rfl rfl rfl rfl rfl ?_ | refine plan_load_open H0 HS 1 rfl (by simp) rfl (by decide) (by decide) rfl rfl rfl rfl rfl ?_ | refine plan_load_open H0 HS 2 rfl (by simp) rfl (by decide) (by decide) rfl rfl rfl rfl rfl ?_ | refine plan_load_open H0 HS 3 rfl (by simp) rfl (by decide) (by decide) rfl rfl rfl rfl rfl ?_ | refine plan_load_open H0 HS 4 rfl (by simp) rfl (by decide) (by decide) rfl rfl rfl rfl rfl ?_ | refine plan_load_open H0 HS 5 rfl (by simp) rfl (by decide) (by decide) rfl rfl rfl rfl rfl ?_ | refine plan_load_open H0 HS 6 rfl (by simp) rfl (by decide) (by decide) rfl rfl rfl rfl rfl ?_ | refine plan_load_open H0 HS 7 rfl (by simp) rfl (by decide) (by decide) rfl rfl rfl rfl rfl ?_
        (try simp only [Act.put, List.setIfInBounds_toArray, List.set_cons_succ, List.set_cons_zero])
        first | refine plan_load_open H0 HS 0 rfl (by simp) rfl (by decide) (by decide) rfl rfl rfl rfl rfl ?_ | refine plan_load_open H0 HS 1 rfl (by simp) rfl (by decide) (by decide) rfl rfl rfl rfl rfl ?_ | refine plan_load_open H0 HS 2 rfl (by simp) rfl (by decide) (by decide) rfl rfl rfl rfl rfl ?_ | refine plan_load_open H0 HS 3 rfl (by simp) rfl (by decide) (by decide) rfl rfl rfl rfl rfl ?_ | refine plan_load_open H0 HS 4 rfl (by simp) rfl (by decide) (by decide) rfl rfl rfl rfl rfl ?_ | refine plan_load_open H0 HS 5 rfl (by simp) rfl (by decide) (by decide) rfl rfl rfl rfl rfl ?_ | refine plan_load_open H0 HS 6 rfl (by simp) rfl (by decide) (by decide) rfl rfl rfl rfl rfl ?_ | refine plan_load_open H0 HS 7 rfl (by simp) rfl (by decide) (by decide) rfl rfl rfl rfl rfl ?_
        (try simp only [Act.put, List.setIfInBounds_toArray, List.set_cons_succ, List.set_cons_zero])
        refine plan_op rfl (by decide) rfl (fun K hK => ?_)
        go_simp
        ((with_reducible refine Calls.mono (hM _ ?_) ?_); (focus exact H.out); rintro _ w ⟨rfl, hE⟩; replace HS := HS.trans hE; replace H := H.step hE; clear hE)
        refine hK _ _ (fun _ => HS) ?_
        clear hK K
        (try simp only [Act.put, List.setIfInBounds_toArray, List.set_cons_succ, List.set_cons_zero])
        refine plan_op rfl (by decide) rfl (fun K hK => ?_)
        go_simp
        ((with_reducible refine Calls.mono (hMay _ ?_) ?_); (focus exact H.out); rintro _ w ⟨rfl, hE⟩; replace HS := HS.trans hE; replace H := H.step hE; clear hE)
        refine hK _ _ (fun h => absurd h (by decide)) ?_
        clear hK K
        (try simp only [Act.put, List.setIfInBounds_toArray, List.set_cons_succ, List.set_cons_zero])
        refine plan_pure (v := ?pv14) rfl (by decide) (by decide) rfl ?ph14 ?_
        case ph14 => (intro w; go_simp; try with_reducible rfl)
        (try simp only [Act.put, List.setIfInBounds_toArray, List.set_cons_succ, List.set_cons_zero])
        refine plan_pure (v := ?pv15) rfl (by decide) (by decide) rfl ?ph15 ?_
        case ph15 => (intro w; go_simp; try with_reducible rfl)
        (try simp only [Act.put, List.setIfInBounds_toArray, List.set_cons_succ, List.set_cons_zero])
        refine plan_pure (v := ?pv16) rfl (by decide) (by decide) rfl ?ph16 ?_
        case ph16 => (intro w; go_simp; try with_reducible rfl)
        (try simp only [Act.put, List.setIfInBounds_toArray, List.set_cons_succ, List.set_cons_zero])
        refine plan_op rfl (by decide) rfl (fun K hK => ?_)
        go_simp
        ((with_reducible refine Calls.mono (awake_spec _) ?_); rintro _ w ⟨rfl, hE⟩; replace HS := HS.trans hE; replace H := H.step hE; clear hE)
        refine hK _ _ (fun h => absurd h (by decide)) ?_
        clear hK K
        (try simp only [Act.put, List.setIfInBounds_toArray, List.set_cons_succ, List.set_cons_zero])
        refine plan_pure (v := ?pv17) rfl (by decide) (by decide) rfl ?ph17 ?_
        case ph17 => (intro w; go_simp; try with_reducible rfl)
        (try simp only [Act.put, List.setIfInBounds_toArray, List.set_cons_succ, List.set_cons_zero])
        refine plan_pure (v := ?pv18) rfl (by decide) (by decide) rfl ?ph18 ?_
        case ph18 => (intro w; go_simp; try with_reducible rfl)
        (try simp only [Act.put, List.setIfInBounds_toArray, List.set_cons_succ, List.set_cons_zero])
        refine plan_nil ?_
        clear H0 HS
        go_wp2
        go_ret
        exact ⟨rfl, H.ext⟩
      · obtain rfl := i3.out (by trivial) (by trivial)
        go_wp2_with (first | ((with_reducible refine wpl_runx_d 3 rfl ?_ ?_); (focus exact rfl); refine ⟨_, runs_box H rfl rfl, ?_⟩; clear H; rintro _ w ⟨b3, rfl, hE, H⟩; clear hE) | ((with_reducible refine wpl_runx_d 4 rfl ?_ ?_); (focus exact rfl); refine ⟨_, runs_box H rfl rfl, ?_⟩; clear H; rintro _ w ⟨b4, rfl, hE, H⟩; clear hE) | ((with_reducible refine wpl_runx_d 5 rfl ?_ ?_); (focus exact rfl); refine ⟨_, runs_box H rfl rfl, ?_⟩; clear H; rintro _ w ⟨b5, rfl, hE, H⟩; clear hE) | ((with_reducible refine wpl_runx_d 10 rfl ?_ ?_); (focus exact rfl); refine ⟨_, by apply runs_buildSlice H; iterate 10 rfl, ?_⟩; clear H; rintro _ w ⟨b10, rfl, hE, H⟩; clear hE) | ((with_reducible refine wpl_runx ?_ ?_); (focus exact rfl); refine ⟨_, runs_load H 0 rfl rfl rfl rfl rfl, ?_⟩; rintro _ _ ⟨rfl, rfl⟩) | ((with_reducible refine wpl_runx ?_ ?_); (focus exact rfl); refine ⟨_, runs_load H 1 rfl rfl rfl rfl rfl, ?_⟩; rintro _ _ ⟨rfl, rfl⟩) | ((with_reducible refine wpl_runx ?_ ?_); (focus exact rfl); refine ⟨_, runs_load H 2 rfl rfl rfl rfl rfl, ?_⟩; rintro _ _ ⟨rfl, rfl⟩) | ((with_reducible refine wpl_runx ?_ ?_); (focus exact rfl); refine ⟨_, runs_load H 3 rfl rfl rfl rfl rfl, ?_⟩; rintro _ _ ⟨rfl, rfl⟩) | ((with_reducible refine wpl_runx ?_ ?_); (focus exact rfl); refine ⟨_, runs_store H 0 rfl rfl rfl rfl rfl rfl rfl rfl rfl, ?_⟩; clear H; rintro _ w ⟨rfl, hE, H⟩; clear hE) | ((with_reducible refine wpl_runx ?_ ?_); (focus exact rfl); refine ⟨_, runs_store H 1 rfl rfl rfl rfl rfl rfl rfl rfl rfl, ?_⟩; clear H; rintro _ w ⟨rfl, hE, H⟩; clear hE) | ((with_reducible refine wpl_runx ?_ ?_); (focus exact rfl); refine ⟨_, runs_store H 2 rfl rfl rfl rfl rfl rfl rfl rfl rfl, ?_⟩; clear H; rintro _ w ⟨rfl, hE, H⟩; clear hE) | ((with_reducible refine wpl_runx ?_ ?_); (focus exact rfl); refine ⟨_, runs_store H 3 rfl rfl rfl rfl rfl rfl rfl rfl rfl, ?_⟩; clear H; rintro _ w ⟨rfl, hE, H⟩; clear hE) | ((with_reducible refine Calls.mono (hS1 _ ?_) ?_); (focus exact H.out); rintro _ w ⟨rfl, hE⟩; replace H := H.step hE; clear hE) | ((with_reducible refine Calls.mono (hS2 _ ?_) ?_); (focus exact H.out); rintro _ w ⟨rfl, hE⟩; replace H := H.step hE; clear hE) | ((with_reducible refine Calls.mono (hS3 _ ?_) ?_); (focus exact H.out); rintro _ w ⟨rfl, hE⟩; replace H := H.step hE; clear hE) | ((with_reducible refine Calls.mono (hV1 _ ?_) ?_); (focus exact H.out); rintro _ w ⟨rfl, hE⟩; replace H := H.step hE; clear hE) | ((with_reducible refine Calls.mono (hV2 _ ?_) ?_); (focus exact H.out); rintro _ w ⟨rfl, hE⟩; replace H := H.step hE; clear hE) | ((with_reducible refine Calls.mono (hV3 _ ?_) ?_); (focus exact H.out); rintro _ w ⟨rfl, hE⟩; replace H := H.step hE; clear hE))
        refine wp_region_st H [] [[], [], [0, 1], [], [0, 1, 2, 3], [0, 1, 2, 3, 4], [0, 1, 2, 3, 4, 5], [0, 1, 2, 3, 4, 5, 6], [0, 1, 2, 3, 4, 5, 6, 7], [0, 1, 2, 3, 4, 5, 6, 7, 8], [0, 1, 2, 3, 4, 5, 6, 7, 8, 9]] [0, 1, 3] [0, 1, 3, 5, 6, 7, 9, 10] [0, 1, 3, 2, 4, 5, 6, 7, 8, 9, 10] (by kernel_rfl) (by kernel_rfl) (fun d v c a w h => by cases d <;> exact h) ?_
        clear H
        intro w H
        have HS := Ext.refl [] w
        have H0 := H
        first | refine plan_load_open H0 HS 0 rfl (by simp) rfl (by decide) (by decide) rfl rfl rfl rfl rfl ?_ | refine plan_load_open H0 HS 1 rfl (by simp) rfl (by decide) (by decide) rfl rfl rfl rfl rfl ?_ | refine plan_load_open H0 HS 2 rfl (by simp) rfl (by decide) (by decide) rfl rfl rfl rfl rfl ?_ | refine plan_load_open H0 HS 3 rfl (by simp) rfl (by decide) (by decide) rfl rfl rfl rfl rfl ?_ | refine plan_load_open H0 HS 4 rfl (by simp) rfl (by decide) (by decide) rfl rfl rfl rfl rfl ?_ | refine plan_load_open H0 HS 5 rfl (by simp) rfl (by decide) (by decide) rfl rfl rfl rfl rfl ?_ | refine plan_load_open H0 HS 6 rfl (by simp) rfl (by decide) (by decide) rfl rfl rfl rfl rfl ?_ | refine plan_load_open H0 HS 7 rfl (by simp) rfl (by decide) (by decide) rfl rfl rfl rfl rfl ?_
        (try simp only [Act.put, List.setIfInBounds_toArray, List.set_cons_succ, List.set_cons_zero])
        first | refine plan_load_open H0 HS 0 rfl (by simp) rfl (by decide) (by decide) rfl rfl rfl rfl rfl ?_ | refine plan_load_open H0 HS 1 rfl (by simp) rfl (by decide) (by decide) rfl rfl rfl rfl rfl ?_ | refine plan_load_open H0 HS 2 rfl (by simp) rfl (by decide) (by decide) rfl rfl rfl rfl rfl ?_ | refine plan_load_open H0 HS 3 rfl (by simp) rfl (by decide) (by decide) rfl rfl rfl rfl rfl ?_ | refine plan_load_open H0 HS 4 rfl (by simp) rfl (by decide) (by decide) rfl rfl rfl rfl rfl ?_ | refine plan_load_open H0 HS 5 rfl (by simp) rfl (by decide) (by decide) rfl rfl rfl rfl rfl ?_ | refine plan_load_open H0 HS 6 rfl (by simp) rfl (by decide) (by decide) rfl rfl rfl rfl rfl ?_ | refine plan_load_open H0 HS 7 rfl (by simp) rfl (by decide) (by decide) rfl rfl rfl rfl rfl ?_
        (try simp only [Act.put, List.setIfInBounds_toArray, List.set_cons_succ, List.set_cons_zero])
        first | refine plan_load_open H0 HS 0 rfl (by simp) rfl (by decide) (by decide) rfl rfl rfl rfl rfl ?_ | refine plan_load_open H0 HS 1 rfl (by simp) rfl (by decide) (by decide) rfl rfl rfl rfl rfl ?_ | refine plan_load_open H0 HS 2 rfl (by simp) rfl (by decide) (by decide) rfl rfl rfl rfl rfl ?_ | refine plan_load_open H0 HS 3 rfl (by simp) rfl (by decide) (by decide) rfl rfl rfl rfl rfl ?_ | refine plan_load_open H0 HS 4 rfl (by simp) rfl (by decide) (by decide) rfl rfl rfl rfl rfl ?_ | refine plan_load_open H0 HS 5 rfl (by simp) rfl (by decide) (by decide) rfl rfl rfl rfl rfl ?_ | refine plan_load_open H0 HS 6 rfl (by simp) rfl (by decide) (by decide) rfl rfl rfl rfl rfl ?_ | refine plan_load_open H0 HS 7 rfl (by simp) rfl (by decide) (by decide) rfl rfl rfl rfl rfl ?_
        (try simp only [Act.put, List.setIfInBounds_toArray, List.set_cons_succ, List.set_cons_zero])
        refine plan_op rfl (by decide) rfl (fun K hK => ?_)
        go_simp
        ((with_reducible refine Calls.mono (hM _ ?_) ?_); (focus exact H.out); rintro _ w ⟨rfl, hE⟩; replace HS := HS.trans hE; replace H := H.step hE; clear hE)
        refine hK _ _ (fun _ => HS) ?_
        clear hK K
        (try simp only [Act.put, List.setIfInBounds_toArray, List.set_cons_succ, List.set_cons_zero])
        refine plan_op rfl (by decide) rfl (fun K hK => ?_)
        go_simp
        ((with_reducible refine Calls.mono (hMay _ ?_) ?_); (focus exact H.out); rintro _ w ⟨rfl, hE⟩; replace HS := HS.trans hE; replace H := H.step hE; clear hE)
        refine hK _ _ (fun h => absurd h (by decide)) ?_
        clear hK K
        (try simp only [Act.put, List.setIfInBounds_toArray, List.set_cons_succ, List.set_cons_zero])
        refine plan_pure (v := ?pv19) rfl (by decide) (by decide) rfl ?ph19 ?_
        case ph19 => (intro w; go_simp; try with_reducible rfl)
        (try simp only [Act.put, List.setIfInBounds_toArray, List.set_cons_succ, List.set_cons_zero])
        refine plan_pure (v := ?pv20) rfl (by decide) (by decide) rfl ?ph20 ?_
        case ph20 => (intro w; go_simp; try with_reducible rfl)
        (try simp only [Act.put, List.setIfInBounds_toArray, List.set_cons_succ, List.set_cons_zero])
        refine plan_pure (v := ?pv21) rfl (by decide) (by decide) rfl ?ph21 ?_
        case ph21 => (intro w; go_simp; try with_reducible rfl)
        (try simp only [Act.put, List.setIfInBounds_toArray, List.set_cons_succ, List.set_cons_zero])
        refine plan_op rfl (by decide) rfl (fun K hK => ?_)
        go_simp
        ((with_reducible refine Calls.mono (awake_spec _) ?_); rintro _ w ⟨rfl, hE⟩; replace HS := HS.trans hE; replace H := H.step hE; clear hE)
        refine hK _ _ (fun h => absurd h (by decide)) ?_
        clear hK K
        (try simp only [Act.put, List.setIfInBounds_toArray, List.set_cons_succ, List.set_cons_zero])
        refine plan_pure (v := ?pv22) rfl (by decide) (by decide) rfl ?ph22 ?_
        case ph22 => (intro w; go_simp; try with_reducible rfl)
        (try simp only [Act.put, List.setIfInBounds_toArray, List.set_cons_succ, List.set_cons_zero])
        refine plan_pure (v := ?pv23) rfl (by decide) (by decide) rfl ?ph23 ?_
        case ph23 => (intro w; go_simp; try with_reducible rfl)
        (try simp only [Act.put, List.setIfInBounds_toArray, List.set_cons_succ, List.set_cons_zero])
        refine plan_nil ?_
        clear H0 HS
        go_wp2
        go_ret
        exact ⟨rfl, H.ext⟩
  · obtain rfl := i1.out (by trivial)
    go_enter Try.func7, Try.ntmps7
    go_wp2_with (first | ((with_reducible refine wpl_runx_d 3 rfl ?_ ?_); (focus exact rfl); refine ⟨_, runs_box H rfl rfl, ?_⟩; clear H; rintro _ w ⟨b3, rfl, hE, H⟩; clear hE) | ((with_reducible refine wpl_runx_d 4 rfl ?_ ?_); (focus exact rfl); refine ⟨_, runs_box H rfl rfl, ?_⟩; clear H; rintro _ w ⟨b4, rfl, hE, H⟩; clear hE) | ((with_reducible refine wpl_runx_d 5 rfl ?_ ?_); (focus exact rfl); refine ⟨_, runs_box H rfl rfl, ?_⟩; clear H; rintro _ w ⟨b5, rfl, hE, H⟩; clear hE) | ((with_reducible refine wpl_runx_d 10 rfl ?_ ?_); (focus exact rfl); refine ⟨_, by apply runs_buildSlice H; iterate 10 rfl, ?_⟩; clear H; rintro _ w ⟨b10, rfl, hE, H⟩; clear hE) | ((with_reducible refine wpl_runx ?_ ?_); (focus exact rfl); refine ⟨_, runs_load H 0 rfl rfl rfl rfl rfl, ?_⟩; rintro _ _ ⟨rfl, rfl⟩) | ((with_reducible refine wpl_runx ?_ ?_); (focus exact rfl); refine ⟨_, runs_load H 1 rfl rfl rfl rfl rfl, ?_⟩; rintro _ _ ⟨rfl, rfl⟩) | ((with_reducible refine wpl_runx ?_ ?_); (focus exact rfl); refine ⟨_, runs_load H 2 rfl rfl rfl rfl rfl, ?_⟩; rintro _ _ ⟨rfl, rfl⟩) | ((with_reducible refine wpl_runx ?_ ?_); (focus exact rfl); refine ⟨_, runs_load H 3 rfl rfl rfl rfl rfl, ?_⟩; rintro _ _ ⟨rfl, rfl⟩) | ((with_reducible refine wpl_runx ?_ ?_); (focus exact rfl); refine ⟨_, runs_store H 0 rfl rfl rfl rfl rfl rfl rfl rfl rfl, ?_⟩; clear H; rintro _ w ⟨rfl, hE, H⟩; clear hE) | ((with_reducible refine wpl_runx ?_ ?_); (focus exact rfl); refine ⟨_, runs_store H 1 rfl rfl rfl rfl rfl rfl rfl rfl rfl, ?_⟩; clear H; rintro _ w ⟨rfl, hE, H⟩; clear hE) | ((with_reducible refine wpl_runx ?_ ?_); (focus exact rfl); refine ⟨_, runs_store H 2 rfl rfl rfl rfl rfl rfl rfl rfl rfl, ?_⟩; clear H; rintro _ w ⟨rfl, hE, H⟩; clear hE) | ((with_reducible refine wpl_runx ?_ ?_); (focus exact rfl); refine ⟨_, runs_store H 3 rfl rfl rfl rfl rfl rfl rfl rfl rfl, ?_⟩; clear H; rintro _ w ⟨rfl, hE, H⟩; clear hE) | (replace H := H.sealLit 0 rfl (l := [a, b, c]) (fun M w h => TsR.cons h.1 (TsR.cons h.2.1 (TsR.cons h.2.2 (TsR.nil _ _)))) rfl; refine (hLight _ _ _ H.out.2).mono ?_; rintro _ w ⟨rfl, hE⟩; replace H := (H.step hE).weaken (fun h => h.1) ((AR.stab _ _ _).and ((AR.stab _ _ _).and (AR.stab _ _ _))); clear hE))
    refine wp_region_st H [] [[], [], [0, 1], [], [], [0, 1, 2, 3, 4], [0, 1, 2, 3, 4, 5], [0, 1, 2, 3, 4, 5, 6], [0, 1, 2, 3, 4, 5, 6, 7], [0, 1, 2, 3, 4, 5, 6, 7], [0, 1, 2, 3, 4, 5, 6, 7, 8, 9], [0, 1, 2, 3, 4, 5, 6, 7], [0, 1, 2, 3, 4, 5, 6, 7], [0, 1, 2, 3, 4, 5, 6, 7, 8, 9, 10, 11, 12], [0, 1, 2, 3, 4, 5, 6, 7, 8, 9, 10, 11, 12, 13], [0, 1, 2, 3, 4, 5, 6, 7, 8, 9, 10, 11, 12, 13, 14], [0, 1, 2, 3, 4, 5, 6, 7, 8, 9, 10, 11, 12, 13, 14, 15], [0, 1, 2, 3, 4, 5, 6, 7, 8, 9, 10, 11, 12, 13, 14, 15, 16], [0, 1, 2, 3, 4, 5, 6, 7, 8, 9, 10, 11, 12, 13, 14, 15, 16], [0, 1, 2, 3, 4, 5, 6, 7, 8, 9, 10, 11, 12, 13, 14, 15, 16, 17, 18], [0, 1, 2, 3, 4, 5, 6, 7, 8, 9, 10, 11, 12, 13, 14, 15, 16, 17, 18, 19], [0, 1, 2, 3, 4, 5, 6, 7, 8, 9, 10, 11, 12, 13, 14, 15, 16, 17, 18, 19, 20], [0, 1, 2, 3, 4, 5, 6, 7, 8, 9, 10, 11, 12, 13, 14, 15, 16, 17, 18, 19, 20], [0, 1, 2, 3, 4, 5, 6, 7, 8, 9, 10, 11, 12, 13, 14, 15, 16, 17, 18, 19, 20, 21, 22], [0, 1, 2, 3, 4, 5, 6, 7, 8, 9, 10, 11, 12, 13, 14, 15, 16, 17, 18, 19, 20, 21, 22, 23], [0, 1, 2, 3, 4, 5, 6, 7, 8, 9, 10, 11, 12, 13, 14, 15, 16, 17, 18, 19, 20, 21, 22, 23, 24], [0, 1, 2, 3, 4, 5, 6, 7, 8, 9, 10, 11, 12, 13, 14, 15, 16, 17, 18, 19, 20, 21, 22, 23, 24, 25]] [0, 1, 3, 4, 8, 9, 11, 12, 17, 18, 21, 22] [0, 1, 3, 4, 6, 7, 8, 9, 11, 12, 14, 15, 16, 17, 18, 20, 21, 22, 24, 25, 26] [0, 1, 3, 4, 2, 5, 6, 7, 8, 9, 11, 12, 10, 13, 14, 15, 16, 17, 18, 19, 20, 21, 22, 23, 24, 25, 26] (by kernel_rfl) (by kernel_rfl) (fun d v c a w h => by cases d <;> exact h) ?_
    clear H
    intro w H
    have HS := Ext.refl [] w
    have H0 := H
    first | refine plan_load_open H0 HS 0 rfl (by simp) rfl (by decide) (by decide) rfl rfl rfl rfl rfl ?_ | refine plan_load_open H0 HS 1 rfl (by simp) rfl (by decide) (by decide) rfl rfl rfl rfl rfl ?_ | refine plan_load_open H0 HS 2 rfl (by simp) rfl (by decide) (by decide) rfl rfl rfl rfl rfl ?_ | refine plan_load_open H0 HS 3 rfl (by simp) rfl (by decide) (by decide) rfl rfl rfl rfl rfl ?_ | refine plan_load_open H0 HS 4 rfl (by simp) rfl (by decide) (by decide) rfl rfl rfl rfl rfl ?_ | refine plan_load_open H0 HS 5 rfl (by simp) rfl (by decide) (by decide) rfl rfl rfl rfl rfl ?_ | refine plan_load_open H0 HS 6 rfl (by simp) rfl (by decide) (by decide) rfl rfl rfl rfl rfl ?_ | refine plan_load_open H0 HS 7 rfl (by simp) rfl (by decide) (by decide) rfl rfl rfl rfl rfl ?_
    (try simp only [Act.put, List.setIfInBounds_toArray, List.set_cons_succ, List.set_cons_zero])
    first | refine plan_load_open H0 HS 0 rfl (by simp) rfl (by decide) (by decide) rfl rfl rfl rfl rfl ?_ | refine plan_load_open H0 HS 1 rfl (by simp) rfl (by decide) (by decide) rfl rfl rfl rfl rfl ?_ | refine plan_load_open H0 HS 2 rfl (by simp) rfl (by decide) (by decide) rfl rfl rfl rfl rfl ?_ | refine plan_load_open H0 HS 3 rfl (by simp) rfl (by decide) (by decide) rfl rfl rfl rfl rfl ?_ | refine plan_load_open H0 HS 4 rfl (by simp) rfl (by decide) (by decide) rfl rfl rfl rfl rfl ?_ | refine plan_load_open H0 HS 5 rfl (by simp) rfl (by decide) (by decide) rfl rfl rfl rfl rfl ?_ | refine plan_load_open H0 HS 6 rfl (by simp) rfl (by decide) (by decide) rfl rfl rfl rfl rfl ?_ | refine plan_load_open H0 HS 7 rfl (by simp) rfl (by decide) (by decide) rfl rfl rfl rfl rfl ?_
    (try simp only [Act.put, List.setIfInBounds_toArray, List.set_cons_succ, List.set_cons_zero])
    first | refine plan_load_open H0 HS 0 rfl (by simp) rfl (by decide) (by decide) rfl rfl rfl rfl rfl ?_ | refine plan_load_open H0 HS 1 rfl (by simp) rfl (by decide) (by decide) rfl rfl rfl rfl rfl ?_ | refine plan_load_open H0 HS 2 rfl (by simp) rfl (by decide) (by decide) rfl rfl rfl rfl rfl ?_ | refine plan_load_open H0 HS 3 rfl (by simp) rfl (by decide) (by decide) rfl rfl rfl rfl rfl ?_ | refine plan_load_open H0 HS 4 rfl (by simp) rfl (by decide) (by decide) rfl rfl rfl rfl rfl ?_ | refine plan_load_open H0 HS 5 rfl (by simp) rfl (by decide) (by decide) rfl rfl rfl rfl rfl ?_ | refine plan_load_open H0 HS 6 rfl (by simp) rfl (by decide) (by decide) rfl rfl rfl rfl rfl ?_ | refine plan_load_open H0 HS 7 rfl (by simp) rfl (by decide) (by decide) rfl rfl rfl rfl rfl ?_
    (try simp only [Act.put, List.setIfInBounds_toArray, List.set_cons_succ, List.set_cons_zero])
    first | refine plan_load_open H0 HS 0 rfl (by simp) rfl (by decide) (by decide) rfl rfl rfl rfl rfl ?_ | refine plan_load_open H0 HS 1 rfl (by simp) rfl (by decide) (by decide) rfl rfl rfl rfl rfl ?_ | refine plan_load_open H0 HS 2 rfl (by simp) rfl (by decide) (by decide) rfl rfl rfl rfl rfl ?_ | refine plan_load_open H0 HS 3 rfl (by simp) rfl (by decide) (by decide) rfl rfl rfl rfl rfl ?_ | refine plan_load_open H0 HS 4 rfl (by simp) rfl (by decide) (by decide) rfl rfl rfl rfl rfl ?_ | refine plan_load_open H0 HS 5 rfl (by simp) rfl (by decide) (by decide) rfl rfl rfl rfl rfl ?_ | refine plan_load_open H0 HS 6 rfl (by simp) rfl (by decide) (by decide) rfl rfl rfl rfl rfl ?_ | refine plan_load_open H0 HS 7 rfl (by simp) rfl (by decide) (by decide) rfl rfl rfl rfl rfl ?_
    (try simp only [Act.put, List.setIfInBounds_toArray, List.set_cons_succ, List.set_cons_zero])
    refine plan_op rfl (by decide) rfl (fun K hK => ?_)
    go_simp
    ((with_reducible refine Calls.mono (hS1 _ ?_) ?_); (focus exact H.out); rintro _ w ⟨rfl, hE⟩; replace HS := HS.trans hE; replace H := H.step hE; clear hE)
    refine hK _ _ (fun _ => HS) ?_
    clear hK K
    (try simp only [Act.put, List.setIfInBounds_toArray, List.set_cons_succ, List.set_cons_zero])
    refine plan_op rfl (by decide) rfl (fun K hK => ?_)
    go_simp
    ((with_reducible refine Calls.mono (hS1' _ ?_) ?_); (focus exact H.out); rintro _ w ⟨rfl, hE⟩; replace HS := HS.trans hE; replace H := H.step hE; clear hE)
    refine hK _ _ (fun _ => HS) ?_
    clear hK K
    (try simp only [Act.put, List.setIfInBounds_toArray, List.set_cons_succ, List.set_cons_zero])
    refine plan_pure (v := ?pv24) rfl (by decide) (by decide) rfl ?ph24 ?_
    case ph24 => (intro w; go_simp; try with_reducible rfl)
    (try simp only [Act.put, List.setIfInBounds_toArray, List.set_cons_succ, List.set_cons_zero])
    refine plan_pure (v := ?pv25) rfl (by decide) (by decide) rfl ?ph25 ?_
    case ph25 => (intro w; go_simp; try with_reducible rfl)
    (try simp only [Act.put, List.setIfInBounds_toArray, List.set_cons_succ, List.set_cons_zero])
    first | refine plan_load_open H0 HS 0 rfl (by simp) rfl (by decide) (by decide) rfl rfl rfl rfl rfl ?_ | refine plan_load_open H0 HS 1 rfl (by simp) rfl (by decide) (by decide) rfl rfl rfl rfl rfl ?_ | refine plan_load_open H0 HS 2 rfl (by simp) rfl (by decide) (by decide) rfl rfl rfl rfl rfl ?_ | refine plan_load_open H0 HS 3 rfl (by simp) rfl (by decide) (by decide) rfl rfl rfl rfl rfl ?_ | refine plan_load_open H0 HS 4 rfl (by simp) rfl (by decide) (by decide) rfl rfl rfl rfl rfl ?_ | refine plan_load_open H0 HS 5 rfl (by simp) rfl (by decide) (by decide) rfl rfl rfl rfl rfl ?_ | refine plan_load_open H0 HS 6 rfl (by simp) rfl (by decide) (by decide) rfl rfl rfl rfl rfl ?_ | refine plan_load_open H0 HS 7 rfl (by simp) rfl (by decide) (by decide) rfl rfl rfl rfl rfl ?_
    (try simp only [Act.put, List.setIfInBounds_toArray, List.set_cons_succ, List.set_cons_zero])
    first | refine plan_load_open H0 HS 0 rfl (by simp) rfl (by decide) (by decide) rfl rfl rfl rfl rfl ?_ | refine plan_load_open H0 HS 1 rfl (by simp) rfl (by decide) (by decide) rfl rfl rfl rfl rfl ?_ | refine plan_load_open H0 HS 2 rfl (by simp) rfl (by decide) (by decide) rfl rfl rfl rfl rfl ?_ | refine plan_load_open H0 HS 3 rfl (by simp) rfl (by decide) (by decide) rfl rfl rfl rfl rfl ?_ | refine plan_load_open H0 HS 4 rfl (by simp) rfl (by decide) (by decide) rfl rfl rfl rfl rfl ?_ | refine plan_load_open H0 HS 5 rfl (by simp) rfl (by decide) (by decide) rfl rfl rfl rfl rfl ?_ | refine plan_load_open H0 HS 6 rfl (by simp) rfl (by decide) (by decide) rfl rfl rfl rfl rfl ?_ | refine plan_load_open H0 HS 7 rfl (by simp) rfl (by decide) (by decide) rfl rfl rfl rfl rfl ?_
    (try simp only [Act.put, List.setIfInBounds_toArray, List.set_cons_succ, List.set_cons_zero])
    first | refine plan_load_open H0 HS 0 rfl (by simp) rfl (by decide) (by decide) rfl rfl rfl rfl rfl ?_ | refine plan_load_open H0 HS 1 rfl (by simp) rfl (by decide) (by decide) rfl rfl rfl rfl rfl ?_ | refine plan_load_open H0 HS 2 rfl (by simp) rfl (by decide) (by decide) rfl rfl rfl rfl rfl ?_ | refine plan_load_open H0 HS 3 rfl (by simp) rfl (by decide) (by decide) rfl rfl rfl rfl rfl ?_ | refine plan_load_open H0 HS 4 rfl (by simp) rfl (by decide) (by decide) rfl rfl rfl rfl rfl ?_ | refine plan_load_open H0 HS 5 rfl (by simp) rfl (by decide) (by decide) rfl rfl rfl rfl rfl ?_ | refine plan_load_open H0 HS 6 rfl (by simp) rfl (by decide) (by decide) rfl rfl rfl rfl rfl ?_ | refine plan_load_open H0 HS 7 rfl (by simp) rfl (by decide) (by decide) rfl rfl rfl rfl rfl ?_
    (try simp only [Act.put, List.setIfInBounds_toArray, List.set_cons_succ, List.set_cons_zero])
    first | refine plan_load_open H0 HS 0 rfl (by simp) rfl (by decide) (by decide) rfl rfl rfl rfl rfl ?_ | refine plan_load_open H0 HS 1 rfl (by simp) rfl (by decide) (by decide) rfl rfl rfl rfl rfl ?_ | refine plan_load_open H0 HS 2 rfl (by simp) rfl (by decide) (by decide) rfl rfl rfl rfl rfl ?_ | refine plan_load_open H0 HS 3 rfl (by simp) rfl (by decide) (by decide) rfl rfl rfl rfl rfl ?_ | refine plan_load_open H0 HS 4 rfl (by simp) rfl (by decide) (by decide) rfl rfl rfl rfl rfl ?_ | refine plan_load_open H0 HS 5 rfl (by simp) rfl (by decide) (by decide) rfl rfl rfl rfl rfl ?_ | refine plan_load_open H0 HS 6 rfl (by simp) rfl (by decide) (by decide) rfl rfl rfl rfl rfl ?_ | refine plan_load_open H0 HS 7 rfl (by simp) rfl (by decide) (by decide) rfl rfl rfl rfl rfl ?_
    (try simp only [Act.put, List.setIfInBounds_toArray, List.set_cons_succ, List.set_cons_zero])
    refine plan_op rfl (by decide) rfl (fun K hK => ?_)
    go_simp
    ((with_reducible refine Calls.mono (hV1 _ ?_) ?_); (focus exact H.out); rintro _ w ⟨rfl, hE⟩; replace HS := HS.trans hE; replace H := H.step hE; clear hE)
    refine hK _ _ (fun _ => HS) ?_
    clear hK K
    (try simp only [Act.put, List.setIfInBounds_toArray, List.set_cons_succ, List.set_cons_zero])
    refine plan_op rfl (by decide) rfl (fun K hK => ?_)
    go_simp
    ((with_reducible refine Calls.mono (hV1' _ ?_) ?_); (focus exact H.out); rintro _ w ⟨rfl, hE⟩; replace HS := HS.trans hE; replace H := H.step hE; clear hE)
    refine hK _ _ (fun _ => HS) ?_
    clear hK K
    (try simp only [Act.put, List.setIfInBounds_toArray, List.set_cons_succ, List.set_cons_zero])
    refine plan_pure (v := ?pv26) rfl (by decide) (by decide) rfl ?ph26 ?_
    case ph26 => (intro w; go_simp; try with_reducible rfl)
    (try simp only [Act.put, List.setIfInBounds_toArray, List.set_cons_succ, List.set_cons_zero])
    refine plan_pure (v := ?pv27) rfl (by decide) (by decide) rfl ?ph27 ?_
    case ph27 => (intro w; go_simp; try with_reducible rfl)
    (try simp only [Act.put, List.setIfInBounds_toArray, List.set_cons_succ, List.set_cons_zero])
    refine plan_pure (v := ?pv28) rfl (by decide) (by decide) rfl ?ph28 ?_
    case ph28 => (intro w; go_simp; try with_reducible rfl)
    (try simp only [Act.put, List.setIfInBounds_toArray, List.set_cons_succ, List.set_cons_zero])
    first | refine plan_load_open H0 HS 0 rfl (by simp) rfl (by decide) (by decide) rfl rfl rfl rfl rfl ?_ | refine plan_load_open H0 HS 1 rfl (by simp) rfl (by decide) (by decide) rfl rfl rfl rfl rfl ?_ | refine plan_load_open H0 HS 2 rfl (by simp) rfl (by decide) (by decide) rfl rfl rfl rfl rfl ?_ | refine plan_load_open H0 HS 3 rfl (by simp) rfl (by decide) (by decide) rfl rfl rfl rfl rfl ?_ | refine plan_load_open H0 HS 4 rfl (by simp) rfl (by decide) (by decide) rfl rfl rfl rfl rfl ?_ | refine plan_load_open H0 HS 5 rfl (by simp) rfl (by decide) (by decide) rfl rfl rfl rfl rfl ?_ | refine plan_load_open H0 HS 6 rfl (by simp) rfl (by decide) (by decide) rfl rfl rfl rfl rfl ?_ | refine plan_load_open H0 HS 7 rfl (by simp) rfl (by decide) (by decide) rfl rfl rfl rfl rfl ?_
    (try simp only [Act.put, List.setIfInBounds_toArray, List.set_cons_succ, List.set_cons_zero])
    first | refine plan_load_open H0 HS 0 rfl (by simp) rfl (by decide) (by decide) rfl rfl rfl rfl rfl ?_ | refine plan_load_open H0 HS 1 rfl (by simp) rfl (by decide) (by decide) rfl rfl rfl rfl rfl ?_ | refine plan_load_open H0 HS 2 rfl (by simp) rfl (by decide) (by decide) rfl rfl rfl rfl rfl ?_ | refine plan_load_open H0 HS 3 rfl (by simp) rfl (by decide) (by decide) rfl rfl rfl rfl rfl ?_ | refine plan_load_open H0 HS 4 rfl (by simp) rfl (by decide) (by decide) rfl rfl rfl rfl rfl ?_ | refine plan_load_open H0 HS 5 rfl (by simp) rfl (by decide) (by decide) rfl rfl rfl rfl rfl ?_ | refine plan_load_open H0 HS 6 rfl (by simp) rfl (by decide) (by decide) rfl rfl rfl rfl rfl ?_ | refine plan_load_open H0 HS 7 rfl (by simp) rfl (by decide) (by decide) rfl rfl rfl rfl rfl ?_
    (try simp only [Act.put, List.setIfInBounds_toArray, List.set_cons_succ, List.set_cons_zero])
    refine plan_op rfl (by decide) rfl (fun K hK => ?_)
    go_simp
    ((with_reducible refine Calls.mono (hS1 _ ?_) ?_); (focus exact H.out); rintro _ w ⟨rfl, hE⟩; replace HS := HS.trans hE; replace H := H.step hE; clear hE)
    refine hK _ _ (fun _ => HS) ?_
    clear hK K
    (try simp only [Act.put, List.setIfInBounds_toArray, List.set_cons_succ, List.set_cons_zero])
    refine plan_pure (v := ?pv29) rfl (by decide) (by decide) rfl ?ph29 ?_
    case ph29 => (intro w; go_simp; try with_reducible rfl)
    (try simp only [Act.put, List.setIfInBounds_toArray, List.set_cons_succ, List.set_cons_zero])
    first | refine plan_load_open H0 HS 0 rfl (by simp) rfl (by decide) (by decide) rfl rfl rfl rfl rfl ?_ | refine plan_load_open H0 HS 1 rfl (by simp) rfl (by decide) (by decide) rfl rfl rfl rfl rfl ?_ | refine plan_load_open H0 HS 2 rfl (by simp) rfl (by decide) (by decide) rfl rfl rfl rfl rfl ?_ | refine plan_load_open H0 HS 3 rfl (by simp) rfl (by decide) (by decide) rfl rfl rfl rfl rfl ?_ | refine plan_load_open H0 HS 4 rfl (by simp) rfl (by decide) (by decide) rfl rfl rfl rfl rfl ?_ | refine plan_load_open H0 HS 5 rfl (by simp) rfl (by decide) (by decide) rfl rfl rfl rfl rfl ?_ | refine plan_load_open H0 HS 6 rfl (by simp) rfl (by decide) (by decide) rfl rfl rfl rfl rfl ?_ | refine plan_load_open H0 HS 7 rfl (by simp) rfl (by decide) (by decide) rfl rfl rfl rfl rfl ?_
    (try simp only [Act.put, List.setIfInBounds_toArray, List.set_cons_succ, List.set_cons_zero])
    first | refine plan_load_open H0 HS 0 rfl (by simp) rfl (by decide) (by decide) rfl rfl rfl rfl rfl ?_ | refine plan_load_open H0 HS 1 rfl (by simp) rfl (by decide) (by decide) rfl rfl rfl rfl rfl ?_ | refine plan_load_open H0 HS 2 rfl (by simp) rfl (by decide) (by decide) rfl rfl rfl rfl rfl ?_ | refine plan_load_open H0 HS 3 rfl (by simp) rfl (by decide) (by decide) rfl rfl rfl rfl rfl ?_ | refine plan_load_open H0 HS 4 rfl (by simp) rfl (by decide) (by decide) rfl rfl rfl rfl rfl ?_ | refine plan_load_open H0 HS 5 rfl (by simp) rfl (by decide) (by decide) rfl rfl rfl rfl rfl ?_ | refine plan_load_open H0 HS 6 rfl (by simp) rfl (by decide) (by decide) rfl rfl rfl rfl rfl ?_ | refine plan_load_open H0 HS 7 rfl (by simp) rfl (by decide) (by decide) rfl rfl rfl rfl rfl ?_
    (try simp only [Act.put, List.setIfInBounds_toArray, List.set_cons_succ, List.set_cons_zero])
    refine plan_op rfl (by decide) rfl (fun K hK => ?_)
    go_simp
    ((with_reducible refine Calls.mono (hV1 _ ?_) ?_); (focus exact H.out); rintro _ w ⟨rfl, hE⟩; replace HS := HS.trans hE; replace H := H.step hE; clear hE)
    refine hK _ _ (fun h => absurd h (by decide)) ?_
    clear hK K
    (try simp only [Act.put, List.setIfInBounds_toArray, List.set_cons_succ, List.set_cons_zero])
    refine plan_pure (v := ?pv30) rfl (by decide) (by decide) rfl ?ph30 ?_
    case ph30 => (intro w; go_simp; try with_reducible rfl)
    (try simp only [Act.put, List.setIfInBounds_toArray, List.set_cons_succ, List.set_cons_zero])
    refine plan_pure (v := ?pv31) rfl (by decide) (by decide) rfl ?ph31 ?_
    case ph31 => (intro w; go_simp; try with_reducible rfl)
    (try simp only [Act.put, List.setIfInBounds_toArray, List.set_cons_succ, List.set_cons_zero])
    refine plan_pure (v := ?pv32) rfl (by decide) (by decide) rfl ?ph32 ?_
    case ph32 => (intro w; go_simp; try with_reducible rfl)
    (try simp only [Act.put, List.setIfInBounds_toArray, List.set_cons_succ, List.set_cons_zero])
    refine plan_nil ?_
    clear H0 HS
    cases s2
    · skip
      cases v2
      · skip
        go_wp2_with (first | ((with_reducible refine wpl_runx_d 3 rfl ?_ ?_); (focus exact rfl); refine ⟨_, runs_box H rfl rfl, ?_⟩; clear H; rintro _ w ⟨b3, rfl, hE, H⟩; clear hE) | ((with_reducible refine wpl_runx_d 4 rfl ?_ ?_); (focus exact rfl); refine ⟨_, runs_box H rfl rfl, ?_⟩; clear H; rintro _ w ⟨b4, rfl, hE, H⟩; clear hE) | ((with_reducible refine wpl_runx_d 5 rfl ?_ ?_); (focus exact rfl); refine ⟨_, runs_box H rfl rfl, ?_⟩; clear H; rintro _ w ⟨b5, rfl, hE, H⟩; clear hE) | ((with_reducible refine wpl_runx_d 10 rfl ?_ ?_); (focus exact rfl); refine ⟨_, by apply runs_buildSlice H; iterate 10 rfl, ?_⟩; clear H; rintro _ w ⟨b10, rfl, hE, H⟩; clear hE) | ((with_reducible refine wpl_runx ?_ ?_); (focus exact rfl); refine ⟨_, runs_load H 0 rfl rfl rfl rfl rfl, ?_⟩; rintro _ _ ⟨rfl, rfl⟩) | ((with_reducible refine wpl_runx ?_ ?_); (focus exact rfl); refine ⟨_, runs_load H 1 rfl rfl rfl rfl rfl, ?_⟩; rintro _ _ ⟨rfl, rfl⟩) | ((with_reducible refine wpl_runx ?_ ?_); (focus exact rfl); refine ⟨_, runs_load H 2 rfl rfl rfl rfl rfl, ?_⟩; rintro _ _ ⟨rfl, rfl⟩) | ((with_reducible refine wpl_runx ?_ ?_); (focus exact rfl); refine ⟨_, runs_load H 3 rfl rfl rfl rfl rfl, ?_⟩; rintro _ _ ⟨rfl, rfl⟩) | ((with_reducible refine wpl_runx ?_ ?_); (focus exact rfl); refine ⟨_, runs_store H 0 rfl rfl rfl rfl rfl rfl rfl rfl rfl, ?_⟩; clear H; rintro _ w ⟨rfl, hE, H⟩; clear hE) | ((with_reducible refine wpl_runx ?_ ?_); (focus exact rfl); refine ⟨_, runs_store H 1 rfl rfl rfl rfl rfl rfl rfl rfl rfl, ?_⟩; clear H; rintro _ w ⟨rfl, hE, H⟩; clear hE) | ((with_reducible refine wpl_runx ?_ ?_); (focus exact rfl); refine ⟨_, runs_store H 2 rfl rfl rfl rfl rfl rfl rfl rfl rfl, ?_⟩; clear H; rintro _ w ⟨rfl, hE, H⟩; clear hE) | ((with_reducible refine wpl_runx ?_ ?_); (focus exact rfl); refine ⟨_, runs_store H 3 rfl rfl rfl rfl rfl rfl rfl rfl rfl, ?_⟩; clear H; rintro _ w ⟨rfl, hE, H⟩; clear hE) | ((with_reducible refine Calls.mono (hS1 _ ?_) ?_); (focus exact H.out); rintro _ w ⟨rfl, hE⟩; replace H := H.step hE; clear hE) | ((with_reducible refine Calls.mono (hS2 _ ?_) ?_); (focus exact H.out); rintro _ w ⟨rfl, hE⟩; replace H := H.step hE; clear hE) | ((with_reducible refine Calls.mono (hS3 _ ?_) ?_); (focus exact H.out); rintro _ w ⟨rfl, hE⟩; replace H := H.step hE; clear hE) | ((with_reducible refine Calls.mono (hV1 _ ?_) ?_); (focus exact H.out); rintro _ w ⟨rfl, hE⟩; replace H := H.step hE; clear hE) | ((with_reducible refine Calls.mono (hV2 _ ?_) ?_); (focus exact H.out); rintro _ w ⟨rfl, hE⟩; replace H := H.step hE; clear hE) | ((with_reducible refine Calls.mono (hV3 _ ?_) ?_); (focus exact H.out); rintro _ w ⟨rfl, hE⟩; replace H := H.step hE; clear hE))
        refine wp_region_st H [] [[], [], [0, 1], [], [0, 1, 2, 3], [0, 1, 2, 3, 4], [0, 1, 2, 3, 4, 5], [0, 1, 2, 3, 4, 5, 6], [0, 1, 2, 3, 4, 5, 6, 7], [0, 1, 2, 3, 4, 5, 6, 7, 8], [0, 1, 2, 3, 4, 5, 6, 7, 8, 9]] [0, 1, 3] [0, 1, 3, 5, 6, 7, 9, 10] [0, 1, 3, 2, 4, 5, 6, 7, 8, 9, 10] (by kernel_rfl) (by kernel_rfl) (fun d v c a w h => by cases d <;> exact h) ?_
        clear H
        intro w H
        have HS := Ext.refl [] w
        have H0 := H
        first | refine plan_load_open H0 HS 0 rfl (by simp) rfl (by decide) (by decide) rfl rfl rfl rfl rfl ?_ | refine plan_load_open H0 HS 1 rfl (by simp) rfl (by decide) (by decide) rfl rfl rfl rfl rfl ?_ | refine plan_load_open H0 HS 2 rfl (by simp) rfl (by decide) (by decide) rfl rfl rfl rfl rfl ?_ | refine plan_load_open H0 HS 3 rfl (by simp) rfl (by decide) (by decide) rfl rfl rfl rfl rfl ?_ | refine plan_load_open H0 HS 4 rfl (by simp) rfl (by decide) (by decide) rfl rfl rfl rfl rfl ?_ | refine plan_load_open H0 HS 5 rfl (by simp) rfl (by decide) (by decide) rfl rfl rfl rfl rfl ?_ | refine plan_load_open H0 HS 6 rfl (by simp) rfl (by decide) (by decide) rfl rfl rfl rfl rfl ?_ | refine plan_load_open H0 HS 7 rfl (by simp) rfl (by decide) (by decide) rfl rfl rfl rfl rfl ?_
        (try simp only [Act.put, List.setIfInBounds_toArray, List.set_cons_succ, List.set_cons_zero])
        first | refine plan_load_open H0 HS 0 rfl (by simp) rfl (by decide) (by decide) rfl rfl rfl rfl rfl ?_ | refine plan_load_open H0 HS 1 rfl (by simp) rfl (by decide) (by decide) rfl rfl rfl rfl rfl ?_ | refine plan_load_open H0 HS 2 rfl (by simp) rfl (by decide) (by decide) rfl rfl rfl rfl rfl ?_ | refine plan_load_open H0 HS 3 rfl (by simp) rfl (by decide) (by decide) rfl rfl rfl rfl rfl ?_ | refine plan_load_open H0 HS 4 rfl (by simp) rfl (by decide) (by decide) rfl rfl rfl rfl rfl ?_ | refine plan_load_open H0 HS 5 rfl (by simp) rfl (by decide) (by decide) rfl rfl rfl rfl rfl ?_ | refine plan_load_open H0 HS 6 rfl (by simp) rfl (by decide) (by decide) rfl rfl rfl rfl rfl ?_ | refine plan_load_open H0 HS 7 rfl (by simp) rfl (by decide) (by decide) rfl rfl rfl rfl rfl ?_
        (try simp only [Act.put, List.setIfInBounds_toArray, List.set_cons_succ, List.set_cons_zero])
        first | refine plan_load_open H0 HS 0 rfl (by simp) rfl (by decide) (by decide) rfl rfl rfl rfl rfl ?_ | refine plan_load_open H0 HS 1 rfl (by simp) rfl (by decide) (by decide) rfl rfl rfl rfl rfl ?_ | refine plan_load_open H0 HS 2 rfl (by simp) rfl (by decide) (by decide) rfl rfl rfl rfl rfl ?_ | refine plan_load_open H0 HS 3 rfl (by simp) rfl (by decide) (by decide) rfl rfl rfl rfl rfl ?_ | refine plan_load_open H0 HS 4 rfl (by simp) rfl (by decide) (by decide) rfl rfl rfl rfl rfl ?_ | refine plan_load_open H0 HS 5 rfl (by simp) rfl (by decide) (by decide) rfl rfl rfl rfl rfl ?_ | refine plan_load_open H0 HS 6 rfl (by simp) rfl (by decide) (by decide) rfl rfl rfl rfl rfl ?_ | refine plan_load_open H0 HS 7 rfl (by simp) rfl (by decide) (by decide) rfl rfl rfl rfl rfl ?_
        (try simp only [Act.put, List.setIfInBounds_toArray, List.set_cons_succ, List.set_cons_zero])
        refine plan_op rfl (by decide) rfl (fun K hK => ?_)
        go_simp
        ((with_reducible refine Calls.mono (hM _ ?_) ?_); (focus exact H.out); rintro _ w ⟨rfl, hE⟩; replace HS := HS.trans hE; replace H := H.step hE; clear hE)
        refine hK _ _ (fun _ => HS) ?_
        clear hK K
        (try simp only [Act.put, List.setIfInBounds_toArray, List.set_cons_succ, List.set_cons_zero])
        refine plan_op rfl (by decide) rfl (fun K hK => ?_)
        go_simp
        ((with_reducible refine Calls.mono (hMay _ ?_) ?_); (focus exact H.out); rintro _ w ⟨rfl, hE⟩; replace HS := HS.trans hE; replace H := H.step hE; clear hE)
        refine hK _ _ (fun h => absurd h (by decide)) ?_
        clear hK K
        (try simp only [Act.put, List.setIfInBounds_toArray, List.set_cons_succ, List.set_cons_zero])
        refine plan_pure (v := ?pv33) rfl (by decide) (by decide) rfl ?ph33 ?_
        case ph33 => (intro w; go_simp; try with_reducible rfl)
        (try simp only [Act.put, List.setIfInBounds_toArray, List.set_cons_succ, List.set_cons_zero])
        refine plan_pure (v := ?pv34) rfl (by decide) (by decide) rfl ?ph34 ?_
        case ph34 => (intro w; go_simp; try with_reducible rfl)
        (try simp only [Act.put, List.setIfInBounds_toArray, List.set_cons_succ, List.set_cons_zero])
        refine plan_pure (v := ?pv35) rfl (by decide) (by decide) rfl ?ph35 ?_
        case ph35 => (intro w; go_simp; try with_reducible rfl)
        (try simp only [Act.put, List.setIfInBounds_toArray, List.set_cons_succ, List.set_cons_zero])
        refine plan_op rfl (by decide) rfl (fun K hK => ?_)
        go_simp
        ((with_reducible refine Calls.mono (awake_spec _) ?_); rintro _ w ⟨rfl, hE⟩; replace HS := HS.trans hE; replace H := H.step hE; clear hE)
        refine hK _ _ (fun h => absurd h (by decide)) ?_
        clear hK K
        (try simp only [Act.put, List.setIfInBounds_toArray, List.set_cons_succ, List.set_cons_zero])
        refine plan_pure (v := ?pv36) rfl (by decide) (by decide) rfl ?ph36 ?_
        case ph36 => (intro w; go_simp; try with_reducible rfl)
        (try simp only [Act.put, List.setIfInBounds_toArray, List.set_cons_succ, List.set_cons_zero])
        refine plan_pure (v := ?pv37) rfl (by decide) (by decide) rfl ?ph37 ?_
        case ph37 => (intro w; go_simp; try with_reducible rfl)
        (try simp only [Act.put, List.setIfInBounds_toArray, List.set_cons_succ, List.set_cons_zero])
        refine plan_nil ?_
        clear H0 HS
        go_wp2
        go_ret
        exact ⟨rfl, H.ext⟩
      · obtain rfl := i3.out (by trivial) (by trivial)
        go_wp2_with (first | ((with_reducible refine wpl_runx_d 3 rfl ?_ ?_); (focus exact rfl); refine ⟨_, runs_box H rfl rfl, ?_⟩; clear H; rintro _ w ⟨b3, rfl, hE, H⟩; clear hE) | ((with_reducible refine wpl_runx_d 4 rfl ?_ ?_); (focus exact rfl); refine ⟨_, runs_box H rfl rfl, ?_⟩; clear H; rintro _ w ⟨b4, rfl, hE, H⟩; clear hE) | ((with_reducible refine wpl_runx_d 5 rfl ?_ ?_); (focus exact rfl); refine ⟨_, runs_box H rfl rfl, ?_⟩; clear H; rintro _ w ⟨b5, rfl, hE, H⟩; clear hE) | ((with_reducible refine wpl_runx_d 10 rfl ?_ ?_); (focus exact rfl); refine ⟨_, by apply runs_buildSlice H; iterate 10 rfl, ?_⟩; clear H; rintro _ w ⟨b10, rfl, hE, H⟩; clear hE) | ((with_reducible refine wpl_runx ?_ ?_); (focus exact rfl); refine ⟨_, runs_load H 0 rfl rfl rfl rfl rfl, ?_⟩; rintro _ _ ⟨rfl, rfl⟩) | ((with_reducible refine wpl_runx ?_ ?_); (focus exact rfl); refine ⟨_, runs_load H 1 rfl rfl rfl rfl rfl, ?_⟩; rintro _ _ ⟨rfl, rfl⟩) | ((with_reducible refine wpl_runx ?_ ?_); (focus exact rfl); refine ⟨_, runs_load H 2 rfl rfl rfl rfl rfl, ?_⟩; rintro _ _ ⟨rfl, rfl⟩) | ((with_reducible refine wpl_runx ?_ ?_); (focus exact rfl); refine ⟨_, runs_load H 3 rfl rfl rfl rfl rfl, ?_⟩; rintro _ _ ⟨rfl, rfl⟩) | ((with_reducible refine wpl_runx ?_ ?_); (focus exact rfl); refine ⟨_, runs_store H 0 rfl rfl rfl rfl rfl rfl rfl rfl rfl, ?_⟩; clear H; rintro _ w ⟨rfl, hE, H⟩; clear hE) | ((with_reducible refine wpl_runx ?_ ?_); (focus exact rfl); refine ⟨_, runs_store H 1 rfl rfl rfl rfl rfl rfl rfl rfl rfl, ?_⟩; clear H; rintro _ w ⟨rfl, hE, H⟩; clear hE) | ((with_reducible refine wpl_runx ?_ ?_); (focus exact rfl); refine ⟨_, runs_store H 2 rfl rfl rfl rfl rfl rfl rfl rfl rfl, ?_⟩; clear H; rintro _ w ⟨rfl, hE, H⟩; clear hE) | ((with_reducible refine wpl_runx ?_ ?_); (focus exact rfl); refine ⟨_, runs_store H 3 rfl rfl rfl rfl rfl rfl rfl rfl rfl, ?_⟩; clear H; rintro _ w ⟨rfl, hE, H⟩; clear hE) | ((with_reducible refine Calls.mono (hS1 _ ?_) ?_); (focus exact H.out); rintro _ w ⟨rfl, hE⟩; replace H := H.step hE; clear hE) | ((with_reducible refine Calls.mono (hS2 _ ?_) ?_); (focus exact H.out); rintro _ w ⟨rfl, hE⟩; replace H := H.step hE; clear hE) | ((with_reducible refine Calls.mono (hS3 _ ?_) ?_); (focus exact H.out); rintro _ w ⟨rfl, hE⟩; replace H := H.step hE; clear hE) | ((with_reducible refine Calls.mono (hV1 _ ?_) ?_); (focus exact H.out); rintro _ w ⟨rfl, hE⟩; replace H := H.step hE; clear hE) | ((with_reducible refine Calls.mono (hV2 _ ?_) ?_); (focus exact H.out); rintro _ w ⟨rfl, hE⟩; replace H := H.step hE; clear hE) | ((with_reducible refine Calls.mono (hV3 _ ?_) ?_); (focus exact H.out); rintro _ w ⟨rfl, hE⟩; replace H := H.step hE; clear hE))
        refine wp_region_st H [] [[], [], [0, 1], [], [0, 1, 2, 3], [0, 1, 2, 3, 4], [0, 1, 2, 3, 4, 5], [0, 1, 2, 3, 4, 5, 6], [0, 1, 2, 3, 4, 5, 6, 7], [0, 1, 2, 3, 4, 5, 6, 7, 8], [0, 1, 2, 3, 4, 5, 6, 7, 8, 9]] [0, 1, 3] [0, 1, 3, 5, 6, 7, 9, 10] [0, 1, 3, 2, 4, 5, 6, 7, 8, 9, 10] (by kernel_rfl) (by kernel_rfl) (fun d v c a w h => by cases d <;> exact h) ?_
        clear H
        intro w H
        have HS := Ext.refl [] w
        have H0 := H
        first | refine plan_load_open H0 HS 0 rfl (by simp) rfl (by decide) (by decide) rfl rfl rfl rfl rfl ?_ | refine plan_load_open H0 HS 1 rfl (by simp) rfl (by decide) (by decide) rfl rfl rfl rfl rfl ?_ | refine plan_load_open H0 HS 2 rfl (by simp) rfl (by decide) (by decide) rfl rfl rfl rfl rfl ?_ | refine plan_load_open H0 HS 3 rfl (by simp) rfl (by decide) (by decide) rfl rfl rfl rfl rfl ?_ | refine plan_load_open H0 HS 4 rfl (by simp) rfl (by decide) (by decide) rfl rfl rfl rfl rfl ?_ | refine plan_load_open H0 HS 5 rfl (by simp) rfl (by decide) (by decide) rfl rfl rfl rfl rfl ?_ | refine plan_load_open H0 HS 6 rfl (by simp) rfl (by decide) (by decide) rfl rfl rfl rfl rfl ?_ | refine plan_load_open H0 HS 7 rfl (by simp) rfl (by decide) (by decide) rfl rfl rfl rfl rfl ?_
        (try simp only [Act.put, List.setIfInBounds_toArray, List.set_cons_succ, List.set_cons_zero])
        first | refine plan_load_open H0 HS 0 rfl (by simp) rfl (by decide) (by decide) rfl rfl rfl rfl rfl ?_ | refine plan_load_open H0 HS 1 rfl (by simp) rfl (by decide) (by decide) rfl rfl rfl rfl rfl ?_ | refine plan_load_open H0 HS 2 rfl (by simp) rfl (by decide) (by decide) rfl rfl rfl rfl rfl ?_ | refine plan_load_open H0 HS 3 rfl (by simp) rfl (by decide) (by decide) rfl rfl rfl rfl rfl ?_ | refine plan_load_open H0 HS 4 rfl (by simp) rfl (by decide) (by decide) rfl rfl rfl rfl rfl ?_ | refine plan_load_open H0 HS 5 rfl (by simp) rfl (by decide) (by decide) rfl rfl rfl rfl rfl ?_ | refine plan_load_open H0 HS 6 rfl (by simp) rfl (by decide) (by decide) rfl rfl rfl rfl rfl ?_ | refine plan_load_open H0 HS 7 rfl (by simp) rfl (by decide) (by decide) rfl rfl rfl rfl rfl ?_
        (try simp only [Act.put, List.setIfInBounds_toArray, List.set_cons_succ, List.set_cons_zero])
        first | refine plan_load_open H0 HS 0 rfl (by simp) rfl (by decide) (by decide) rfl rfl rfl rfl rfl ?_ | refine plan_load_open H0 HS 1 rfl (by simp) rfl (by decide) (by decide) rfl rfl rfl rfl rfl ?_ | refine plan_load_open H0 HS 2 rfl (by simp) rfl (by decide) (by decide) rfl rfl rfl rfl rfl ?_ | refine plan_load_open H0 HS 3 rfl (by simp) rfl (by decide) (by decide) rfl rfl rfl rfl rfl ?_ | refine plan_load_open H0 HS 4 rfl (by simp) rfl (by decide) (by decide) rfl rfl rfl rfl rfl ?_ | refine plan_load_open H0 HS 5 rfl (by simp) rfl (by decide) (by decide) rfl rfl rfl rfl rfl ?_ | refine plan_load_open H0 HS 6 rfl (by simp) rfl (by decide) (by decide) rfl rfl rfl rfl rfl ?_ | refine plan_load_open H0 HS 7 rfl (by simp) rfl (by decide) (by decide) rfl rfl rfl rfl rfl ?_
        (try simp only [Act.put, List.setIfInBounds_toArray, List.set_cons_succ, List.set_cons_zero])
        refine plan_op rfl (by decide) rfl (fun K hK => ?_)
        go_simp
        ((with_reducible refine Calls.mono (hM _ ?_) ?_); (focus exact H.out); rintro _ w ⟨rfl, hE⟩; replace HS := HS.trans hE; replace H := H.step hE; clear hE)
        refine hK _ _ (fun _ => HS) ?_
        clear hK K
        (try simp only [Act.put, List.setIfInBounds_toArray, List.set_cons_succ, List.set_cons_zero])
        refine plan_op rfl (by decide) rfl (fun K hK => ?_)
        go_simp
        ((with_reducible refine Calls.mono (hMay _ ?_) ?_); (focus exact H.out); rintro _ w ⟨rfl, hE⟩; replace HS := HS.trans hE; replace H := H.step hE; clear hE)
        refine hK _ _ (fun h => absurd h (by decide)) ?_
        clear hK K
        (try simp only [Act.put, List.setIfInBounds_toArray, List.set_cons_succ, List.set_cons_zero])
        refine plan_pure (v := ?pv38) rfl (by decide) (by decide) rfl ?ph38 ?_
        case ph38 => (intro w; go_simp; try with_reducible rfl)
        (try simp only [Act.put, List.setIfInBounds_toArray, List.set_cons_succ, List.set_cons_zero])
        refine plan_pure (v := ?pv39) rfl (by decide) (by decide) rfl ?ph39 ?_
        case ph39 => (intro w; go_simp; try with_reducible rfl)
        (try simp only [Act.put, List.setIfInBounds_toArray, List.set_cons_succ, List.set_cons_zero])
        refine plan_pure (v := ?pv40) rfl (by decide) (by decide) rfl ?ph40 ?_
        case ph40 => (intro w; go_simp; try with_reducible rfl)
        (try simp only [Act.put, List.setIfInBounds_toArray, List.set_cons_succ, List.set_cons_zero])
        refine plan_op rfl (by decide) rfl (fun K hK => ?_)
        go_simp
        ((with_reducible refine Calls.mono (awake_spec _) ?_); rintro _ w ⟨rfl, hE⟩; replace HS := HS.trans hE; replace H := H.step hE; clear hE)
        refine hK _ _ (fun h => absurd h (by decide)) ?_
        clear hK K
        (try simp only [Act.put, List.setIfInBounds_toArray, List.set_cons_succ, List.set_cons_zero])
        refine plan_pure (v := ?pv41) rfl (by decide) (by decide) rfl ?ph41 ?_
        case ph41 => (intro w; go_simp; try with_reducible rfl)
        (try simp only [Act.put, List.setIfInBounds_toArray, List.set_cons_succ, List.set_cons_zero])
        refine plan_pure (v := ?pv42) rfl (by decide) (by decide) rfl ?ph42 ?_
        case ph42 => (intro w; go_simp; try with_reducible rfl)
        (try simp only [Act.put, List.setIfInBounds_toArray, List.set_cons_succ, List.set_cons_zero])
        refine plan_nil ?_
        clear H0 HS
        go_wp2
        go_ret
        exact ⟨rfl, H.ext⟩
    · obtain rfl := i2.out (by trivial) (by trivial)
      cases v2
      · skip
        go_wp2_with (first | ((with_reducible refine wpl_runx_d 3 rfl ?_ ?_); (focus exact rfl); refine ⟨_, runs_box H rfl rfl, ?_⟩; clear H; rintro _ w ⟨b3, rfl, hE, H⟩; clear hE) | ((with_reducible refine wpl_runx_d 4 rfl ?_ ?_); (focus exact rfl); refine ⟨_, runs_box H rfl rfl, ?_⟩; clear H; rintro _ w ⟨b4, rfl, hE, H⟩; clear hE) | ((with_reducible refine wpl_runx_d 5 rfl ?_ ?_); (focus exact rfl); refine ⟨_, runs_box H rfl rfl, ?_⟩; clear H; rintro _ w ⟨b5, rfl, hE, H⟩; clear hE) | ((with_reducible refine wpl_runx_d 10 rfl ?_ ?_); (focus exact rfl); refine ⟨_, by apply runs_buildSlice H; iterate 10 rfl, ?_⟩; clear H; rintro _ w ⟨b10, rfl, hE, H⟩; clear hE) | ((with_reducible refine wpl_runx ?_ ?_); (focus exact rfl); refine ⟨_, runs_load H 0 rfl rfl rfl rfl rfl, ?_⟩; rintro _ _ ⟨rfl, rfl⟩) | ((with_reducible refine wpl_runx ?_ ?_); (focus exact rfl); refine ⟨_, runs_load H 1 rfl rfl rfl rfl rfl, ?_⟩; rintro _ _ ⟨rfl, rfl⟩) | ((with_reducible refine wpl_runx ?_ ?_); (focus exact rfl); refine ⟨_, runs_load H 2 rfl rfl rfl rfl rfl, ?_⟩; rintro _ _ ⟨rfl, rfl⟩) | ((with_reducible refine wpl_runx ?_ ?_); (focus exact rfl); refine ⟨_, runs_load H 3 rfl rfl rfl rfl rfl, ?_⟩; rintro _ _ ⟨rfl, rfl⟩) | ((with_reducible refine wpl_runx ?_ ?_); (focus exact rfl); refine ⟨_, runs_store H 0 rfl rfl rfl rfl rfl rfl rfl rfl rfl, ?_⟩; clear H; rintro _ w ⟨rfl, hE, H⟩; clear hE) | ((with_reducible refine wpl_runx ?_ ?_); (focus exact rfl); refine ⟨_, runs_store H 1 rfl rfl rfl rfl rfl rfl rfl rfl rfl, ?_⟩; clear H; rintro _ w ⟨rfl, hE, H⟩; clear hE) | ((with_reducible refine wpl_runx ?_ ?_); (focus exact rfl); refine ⟨_, runs_store H 2 rfl rfl rfl rfl rfl rfl rfl rfl rfl, ?_⟩; clear H; rintro _ w ⟨rfl, hE, H⟩; clear hE) | ((with_reducible refine wpl_runx ?_ ?_); (focus exact rfl); refine ⟨_, runs_store H 3 rfl rfl rfl rfl rfl rfl rfl rfl rfl, ?_⟩; clear H; rintro _ w ⟨rfl, hE, H⟩; clear hE) | ((with_reducible refine Calls.mono (hS1 _ ?_) ?_); (focus exact H.out); rintro _ w ⟨rfl, hE⟩; replace H := H.step hE; clear hE) | ((with_reducible refine Calls.mono (hS2 _ ?_) ?_); (focus exact H.out); rintro _ w ⟨rfl, hE⟩; replace H := H.step hE; clear hE) | ((with_reducible refine Calls.mono (hS3 _ ?_) ?_); (focus exact H.out); rintro _ w ⟨rfl, hE⟩; replace H := H.step hE; clear hE) | ((with_reducible refine Calls.mono (hV1 _ ?_) ?_); (focus exact H.out); rintro _ w ⟨rfl, hE⟩; replace H := H.step hE; clear hE) | ((with_reducible refine Calls.mono (hV2 _ ?_) ?_); (focus exact H.out); rintro _ w ⟨rfl, hE⟩; replace H := H.step hE; clear hE) | ((with_reducible refine Calls.mono (hV3 _ ?_) ?_); (focus exact H.out); rintro _ w ⟨rfl, hE⟩; replace H := H.step hE; clear hE))
        refine wp_region_st H [] [[], [], [0, 1], [], [0, 1, 2, 3], [0, 1, 2, 3, 4], [0, 1, 2, 3, 4, 5], [0, 1, 2, 3, 4, 5, 6], [0, 1, 2, 3, 4, 5, 6, 7], [0, 1, 2, 3, 4, 5, 6, 7, 8], [0, 1, 2, 3, 4, 5, 6, 7, 8, 9]] [0, 1, 3] [0, 1, 3, 5, 6, 7, 9, 10] [0, 1, 3, 2, 4, 5, 6, 7, 8, 9, 10] (by kernel_rfl) (by kernel_rfl) (fun d v c a w h => by cases d <;> exact h) ?_
        clear H
        intro w H
        have HS := Ext.refl [] w
        have H0 := H
        first | refine plan_load_open H0 HS 0 rfl (by simp) rfl (by decide) (by decide) rfl rfl rfl rfl rfl ?_ | refine plan_load_open H0 HS 1 rfl (by simp) rfl (by decide) (by decide) rfl rfl rfl rfl rfl ?_ | refine plan_load_open H0 HS 2 rfl (by simp) rfl (by decide) (by decide) rfl rfl rfl rfl rfl ?_ | refine plan_load_open H0 HS 3 rfl (by simp) rfl (by decide) (by decide) rfl rfl rfl rfl rfl ?_ | refine plan_load_open H0 HS 4 rfl (by simp) rfl (by decide) (by decide) rfl rfl rfl rfl rfl ?_ | refine plan_load_open H0 HS 5 rfl (by simp) rfl (by decide) (by decide) rfl rfl rfl rfl rfl ?_ | refine plan_load_open H0 HS 6 rfl (by simp) rfl (by decide) (by decide) rfl rfl rfl rfl rfl ?_ | refine plan_load_open H0 HS 7 rfl (by simp) rfl (by decide) (by decide) rfl rfl rfl rfl rfl ?_
        (try simp only [Act.put, List.setIfInBounds_toArray, List.set_cons_succ, List.set_cons_zero])
        first | refine plan_load_open H0 HS 0 rfl (by simp) rfl (by decide) (by decide) rfl rfl rfl rfl rfl ?_ | refine plan_load_open H0 HS 1 rfl (by simp) rfl (by decide) (by decide) rfl rfl rfl rfl rfl ?_ | refine plan_load_open H0 HS 2 rfl (by simp) rfl (by decide) (by decide) rfl rfl rfl rfl rfl ?_ | refine plan_load_open H0 HS 3 rfl (by simp) rfl (by decide) (by decide) rfl rfl rfl rfl rfl ?_ | refine plan_load_open H0 HS 4 rfl (by simp) rfl (by decide) (by decide) rfl rfl rfl rfl rfl ?_ | refine plan_load_open H0 HS 5 rfl (by simp) rfl (by decide) (by decide) rfl rfl rfl rfl rfl ?_ | refine plan_load_open H0 HS 6 rfl (by simp) rfl (by decide) (by decide) rfl rfl rfl rfl rfl ?_ | refine plan_load_open H0 HS 7 rfl (by simp) rfl (by decide) (by decide) rfl rfl rfl rfl rfl ?_
        (try simp only [Act.put, List.setIfInBounds_toArray, List.set_cons_succ, List.set_cons_zero])
        first | refine plan_load_open H0 HS 0 rfl (by simp) rfl (by decide) (by decide) rfl rfl rfl rfl rfl ?_ | refine plan_load_open H0 HS 1 rfl (by simp) rfl (by decide) (by decide) rfl rfl rfl rfl rfl ?_ | refine plan_load_open H0 HS 2 rfl (by simp) rfl (by decide) (by decide) rfl rfl rfl rfl rfl ?_ | refine plan_load_open H0 HS 3 rfl (by simp) rfl (by decide) (by decide) rfl rfl rfl rfl rfl ?_ | refine plan_load_open H0 HS 4 rfl (by simp) rfl (by decide) (by decide) rfl rfl rfl rfl rfl ?_ | refine plan_load_open H0 HS 5 rfl (by simp) rfl (by decide) (by decide) rfl rfl rfl rfl rfl ?_ | refine plan_load_open H0 HS 6 rfl (by simp) rfl (by decide) (by decide) rfl rfl rfl rfl rfl ?_ | refine plan_load_open H0 HS 7 rfl (by simp) rfl (by decide) (by decide) rfl rfl rfl rfl rfl ?_
        (try simp only [Act.put, List.setIfInBounds_toArray, List.set_cons_succ, List.set_cons_zero])
        refine plan_op rfl (by decide) rfl (fun K hK => ?_)
        go_simp
        ((with_reducible refine Calls.mono (hM _ ?_) ?_); (focus exact H.out); rintro _ w ⟨rfl, hE⟩; replace HS := HS.trans hE; replace H := H.step hE; clear hE)
        refine hK _ _ (fun _ => HS) ?_
        clear hK K
        (try simp only [Act.put, List.setIfInBounds_toArray, List.set_cons_succ, List.set_cons_zero])
        refine plan_op rfl (by decide) rfl (fun K hK => ?_)
        go_simp
        ((with_reducible refine Calls.mono (hMay _ ?_) ?_); (focus exact H.out); rintro _ w ⟨rfl, hE⟩; replace HS := HS.trans hE; replace H := H.step hE; clear hE)
        refine hK _ _ (fun h => absurd h (by decide)) ?_
        clear hK K
        (try simp only [Act.put, List.setIfInBounds_toArray, List.set_cons_succ, List.set_cons_zero])
        refine plan_pure (v := ?pv43) rfl (by decide) (by decide) rfl ?ph43 ?_
        case ph43 => (intro w; go_simp; try with_reducible rfl)
        (try simp only [Act.put, List.setIfInBounds_toArray, List.set_cons_succ, List.set_cons_zero])
        refine plan_pure (v := ?pv44) rfl (by decide) (by decide) rfl ?ph44 ?_
        case ph44 => (intro w; go_simp; try with_reducible rfl)
        (try simp only [Act.put, List.setIfInBounds_toArray, List.set_cons_succ, List.set_cons_zero])
        refine plan_pure (v := ?pv45) rfl (by decide) (by decide) rfl ?ph45 ?_
        case ph45 => (intro w; go_simp; try with_reducible rfl)
        (try simp only [Act.put, List.setIfInBounds_toArray, List.set_cons_succ, List.set_cons_zero])
        refine plan_op rfl (by decide) rfl (fun K hK => ?_)
        go_simp
        ((with_reducible refine Calls.mono (awake_spec _) ?_); rintro _ w ⟨rfl, hE⟩; replace HS := HS.trans hE; replace H := H.step hE; clear hE)
        refine hK _ _ (fun h => absurd h (by decide)) ?_
        clear hK K
        (try simp only [Act.put, List.setIfInBounds_toArray, List.set_cons_succ, List.set_cons_zero])
        refine plan_pure (v := ?pv46) rfl (by decide) (by decide) rfl ?ph46 ?_
        case ph46 => (intro w; go_simp; try with_reducible rfl)
        (try simp only [Act.put, List.setIfInBounds_toArray, List.set_cons_succ, List.set_cons_zero])
        refine plan_pure (v := ?pv47) rfl (by decide) (by decide) rfl ?ph47 ?_
        case ph47 => (intro w; go_simp; try with_reducible rfl)
        (try simp only [Act.put, List.setIfInBounds_toArray, List.set_cons_succ, List.set_cons_zero])
        refine plan_nil ?_
        clear H0 HS
        go_wp2
        go_ret
        exact ⟨rfl, H.ext⟩
      · obtain rfl := i3.out (by trivial) (by trivial)
        go_wp2_with (first | ((with_reducible refine wpl_runx_d 3 rfl ?_ ?_); (focus exact rfl); refine ⟨_, runs_box H rfl rfl, ?_⟩; clear H; rintro _ w ⟨b3, rfl, hE, H⟩; clear hE) | ((with_reducible refine wpl_runx_d 4 rfl ?_ ?_); (focus exact rfl); refine ⟨_, runs_box H rfl rfl, ?_⟩; clear H; rintro _ w ⟨b4, rfl, hE, H⟩; clear hE) | ((with_reducible refine wpl_runx_d 5 rfl ?_ ?_); (focus exact rfl); refine ⟨_, runs_box H rfl rfl, ?_⟩; clear H; rintro _ w ⟨b5, rfl, hE, H⟩; clear hE) | ((with_reducible refine wpl_runx_d 10 rfl ?_ ?_); (focus exact rfl); refine ⟨_, by apply runs_buildSlice H; iterate 10 rfl, ?_⟩; clear H; rintro _ w ⟨b10, rfl, hE, H⟩; clear hE) | ((with_reducible refine wpl_runx ?_ ?_); (focus exact rfl); refine ⟨_, runs_load H 0 rfl rfl rfl rfl rfl, ?_⟩; rintro _ _ ⟨rfl, rfl⟩) | ((with_reducible refine wpl_runx ?_ ?_); (focus exact rfl); refine ⟨_, runs_load H 1 rfl rfl rfl rfl rfl, ?_⟩; rintro _ _ ⟨rfl, rfl⟩) | ((with_reducible refine wpl_runx ?_ ?_); (focus exact rfl); refine ⟨_, runs_load H 2 rfl rfl rfl rfl rfl, ?_⟩; rintro _ _ ⟨rfl, rfl⟩) | ((with_reducible refine wpl_runx ?_ ?_); (focus exact rfl); refine ⟨_, runs_load H 3 rfl rfl rfl rfl rfl, ?_⟩; rintro _ _ ⟨rfl, rfl⟩) | ((with_reducible refine wpl_runx ?_ ?_); (focus exact rfl); refine ⟨_, runs_store H 0 rfl rfl rfl rfl rfl rfl rfl rfl rfl, ?_⟩; clear H; rintro _ w ⟨rfl, hE, H⟩; clear hE) | ((with_reducible refine wpl_runx ?_ ?_); (focus exact rfl); refine ⟨_, runs_store H 1 rfl rfl rfl rfl rfl rfl rfl rfl rfl, ?_⟩; clear H; rintro _ w ⟨rfl, hE, H⟩; clear hE) | ((with_reducible refine wpl_runx ?_ ?_); (focus exact rfl); refine ⟨_, runs_store H 2 rfl rfl rfl rfl rfl rfl rfl rfl rfl, ?_⟩; clear H; rintro _ w ⟨rfl, hE, H⟩; clear hE) | ((with_reducible refine wpl_runx ?_ ?_); (focus exact rfl); refine ⟨_, runs_store H 3 rfl rfl rfl rfl rfl rfl rfl rfl rfl, ?_⟩; clear H; rintro _ w ⟨rfl, hE, H⟩; clear hE) | ((with_reducible refine Calls.mono (hS1 _ ?_) ?_); (focus exact H.out); rintro _ w ⟨rfl, hE⟩; replace H := H.step hE; clear hE) | ((with_reducible refine Calls.mono (hS2 _ ?_) ?_); (focus exact H.out); rintro _ w ⟨rfl, hE⟩; replace H := H.step hE; clear hE) | ((with_reducible refine Calls.mono (hS3 _ ?_) ?_); (focus exact H.out); rintro _ w ⟨rfl, hE⟩; replace H := H.step hE; clear hE) | ((with_reducible refine Calls.mono (hV1 _ ?_) ?_); (focus exact H.out); rintro _ w ⟨rfl, hE⟩; replace H := H.step hE; clear hE) | ((with_reducible refine Calls.mono (hV2 _ ?_) ?_); (focus exact H.out); rintro _ w ⟨rfl, hE⟩; replace H := H.step hE; clear hE) | ((with_reducible refine Calls.mono (hV3 _ ?_) ?_); (focus exact H.out); rintro _ w ⟨rfl, hE⟩; replace H := H.step hE; clear hE))
        refine wp_region_st H [] [[], [], [0, 1], [], [0, 1, 2, 3], [0, 1, 2, 3, 4], [0, 1, 2, 3, 4, 5], [0, 1, 2, 3, 4, 5, 6], [0, 1, 2, 3, 4, 5, 6, 7], [0, 1, 2, 3, 4, 5, 6, 7, 8], [0, 1, 2, 3, 4, 5, 6, 7, 8, 9]] [0, 1, 3] [0, 1, 3, 5, 6, 7, 9, 10] [0, 1, 3, 2, 4, 5, 6, 7, 8, 9, 10] (by kernel_rfl) (by kernel_rfl) (fun d v c a w h => by cases d <;> exact h) ?_
        clear H
        intro w H
        have HS := Ext.refl [] w
        have H0 := H
        first | refine plan_load_open H0 HS 0 rfl (by simp) rfl (by decide) (by decide) rfl rfl rfl rfl rfl ?_ | refine plan_load_open H0 HS 1 rfl (by simp) rfl (by decide) (by decide) rfl rfl rfl rfl rfl ?_ | refine plan_load_open H0 HS 2 rfl (by simp) rfl (by decide) (by decide) rfl rfl rfl rfl rfl ?_ | refine plan_load_open H0 HS 3 rfl (by simp) rfl (by decide) (by decide) rfl rfl rfl rfl rfl ?_ | refine plan_load_open H0 HS 4 rfl (by simp) rfl (by decide) (by decide) rfl rfl rfl rfl rfl ?_ | refine plan_load_open H0 HS 5 rfl (by simp) rfl (by decide) (by decide) rfl rfl rfl rfl rfl ?_ | refine plan_load_open H0 HS 6 rfl (by simp) rfl (by decide) (by decide) rfl rfl rfl rfl rfl ?_ | refine plan_load_open H0 HS 7 rfl (by simp) rfl (by decide) (by decide) rfl rfl rfl rfl rfl ?_
        (try simp only [Act.put, List.setIfInBounds_toArray, List.set_cons_succ, List.set_cons_zero])
        first | refine plan_load_open H0 HS 0 rfl (by simp) rfl (by decide) (by decide) rfl rfl rfl rfl rfl ?_ | refine plan_load_open H0 HS 1 rfl (by simp) rfl (by decide) (by decide) rfl rfl rfl rfl rfl ?_ | refine plan_load_open H0 HS 2 rfl (by simp) rfl (by decide) (by decide) rfl rfl rfl rfl rfl ?_ | refine plan_load_open H0 HS 3 rfl (by simp) rfl (by decide) (by decide) rfl rfl rfl rfl rfl ?_ | refine plan_load_open H0 HS 4 rfl (by simp) rfl (by decide) (by decide) rfl rfl rfl rfl rfl ?_ | refine plan_load_open H0 HS 5 rfl (by simp) rfl (by decide) (by decide) rfl rfl rfl rfl rfl ?_ | refine plan_load_open H0 HS 6 rfl (by simp) rfl (by decide) (by decide) rfl rfl rfl rfl rfl ?_ | refine plan_load_open H0 HS 7 rfl (by simp) rfl (by decide) (by decide) rfl rfl rfl rfl rfl ?_
        (try simp only [Act.put, List.setIfInBounds_toArray, List.set_cons_succ, List.set_cons_zero])
        first | refine plan_load_open H0 HS 0 rfl (by simp) rfl (by decide) (by decide) rfl rfl rfl rfl rfl ?_ | refine plan_load_open H0 HS 1 rfl (by simp) rfl (by decide) (by decide) rfl rfl rfl rfl rfl ?_ | refine plan_load_open H0 HS 2 rfl (by simp) rfl (by decide) (by decide) rfl rfl rfl rfl rfl ?_ | refine plan_load_open H0 HS 3 rfl (by simp) rfl (by decide) (by decide) rfl rfl rfl rfl rfl ?_ | refine plan_load_open H0 HS 4 rfl (by simp) rfl (by decide) (by decide) rfl rfl rfl rfl rfl ?_ | refine plan_load_open H0 HS 5 rfl (by simp) rfl (by decide) (by decide) rfl rfl rfl rfl rfl ?_ | refine plan_load_open H0 HS 6 rfl (by simp) rfl (by decide) (by decide) rfl rfl rfl rfl rfl ?_ | refine plan_load_open H0 HS 7 rfl (by simp) rfl (by decide) (by decide) rfl rfl rfl rfl rfl ?_
        (try simp only [Act.put, List.setIfInBounds_toArray, List.set_cons_succ, List.set_cons_zero])
        refine plan_op rfl (by decide) rfl (fun K hK => ?_)
        go_simp
        ((with_reducible refine Calls.mono (hM _ ?_) ?_); (focus exact H.out); rintro _ w ⟨rfl, hE⟩; replace HS := HS.trans hE; replace H := H.step hE; clear hE)
        refine hK _ _ (fun _ => HS) ?_
        clear hK K
        (try simp only [Act.put, List.setIfInBounds_toArray, List.set_cons_succ, List.set_cons_zero])
        refine plan_op rfl (by decide) rfl (fun K hK => ?_)
        go_simp
        ((with_reducible refine Calls.mono (hMay _ ?_) ?_); (focus exact H.out); rintro _ w ⟨rfl, hE⟩; replace HS := HS.trans hE; replace H := H.step hE; clear hE)
        refine hK _ _ (fun h => absurd h (by decide)) ?_
        clear hK K
        (try simp only [Act.put, List.setIfInBounds_toArray, List.set_cons_succ, List.set_cons_zero])
        refine plan_pure (v := ?pv48) rfl (by decide) (by decide) rfl ?ph48 ?_
        case ph48 => (intro w; go_simp; try with_reducible rfl)
        (try simp only [Act.put, List.setIfInBounds_toArray, List.set_cons_succ, List.set_cons_zero])
        refine plan_pure (v := ?pv49) rfl (by decide) (by decide) rfl ?ph49 ?_
        case ph49 => (intro w; go_simp; try with_reducible rfl)
        (try simp only [Act.put, List.setIfInBounds_toArray, List.set_cons_succ, List.set_cons_zero])
        refine plan_pure (v := ?pv50) rfl (by decide) (by decide) rfl ?ph50 ?_
        case ph50 => (intro w; go_simp; try with_reducible rfl)
        (try simp only [Act.put, List.setIfInBounds_toArray, List.set_cons_succ, List.set_cons_zero])
        refine plan_op rfl (by decide) rfl (fun K hK => ?_)
        go_simp
        ((with_reducible refine Calls.mono (awake_spec _) ?_); rintro _ w ⟨rfl, hE⟩; replace HS := HS.trans hE; replace H := H.step hE; clear hE)
        refine hK _ _ (fun h => absurd h (by decide)) ?_
        clear hK K
        (try simp only [Act.put, List.setIfInBounds_toArray, List.set_cons_succ, List.set_cons_zero])
        refine plan_pure (v := ?pv51) rfl (by decide) (by decide) rfl ?ph51 ?_
        case ph51 => (intro w; go_simp; try with_reducible rfl)
        (try simp only [Act.put, List.setIfInBounds_toArray, List.set_cons_succ, List.set_cons_zero])
        refine plan_pure (v := ?pv52) rfl (by decide) (by decide) rfl ?ph52 ?_
        case ph52 => (intro w; go_simp; try with_reducible rfl)
        (try simp only [Act.put, List.setIfInBounds_toArray, List.set_cons_succ, List.set_cons_zero])
        refine plan_nil ?_
        clear H0 HS
        go_wp2
        go_ret
        exact ⟨rfl, H.ext⟩
end Go.Proofs.Ytbeimnaeaompjaa
