/- Walk: TermDeep. -/
import Derived.Test.YtbeimnaeaompjaaLit
import Derived.Test.YtbeimnaeaompjaaRMay2
import Derived.Test.YtbeimnaeaompjaaDeep0
namespace Go.Proofs.Ytbeimnaeaompjaa
open Go.RowKit
set_option linter.unusedVariables false
set_option linter.unusedSimpArgs false
set_option maxHeartbeats 1000000

theorem deep0_spec (a b : Int) (w0 : World) (eq' : wrap64 ((IntKind.u64.wrap b).tmod 3) = 0) : Calls Try.prog 3 #[.int .i64 a, .int .i64 b] w0 (RetV w0 (.bool true)) := by
  have H := St.start (M := []) (w := w0) (F := fun _ _ => True) (by simp) (Stab.const True) trivial
  obtain ⟨m, hm, em⟩ := red64 a 5 (by omega) (by omega)
  have em' : wrap64 ((IntKind.u64.wrap a).tmod 5) = m := em
  clear em
  have hc := Lib.hid hm; clear hm
  go_enter Try.func3, Try.ntmps3
  go_wp2_with (first | ((with_reducible refine wpl_runx_d 5 rfl ?_ ?_); (focus exact rfl); refine ⟨_, runs_alloc H rfl rfl rfl, ?_⟩; clear H; rintro _ w ⟨b5, rfl, hE, H⟩; clear hE) | ((with_reducible refine wpl_runx_d 27 rfl ?_ ?_); (focus exact rfl); refine ⟨_, by apply runs_buildSlice H; iterate 10 rfl, ?_⟩; clear H; rintro _ w ⟨b27, rfl, hE, H⟩; clear hE) | ((with_reducible refine wpl_runx_d 57 rfl ?_ ?_); (focus exact rfl); refine ⟨_, by apply runs_buildSlice H; iterate 10 rfl, ?_⟩; clear H; rintro _ w ⟨b57, rfl, hE, H⟩; clear hE) | ((with_reducible refine wpl_runx_d 59 rfl ?_ ?_); (focus exact rfl); refine ⟨_, by apply runs_buildSlice H; iterate 10 rfl, ?_⟩; clear H; rintro _ w ⟨b59, rfl, hE, H⟩; clear hE) | ((with_reducible refine wpl_runx_d 65 rfl ?_ ?_); (focus exact rfl); refine ⟨_, by apply runs_buildSlice H; iterate 10 rfl, ?_⟩; clear H; rintro _ w ⟨b65, rfl, hE, H⟩; clear hE) | ((with_reducible refine wpl_runx_d 8 rfl ?_ ?_); (focus exact rfl); refine ⟨_, runs_alloc H rfl rfl rfl, ?_⟩; clear H; rintro _ w ⟨b8, rfl, hE, H⟩; clear hE) | ((with_reducible refine wpl_runx_d 75 rfl ?_ ?_); (focus exact rfl); refine ⟨_, by apply runs_buildSlice H; iterate 10 rfl, ?_⟩; clear H; rintro _ w ⟨b75, rfl, hE, H⟩; clear hE) | ((with_reducible refine wpl_runx_d 101 rfl ?_ ?_); (focus exact rfl); refine ⟨_, by apply runs_buildSlice H; iterate 10 rfl, ?_⟩; clear H; rintro _ w ⟨b101, rfl, hE, H⟩; clear hE) | ((with_reducible refine wpl_runx ?_ ?_); (focus exact rfl); refine ⟨_, runs_load H 0 rfl rfl rfl rfl rfl, ?_⟩; rintro _ _ ⟨rfl, rfl⟩) | ((with_reducible refine wpl_runx ?_ ?_); (focus exact rfl); refine ⟨_, runs_load H 1 rfl rfl rfl rfl rfl, ?_⟩; rintro _ _ ⟨rfl, rfl⟩) | ((with_reducible refine wpl_runx ?_ ?_); (focus exact rfl); refine ⟨_, runs_store H 0 rfl rfl rfl rfl rfl rfl rfl rfl rfl, ?_⟩; clear H; rintro _ w ⟨rfl, hE, H⟩; clear hE) | ((with_reducible refine wpl_runx ?_ ?_); (focus exact rfl); refine ⟨_, runs_store H 1 rfl rfl rfl rfl rfl rfl rfl rfl rfl, ?_⟩; clear H; rintro _ w ⟨rfl, hE, H⟩; clear hE) | (refine (atom_spec _ _ _ H.ltAll).mono ?_; rintro _ w ⟨A1, c1, rfl, hA1, hE⟩; replace H := H.step hE; clear hE hA1))
  have hm := hc.out
  try rw [em']
  try rw [eq']
  rw [show wrap64 (497 + (m : Int)) = 497 + (m : Int) by unfold wrap64; omega]
  go_loopw [24] (fun iv wr => ∃ (j : Nat) (A : Option Addr) (c : Nat), j ≤ 497 + m ∧ iv = .int .i64 j ∧ St [] [] w0 wr [.obj b5 (.cells #[.int .i64 (upF atA j).kind, .string (upF atA j).name, .int .i64 (upF atA j).int, .int .u64 (upF atA j).re, .int .u64 (upF atA j).im, .slice A (upF atA j).args.length c] 25 (0, 0))] (AR A c (upF atA j).args)) (fun iv _ => 497 + m - (intOf iv).toNat)
  case atStart => exact ⟨0, A1, c1, Nat.zero_le _, rfl, H.weaken (fun _ => AR.nil _ _ _ _) (AR.stab _ _ _)⟩
  case round =>
    clear H
    obtain ⟨j, A, c, hj, rfl, H⟩ := hrel
    by_cases hlt : j < 497 + m
    · go_wp2_with (first | ((with_reducible refine wpl_runx_d 5 rfl ?_ ?_); (focus exact rfl); refine ⟨_, runs_alloc H rfl rfl rfl, ?_⟩; clear H; rintro _ w ⟨b5, rfl, hE, H⟩; clear hE) | ((with_reducible refine wpl_runx_d 27 rfl ?_ ?_); (focus exact rfl); refine ⟨_, by apply runs_buildSlice H; iterate 10 rfl, ?_⟩; clear H; rintro _ w ⟨b27, rfl, hE, H⟩; clear hE) | ((with_reducible refine wpl_runx_d 57 rfl ?_ ?_); (focus exact rfl); refine ⟨_, by apply runs_buildSlice H; iterate 10 rfl, ?_⟩; clear H; rintro _ w ⟨b57, rfl, hE, H⟩; clear hE) | ((with_reducible refine wpl_runx_d 59 rfl ?_ ?_); (focus exact rfl); refine ⟨_, by apply runs_buildSlice H; iterate 10 rfl, ?_⟩; clear H; rintro _ w ⟨b59, rfl, hE, H⟩; clear hE) | ((with_reducible refine wpl_runx_d 65 rfl ?_ ?_); (focus exact rfl); refine ⟨_, by apply runs_buildSlice H; iterate 10 rfl, ?_⟩; clear H; rintro _ w ⟨b65, rfl, hE, H⟩; clear hE) | ((with_reducible refine wpl_runx_d 8 rfl ?_ ?_); (focus exact rfl); refine ⟨_, runs_alloc H rfl rfl rfl, ?_⟩; clear H; rintro _ w ⟨b8, rfl, hE, H⟩; clear hE) | ((with_reducible refine wpl_runx_d 75 rfl ?_ ?_); (focus exact rfl); refine ⟨_, by apply runs_buildSlice H; iterate 10 rfl, ?_⟩; clear H; rintro _ w ⟨b75, rfl, hE, H⟩; clear hE) | ((with_reducible refine wpl_runx_d 101 rfl ?_ ?_); (focus exact rfl); refine ⟨_, by apply runs_buildSlice H; iterate 10 rfl, ?_⟩; clear H; rintro _ w ⟨b101, rfl, hE, H⟩; clear hE) | ((with_reducible refine wpl_runx ?_ ?_); (focus exact rfl); refine ⟨_, runs_load H 0 rfl rfl rfl rfl rfl, ?_⟩; rintro _ _ ⟨rfl, rfl⟩) | ((with_reducible refine wpl_runx ?_ ?_); (focus exact rfl); refine ⟨_, runs_load H 1 rfl rfl rfl rfl rfl, ?_⟩; rintro _ _ ⟨rfl, rfl⟩) | ((with_reducible refine wpl_runx ?_ ?_); (focus exact rfl); refine ⟨_, runs_store H 0 rfl rfl rfl rfl rfl rfl rfl rfl rfl, ?_⟩; clear H; rintro _ w ⟨rfl, hE, H⟩; clear hE) | ((with_reducible refine wpl_runx ?_ ?_); (focus exact rfl); refine ⟨_, runs_store H 1 rfl rfl rfl rfl rfl rfl rfl rfl rfl, ?_⟩; clear H; rintro _ w ⟨rfl, hE, H⟩; clear hE) | (replace H := H.sealLit 0 rfl (l := [upF atA j]) (fun M w h => TsR.cons h (TsR.nil _ _)) rfl; refine (comp_spec _ _ _ [upF atA j] _ _ H.ltAll H.fact.2).mono ?_; rintro _ w ⟨A2, c2, rfl, hA2, hE⟩; replace H := ((H.step hE).add hA2 (AR.stab _ _ _)).weaken (fun h => h.2) (AR.stab _ _ _); clear hE hA2))
      go_roundw
      case rel => exact ⟨j + 1, A2, c2, by omega, by go_num, H⟩
      case measure => simp [intOf]; omega
    · obtain rfl : j = 497 + m := by omega
      obtain ⟨E, hEm, hMay, hrMay⟩ : ∃ E : Int, (E == 0) = decide ((m : Int) ≤ 2) ∧ (∀ w, AR A c (upF atA (497 + m)).args [] w → Calls Try.prog 13 #[.agg #[.int .i64 (upF atA (497 + m)).kind, .string (upF atA (497 + m)).name, .int .i64 (upF atA (497 + m)).int, .int .u64 (upF atA (497 + m)).re, .int .u64 (upF atA (497 + m)).im, .slice A (upF atA (497 + m)).args.length c]] w (RetV w (.int .i64 E))) ∧ (∀ w, AR A c (upF atA (497 + m)).args [] w → Calls Try.prog 14 #[.agg #[.int .i64 (upF atA (497 + m)).kind, .string (upF atA (497 + m)).name, .int .i64 (upF atA (497 + m)).int, .int .u64 (upF atA (497 + m)).re, .int .u64 (upF atA (497 + m)).im, .slice A (upF atA (497 + m)).args.length c]] w (RetV w (.int .i64 E))) :=
        ⟨mayE (upF atA (497 + m)), may_upA m hm, fun w h => may_spec _ A c w h, fun w h => rMay_spec _ A c w (slim_upA _) h⟩
      generalize hB : decide ((m : Int) ≤ 2) = B at hEm
      cases B
      · skip
        go_wp2_with (first | ((with_reducible refine wpl_runx_d 5 rfl ?_ ?_); (focus exact rfl); refine ⟨_, runs_alloc H rfl rfl rfl, ?_⟩; clear H; rintro _ w ⟨b5, rfl, hE, H⟩; clear hE) | ((with_reducible refine wpl_runx_d 27 rfl ?_ ?_); (focus exact rfl); refine ⟨_, by apply runs_buildSlice H; iterate 10 rfl, ?_⟩; clear H; rintro _ w ⟨b27, rfl, hE, H⟩; clear hE) | ((with_reducible refine wpl_runx_d 57 rfl ?_ ?_); (focus exact rfl); refine ⟨_, by apply runs_buildSlice H; iterate 10 rfl, ?_⟩; clear H; rintro _ w ⟨b57, rfl, hE, H⟩; clear hE) | ((with_reducible refine wpl_runx_d 59 rfl ?_ ?_); (focus exact rfl); refine ⟨_, by apply runs_buildSlice H; iterate 10 rfl, ?_⟩; clear H; rintro _ w ⟨b59, rfl, hE, H⟩; clear hE) | ((with_reducible refine wpl_runx_d 65 rfl ?_ ?_); (focus exact rfl); refine ⟨_, by apply runs_buildSlice H; iterate 10 rfl, ?_⟩; clear H; rintro _ w ⟨b65, rfl, hE, H⟩; clear hE) | ((with_reducible refine wpl_runx_d 8 rfl ?_ ?_); (focus exact rfl); refine ⟨_, runs_alloc H rfl rfl rfl, ?_⟩; clear H; rintro _ w ⟨b8, rfl, hE, H⟩; clear hE) | ((with_reducible refine wpl_runx_d 75 rfl ?_ ?_); (focus exact rfl); refine ⟨_, by apply runs_buildSlice H; iterate 10 rfl, ?_⟩; clear H; rintro _ w ⟨b75, rfl, hE, H⟩; clear hE) | ((with_reducible refine wpl_runx_d 101 rfl ?_ ?_); (focus exact rfl); refine ⟨_, by apply runs_buildSlice H; iterate 10 rfl, ?_⟩; clear H; rintro _ w ⟨b101, rfl, hE, H⟩; clear hE) | ((with_reducible refine wpl_runx ?_ ?_); (focus exact rfl); refine ⟨_, runs_load H 0 rfl rfl rfl rfl rfl, ?_⟩; rintro _ _ ⟨rfl, rfl⟩) | ((with_reducible refine wpl_runx ?_ ?_); (focus exact rfl); refine ⟨_, runs_load H 1 rfl rfl rfl rfl rfl, ?_⟩; rintro _ _ ⟨rfl, rfl⟩) | ((with_reducible refine wpl_runx ?_ ?_); (focus exact rfl); refine ⟨_, runs_store H 0 rfl rfl rfl rfl rfl rfl rfl rfl rfl, ?_⟩; clear H; rintro _ w ⟨rfl, hE, H⟩; clear hE) | ((with_reducible refine wpl_runx ?_ ?_); (focus exact rfl); refine ⟨_, runs_store H 1 rfl rfl rfl rfl rfl rfl rfl rfl rfl, ?_⟩; clear H; rintro _ w ⟨rfl, hE, H⟩; clear hE))
        refine wp_region_st H [] [[], [0], [0, 1], [], [3], [0, 1, 2, 3, 4], [0, 1, 2, 3, 4, 5], [0, 1, 2, 3, 4, 5, 6], [0, 1, 2, 3, 4, 5, 6, 7], [0, 1, 2, 3, 4, 5, 6], [0, 1, 2, 3, 4, 5, 6, 7, 8, 9], [0, 1, 2, 3, 4, 5, 6, 7, 8, 9, 10], [0, 1, 2, 3, 4, 5, 6, 7, 8, 9, 10, 11], [0, 1, 2, 3, 4, 5, 6, 7, 8, 9, 10, 11, 12], [0, 1, 2, 3, 4, 5, 6, 7, 8, 9, 10, 11, 12, 13], [0, 1, 2, 3, 4, 5, 6, 7, 8, 9, 10, 11, 12, 13, 14], [0, 1, 2, 3, 4, 5, 6, 7, 8, 9, 10, 11, 12, 13, 14, 15]] [0, 7, 9] [0, 2, 3, 4, 5, 6, 7, 9, 11, 12, 13, 15, 16] [0, 3, 4, 1, 2, 5, 6, 7, 9, 8, 10, 11, 12, 13, 14, 15, 16] (by kernel_rfl) (by kernel_rfl) (fun d v c a w h => by cases d <;> exact h) ?_
        clear H
        intro w H
        have HS := Ext.refl [] w
        have H0 := H
        first | refine plan_load_open H0 HS 0 rfl (by simp) rfl (by decide) (by decide) rfl rfl rfl rfl rfl ?_ | refine plan_load_open H0 HS 1 rfl (by simp) rfl (by decide) (by decide) rfl rfl rfl rfl rfl ?_ | refine plan_load_open H0 HS 2 rfl (by simp) rfl (by decide) (by decide) rfl rfl rfl rfl rfl ?_ | refine plan_load_open H0 HS 3 rfl (by simp) rfl (by decide) (by decide) rfl rfl rfl rfl rfl ?_ | refine plan_load_open H0 HS 4 rfl (by simp) rfl (by decide) (by decide) rfl rfl rfl rfl rfl ?_ | refine plan_load_open H0 HS 5 rfl (by simp) rfl (by decide) (by decide) rfl rfl rfl rfl rfl ?_ | refine plan_load_open H0 HS 6 rfl (by simp) rfl (by decide) (by decide) rfl rfl rfl rfl rfl ?_ | refine plan_load_open H0 HS 7 rfl (by simp) rfl (by decide) (by decide) rfl rfl rfl rfl rfl ?_
        (try simp only [Act.put, List.setIfInBounds_toArray, List.set_cons_succ, List.set_cons_zero])
        refine plan_pure (v := ?pv1) rfl (by decide) (by decide) rfl ?ph1 ?_
        case ph1 => (intro w; go_simp; try with_reducible rfl)
        (try simp only [Act.put, List.setIfInBounds_toArray, List.set_cons_succ, List.set_cons_zero])
        refine plan_pure (v := .bool false) rfl (by decide) (by decide) rfl (by intro w; go_simp) ?_
        refine plan_op rfl (by decide) rfl (fun K hK => ?_)
        go_simp
        (refine (hMay _ H.out).mono ?_; rintro _ w ⟨rfl, hE⟩; replace HS := HS.trans hE; replace H := H.step hE; clear hE)
        refine hK _ _ (fun _ => HS) ?_
        clear hK K
        (try simp only [Act.put, List.setIfInBounds_toArray, List.set_cons_succ, List.set_cons_zero])
        refine plan_pure (v := .bool false) rfl (by decide) (by decide) rfl (by intro w; go_simp) ?_
        refine plan_pure (v := ?pv2) rfl (by decide) (by decide) rfl ?ph2 ?_
        case ph2 => (intro w; go_simp; try with_reducible rfl)
        (try simp only [Act.put, List.setIfInBounds_toArray, List.set_cons_succ, List.set_cons_zero])
        refine plan_pure (v := ?pv3) rfl (by decide) (by decide) rfl ?ph3 ?_
        case ph3 => (intro w; go_simp; try with_reducible rfl)
        (try simp only [Act.put, List.setIfInBounds_toArray, List.set_cons_succ, List.set_cons_zero])
        first | refine plan_load_open H0 HS 0 rfl (by simp) rfl (by decide) (by decide) rfl rfl rfl rfl rfl ?_ | refine plan_load_open H0 HS 1 rfl (by simp) rfl (by decide) (by decide) rfl rfl rfl rfl rfl ?_ | refine plan_load_open H0 HS 2 rfl (by simp) rfl (by decide) (by decide) rfl rfl rfl rfl rfl ?_ | refine plan_load_open H0 HS 3 rfl (by simp) rfl (by decide) (by decide) rfl rfl rfl rfl rfl ?_ | refine plan_load_open H0 HS 4 rfl (by simp) rfl (by decide) (by decide) rfl rfl rfl rfl rfl ?_ | refine plan_load_open H0 HS 5 rfl (by simp) rfl (by decide) (by decide) rfl rfl rfl rfl rfl ?_ | refine plan_load_open H0 HS 6 rfl (by simp) rfl (by decide) (by decide) rfl rfl rfl rfl rfl ?_ | refine plan_load_open H0 HS 7 rfl (by simp) rfl (by decide) (by decide) rfl rfl rfl rfl rfl ?_
        (try simp only [Act.put, List.setIfInBounds_toArray, List.set_cons_succ, List.set_cons_zero])
        first | refine plan_load_open H0 HS 0 rfl (by simp) rfl (by decide) (by decide) rfl rfl rfl rfl rfl ?_ | refine plan_load_open H0 HS 1 rfl (by simp) rfl (by decide) (by decide) rfl rfl rfl rfl rfl ?_ | refine plan_load_open H0 HS 2 rfl (by simp) rfl (by decide) (by decide) rfl rfl rfl rfl rfl ?_ | refine plan_load_open H0 HS 3 rfl (by simp) rfl (by decide) (by decide) rfl rfl rfl rfl rfl ?_ | refine plan_load_open H0 HS 4 rfl (by simp) rfl (by decide) (by decide) rfl rfl rfl rfl rfl ?_ | refine plan_load_open H0 HS 5 rfl (by simp) rfl (by decide) (by decide) rfl rfl rfl rfl rfl ?_ | refine plan_load_open H0 HS 6 rfl (by simp) rfl (by decide) (by decide) rfl rfl rfl rfl rfl ?_ | refine plan_load_open H0 HS 7 rfl (by simp) rfl (by decide) (by decide) rfl rfl rfl rfl rfl ?_
        (try simp only [Act.put, List.setIfInBounds_toArray, List.set_cons_succ, List.set_cons_zero])
        refine plan_op rfl (by decide) rfl (fun K hK => ?_)
        go_simp
        (refine (hMay _ H.out).mono ?_; rintro _ w ⟨rfl, hE⟩; replace HS := HS.trans hE; replace H := H.step hE; clear hE)
        refine hK _ _ (fun _ => HS) ?_
        clear hK K
        (try simp only [Act.put, List.setIfInBounds_toArray, List.set_cons_succ, List.set_cons_zero])
        refine plan_op rfl (by decide) rfl (fun K hK => ?_)
        go_simp
        (refine (hrMay _ H.out).mono ?_; rintro _ w ⟨rfl, hE⟩; replace HS := HS.trans hE; replace H := H.step hE; clear hE)
        refine hK _ _ (fun h => absurd h (by decide)) ?_
        clear hK K
        (try simp only [Act.put, List.setIfInBounds_toArray, List.set_cons_succ, List.set_cons_zero])
        refine plan_pure (v := ?pv4) rfl (by decide) (by decide) rfl ?ph4 ?_
        case ph4 => (intro w; go_simp; try with_reducible rfl)
        (try simp only [Act.put, List.setIfInBounds_toArray, List.set_cons_succ, List.set_cons_zero])
        refine plan_pure (v := ?pv5) rfl (by decide) (by decide) rfl ?ph5 ?_
        case ph5 => (intro w; go_simp; try with_reducible rfl)
        (try simp only [Act.put, List.setIfInBounds_toArray, List.set_cons_succ, List.set_cons_zero])
        refine plan_pure (v := ?pv6) rfl (by decide) (by decide) rfl ?ph6 ?_
        case ph6 => (intro w; go_simp; try with_reducible rfl)
        (try simp only [Act.put, List.setIfInBounds_toArray, List.set_cons_succ, List.set_cons_zero])
        refine plan_op rfl (by decide) rfl (fun K hK => ?_)
        go_simp
        (refine (awake_spec _).mono ?_; rintro _ w ⟨rfl, hE⟩; replace HS := HS.trans hE; replace H := H.step hE; clear hE)
        refine hK _ _ (fun h => absurd h (by decide)) ?_
        clear hK K
        (try simp only [Act.put, List.setIfInBounds_toArray, List.set_cons_succ, List.set_cons_zero])
        refine plan_pure (v := ?pv7) rfl (by decide) (by decide) rfl ?ph7 ?_
        case ph7 => (intro w; go_simp; try with_reducible rfl)
        (try simp only [Act.put, List.setIfInBounds_toArray, List.set_cons_succ, List.set_cons_zero])
        refine plan_pure (v := ?pv8) rfl (by decide) (by decide) rfl ?ph8 ?_
        case ph8 => (intro w; go_simp; try with_reducible rfl)
        (try simp only [Act.put, List.setIfInBounds_toArray, List.set_cons_succ, List.set_cons_zero])
        refine plan_nil ?_
        clear H0 HS
        go_wp2
        go_ret
        exact ⟨rfl, H.ext⟩
      · skip
        go_wp2_with (first | ((with_reducible refine wpl_runx_d 5 rfl ?_ ?_); (focus exact rfl); refine ⟨_, runs_alloc H rfl rfl rfl, ?_⟩; clear H; rintro _ w ⟨b5, rfl, hE, H⟩; clear hE) | ((with_reducible refine wpl_runx_d 27 rfl ?_ ?_); (focus exact rfl); refine ⟨_, by apply runs_buildSlice H; iterate 10 rfl, ?_⟩; clear H; rintro _ w ⟨b27, rfl, hE, H⟩; clear hE) | ((with_reducible refine wpl_runx_d 57 rfl ?_ ?_); (focus exact rfl); refine ⟨_, by apply runs_buildSlice H; iterate 10 rfl, ?_⟩; clear H; rintro _ w ⟨b57, rfl, hE, H⟩; clear hE) | ((with_reducible refine wpl_runx_d 59 rfl ?_ ?_); (focus exact rfl); refine ⟨_, by apply runs_buildSlice H; iterate 10 rfl, ?_⟩; clear H; rintro _ w ⟨b59, rfl, hE, H⟩; clear hE) | ((with_reducible refine wpl_runx_d 65 rfl ?_ ?_); (focus exact rfl); refine ⟨_, by apply runs_buildSlice H; iterate 10 rfl, ?_⟩; clear H; rintro _ w ⟨b65, rfl, hE, H⟩; clear hE) | ((with_reducible refine wpl_runx_d 8 rfl ?_ ?_); (focus exact rfl); refine ⟨_, runs_alloc H rfl rfl rfl, ?_⟩; clear H; rintro _ w ⟨b8, rfl, hE, H⟩; clear hE) | ((with_reducible refine wpl_runx_d 75 rfl ?_ ?_); (focus exact rfl); refine ⟨_, by apply runs_buildSlice H; iterate 10 rfl, ?_⟩; clear H; rintro _ w ⟨b75, rfl, hE, H⟩; clear hE) | ((with_reducible refine wpl_runx_d 101 rfl ?_ ?_); (focus exact rfl); refine ⟨_, by apply runs_buildSlice H; iterate 10 rfl, ?_⟩; clear H; rintro _ w ⟨b101, rfl, hE, H⟩; clear hE) | ((with_reducible refine wpl_runx ?_ ?_); (focus exact rfl); refine ⟨_, runs_load H 0 rfl rfl rfl rfl rfl, ?_⟩; rintro _ _ ⟨rfl, rfl⟩) | ((with_reducible refine wpl_runx ?_ ?_); (focus exact rfl); refine ⟨_, runs_load H 1 rfl rfl rfl rfl rfl, ?_⟩; rintro _ _ ⟨rfl, rfl⟩) | ((with_reducible refine wpl_runx ?_ ?_); (focus exact rfl); refine ⟨_, runs_store H 0 rfl rfl rfl rfl rfl rfl rfl rfl rfl, ?_⟩; clear H; rintro _ w ⟨rfl, hE, H⟩; clear hE) | ((with_reducible refine wpl_runx ?_ ?_); (focus exact rfl); refine ⟨_, runs_store H 1 rfl rfl rfl rfl rfl rfl rfl rfl rfl, ?_⟩; clear H; rintro _ w ⟨rfl, hE, H⟩; clear hE))
        refine wp_region_st H [] [[], [0], [0, 1], [], [3], [0, 1, 2, 3, 4], [0, 1, 2, 3, 4, 5], [0, 1, 2, 3, 4, 5, 6], [0, 1, 2, 3, 4, 5, 6, 7], [0, 1, 2, 3, 4, 5, 6], [0, 1, 2, 3, 4, 5, 6, 7, 8, 9], [0, 1, 2, 3, 4, 5, 6, 7, 8, 9, 10], [0, 1, 2, 3, 4, 5, 6, 7, 8, 9, 10, 11], [0, 1, 2, 3, 4, 5, 6, 7, 8, 9, 10, 11, 12], [0, 1, 2, 3, 4, 5, 6, 7, 8, 9, 10, 11, 12, 13], [0, 1, 2, 3, 4, 5, 6, 7, 8, 9, 10, 11, 12, 13, 14], [0, 1, 2, 3, 4, 5, 6, 7, 8, 9, 10, 11, 12, 13, 14, 15]] [0, 7, 9] [0, 2, 3, 4, 5, 6, 7, 9, 11, 12, 13, 15, 16] [0, 3, 4, 1, 2, 5, 6, 7, 9, 8, 10, 11, 12, 13, 14, 15, 16] (by kernel_rfl) (by kernel_rfl) (fun d v c a w h => by cases d <;> exact h) ?_
        clear H
        intro w H
        have HS := Ext.refl [] w
        have H0 := H
        first | refine plan_load_open H0 HS 0 rfl (by simp) rfl (by decide) (by decide) rfl rfl rfl rfl rfl ?_ | refine plan_load_open H0 HS 1 rfl (by simp) rfl (by decide) (by decide) rfl rfl rfl rfl rfl ?_ | refine plan_load_open H0 HS 2 rfl (by simp) rfl (by decide) (by decide) rfl rfl rfl rfl rfl ?_ | refine plan_load_open H0 HS 3 rfl (by simp) rfl (by decide) (by decide) rfl rfl rfl rfl rfl ?_ | refine plan_load_open H0 HS 4 rfl (by simp) rfl (by decide) (by decide) rfl rfl rfl rfl rfl ?_ | refine plan_load_open H0 HS 5 rfl (by simp) rfl (by decide) (by decide) rfl rfl rfl rfl rfl ?_ | refine plan_load_open H0 HS 6 rfl (by simp) rfl (by decide) (by decide) rfl rfl rfl rfl rfl ?_ | refine plan_load_open H0 HS 7 rfl (by simp) rfl (by decide) (by decide) rfl rfl rfl rfl rfl ?_
        (try simp only [Act.put, List.setIfInBounds_toArray, List.set_cons_succ, List.set_cons_zero])
        refine plan_pure (v := ?pv9) rfl (by decide) (by decide) rfl ?ph9 ?_
        case ph9 => (intro w; go_simp; try with_reducible rfl)
        (try simp only [Act.put, List.setIfInBounds_toArray, List.set_cons_succ, List.set_cons_zero])
        refine plan_pure (v := .bool true) rfl (by decide) (by decide) rfl (by intro w; go_simp) ?_
        refine plan_op rfl (by decide) rfl (fun K hK => ?_)
        go_simp
        (refine (hMay _ H.out).mono ?_; rintro _ w ⟨rfl, hE⟩; replace HS := HS.trans hE; replace H := H.step hE; clear hE)
        refine hK _ _ (fun _ => HS) ?_
        clear hK K
        (try simp only [Act.put, List.setIfInBounds_toArray, List.set_cons_succ, List.set_cons_zero])
        refine plan_pure (v := .bool true) rfl (by decide) (by decide) rfl (by intro w; go_simp) ?_
        refine plan_pure (v := ?pv10) rfl (by decide) (by decide) rfl ?ph10 ?_
        case ph10 => (intro w; go_simp; try with_reducible rfl)
        (try simp only [Act.put, List.setIfInBounds_toArray, List.set_cons_succ, List.set_cons_zero])
        refine plan_pure (v := ?pv11) rfl (by decide) (by decide) rfl ?ph11 ?_
        case ph11 => (intro w; go_simp; try with_reducible rfl)
        (try simp only [Act.put, List.setIfInBounds_toArray, List.set_cons_succ, List.set_cons_zero])
        first | refine plan_load_open H0 HS 0 rfl (by simp) rfl (by decide) (by decide) rfl rfl rfl rfl rfl ?_ | refine plan_load_open H0 HS 1 rfl (by simp) rfl (by decide) (by decide) rfl rfl rfl rfl rfl ?_ | refine plan_load_open H0 HS 2 rfl (by simp) rfl (by decide) (by decide) rfl rfl rfl rfl rfl ?_ | refine plan_load_open H0 HS 3 rfl (by simp) rfl (by decide) (by decide) rfl rfl rfl rfl rfl ?_ | refine plan_load_open H0 HS 4 rfl (by simp) rfl (by decide) (by decide) rfl rfl rfl rfl rfl ?_ | refine plan_load_open H0 HS 5 rfl (by simp) rfl (by decide) (by decide) rfl rfl rfl rfl rfl ?_ | refine plan_load_open H0 HS 6 rfl (by simp) rfl (by decide) (by decide) rfl rfl rfl rfl rfl ?_ | refine plan_load_open H0 HS 7 rfl (by simp) rfl (by decide) (by decide) rfl rfl rfl rfl rfl ?_
        (try simp only [Act.put, List.setIfInBounds_toArray, List.set_cons_succ, List.set_cons_zero])
        first | refine plan_load_open H0 HS 0 rfl (by simp) rfl (by decide) (by decide) rfl rfl rfl rfl rfl ?_ | refine plan_load_open H0 HS 1 rfl (by simp) rfl (by decide) (by decide) rfl rfl rfl rfl rfl ?_ | refine plan_load_open H0 HS 2 rfl (by simp) rfl (by decide) (by decide) rfl rfl rfl rfl rfl ?_ | refine plan_load_open H0 HS 3 rfl (by simp) rfl (by decide) (by decide) rfl rfl rfl rfl rfl ?_ | refine plan_load_open H0 HS 4 rfl (by simp) rfl (by decide) (by decide) rfl rfl rfl rfl rfl ?_ | refine plan_load_open H0 HS 5 rfl (by simp) rfl (by decide) (by decide) rfl rfl rfl rfl rfl ?_ | refine plan_load_open H0 HS 6 rfl (by simp) rfl (by decide) (by decide) rfl rfl rfl rfl rfl ?_ | refine plan_load_open H0 HS 7 rfl (by simp) rfl (by decide) (by decide) rfl rfl rfl rfl rfl ?_
        (try simp only [Act.put, List.setIfInBounds_toArray, List.set_cons_succ, List.set_cons_zero])
        refine plan_op rfl (by decide) rfl (fun K hK => ?_)
        go_simp
        (refine (hMay _ H.out).mono ?_; rintro _ w ⟨rfl, hE⟩; replace HS := HS.trans hE; replace H := H.step hE; clear hE)
        refine hK _ _ (fun _ => HS) ?_
        clear hK K
        (try simp only [Act.put, List.setIfInBounds_toArray, List.set_cons_succ, List.set_cons_zero])
        refine plan_op rfl (by decide) rfl (fun K hK => ?_)
        go_simp
        (refine (hrMay _ H.out).mono ?_; rintro _ w ⟨rfl, hE⟩; replace HS := HS.trans hE; replace H := H.step hE; clear hE)
        refine hK _ _ (fun h => absurd h (by decide)) ?_
        clear hK K
        (try simp only [Act.put, List.setIfInBounds_toArray, List.set_cons_succ, List.set_cons_zero])
        refine plan_pure (v := ?pv12) rfl (by decide) (by decide) rfl ?ph12 ?_
        case ph12 => (intro w; go_simp; try with_reducible rfl)
        (try simp only [Act.put, List.setIfInBounds_toArray, List.set_cons_succ, List.set_cons_zero])
        refine plan_pure (v := ?pv13) rfl (by decide) (by decide) rfl ?ph13 ?_
        case ph13 => (intro w; go_simp; try with_reducible rfl)
        (try simp only [Act.put, List.setIfInBounds_toArray, List.set_cons_succ, List.set_cons_zero])
        refine plan_pure (v := ?pv14) rfl (by decide) (by decide) rfl ?ph14 ?_
        case ph14 => (intro w; go_simp; try with_reducible rfl)
        (try simp only [Act.put, List.setIfInBounds_toArray, List.set_cons_succ, List.set_cons_zero])
        refine plan_op rfl (by decide) rfl (fun K hK => ?_)
        go_simp
        (refine (awake_spec _).mono ?_; rintro _ w ⟨rfl, hE⟩; replace HS := HS.trans hE; replace H := H.step hE; clear hE)
        refine hK _ _ (fun h => absurd h (by decide)) ?_
        clear hK K
        (try simp only [Act.put, List.setIfInBounds_toArray, List.set_cons_succ, List.set_cons_zero])
        refine plan_pure (v := ?pv15) rfl (by decide) (by decide) rfl ?ph15 ?_
        case ph15 => (intro w; go_simp; try with_reducible rfl)
        (try simp only [Act.put, List.setIfInBounds_toArray, List.set_cons_succ, List.set_cons_zero])
        refine plan_pure (v := ?pv16) rfl (by decide) (by decide) rfl ?ph16 ?_
        case ph16 => (intro w; go_simp; try with_reducible rfl)
        (try simp only [Act.put, List.setIfInBounds_toArray, List.set_cons_succ, List.set_cons_zero])
        refine plan_nil ?_
        clear H0 HS
        go_wp2
        go_ret
        exact ⟨rfl, H.ext⟩

theorem deep1_spec (a b : Int) (w0 : World) (eq' : wrap64 ((IntKind.u64.wrap b).tmod 3) = 1) : Calls Try.prog 3 #[.int .i64 a, .int .i64 b] w0 (RetV w0 (.bool true)) := by
  have H := St.start (M := []) (w := w0) (F := fun _ _ => True) (by simp) (Stab.const True) trivial
  obtain ⟨m, hm, em⟩ := red64 a 5 (by omega) (by omega)
  have em' : wrap64 ((IntKind.u64.wrap a).tmod 5) = m := em
  clear em
  have hc := Lib.hid hm; clear hm
  go_enter Try.func3, Try.ntmps3
  go_wp2_with (first | ((with_reducible refine wpl_runx_d 5 rfl ?_ ?_); (focus exact rfl); refine ⟨_, runs_alloc H rfl rfl rfl, ?_⟩; clear H; rintro _ w ⟨b5, rfl, hE, H⟩; clear hE) | ((with_reducible refine wpl_runx_d 27 rfl ?_ ?_); (focus exact rfl); refine ⟨_, by apply runs_buildSlice H; iterate 10 rfl, ?_⟩; clear H; rintro _ w ⟨b27, rfl, hE, H⟩; clear hE) | ((with_reducible refine wpl_runx_d 57 rfl ?_ ?_); (focus exact rfl); refine ⟨_, by apply runs_buildSlice H; iterate 10 rfl, ?_⟩; clear H; rintro _ w ⟨b57, rfl, hE, H⟩; clear hE) | ((with_reducible refine wpl_runx_d 59 rfl ?_ ?_); (focus exact rfl); refine ⟨_, by apply runs_buildSlice H; iterate 10 rfl, ?_⟩; clear H; rintro _ w ⟨b59, rfl, hE, H⟩; clear hE) | ((with_reducible refine wpl_runx_d 65 rfl ?_ ?_); (focus exact rfl); refine ⟨_, by apply runs_buildSlice H; iterate 10 rfl, ?_⟩; clear H; rintro _ w ⟨b65, rfl, hE, H⟩; clear hE) | ((with_reducible refine wpl_runx_d 8 rfl ?_ ?_); (focus exact rfl); refine ⟨_, runs_alloc H rfl rfl rfl, ?_⟩; clear H; rintro _ w ⟨b8, rfl, hE, H⟩; clear hE) | ((with_reducible refine wpl_runx_d 75 rfl ?_ ?_); (focus exact rfl); refine ⟨_, by apply runs_buildSlice H; iterate 10 rfl, ?_⟩; clear H; rintro _ w ⟨b75, rfl, hE, H⟩; clear hE) | ((with_reducible refine wpl_runx_d 101 rfl ?_ ?_); (focus exact rfl); refine ⟨_, by apply runs_buildSlice H; iterate 10 rfl, ?_⟩; clear H; rintro _ w ⟨b101, rfl, hE, H⟩; clear hE) | ((with_reducible refine wpl_runx ?_ ?_); (focus exact rfl); refine ⟨_, runs_load H 0 rfl rfl rfl rfl rfl, ?_⟩; rintro _ _ ⟨rfl, rfl⟩) | ((with_reducible refine wpl_runx ?_ ?_); (focus exact rfl); refine ⟨_, runs_load H 1 rfl rfl rfl rfl rfl, ?_⟩; rintro _ _ ⟨rfl, rfl⟩) | ((with_reducible refine wpl_runx ?_ ?_); (focus exact rfl); refine ⟨_, runs_load H 2 rfl rfl rfl rfl rfl, ?_⟩; rintro _ _ ⟨rfl, rfl⟩) | ((with_reducible refine wpl_runx ?_ ?_); (focus exact rfl); refine ⟨_, runs_store H 0 rfl rfl rfl rfl rfl rfl rfl rfl rfl, ?_⟩; clear H; rintro _ w ⟨rfl, hE, H⟩; clear hE) | ((with_reducible refine wpl_runx ?_ ?_); (focus exact rfl); refine ⟨_, runs_store H 1 rfl rfl rfl rfl rfl rfl rfl rfl rfl, ?_⟩; clear H; rintro _ w ⟨rfl, hE, H⟩; clear hE) | ((with_reducible refine wpl_runx ?_ ?_); (focus exact rfl); refine ⟨_, runs_store H 2 rfl rfl rfl rfl rfl rfl rfl rfl rfl, ?_⟩; clear H; rintro _ w ⟨rfl, hE, H⟩; clear hE) | (refine (atom_spec _ _ _ H.ltAll).mono ?_; rintro _ w ⟨A1, c1, rfl, hA1, hE⟩; replace H := H.step hE; clear hE hA1))
  have hm := hc.out
  try rw [em']
  try rw [eq']
  replace H := H.nilRow 25 6
  go_loopw [6, 48] (fun sv iv wr => ∃ (j : Nat) (xs : List Value), j ≤ 19 ∧ iv = .int .i64 j ∧ St [] [] w0 wr [.row sv j xs 25 6, .obj b5 (.cells #[.int .i64 (atA).kind, .string (atA).name, .int .i64 (atA).int, .int .u64 (atA).re, .int .u64 (atA).im, .slice A1 (atA).args.length c1] 25 (0, 0))] (TsR xs (List.replicate j haH))) (fun _ iv _ => 19 - (intOf iv).toNat)
  case atStart => exact ⟨0, [], Nat.zero_le _, rfl, H.weaken (fun _ => TsR.nil _ _) (TsR.stab _ _)⟩
  case round =>
    clear H
    obtain ⟨j, xs, hj, rfl, H⟩ := hrel
    by_cases hlt : j < 19
    · go_wp2_with (first | ((with_reducible refine wpl_runx_d 5 rfl ?_ ?_); (focus exact rfl); refine ⟨_, runs_alloc H rfl rfl rfl, ?_⟩; clear H; rintro _ w ⟨b5, rfl, hE, H⟩; clear hE) | ((with_reducible refine wpl_runx_d 27 rfl ?_ ?_); (focus exact rfl); refine ⟨_, by apply runs_buildSlice H; iterate 10 rfl, ?_⟩; clear H; rintro _ w ⟨b27, rfl, hE, H⟩; clear hE) | ((with_reducible refine wpl_runx_d 57 rfl ?_ ?_); (focus exact rfl); refine ⟨_, by apply runs_buildSlice H; iterate 10 rfl, ?_⟩; clear H; rintro _ w ⟨b57, rfl, hE, H⟩; clear hE) | ((with_reducible refine wpl_runx_d 59 rfl ?_ ?_); (focus exact rfl); refine ⟨_, by apply runs_buildSlice H; iterate 10 rfl, ?_⟩; clear H; rintro _ w ⟨b59, rfl, hE, H⟩; clear hE) | ((with_reducible refine wpl_runx_d 65 rfl ?_ ?_); (focus exact rfl); refine ⟨_, by apply runs_buildSlice H; iterate 10 rfl, ?_⟩; clear H; rintro _ w ⟨b65, rfl, hE, H⟩; clear hE) | ((with_reducible refine wpl_runx_d 8 rfl ?_ ?_); (focus exact rfl); refine ⟨_, runs_alloc H rfl rfl rfl, ?_⟩; clear H; rintro _ w ⟨b8, rfl, hE, H⟩; clear hE) | ((with_reducible refine wpl_runx_d 75 rfl ?_ ?_); (focus exact rfl); refine ⟨_, by apply runs_buildSlice H; iterate 10 rfl, ?_⟩; clear H; rintro _ w ⟨b75, rfl, hE, H⟩; clear hE) | ((with_reducible refine wpl_runx_d 101 rfl ?_ ?_); (focus exact rfl); refine ⟨_, by apply runs_buildSlice H; iterate 10 rfl, ?_⟩; clear H; rintro _ w ⟨b101, rfl, hE, H⟩; clear hE) | ((with_reducible refine wpl_runx ?_ ?_); (focus exact rfl); refine ⟨_, runs_load H 0 rfl rfl rfl rfl rfl, ?_⟩; rintro _ _ ⟨rfl, rfl⟩) | ((with_reducible refine wpl_runx ?_ ?_); (focus exact rfl); refine ⟨_, runs_load H 1 rfl rfl rfl rfl rfl, ?_⟩; rintro _ _ ⟨rfl, rfl⟩) | ((with_reducible refine wpl_runx ?_ ?_); (focus exact rfl); refine ⟨_, runs_load H 2 rfl rfl rfl rfl rfl, ?_⟩; rintro _ _ ⟨rfl, rfl⟩) | ((with_reducible refine wpl_runx ?_ ?_); (focus exact rfl); refine ⟨_, runs_store H 0 rfl rfl rfl rfl rfl rfl rfl rfl rfl, ?_⟩; clear H; rintro _ w ⟨rfl, hE, H⟩; clear hE) | ((with_reducible refine wpl_runx ?_ ?_); (focus exact rfl); refine ⟨_, runs_store H 1 rfl rfl rfl rfl rfl rfl rfl rfl rfl, ?_⟩; clear H; rintro _ w ⟨rfl, hE, H⟩; clear hE) | ((with_reducible refine wpl_runx ?_ ?_); (focus exact rfl); refine ⟨_, runs_store H 2 rfl rfl rfl rfl rfl rfl rfl rfl rfl, ?_⟩; clear H; rintro _ w ⟨rfl, hE, H⟩; clear hE))
      replace H := H.nilRow 25 6
      try rw [show decide ((j : Int) < 19) = true from by simp; omega]
      go_loopw [7, 50] (fun sv2 iv2 wr2 => ∃ (i : Nat) (ys : List Value), i ≤ 20 ∧ iv2 = .int .i64 i ∧ St [] [] w0 wr2 [.row sv2 i ys 25 6, .row u6 j xs 25 6, .obj b5 (.cells #[.int .i64 (atA).kind, .string (atA).name, .int .i64 (atA).int, .int .u64 (atA).re, .int .u64 (atA).im, .slice A1 (atA).args.length c1] 25 (0, 0))] (fun M w => TsR xs (List.replicate j haH) M w ∧ TsR ys (List.replicate i geG) M w)) (fun _ iv2 _ => 20 - (intOf iv2).toNat)
      case atStart => exact ⟨0, [], Nat.zero_le _, rfl, H.weaken (fun h => ⟨h, TsR.nil _ _⟩) ((TsR.stab _ _).and (TsR.stab _ _))⟩
      case round =>
        clear H
        obtain ⟨i, ys, hi, rfl, H⟩ := hrel
        by_cases hli : i < 20
        · go_wp2_with (first | ((with_reducible refine wpl_runx_d 5 rfl ?_ ?_); (focus exact rfl); refine ⟨_, runs_alloc H rfl rfl rfl, ?_⟩; clear H; rintro _ w ⟨b5, rfl, hE, H⟩; clear hE) | ((with_reducible refine wpl_runx_d 27 rfl ?_ ?_); (focus exact rfl); refine ⟨_, by apply runs_buildSlice H; iterate 10 rfl, ?_⟩; clear H; rintro _ w ⟨b27, rfl, hE, H⟩; clear hE) | ((with_reducible refine wpl_runx_d 57 rfl ?_ ?_); (focus exact rfl); refine ⟨_, by apply runs_buildSlice H; iterate 10 rfl, ?_⟩; clear H; rintro _ w ⟨b57, rfl, hE, H⟩; clear hE) | ((with_reducible refine wpl_runx_d 59 rfl ?_ ?_); (focus exact rfl); refine ⟨_, by apply runs_buildSlice H; iterate 10 rfl, ?_⟩; clear H; rintro _ w ⟨b59, rfl, hE, H⟩; clear hE) | ((with_reducible refine wpl_runx_d 65 rfl ?_ ?_); (focus exact rfl); refine ⟨_, by apply runs_buildSlice H; iterate 10 rfl, ?_⟩; clear H; rintro _ w ⟨b65, rfl, hE, H⟩; clear hE) | ((with_reducible refine wpl_runx_d 8 rfl ?_ ?_); (focus exact rfl); refine ⟨_, runs_alloc H rfl rfl rfl, ?_⟩; clear H; rintro _ w ⟨b8, rfl, hE, H⟩; clear hE) | ((with_reducible refine wpl_runx_d 75 rfl ?_ ?_); (focus exact rfl); refine ⟨_, by apply runs_buildSlice H; iterate 10 rfl, ?_⟩; clear H; rintro _ w ⟨b75, rfl, hE, H⟩; clear hE) | ((with_reducible refine wpl_runx_d 101 rfl ?_ ?_); (focus exact rfl); refine ⟨_, by apply runs_buildSlice H; iterate 10 rfl, ?_⟩; clear H; rintro _ w ⟨b101, rfl, hE, H⟩; clear hE) | ((with_reducible refine wpl_runx ?_ ?_); (focus exact rfl); refine ⟨_, runs_load H 0 rfl rfl rfl rfl rfl, ?_⟩; rintro _ _ ⟨rfl, rfl⟩) | ((with_reducible refine wpl_runx ?_ ?_); (focus exact rfl); refine ⟨_, runs_load H 1 rfl rfl rfl rfl rfl, ?_⟩; rintro _ _ ⟨rfl, rfl⟩) | ((with_reducible refine wpl_runx ?_ ?_); (focus exact rfl); refine ⟨_, runs_load H 2 rfl rfl rfl rfl rfl, ?_⟩; rintro _ _ ⟨rfl, rfl⟩) | ((with_reducible refine wpl_runx ?_ ?_); (focus exact rfl); refine ⟨_, runs_store H 0 rfl rfl rfl rfl rfl rfl rfl rfl rfl, ?_⟩; clear H; rintro _ w ⟨rfl, hE, H⟩; clear hE) | ((with_reducible refine wpl_runx ?_ ?_); (focus exact rfl); refine ⟨_, runs_store H 1 rfl rfl rfl rfl rfl rfl rfl rfl rfl, ?_⟩; clear H; rintro _ w ⟨rfl, hE, H⟩; clear hE) | ((with_reducible refine wpl_runx ?_ ?_); (focus exact rfl); refine ⟨_, runs_store H 2 rfl rfl rfl rfl rfl rfl rfl rfl rfl, ?_⟩; clear H; rintro _ w ⟨rfl, hE, H⟩; clear hE) | (replace H := H.sealLit 0 rfl (l := [atA, atA, atA, atA]) (fun M w h => TsR.cons (t := atA) (AR.nil _ _ _ _) (TsR.cons (t := atA) (AR.nil _ _ _ _) (TsR.cons (t := atA) (AR.nil _ _ _ _) (TsR.cons (t := atA) (AR.nil _ _ _ _) (TsR.nil _ _))))) rfl; refine (comp_spec _ _ _ [atA, atA, atA, atA] _ _ H.ltAll H.fact.2).mono ?_; rintro _ w ⟨A2, c2, rfl, hA2, hE⟩; replace H := ((H.step hE).add hA2 (AR.stab _ _ _)).weaken (fun h => ⟨h.1.1, h.2⟩) (((TsR.stab _ _).and (TsR.stab _ _)).and (AR.stab _ _ _)); clear hE hA2) | ((with_reducible refine wpl_runx ?_ ?_); (focus exact rfl); refine ⟨_, runs_append1 H 1 rfl rfl rfl rfl rfl Try.infoT rfl (by decide) 0 rfl rfl rfl (by decide) (by unfold maxLen; omega) (by omega) (fun r => rfl), ?_⟩; clear H; rintro _ w ⟨g', cap', rfl, hE, H⟩; clear hE))
          go_roundw
          case rel =>
            refine ⟨i + 1, _, by omega, by go_num, ((H.drop 0 rfl).weaken (fun h => ⟨h.1.1, ?_⟩) ((TsR.stab _ _).and (TsR.stab _ _)))⟩
            rw [List.replicate_succ']
            exact TsR.snoc (k := 5) (s := ⟨#[103]⟩) (n := 0) (r := 0) (i := 0) (a := [atA, atA, atA, atA]) h.1.2 h.2
          case measure => simp [intOf]; omega
        · obtain rfl : i = 20 := by omega
          obtain ⟨A3, c3, rfl, H'⟩ := H.sealT 0 (l := List.replicate 20 geG) rfl (fun M w h => h.2)
          clear H
          have H := H'.weaken (fun h => (⟨h.1.1, h.2⟩ : TsR xs (List.replicate j haH) _ _ ∧ AR A3 c3 (List.replicate 20 geG) _ _)) ((TsR.stab _ _).and (AR.stab _ _ _))
          clear H'
          generalize hl : List.replicate 20 geG = l at H ⊢
          go_wp2_with (first | ((with_reducible refine wpl_runx_d 5 rfl ?_ ?_); (focus exact rfl); refine ⟨_, runs_alloc H rfl rfl rfl, ?_⟩; clear H; rintro _ w ⟨b5, rfl, hE, H⟩; clear hE) | ((with_reducible refine wpl_runx_d 27 rfl ?_ ?_); (focus exact rfl); refine ⟨_, by apply runs_buildSlice H; iterate 10 rfl, ?_⟩; clear H; rintro _ w ⟨b27, rfl, hE, H⟩; clear hE) | ((with_reducible refine wpl_runx_d 57 rfl ?_ ?_); (focus exact rfl); refine ⟨_, by apply runs_buildSlice H; iterate 10 rfl, ?_⟩; clear H; rintro _ w ⟨b57, rfl, hE, H⟩; clear hE) | ((with_reducible refine wpl_runx_d 59 rfl ?_ ?_); (focus exact rfl); refine ⟨_, by apply runs_buildSlice H; iterate 10 rfl, ?_⟩; clear H; rintro _ w ⟨b59, rfl, hE, H⟩; clear hE) | ((with_reducible refine wpl_runx_d 65 rfl ?_ ?_); (focus exact rfl); refine ⟨_, by apply runs_buildSlice H; iterate 10 rfl, ?_⟩; clear H; rintro _ w ⟨b65, rfl, hE, H⟩; clear hE) | ((with_reducible refine wpl_runx_d 8 rfl ?_ ?_); (focus exact rfl); refine ⟨_, runs_alloc H rfl rfl rfl, ?_⟩; clear H; rintro _ w ⟨b8, rfl, hE, H⟩; clear hE) | ((with_reducible refine wpl_runx_d 75 rfl ?_ ?_); (focus exact rfl); refine ⟨_, by apply runs_buildSlice H; iterate 10 rfl, ?_⟩; clear H; rintro _ w ⟨b75, rfl, hE, H⟩; clear hE) | ((with_reducible refine wpl_runx_d 101 rfl ?_ ?_); (focus exact rfl); refine ⟨_, by apply runs_buildSlice H; iterate 10 rfl, ?_⟩; clear H; rintro _ w ⟨b101, rfl, hE, H⟩; clear hE) | ((with_reducible refine wpl_runx ?_ ?_); (focus exact rfl); refine ⟨_, runs_load H 0 rfl rfl rfl rfl rfl, ?_⟩; rintro _ _ ⟨rfl, rfl⟩) | ((with_reducible refine wpl_runx ?_ ?_); (focus exact rfl); refine ⟨_, runs_load H 1 rfl rfl rfl rfl rfl, ?_⟩; rintro _ _ ⟨rfl, rfl⟩) | ((with_reducible refine wpl_runx ?_ ?_); (focus exact rfl); refine ⟨_, runs_load H 2 rfl rfl rfl rfl rfl, ?_⟩; rintro _ _ ⟨rfl, rfl⟩) | ((with_reducible refine wpl_runx ?_ ?_); (focus exact rfl); refine ⟨_, runs_store H 0 rfl rfl rfl rfl rfl rfl rfl rfl rfl, ?_⟩; clear H; rintro _ w ⟨rfl, hE, H⟩; clear hE) | ((with_reducible refine wpl_runx ?_ ?_); (focus exact rfl); refine ⟨_, runs_store H 1 rfl rfl rfl rfl rfl rfl rfl rfl rfl, ?_⟩; clear H; rintro _ w ⟨rfl, hE, H⟩; clear hE) | ((with_reducible refine wpl_runx ?_ ?_); (focus exact rfl); refine ⟨_, runs_store H 2 rfl rfl rfl rfl rfl rfl rfl rfl rfl, ?_⟩; clear H; rintro _ w ⟨rfl, hE, H⟩; clear hE) | (refine (comp_spec _ _ _ l _ _ H.ltAll H.fact.2).mono ?_; rintro _ w ⟨A2, c2, rfl, hA2, hE⟩; replace H := (H.step hE).add hA2 (AR.stab _ _ _); clear hE hA2) | ((with_reducible refine wpl_runx ?_ ?_); (focus exact rfl); refine ⟨_, runs_append1 H 1 rfl rfl rfl rfl rfl Try.infoT rfl (by decide) 0 rfl rfl rfl (by decide) (by unfold maxLen; omega) (by omega) (fun r => rfl), ?_⟩; clear H; rintro _ w ⟨g', cap', rfl, hE, H⟩; clear hE))
          go_roundw
          case rel =>
            refine ⟨j + 1, _, by omega, by go_num, ((H.drop 0 rfl).weaken (fun h => ?_) (TsR.stab _ _))⟩
            rw [List.replicate_succ']
            subst hl
            exact TsR.snoc (k := 5) (s := ⟨#[104]⟩) (n := 0) (r := 0) (i := 0) (a := List.replicate 20 geG) h.1.1 h.2
          case measure => simp [intOf]; omega
    · obtain rfl : j = 19 := by omega
      obtain ⟨A3, c3, rfl, H'⟩ := H.sealT 0 (l := List.replicate 19 haH) rfl (fun M w h => h)
      clear H
      have H := H'.weaken (fun h => h.2) (AR.stab _ _ _)
      clear H'
      generalize hl : List.replicate 19 haH = l at H ⊢
      go_wp2_with (first | ((with_reducible refine wpl_runx_d 5 rfl ?_ ?_); (focus exact rfl); refine ⟨_, runs_alloc H rfl rfl rfl, ?_⟩; clear H; rintro _ w ⟨b5, rfl, hE, H⟩; clear hE) | ((with_reducible refine wpl_runx_d 27 rfl ?_ ?_); (focus exact rfl); refine ⟨_, by apply runs_buildSlice H; iterate 10 rfl, ?_⟩; clear H; rintro _ w ⟨b27, rfl, hE, H⟩; clear hE) | ((with_reducible refine wpl_runx_d 57 rfl ?_ ?_); (focus exact rfl); refine ⟨_, by apply runs_buildSlice H; iterate 10 rfl, ?_⟩; clear H; rintro _ w ⟨b57, rfl, hE, H⟩; clear hE) | ((with_reducible refine wpl_runx_d 59 rfl ?_ ?_); (focus exact rfl); refine ⟨_, by apply runs_buildSlice H; iterate 10 rfl, ?_⟩; clear H; rintro _ w ⟨b59, rfl, hE, H⟩; clear hE) | ((with_reducible refine wpl_runx_d 65 rfl ?_ ?_); (focus exact rfl); refine ⟨_, by apply runs_buildSlice H; iterate 10 rfl, ?_⟩; clear H; rintro _ w ⟨b65, rfl, hE, H⟩; clear hE) | ((with_reducible refine wpl_runx_d 8 rfl ?_ ?_); (focus exact rfl); refine ⟨_, runs_alloc H rfl rfl rfl, ?_⟩; clear H; rintro _ w ⟨b8, rfl, hE, H⟩; clear hE) | ((with_reducible refine wpl_runx_d 75 rfl ?_ ?_); (focus exact rfl); refine ⟨_, by apply runs_buildSlice H; iterate 10 rfl, ?_⟩; clear H; rintro _ w ⟨b75, rfl, hE, H⟩; clear hE) | ((with_reducible refine wpl_runx_d 101 rfl ?_ ?_); (focus exact rfl); refine ⟨_, by apply runs_buildSlice H; iterate 10 rfl, ?_⟩; clear H; rintro _ w ⟨b101, rfl, hE, H⟩; clear hE) | ((with_reducible refine wpl_runx ?_ ?_); (focus exact rfl); refine ⟨_, runs_load H 0 rfl rfl rfl rfl rfl, ?_⟩; rintro _ _ ⟨rfl, rfl⟩) | ((with_reducible refine wpl_runx ?_ ?_); (focus exact rfl); refine ⟨_, runs_load H 1 rfl rfl rfl rfl rfl, ?_⟩; rintro _ _ ⟨rfl, rfl⟩) | ((with_reducible refine wpl_runx ?_ ?_); (focus exact rfl); refine ⟨_, runs_load H 2 rfl rfl rfl rfl rfl, ?_⟩; rintro _ _ ⟨rfl, rfl⟩) | ((with_reducible refine wpl_runx ?_ ?_); (focus exact rfl); refine ⟨_, runs_store H 0 rfl rfl rfl rfl rfl rfl rfl rfl rfl, ?_⟩; clear H; rintro _ w ⟨rfl, hE, H⟩; clear hE) | ((with_reducible refine wpl_runx ?_ ?_); (focus exact rfl); refine ⟨_, runs_store H 1 rfl rfl rfl rfl rfl rfl rfl rfl rfl, ?_⟩; clear H; rintro _ w ⟨rfl, hE, H⟩; clear hE) | ((with_reducible refine wpl_runx ?_ ?_); (focus exact rfl); refine ⟨_, runs_store H 2 rfl rfl rfl rfl rfl rfl rfl rfl rfl, ?_⟩; clear H; rintro _ w ⟨rfl, hE, H⟩; clear hE) | (refine (comp_spec _ _ _ l _ _ H.ltAll H.fact).mono ?_; rintro _ w ⟨A2, c2, rfl, hA2, hE⟩; replace H := ((H.step hE).add hA2 (AR.stab _ _ _)).weaken (fun h => h.2) (AR.stab _ _ _); clear hE hA2))
      try rw [show wrap64 (77 + (m : Int)) = 77 + (m : Int) by unfold wrap64; omega]
      go_loopw [72] (fun iv wr => ∃ (j : Nat) (A : Option Addr) (c : Nat), j ≤ 77 + m ∧ iv = .int .i64 j ∧ St [] [] w0 wr [.obj b8 (.cells #[.int .i64 (upF baF j).kind, .string (upF baF j).name, .int .i64 (upF baF j).int, .int .u64 (upF baF j).re, .int .u64 (upF baF j).im, .slice A (upF baF j).args.length c] 25 (0, 0)), .obj b5 (.cells #[.int .i64 (atA).kind, .string (atA).name, .int .i64 (atA).int, .int .u64 (atA).re, .int .u64 (atA).im, .slice A1 (atA).args.length c1] 25 (0, 0))] (AR A c (upF baF j).args)) (fun iv _ => 77 + m - (intOf iv).toNat)
      case atStart => subst hl; exact ⟨0, A2, c2, Nat.zero_le _, rfl, H⟩
      case round =>
        clear H hl
        obtain ⟨j, A, c, hj, rfl, H⟩ := hrel
        by_cases hlt : j < 77 + m
        · go_wp2_with (first | ((with_reducible refine wpl_runx_d 5 rfl ?_ ?_); (focus exact rfl); refine ⟨_, runs_alloc H rfl rfl rfl, ?_⟩; clear H; rintro _ w ⟨b5, rfl, hE, H⟩; clear hE) | ((with_reducible refine wpl_runx_d 27 rfl ?_ ?_); (focus exact rfl); refine ⟨_, by apply runs_buildSlice H; iterate 10 rfl, ?_⟩; clear H; rintro _ w ⟨b27, rfl, hE, H⟩; clear hE) | ((with_reducible refine wpl_runx_d 57 rfl ?_ ?_); (focus exact rfl); refine ⟨_, by apply runs_buildSlice H; iterate 10 rfl, ?_⟩; clear H; rintro _ w ⟨b57, rfl, hE, H⟩; clear hE) | ((with_reducible refine wpl_runx_d 59 rfl ?_ ?_); (focus exact rfl); refine ⟨_, by apply runs_buildSlice H; iterate 10 rfl, ?_⟩; clear H; rintro _ w ⟨b59, rfl, hE, H⟩; clear hE) | ((with_reducible refine wpl_runx_d 65 rfl ?_ ?_); (focus exact rfl); refine ⟨_, by apply runs_buildSlice H; iterate 10 rfl, ?_⟩; clear H; rintro _ w ⟨b65, rfl, hE, H⟩; clear hE) | ((with_reducible refine wpl_runx_d 8 rfl ?_ ?_); (focus exact rfl); refine ⟨_, runs_alloc H rfl rfl rfl, ?_⟩; clear H; rintro _ w ⟨b8, rfl, hE, H⟩; clear hE) | ((with_reducible refine wpl_runx_d 75 rfl ?_ ?_); (focus exact rfl); refine ⟨_, by apply runs_buildSlice H; iterate 10 rfl, ?_⟩; clear H; rintro _ w ⟨b75, rfl, hE, H⟩; clear hE) | ((with_reducible refine wpl_runx_d 101 rfl ?_ ?_); (focus exact rfl); refine ⟨_, by apply runs_buildSlice H; iterate 10 rfl, ?_⟩; clear H; rintro _ w ⟨b101, rfl, hE, H⟩; clear hE) | ((with_reducible refine wpl_runx ?_ ?_); (focus exact rfl); refine ⟨_, runs_load H 0 rfl rfl rfl rfl rfl, ?_⟩; rintro _ _ ⟨rfl, rfl⟩) | ((with_reducible refine wpl_runx ?_ ?_); (focus exact rfl); refine ⟨_, runs_load H 1 rfl rfl rfl rfl rfl, ?_⟩; rintro _ _ ⟨rfl, rfl⟩) | ((with_reducible refine wpl_runx ?_ ?_); (focus exact rfl); refine ⟨_, runs_load H 2 rfl rfl rfl rfl rfl, ?_⟩; rintro _ _ ⟨rfl, rfl⟩) | ((with_reducible refine wpl_runx ?_ ?_); (focus exact rfl); refine ⟨_, runs_store H 0 rfl rfl rfl rfl rfl rfl rfl rfl rfl, ?_⟩; clear H; rintro _ w ⟨rfl, hE, H⟩; clear hE) | ((with_reducible refine wpl_runx ?_ ?_); (focus exact rfl); refine ⟨_, runs_store H 1 rfl rfl rfl rfl rfl rfl rfl rfl rfl, ?_⟩; clear H; rintro _ w ⟨rfl, hE, H⟩; clear hE) | ((with_reducible refine wpl_runx ?_ ?_); (focus exact rfl); refine ⟨_, runs_store H 2 rfl rfl rfl rfl rfl rfl rfl rfl rfl, ?_⟩; clear H; rintro _ w ⟨rfl, hE, H⟩; clear hE) | (replace H := H.sealLit 0 rfl (l := [upF baF j]) (fun M w h => TsR.cons h (TsR.nil _ _)) rfl; refine (comp_spec _ _ _ [upF baF j] _ _ H.ltAll H.fact.2).mono ?_; rintro _ w ⟨A2, c2, rfl, hA2, hE⟩; replace H := ((H.step hE).add hA2 (AR.stab _ _ _)).weaken (fun h => h.2) (AR.stab _ _ _); clear hE hA2))
          go_roundw
          case rel => exact ⟨j + 1, A2, c2, by omega, by go_num, H⟩
          case measure => simp [intOf]; omega
        · obtain rfl : j = 77 + m := by omega
          obtain ⟨E, N, hEm, hMay, hrMay, hN⟩ : ∃ E N : Int, (E == 0) = decide (N > 0) ∧ (∀ w, AR A c (upF baF (77 + m)).args [] w → Calls Try.prog 13 #[.agg #[.int .i64 (upF baF (77 + m)).kind, .string (upF baF (77 + m)).name, .int .i64 (upF baF (77 + m)).int, .int .u64 (upF baF (77 + m)).re, .int .u64 (upF baF (77 + m)).im, .slice A (upF baF (77 + m)).args.length c]] w (RetV w (.int .i64 E))) ∧ (∀ w, AR A c (upF baF (77 + m)).args [] w → Calls Try.prog 14 #[.agg #[.int .i64 (upF baF (77 + m)).kind, .string (upF baF (77 + m)).name, .int .i64 (upF baF (77 + m)).int, .int .u64 (upF baF (77 + m)).re, .int .u64 (upF baF (77 + m)).im, .slice A (upF baF (77 + m)).args.length c]] w (RetV w (.int .i64 E))) ∧ (∀ w, AR A c (upF baF (77 + m)).args [] w → Calls Try.prog 16 #[.agg #[.int .i64 (upF baF (77 + m)).kind, .string (upF baF (77 + m)).name, .int .i64 (upF baF (77 + m)).int, .int .u64 (upF baF (77 + m)).re, .int .u64 (upF baF (77 + m)).im, .slice A (upF baF (77 + m)).args.length c]] w (RetV w (.int .i64 N))) :=
            ⟨mayE (upF baF (77 + m)), nodesE (upF baF (77 + m)), may_nodes _, fun w h => may_spec _ A c w h, fun w h => rMay_spec _ A c w (slim_baF _) h, fun w h => nodes_spec _ A c w h⟩
          generalize hB : decide (N > 0) = B at hEm
          have hB' : decide (0 < N) = B := hB
          cases B
          · skip
            go_wp2_with (first | ((with_reducible refine wpl_runx_d 5 rfl ?_ ?_); (focus exact rfl); refine ⟨_, runs_alloc H rfl rfl rfl, ?_⟩; clear H; rintro _ w ⟨b5, rfl, hE, H⟩; clear hE) | ((with_reducible refine wpl_runx_d 27 rfl ?_ ?_); (focus exact rfl); refine ⟨_, by apply runs_buildSlice H; iterate 10 rfl, ?_⟩; clear H; rintro _ w ⟨b27, rfl, hE, H⟩; clear hE) | ((with_reducible refine wpl_runx_d 57 rfl ?_ ?_); (focus exact rfl); refine ⟨_, by apply runs_buildSlice H; iterate 10 rfl, ?_⟩; clear H; rintro _ w ⟨b57, rfl, hE, H⟩; clear hE) | ((with_reducible refine wpl_runx_d 59 rfl ?_ ?_); (focus exact rfl); refine ⟨_, by apply runs_buildSlice H; iterate 10 rfl, ?_⟩; clear H; rintro _ w ⟨b59, rfl, hE, H⟩; clear hE) | ((with_reducible refine wpl_runx_d 65 rfl ?_ ?_); (focus exact rfl); refine ⟨_, by apply runs_buildSlice H; iterate 10 rfl, ?_⟩; clear H; rintro _ w ⟨b65, rfl, hE, H⟩; clear hE) | ((with_reducible refine wpl_runx_d 8 rfl ?_ ?_); (focus exact rfl); refine ⟨_, runs_alloc H rfl rfl rfl, ?_⟩; clear H; rintro _ w ⟨b8, rfl, hE, H⟩; clear hE) | ((with_reducible refine wpl_runx_d 75 rfl ?_ ?_); (focus exact rfl); refine ⟨_, by apply runs_buildSlice H; iterate 10 rfl, ?_⟩; clear H; rintro _ w ⟨b75, rfl, hE, H⟩; clear hE) | ((with_reducible refine wpl_runx_d 101 rfl ?_ ?_); (focus exact rfl); refine ⟨_, by apply runs_buildSlice H; iterate 10 rfl, ?_⟩; clear H; rintro _ w ⟨b101, rfl, hE, H⟩; clear hE) | ((with_reducible refine wpl_runx ?_ ?_); (focus exact rfl); refine ⟨_, runs_load H 0 rfl rfl rfl rfl rfl, ?_⟩; rintro _ _ ⟨rfl, rfl⟩) | ((with_reducible refine wpl_runx ?_ ?_); (focus exact rfl); refine ⟨_, runs_load H 1 rfl rfl rfl rfl rfl, ?_⟩; rintro _ _ ⟨rfl, rfl⟩) | ((with_reducible refine wpl_runx ?_ ?_); (focus exact rfl); refine ⟨_, runs_load H 2 rfl rfl rfl rfl rfl, ?_⟩; rintro _ _ ⟨rfl, rfl⟩) | ((with_reducible refine wpl_runx ?_ ?_); (focus exact rfl); refine ⟨_, runs_store H 0 rfl rfl rfl rfl rfl rfl rfl rfl rfl, ?_⟩; clear H; rintro _ w ⟨rfl, hE, H⟩; clear hE) | ((with_reducible refine wpl_runx ?_ ?_); (focus exact rfl); refine ⟨_, runs_store H 1 rfl rfl rfl rfl rfl rfl rfl rfl rfl, ?_⟩; clear H; rintro _ w ⟨rfl, hE, H⟩; clear hE) | ((with_reducible refine wpl_runx ?_ ?_); (focus exact rfl); refine ⟨_, runs_store H 2 rfl rfl rfl rfl rfl rfl rfl rfl rfl, ?_⟩; clear H; rintro _ w ⟨rfl, hE, H⟩; clear hE))
            refine wp_region_st H [] [[], [0], [0, 1], [], [0, 1, 3], [0, 1, 3, 4], [0, 1, 2, 3, 4, 5], [0, 1, 2, 3, 4, 5, 6], [0, 1, 2, 3, 4, 5, 6, 7], [0, 1, 2, 3, 4, 5, 6, 7, 8], [0, 1, 2, 3, 4, 5, 6, 7], [0, 1, 2, 3, 4, 5, 6, 7, 8, 9, 10], [0, 1, 2, 3, 4, 5, 6, 7, 8, 9, 10, 11], [0, 1, 2, 3, 4, 5, 6, 7, 8, 9, 10, 11, 12], [0, 1, 2, 3, 4, 5, 6, 7, 8, 9, 10, 11, 12, 13], [0, 1, 2, 3, 4, 5, 6, 7, 8, 9, 10, 11, 12, 13, 14], [0, 1, 2, 3, 4, 5, 6, 7, 8, 9, 10, 11, 12, 13, 14, 15], [0, 1, 2, 3, 4, 5, 6, 7, 8, 9, 10, 11, 12, 13, 14, 15, 16]] [0, 3, 8, 10] [0, 2, 3, 5, 6, 7, 8, 10, 12, 13, 14, 16, 17] [0, 3, 1, 2, 4, 5, 6, 7, 8, 10, 9, 11, 12, 13, 14, 15, 16, 17] (by kernel_rfl) (by kernel_rfl) (fun d v c a w h => by cases d <;> exact h) ?_
            clear H
            intro w H
            have HS := Ext.refl [] w
            have H0 := H
            first | refine plan_load_open H0 HS 0 rfl (by simp) rfl (by decide) (by decide) rfl rfl rfl rfl rfl ?_ | refine plan_load_open H0 HS 1 rfl (by simp) rfl (by decide) (by decide) rfl rfl rfl rfl rfl ?_ | refine plan_load_open H0 HS 2 rfl (by simp) rfl (by decide) (by decide) rfl rfl rfl rfl rfl ?_ | refine plan_load_open H0 HS 3 rfl (by simp) rfl (by decide) (by decide) rfl rfl rfl rfl rfl ?_ | refine plan_load_open H0 HS 4 rfl (by simp) rfl (by decide) (by decide) rfl rfl rfl rfl rfl ?_ | refine plan_load_open H0 HS 5 rfl (by simp) rfl (by decide) (by decide) rfl rfl rfl rfl rfl ?_ | refine plan_load_open H0 HS 6 rfl (by simp) rfl (by decide) (by decide) rfl rfl rfl rfl rfl ?_ | refine plan_load_open H0 HS 7 rfl (by simp) rfl (by decide) (by decide) rfl rfl rfl rfl rfl ?_
            (try simp only [Act.put, List.setIfInBounds_toArray, List.set_cons_succ, List.set_cons_zero])
            first | refine plan_load_open H0 HS 0 rfl (by simp) rfl (by decide) (by decide) rfl rfl rfl rfl rfl ?_ | refine plan_load_open H0 HS 1 rfl (by simp) rfl (by decide) (by decide) rfl rfl rfl rfl rfl ?_ | refine plan_load_open H0 HS 2 rfl (by simp) rfl (by decide) (by decide) rfl rfl rfl rfl rfl ?_ | refine plan_load_open H0 HS 3 rfl (by simp) rfl (by decide) (by decide) rfl rfl rfl rfl rfl ?_ | refine plan_load_open H0 HS 4 rfl (by simp) rfl (by decide) (by decide) rfl rfl rfl rfl rfl ?_ | refine plan_load_open H0 HS 5 rfl (by simp) rfl (by decide) (by decide) rfl rfl rfl rfl rfl ?_ | refine plan_load_open H0 HS 6 rfl (by simp) rfl (by decide) (by decide) rfl rfl rfl rfl rfl ?_ | refine plan_load_open H0 HS 7 rfl (by simp) rfl (by decide) (by decide) rfl rfl rfl rfl rfl ?_
            (try simp only [Act.put, List.setIfInBounds_toArray, List.set_cons_succ, List.set_cons_zero])
            refine plan_op rfl (by decide) rfl (fun K hK => ?_)
            go_simp
            (refine (hMay _ H.out).mono ?_; rintro _ w ⟨rfl, hE⟩; replace HS := HS.trans hE; replace H := H.step hE; clear hE)
            refine hK _ _ (fun _ => HS) ?_
            clear hK K
            (try simp only [Act.put, List.setIfInBounds_toArray, List.set_cons_succ, List.set_cons_zero])
            refine plan_pure (v := .bool false) rfl (by decide) (by decide) rfl (by intro w; go_simp) ?_
            refine plan_op rfl (by decide) rfl (fun K hK => ?_)
            go_simp
            (refine (hN _ H.out).mono ?_; rintro _ w ⟨rfl, hE⟩; replace HS := HS.trans hE; replace H := H.step hE; clear hE)
            refine hK _ _ (fun _ => HS) ?_
            clear hK K
            (try simp only [Act.put, List.setIfInBounds_toArray, List.set_cons_succ, List.set_cons_zero])
            refine plan_pure (v := .bool false) rfl (by decide) (by decide) rfl (by intro w; go_simp) ?_
            refine plan_pure (v := ?pv17) rfl (by decide) (by decide) rfl ?ph17 ?_
            case ph17 => (intro w; go_simp; try with_reducible rfl)
            (try simp only [Act.put, List.setIfInBounds_toArray, List.set_cons_succ, List.set_cons_zero])
            refine plan_pure (v := ?pv18) rfl (by decide) (by decide) rfl ?ph18 ?_
            case ph18 => (intro w; go_simp; try with_reducible rfl)
            (try simp only [Act.put, List.setIfInBounds_toArray, List.set_cons_succ, List.set_cons_zero])
            first | refine plan_load_open H0 HS 0 rfl (by simp) rfl (by decide) (by decide) rfl rfl rfl rfl rfl ?_ | refine plan_load_open H0 HS 1 rfl (by simp) rfl (by decide) (by decide) rfl rfl rfl rfl rfl ?_ | refine plan_load_open H0 HS 2 rfl (by simp) rfl (by decide) (by decide) rfl rfl rfl rfl rfl ?_ | refine plan_load_open H0 HS 3 rfl (by simp) rfl (by decide) (by decide) rfl rfl rfl rfl rfl ?_ | refine plan_load_open H0 HS 4 rfl (by simp) rfl (by decide) (by decide) rfl rfl rfl rfl rfl ?_ | refine plan_load_open H0 HS 5 rfl (by simp) rfl (by decide) (by decide) rfl rfl rfl rfl rfl ?_ | refine plan_load_open H0 HS 6 rfl (by simp) rfl (by decide) (by decide) rfl rfl rfl rfl rfl ?_ | refine plan_load_open H0 HS 7 rfl (by simp) rfl (by decide) (by decide) rfl rfl rfl rfl rfl ?_
            (try simp only [Act.put, List.setIfInBounds_toArray, List.set_cons_succ, List.set_cons_zero])
            first | refine plan_load_open H0 HS 0 rfl (by simp) rfl (by decide) (by decide) rfl rfl rfl rfl rfl ?_ | refine plan_load_open H0 HS 1 rfl (by simp) rfl (by decide) (by decide) rfl rfl rfl rfl rfl ?_ | refine plan_load_open H0 HS 2 rfl (by simp) rfl (by decide) (by decide) rfl rfl rfl rfl rfl ?_ | refine plan_load_open H0 HS 3 rfl (by simp) rfl (by decide) (by decide) rfl rfl rfl rfl rfl ?_ | refine plan_load_open H0 HS 4 rfl (by simp) rfl (by decide) (by decide) rfl rfl rfl rfl rfl ?_ | refine plan_load_open H0 HS 5 rfl (by simp) rfl (by decide) (by decide) rfl rfl rfl rfl rfl ?_ | refine plan_load_open H0 HS 6 rfl (by simp) rfl (by decide) (by decide) rfl rfl rfl rfl rfl ?_ | refine plan_load_open H0 HS 7 rfl (by simp) rfl (by decide) (by decide) rfl rfl rfl rfl rfl ?_
            (try simp only [Act.put, List.setIfInBounds_toArray, List.set_cons_succ, List.set_cons_zero])
            refine plan_op rfl (by decide) rfl (fun K hK => ?_)
            go_simp
            (refine (hMay _ H.out).mono ?_; rintro _ w ⟨rfl, hE⟩; replace HS := HS.trans hE; replace H := H.step hE; clear hE)
            refine hK _ _ (fun _ => HS) ?_
            clear hK K
            (try simp only [Act.put, List.setIfInBounds_toArray, List.set_cons_succ, List.set_cons_zero])
            refine plan_op rfl (by decide) rfl (fun K hK => ?_)
            go_simp
            (refine (hrMay _ H.out).mono ?_; rintro _ w ⟨rfl, hE⟩; replace HS := HS.trans hE; replace H := H.step hE; clear hE)
            refine hK _ _ (fun h => absurd h (by decide)) ?_
            clear hK K
            (try simp only [Act.put, List.setIfInBounds_toArray, List.set_cons_succ, List.set_cons_zero])
            refine plan_pure (v := ?pv19) rfl (by decide) (by decide) rfl ?ph19 ?_
            case ph19 => (intro w; go_simp; try with_reducible rfl)
            (try simp only [Act.put, List.setIfInBounds_toArray, List.set_cons_succ, List.set_cons_zero])
            refine plan_pure (v := ?pv20) rfl (by decide) (by decide) rfl ?ph20 ?_
            case ph20 => (intro w; go_simp; try with_reducible rfl)
            (try simp only [Act.put, List.setIfInBounds_toArray, List.set_cons_succ, List.set_cons_zero])
            refine plan_pure (v := ?pv21) rfl (by decide) (by decide) rfl ?ph21 ?_
            case ph21 => (intro w; go_simp; try with_reducible rfl)
            (try simp only [Act.put, List.setIfInBounds_toArray, List.set_cons_succ, List.set_cons_zero])
            refine plan_op rfl (by decide) rfl (fun K hK => ?_)
            go_simp
            (refine (awake_spec _).mono ?_; rintro _ w ⟨rfl, hE⟩; replace HS := HS.trans hE; replace H := H.step hE; clear hE)
            refine hK _ _ (fun h => absurd h (by decide)) ?_
            clear hK K
            (try simp only [Act.put, List.setIfInBounds_toArray, List.set_cons_succ, List.set_cons_zero])
            refine plan_pure (v := ?pv22) rfl (by decide) (by decide) rfl ?ph22 ?_
            case ph22 => (intro w; go_simp; try with_reducible rfl)
            (try simp only [Act.put, List.setIfInBounds_toArray, List.set_cons_succ, List.set_cons_zero])
            refine plan_pure (v := ?pv23) rfl (by decide) (by decide) rfl ?ph23 ?_
            case ph23 => (intro w; go_simp; try with_reducible rfl)
            (try simp only [Act.put, List.setIfInBounds_toArray, List.set_cons_succ, List.set_cons_zero])
            refine plan_nil ?_
            clear H0 HS
            go_wp2
            go_ret
            exact ⟨rfl, H.ext⟩
          · skip
            go_wp2_with (first | ((with_reducible refine wpl_runx_d 5 rfl ?_ ?_); (focus exact rfl); refine ⟨_, runs_alloc H rfl rfl rfl, ?_⟩; clear H; rintro _ w ⟨b5, rfl, hE, H⟩; clear hE) | ((with_reducible refine wpl_runx_d 27 rfl ?_ ?_); (focus exact rfl); refine ⟨_, by apply runs_buildSlice H; iterate 10 rfl, ?_⟩; clear H; rintro _ w ⟨b27, rfl, hE, H⟩; clear hE) | ((with_reducible refine wpl_runx_d 57 rfl ?_ ?_); (focus exact rfl); refine ⟨_, by apply runs_buildSlice H; iterate 10 rfl, ?_⟩; clear H; rintro _ w ⟨b57, rfl, hE, H⟩; clear hE) | ((with_reducible refine wpl_runx_d 59 rfl ?_ ?_); (focus exact rfl); refine ⟨_, by apply runs_buildSlice H; iterate 10 rfl, ?_⟩; clear H; rintro _ w ⟨b59, rfl, hE, H⟩; clear hE) | ((with_reducible refine wpl_runx_d 65 rfl ?_ ?_); (focus exact rfl); refine ⟨_, by apply runs_buildSlice H; iterate 10 rfl, ?_⟩; clear H; rintro _ w ⟨b65, rfl, hE, H⟩; clear hE) | ((with_reducible refine wpl_runx_d 8 rfl ?_ ?_); (focus exact rfl); refine ⟨_, runs_alloc H rfl rfl rfl, ?_⟩; clear H; rintro _ w ⟨b8, rfl, hE, H⟩; clear hE) | ((with_reducible refine wpl_runx_d 75 rfl ?_ ?_); (focus exact rfl); refine ⟨_, by apply runs_buildSlice H; iterate 10 rfl, ?_⟩; clear H; rintro _ w ⟨b75, rfl, hE, H⟩; clear hE) | ((with_reducible refine wpl_runx_d 101 rfl ?_ ?_); (focus exact rfl); refine ⟨_, by apply runs_buildSlice H; iterate 10 rfl, ?_⟩; clear H; rintro _ w ⟨b101, rfl, hE, H⟩; clear hE) | ((with_reducible refine wpl_runx ?_ ?_); (focus exact rfl); refine ⟨_, runs_load H 0 rfl rfl rfl rfl rfl, ?_⟩; rintro _ _ ⟨rfl, rfl⟩) | ((with_reducible refine wpl_runx ?_ ?_); (focus exact rfl); refine ⟨_, runs_load H 1 rfl rfl rfl rfl rfl, ?_⟩; rintro _ _ ⟨rfl, rfl⟩) | ((with_reducible refine wpl_runx ?_ ?_); (focus exact rfl); refine ⟨_, runs_load H 2 rfl rfl rfl rfl rfl, ?_⟩; rintro _ _ ⟨rfl, rfl⟩) | ((with_reducible refine wpl_runx ?_ ?_); (focus exact rfl); refine ⟨_, runs_store H 0 rfl rfl rfl rfl rfl rfl rfl rfl rfl, ?_⟩; clear H; rintro _ w ⟨rfl, hE, H⟩; clear hE) | ((with_reducible refine wpl_runx ?_ ?_); (focus exact rfl); refine ⟨_, runs_store H 1 rfl rfl rfl rfl rfl rfl rfl rfl rfl, ?_⟩; clear H; rintro _ w ⟨rfl, hE, H⟩; clear hE) | ((with_reducible refine wpl_runx ?_ ?_); (focus exact rfl); refine ⟨_, runs_store H 2 rfl rfl rfl rfl rfl rfl rfl rfl rfl, ?_⟩; clear H; rintro _ w ⟨rfl, hE, H⟩; clear hE))
            refine wp_region_st H [] [[], [0], [0, 1], [], [0, 1, 3], [0, 1, 3, 4], [0, 1, 2, 3, 4, 5], [0, 1, 2, 3, 4, 5, 6], [0, 1, 2, 3, 4, 5, 6, 7], [0, 1, 2, 3, 4, 5, 6, 7, 8], [0, 1, 2, 3, 4, 5, 6, 7], [0, 1, 2, 3, 4, 5, 6, 7, 8, 9, 10], [0, 1, 2, 3, 4, 5, 6, 7, 8, 9, 10, 11], [0, 1, 2, 3, 4, 5, 6, 7, 8, 9, 10, 11, 12], [0, 1, 2, 3, 4, 5, 6, 7, 8, 9, 10, 11, 12, 13], [0, 1, 2, 3, 4, 5, 6, 7, 8, 9, 10, 11, 12, 13, 14], [0, 1, 2, 3, 4, 5, 6, 7, 8, 9, 10, 11, 12, 13, 14, 15], [0, 1, 2, 3, 4, 5, 6, 7, 8, 9, 10, 11, 12, 13, 14, 15, 16]] [0, 3, 8, 10] [0, 2, 3, 5, 6, 7, 8, 10, 12, 13, 14, 16, 17] [0, 3, 1, 2, 4, 5, 6, 7, 8, 10, 9, 11, 12, 13, 14, 15, 16, 17] (by kernel_rfl) (by kernel_rfl) (fun d v c a w h => by cases d <;> exact h) ?_
            clear H
            intro w H
            have HS := Ext.refl [] w
            have H0 := H
            first | refine plan_load_open H0 HS 0 rfl (by simp) rfl (by decide) (by decide) rfl rfl rfl rfl rfl ?_ | refine plan_load_open H0 HS 1 rfl (by simp) rfl (by decide) (by decide) rfl rfl rfl rfl rfl ?_ | refine plan_load_open H0 HS 2 rfl (by simp) rfl (by decide) (by decide) rfl rfl rfl rfl rfl ?_ | refine plan_load_open H0 HS 3 rfl (by simp) rfl (by decide) (by decide) rfl rfl rfl rfl rfl ?_ | refine plan_load_open H0 HS 4 rfl (by simp) rfl (by decide) (by decide) rfl rfl rfl rfl rfl ?_ | refine plan_load_open H0 HS 5 rfl (by simp) rfl (by decide) (by decide) rfl rfl rfl rfl rfl ?_ | refine plan_load_open H0 HS 6 rfl (by simp) rfl (by decide) (by decide) rfl rfl rfl rfl rfl ?_ | refine plan_load_open H0 HS 7 rfl (by simp) rfl (by decide) (by decide) rfl rfl rfl rfl rfl ?_
            (try simp only [Act.put, List.setIfInBounds_toArray, List.set_cons_succ, List.set_cons_zero])
            first | refine plan_load_open H0 HS 0 rfl (by simp) rfl (by decide) (by decide) rfl rfl rfl rfl rfl ?_ | refine plan_load_open H0 HS 1 rfl (by simp) rfl (by decide) (by decide) rfl rfl rfl rfl rfl ?_ | refine plan_load_open H0 HS 2 rfl (by simp) rfl (by decide) (by decide) rfl rfl rfl rfl rfl ?_ | refine plan_load_open H0 HS 3 rfl (by simp) rfl (by decide) (by decide) rfl rfl rfl rfl rfl ?_ | refine plan_load_open H0 HS 4 rfl (by simp) rfl (by decide) (by decide) rfl rfl rfl rfl rfl ?_ | refine plan_load_open H0 HS 5 rfl (by simp) rfl (by decide) (by decide) rfl rfl rfl rfl rfl ?_ | refine plan_load_open H0 HS 6 rfl (by simp) rfl (by decide) (by decide) rfl rfl rfl rfl rfl ?_ | refine plan_load_open H0 HS 7 rfl (by simp) rfl (by decide) (by decide) rfl rfl rfl rfl rfl ?_
            (try simp only [Act.put, List.setIfInBounds_toArray, List.set_cons_succ, List.set_cons_zero])
            refine plan_op rfl (by decide) rfl (fun K hK => ?_)
            go_simp
            (refine (hMay _ H.out).mono ?_; rintro _ w ⟨rfl, hE⟩; replace HS := HS.trans hE; replace H := H.step hE; clear hE)
            refine hK _ _ (fun _ => HS) ?_
            clear hK K
            (try simp only [Act.put, List.setIfInBounds_toArray, List.set_cons_succ, List.set_cons_zero])
            refine plan_pure (v := .bool true) rfl (by decide) (by decide) rfl (by intro w; go_simp) ?_
            refine plan_op rfl (by decide) rfl (fun K hK => ?_)
            go_simp
            (refine (hN _ H.out).mono ?_; rintro _ w ⟨rfl, hE⟩; replace HS := HS.trans hE; replace H := H.step hE; clear hE)
            refine hK _ _ (fun _ => HS) ?_
            clear hK K
            (try simp only [Act.put, List.setIfInBounds_toArray, List.set_cons_succ, List.set_cons_zero])
            refine plan_pure (v := .bool true) rfl (by decide) (by decide) rfl (by intro w; go_simp) ?_
            refine plan_pure (v := ?pv24) rfl (by decide) (by decide) rfl ?ph24 ?_
            case ph24 => (intro w; go_simp; try with_reducible rfl)
            (try simp only [Act.put, List.setIfInBounds_toArray, List.set_cons_succ, List.set_cons_zero])
            refine plan_pure (v := ?pv25) rfl (by decide) (by decide) rfl ?ph25 ?_
            case ph25 => (intro w; go_simp; try with_reducible rfl)
            (try simp only [Act.put, List.setIfInBounds_toArray, List.set_cons_succ, List.set_cons_zero])
            first | refine plan_load_open H0 HS 0 rfl (by simp) rfl (by decide) (by decide) rfl rfl rfl rfl rfl ?_ | refine plan_load_open H0 HS 1 rfl (by simp) rfl (by decide) (by decide) rfl rfl rfl rfl rfl ?_ | refine plan_load_open H0 HS 2 rfl (by simp) rfl (by decide) (by decide) rfl rfl rfl rfl rfl ?_ | refine plan_load_open H0 HS 3 rfl (by simp) rfl (by decide) (by decide) rfl rfl rfl rfl rfl ?_ | refine plan_load_open H0 HS 4 rfl (by simp) rfl (by decide) (by decide) rfl rfl rfl rfl rfl ?_ | refine plan_load_open H0 HS 5 rfl (by simp) rfl (by decide) (by decide) rfl rfl rfl rfl rfl ?_ | refine plan_load_open H0 HS 6 rfl (by simp) rfl (by decide) (by decide) rfl rfl rfl rfl rfl ?_ | refine plan_load_open H0 HS 7 rfl (by simp) rfl (by decide) (by decide) rfl rfl rfl rfl rfl ?_
            (try simp only [Act.put, List.setIfInBounds_toArray, List.set_cons_succ, List.set_cons_zero])
            first | refine plan_load_open H0 HS 0 rfl (by simp) rfl (by decide) (by decide) rfl rfl rfl rfl rfl ?_ | refine plan_load_open H0 HS 1 rfl (by simp) rfl (by decide) (by decide) rfl rfl rfl rfl rfl ?_ | refine plan_load_open H0 HS 2 rfl (by simp) rfl (by decide) (by decide) rfl rfl rfl rfl rfl ?_ | refine plan_load_open H0 HS 3 rfl (by simp) rfl (by decide) (by decide) rfl rfl rfl rfl rfl ?_ | refine plan_load_open H0 HS 4 rfl (by simp) rfl (by decide) (by decide) rfl rfl rfl rfl rfl ?_ | refine plan_load_open H0 HS 5 rfl (by simp) rfl (by decide) (by decide) rfl rfl rfl rfl rfl ?_ | refine plan_load_open H0 HS 6 rfl (by simp) rfl (by decide) (by decide) rfl rfl rfl rfl rfl ?_ | refine plan_load_open H0 HS 7 rfl (by simp) rfl (by decide) (by decide) rfl rfl rfl rfl rfl ?_
            (try simp only [Act.put, List.setIfInBounds_toArray, List.set_cons_succ, List.set_cons_zero])
            refine plan_op rfl (by decide) rfl (fun K hK => ?_)
            go_simp
            (refine (hMay _ H.out).mono ?_; rintro _ w ⟨rfl, hE⟩; replace HS := HS.trans hE; replace H := H.step hE; clear hE)
            refine hK _ _ (fun _ => HS) ?_
            clear hK K
            (try simp only [Act.put, List.setIfInBounds_toArray, List.set_cons_succ, List.set_cons_zero])
            refine plan_op rfl (by decide) rfl (fun K hK => ?_)
            go_simp
            (refine (hrMay _ H.out).mono ?_; rintro _ w ⟨rfl, hE⟩; replace HS := HS.trans hE; replace H := H.step hE; clear hE)
            refine hK _ _ (fun h => absurd h (by decide)) ?_
            clear hK K
            (try simp only [Act.put, List.setIfInBounds_toArray, List.set_cons_succ, List.set_cons_zero])
            refine plan_pure (v := ?pv26) rfl (by decide) (by decide) rfl ?ph26 ?_
            case ph26 => (intro w; go_simp; try with_reducible rfl)
            (try simp only [Act.put, List.setIfInBounds_toArray, List.set_cons_succ, List.set_cons_zero])
            refine plan_pure (v := ?pv27) rfl (by decide) (by decide) rfl ?ph27 ?_
            case ph27 => (intro w; go_simp; try with_reducible rfl)
            (try simp only [Act.put, List.setIfInBounds_toArray, List.set_cons_succ, List.set_cons_zero])
            refine plan_pure (v := ?pv28) rfl (by decide) (by decide) rfl ?ph28 ?_
            case ph28 => (intro w; go_simp; try with_reducible rfl)
            (try simp only [Act.put, List.setIfInBounds_toArray, List.set_cons_succ, List.set_cons_zero])
            refine plan_op rfl (by decide) rfl (fun K hK => ?_)
            go_simp
            (refine (awake_spec _).mono ?_; rintro _ w ⟨rfl, hE⟩; replace HS := HS.trans hE; replace H := H.step hE; clear hE)
            refine hK _ _ (fun h => absurd h (by decide)) ?_
            clear hK K
            (try simp only [Act.put, List.setIfInBounds_toArray, List.set_cons_succ, List.set_cons_zero])
            refine plan_pure (v := ?pv29) rfl (by decide) (by decide) rfl ?ph29 ?_
            case ph29 => (intro w; go_simp; try with_reducible rfl)
            (try simp only [Act.put, List.setIfInBounds_toArray, List.set_cons_succ, List.set_cons_zero])
            refine plan_pure (v := ?pv30) rfl (by decide) (by decide) rfl ?ph30 ?_
            case ph30 => (intro w; go_simp; try with_reducible rfl)
            (try simp only [Act.put, List.setIfInBounds_toArray, List.set_cons_succ, List.set_cons_zero])
            refine plan_nil ?_
            clear H0 HS
            go_wp2
            go_ret
            exact ⟨rfl, H.ext⟩

theorem deep2_spec (a b : Int) (w0 : World) (eq' : wrap64 ((IntKind.u64.wrap b).tmod 3) = 2) : Calls Try.prog 3 #[.int .i64 a, .int .i64 b] w0 (RetV w0 (.bool true)) := by
  have H := St.start (M := []) (w := w0) (F := fun _ _ => True) (by simp) (Stab.const True) trivial
  obtain ⟨m, hm, em⟩ := red64 a 5 (by omega) (by omega)
  have em' : wrap64 ((IntKind.u64.wrap a).tmod 5) = m := em
  clear em
  have hc := Lib.hid hm; clear hm
  go_enter Try.func3, Try.ntmps3
  go_wp2_with (first | ((with_reducible refine wpl_runx_d 5 rfl ?_ ?_); (focus exact rfl); refine ⟨_, runs_alloc H rfl rfl rfl, ?_⟩; clear H; rintro _ w ⟨b5, rfl, hE, H⟩; clear hE) | ((with_reducible refine wpl_runx_d 27 rfl ?_ ?_); (focus exact rfl); refine ⟨_, by apply runs_buildSlice H; iterate 10 rfl, ?_⟩; clear H; rintro _ w ⟨b27, rfl, hE, H⟩; clear hE) | ((with_reducible refine wpl_runx_d 57 rfl ?_ ?_); (focus exact rfl); refine ⟨_, by apply runs_buildSlice H; iterate 10 rfl, ?_⟩; clear H; rintro _ w ⟨b57, rfl, hE, H⟩; clear hE) | ((with_reducible refine wpl_runx_d 59 rfl ?_ ?_); (focus exact rfl); refine ⟨_, by apply runs_buildSlice H; iterate 10 rfl, ?_⟩; clear H; rintro _ w ⟨b59, rfl, hE, H⟩; clear hE) | ((with_reducible refine wpl_runx_d 65 rfl ?_ ?_); (focus exact rfl); refine ⟨_, by apply runs_buildSlice H; iterate 10 rfl, ?_⟩; clear H; rintro _ w ⟨b65, rfl, hE, H⟩; clear hE) | ((with_reducible refine wpl_runx_d 8 rfl ?_ ?_); (focus exact rfl); refine ⟨_, runs_alloc H rfl rfl rfl, ?_⟩; clear H; rintro _ w ⟨b8, rfl, hE, H⟩; clear hE) | ((with_reducible refine wpl_runx_d 75 rfl ?_ ?_); (focus exact rfl); refine ⟨_, by apply runs_buildSlice H; iterate 10 rfl, ?_⟩; clear H; rintro _ w ⟨b75, rfl, hE, H⟩; clear hE) | ((with_reducible refine wpl_runx_d 101 rfl ?_ ?_); (focus exact rfl); refine ⟨_, by apply runs_buildSlice H; iterate 10 rfl, ?_⟩; clear H; rintro _ w ⟨b101, rfl, hE, H⟩; clear hE) | ((with_reducible refine wpl_runx ?_ ?_); (focus exact rfl); refine ⟨_, runs_load H 0 rfl rfl rfl rfl rfl, ?_⟩; rintro _ _ ⟨rfl, rfl⟩) | ((with_reducible refine wpl_runx ?_ ?_); (focus exact rfl); refine ⟨_, runs_load H 1 rfl rfl rfl rfl rfl, ?_⟩; rintro _ _ ⟨rfl, rfl⟩) | ((with_reducible refine wpl_runx ?_ ?_); (focus exact rfl); refine ⟨_, runs_store H 0 rfl rfl rfl rfl rfl rfl rfl rfl rfl, ?_⟩; clear H; rintro _ w ⟨rfl, hE, H⟩; clear hE) | ((with_reducible refine wpl_runx ?_ ?_); (focus exact rfl); refine ⟨_, runs_store H 1 rfl rfl rfl rfl rfl rfl rfl rfl rfl, ?_⟩; clear H; rintro _ w ⟨rfl, hE, H⟩; clear hE) | (refine (atom_spec _ _ _ H.ltAll).mono ?_; rintro _ w ⟨A1, c1, rfl, hA1, hE⟩; replace H := H.step hE; clear hE hA1))
  have hm := hc.out
  try rw [em']
  try rw [eq']
  rw [show wrap64 (18 + (m : Int)) = 18 + (m : Int) by unfold wrap64; omega]
  replace H := H.nilRow 25 6
  go_loopw [9, 97] (fun sv iv wr => ∃ (j : Nat) (xs : List Value), j ≤ 18 + m ∧ iv = .int .i64 j ∧ St [] [] w0 wr [.row sv j xs 25 6, .obj b5 (.cells #[.int .i64 (atA).kind, .string (atA).name, .int .i64 (atA).int, .int .u64 (atA).re, .int .u64 (atA).im, .slice A1 (atA).args.length c1] 25 (0, 0))] (TsR xs (List.replicate j atA))) (fun _ iv _ => 18 + m - (intOf iv).toNat)
  case atStart => exact ⟨0, [], Nat.zero_le _, rfl, H.weaken (fun _ => TsR.nil _ _) (TsR.stab _ _)⟩
  case round =>
    clear H
    obtain ⟨j, xs, hj, rfl, H⟩ := hrel
    by_cases hlt : j < 18 + m
    · go_wp2_with (first | ((with_reducible refine wpl_runx_d 5 rfl ?_ ?_); (focus exact rfl); refine ⟨_, runs_alloc H rfl rfl rfl, ?_⟩; clear H; rintro _ w ⟨b5, rfl, hE, H⟩; clear hE) | ((with_reducible refine wpl_runx_d 27 rfl ?_ ?_); (focus exact rfl); refine ⟨_, by apply runs_buildSlice H; iterate 10 rfl, ?_⟩; clear H; rintro _ w ⟨b27, rfl, hE, H⟩; clear hE) | ((with_reducible refine wpl_runx_d 57 rfl ?_ ?_); (focus exact rfl); refine ⟨_, by apply runs_buildSlice H; iterate 10 rfl, ?_⟩; clear H; rintro _ w ⟨b57, rfl, hE, H⟩; clear hE) | ((with_reducible refine wpl_runx_d 59 rfl ?_ ?_); (focus exact rfl); refine ⟨_, by apply runs_buildSlice H; iterate 10 rfl, ?_⟩; clear H; rintro _ w ⟨b59, rfl, hE, H⟩; clear hE) | ((with_reducible refine wpl_runx_d 65 rfl ?_ ?_); (focus exact rfl); refine ⟨_, by apply runs_buildSlice H; iterate 10 rfl, ?_⟩; clear H; rintro _ w ⟨b65, rfl, hE, H⟩; clear hE) | ((with_reducible refine wpl_runx_d 8 rfl ?_ ?_); (focus exact rfl); refine ⟨_, runs_alloc H rfl rfl rfl, ?_⟩; clear H; rintro _ w ⟨b8, rfl, hE, H⟩; clear hE) | ((with_reducible refine wpl_runx_d 75 rfl ?_ ?_); (focus exact rfl); refine ⟨_, by apply runs_buildSlice H; iterate 10 rfl, ?_⟩; clear H; rintro _ w ⟨b75, rfl, hE, H⟩; clear hE) | ((with_reducible refine wpl_runx_d 101 rfl ?_ ?_); (focus exact rfl); refine ⟨_, by apply runs_buildSlice H; iterate 10 rfl, ?_⟩; clear H; rintro _ w ⟨b101, rfl, hE, H⟩; clear hE) | ((with_reducible refine wpl_runx ?_ ?_); (focus exact rfl); refine ⟨_, runs_load H 0 rfl rfl rfl rfl rfl, ?_⟩; rintro _ _ ⟨rfl, rfl⟩) | ((with_reducible refine wpl_runx ?_ ?_); (focus exact rfl); refine ⟨_, runs_load H 1 rfl rfl rfl rfl rfl, ?_⟩; rintro _ _ ⟨rfl, rfl⟩) | ((with_reducible refine wpl_runx ?_ ?_); (focus exact rfl); refine ⟨_, runs_store H 0 rfl rfl rfl rfl rfl rfl rfl rfl rfl, ?_⟩; clear H; rintro _ w ⟨rfl, hE, H⟩; clear hE) | ((with_reducible refine wpl_runx ?_ ?_); (focus exact rfl); refine ⟨_, runs_store H 1 rfl rfl rfl rfl rfl rfl rfl rfl rfl, ?_⟩; clear H; rintro _ w ⟨rfl, hE, H⟩; clear hE) | ((with_reducible refine wpl_runx ?_ ?_); (focus exact rfl); refine ⟨_, runs_append1 H 1 rfl rfl rfl rfl rfl Try.infoT rfl (by decide) 0 rfl rfl rfl (by decide) (by unfold maxLen; omega) (by omega) (fun r => rfl), ?_⟩; clear H; rintro _ w ⟨g', cap', rfl, hE, H⟩; clear hE))
      go_roundw
      case rel =>
        refine ⟨j + 1, _, by omega, by go_num, ((H.drop 0 rfl).weaken (fun h => ?_) (TsR.stab _ _))⟩
        rw [List.replicate_succ']
        exact TsR.snoc h (AR.nil _ _ _ _)
      case measure => simp [intOf]; omega
    · obtain rfl : j = 18 + m := by omega
      obtain ⟨A3, c3, rfl, H'⟩ := H.sealT 0 (l := List.replicate (18 + m) atA) rfl (fun M w h => h)
      clear H
      have H := H'.weaken (fun h => h.2) (AR.stab _ _ _)
      clear H'
      generalize hl : List.replicate (18 + m) atA = l at H ⊢
      obtain ⟨E, hEm, hMay⟩ : ∃ E : Int, (E == 0) = decide ((m : Int) ≤ 2) ∧ (∀ A c w, AR A c l [] w → Calls Try.prog 13 #[.agg #[.int .i64 (Tm.mk 5 ⟨#[102]⟩ 0 0 0 l).kind, .string (Tm.mk 5 ⟨#[102]⟩ 0 0 0 l).name, .int .i64 (Tm.mk 5 ⟨#[102]⟩ 0 0 0 l).int, .int .u64 (Tm.mk 5 ⟨#[102]⟩ 0 0 0 l).re, .int .u64 (Tm.mk 5 ⟨#[102]⟩ 0 0 0 l).im, .slice A (Tm.mk 5 ⟨#[102]⟩ 0 0 0 l).args.length c]] w (RetV w (.int .i64 E))) :=
        ⟨mayE (Tm.mk 5 ⟨#[102]⟩ 0 0 0 l), by rw [← hl]; exact may_wide m hm, fun A c w h => may_spec (Tm.mk 5 ⟨#[102]⟩ 0 0 0 l) A c w h⟩
      clear hl
      generalize hB : decide ((m : Int) ≤ 2) = B at hEm
      cases B
      all_goals
        go_wp2_with (first | ((with_reducible refine wpl_runx_d 5 rfl ?_ ?_); (focus exact rfl); refine ⟨_, runs_alloc H rfl rfl rfl, ?_⟩; clear H; rintro _ w ⟨b5, rfl, hE, H⟩; clear hE) | ((with_reducible refine wpl_runx_d 27 rfl ?_ ?_); (focus exact rfl); refine ⟨_, by apply runs_buildSlice H; iterate 10 rfl, ?_⟩; clear H; rintro _ w ⟨b27, rfl, hE, H⟩; clear hE) | ((with_reducible refine wpl_runx_d 57 rfl ?_ ?_); (focus exact rfl); refine ⟨_, by apply runs_buildSlice H; iterate 10 rfl, ?_⟩; clear H; rintro _ w ⟨b57, rfl, hE, H⟩; clear hE) | ((with_reducible refine wpl_runx_d 59 rfl ?_ ?_); (focus exact rfl); refine ⟨_, by apply runs_buildSlice H; iterate 10 rfl, ?_⟩; clear H; rintro _ w ⟨b59, rfl, hE, H⟩; clear hE) | ((with_reducible refine wpl_runx_d 65 rfl ?_ ?_); (focus exact rfl); refine ⟨_, by apply runs_buildSlice H; iterate 10 rfl, ?_⟩; clear H; rintro _ w ⟨b65, rfl, hE, H⟩; clear hE) | ((with_reducible refine wpl_runx_d 8 rfl ?_ ?_); (focus exact rfl); refine ⟨_, runs_alloc H rfl rfl rfl, ?_⟩; clear H; rintro _ w ⟨b8, rfl, hE, H⟩; clear hE) | ((with_reducible refine wpl_runx_d 75 rfl ?_ ?_); (focus exact rfl); refine ⟨_, by apply runs_buildSlice H; iterate 10 rfl, ?_⟩; clear H; rintro _ w ⟨b75, rfl, hE, H⟩; clear hE) | ((with_reducible refine wpl_runx_d 101 rfl ?_ ?_); (focus exact rfl); refine ⟨_, by apply runs_buildSlice H; iterate 10 rfl, ?_⟩; clear H; rintro _ w ⟨b101, rfl, hE, H⟩; clear hE) | ((with_reducible refine wpl_runx ?_ ?_); (focus exact rfl); refine ⟨_, runs_load H 0 rfl rfl rfl rfl rfl, ?_⟩; rintro _ _ ⟨rfl, rfl⟩) | ((with_reducible refine wpl_runx ?_ ?_); (focus exact rfl); refine ⟨_, runs_load H 1 rfl rfl rfl rfl rfl, ?_⟩; rintro _ _ ⟨rfl, rfl⟩) | ((with_reducible refine wpl_runx ?_ ?_); (focus exact rfl); refine ⟨_, runs_store H 0 rfl rfl rfl rfl rfl rfl rfl rfl rfl, ?_⟩; clear H; rintro _ w ⟨rfl, hE, H⟩; clear hE) | ((with_reducible refine wpl_runx ?_ ?_); (focus exact rfl); refine ⟨_, runs_store H 1 rfl rfl rfl rfl rfl rfl rfl rfl rfl, ?_⟩; clear H; rintro _ w ⟨rfl, hE, H⟩; clear hE) | (refine (comp_spec _ _ _ l _ _ H.ltAll H.fact).mono ?_; rintro _ w ⟨A2, c2, rfl, hA2, hE⟩; replace H := ((H.step hE).add hA2 (AR.stab _ _ _)).weaken (fun h => h.2) (AR.stab _ _ _); clear hE hA2) | (refine (hMay _ _ _ H.out).mono ?_; rintro _ w ⟨rfl, hE⟩; replace H := H.step hE; clear hE) | (refine (awake_spec _).mono ?_; rintro _ w ⟨rfl, hE⟩; replace H := H.step hE; clear hE))
        go_ret
        exact ⟨rfl, H.ext⟩

theorem deep_spec (a b : Int) (w0 : World) : Calls Try.prog 3 #[.int .i64 a, .int .i64 b] w0 (RetV w0 (.bool true)) := by
  obtain ⟨q, hq, e⟩ := red64 b 3 (by omega) (by omega)
  have h : q = 0 ∨ q = 1 ∨ q = 2 := by omega
  rcases h with rfl | rfl | rfl
  · exact deep0_spec a b w0 e
  · exact deep1_spec a b w0 e
  · exact deep2_spec a b w0 e
end Go.Proofs.Ytbeimnaeaompjaa
