/- TermItems: the walk. -/
import Derived.Test.YtbeimnaeaompjaaItems0
import Derived.Test.YtbeimnaeaompjaaCounts
namespace Go.Proofs.Ytbeimnaeaompjaa
open Go.RowKit
set_option linter.unusedVariables false
set_option linter.unusedSimpArgs false
set_option maxHeartbeats 4000000

theorem lawitems_spec (A : Option Addr) (c : Nat) (l : List Tm) (t : Tm) (At : Option Addr) (ct : Nat) (w0 : World) (hA : AR A c l [] w0) (hl : l.length ≤ maxLen) (_ : wfL l) (hAt : AR At ct t.args [] w0) (_ : wfT t) :
    Calls Try.prog 8 #[.slice A l.length c, .agg #[.int .i64 t.kind, .string t.name, .int .i64 t.int, .int .u64 t.re, .int .u64 t.im, .slice At t.args.length ct]] w0 (RetV w0 (.bool true)) := by
  have H := St.start (M := []) (by simp) ((AR.stab A c l).and (AR.stab At ct t.args)) ⟨hA, hAt⟩
  clear hA hAt
  have hl' := hl
  unfold maxLen at hl'
  by_cases h40 : 40 < l.length
  · have e40 : decide ((40 : Int) < (l.length : Int)) = true := by simp; omega
    go_enter Try.func8, Try.ntmps8
    go_wp2_with (first | ((with_reducible refine wpl_runx_d 3 rfl ?_ ?_); (focus exact rfl); refine ⟨_, runs_box H rfl rfl, ?_⟩; clear H; rintro _ w ⟨b3, rfl, hE, H⟩; clear hE) | ((with_reducible refine wpl_runx_d 21 rfl ?_ ?_); (focus exact rfl); refine ⟨_, by apply runs_buildSlice H; iterate 10 rfl, ?_⟩; clear H; rintro _ w ⟨b21, rfl, hE, H⟩; clear hE) | ((with_reducible refine wpl_runx_d 7 rfl ?_ ?_); (focus exact rfl); refine ⟨_, runs_alloc H rfl rfl rfl, ?_⟩; clear H; rintro _ w ⟨b7, rfl, hE, H⟩; clear hE) | ((with_reducible refine wpl_runx ?_ ?_); (focus exact rfl); refine ⟨_, runs_load H 0 rfl rfl rfl rfl rfl, ?_⟩; rintro _ _ ⟨rfl, rfl⟩) | ((with_reducible refine wpl_runx ?_ ?_); (focus exact rfl); refine ⟨_, runs_load H 1 rfl rfl rfl rfl rfl, ?_⟩; rintro _ _ ⟨rfl, rfl⟩) | ((with_reducible refine wpl_runx ?_ ?_); (focus exact rfl); refine ⟨_, runs_load H 2 rfl rfl rfl rfl rfl, ?_⟩; rintro _ _ ⟨rfl, rfl⟩) | ((with_reducible refine wpl_runx ?_ ?_); (focus exact rfl); refine ⟨_, runs_store H 0 rfl rfl rfl rfl rfl rfl rfl rfl rfl, ?_⟩; clear H; rintro _ w ⟨rfl, hE, H⟩; clear hE) | ((with_reducible refine wpl_runx ?_ ?_); (focus exact rfl); refine ⟨_, runs_store H 1 rfl rfl rfl rfl rfl rfl rfl rfl rfl, ?_⟩; clear H; rintro _ w ⟨rfl, hE, H⟩; clear hE) | ((with_reducible refine wpl_runx ?_ ?_); (focus exact rfl); refine ⟨_, runs_store H 2 rfl rfl rfl rfl rfl rfl rfl rfl rfl, ?_⟩; clear H; rintro _ w ⟨rfl, hE, H⟩; clear hE) | ((with_reducible refine Calls.mono (awake_spec _) ?_); rintro _ w ⟨rfl, hE⟩; replace H := H.step hE; clear hE))
    go_ret
    exact ⟨rfl, H.ext⟩
  have e40 : decide ((40 : Int) < (l.length : Int)) = false := by simp; omega
  obtain ⟨B, hB⟩ : ∃ B, LightE l 0 4000 = B := ⟨_, rfl⟩
  have hLight : ∀ w, AR A c l [] w → Calls Try.prog 17 #[.slice A l.length c] w (RetV w (.bool B)) := fun w h => by rw [← hB]; exact Light_spec l A c w hl h
  clear hB
  cases B
  · skip
    go_enter Try.func8, Try.ntmps8
    go_wp2_with (first | ((with_reducible refine wpl_runx_d 3 rfl ?_ ?_); (focus exact rfl); refine ⟨_, runs_box H rfl rfl, ?_⟩; clear H; rintro _ w ⟨b3, rfl, hE, H⟩; clear hE) | ((with_reducible refine wpl_runx_d 21 rfl ?_ ?_); (focus exact rfl); refine ⟨_, by apply runs_buildSlice H; iterate 10 rfl, ?_⟩; clear H; rintro _ w ⟨b21, rfl, hE, H⟩; clear hE) | ((with_reducible refine wpl_runx_d 7 rfl ?_ ?_); (focus exact rfl); refine ⟨_, runs_alloc H rfl rfl rfl, ?_⟩; clear H; rintro _ w ⟨b7, rfl, hE, H⟩; clear hE) | ((with_reducible refine wpl_runx ?_ ?_); (focus exact rfl); refine ⟨_, runs_load H 0 rfl rfl rfl rfl rfl, ?_⟩; rintro _ _ ⟨rfl, rfl⟩) | ((with_reducible refine wpl_runx ?_ ?_); (focus exact rfl); refine ⟨_, runs_load H 1 rfl rfl rfl rfl rfl, ?_⟩; rintro _ _ ⟨rfl, rfl⟩) | ((with_reducible refine wpl_runx ?_ ?_); (focus exact rfl); refine ⟨_, runs_load H 2 rfl rfl rfl rfl rfl, ?_⟩; rintro _ _ ⟨rfl, rfl⟩) | ((with_reducible refine wpl_runx ?_ ?_); (focus exact rfl); refine ⟨_, runs_store H 0 rfl rfl rfl rfl rfl rfl rfl rfl rfl, ?_⟩; clear H; rintro _ w ⟨rfl, hE, H⟩; clear hE) | ((with_reducible refine wpl_runx ?_ ?_); (focus exact rfl); refine ⟨_, runs_store H 1 rfl rfl rfl rfl rfl rfl rfl rfl rfl, ?_⟩; clear H; rintro _ w ⟨rfl, hE, H⟩; clear hE) | ((with_reducible refine wpl_runx ?_ ?_); (focus exact rfl); refine ⟨_, runs_store H 2 rfl rfl rfl rfl rfl rfl rfl rfl rfl, ?_⟩; clear H; rintro _ w ⟨rfl, hE, H⟩; clear hE) | ((with_reducible refine Calls.mono (hLight _ ?_) ?_); (focus exact H.out.1); rintro _ w ⟨rfl, hE⟩; replace H := H.step hE; clear hE) | ((with_reducible refine Calls.mono (awake_spec _) ?_); rintro _ w ⟨rfl, hE⟩; replace H := H.step hE; clear hE))
    go_ret
    exact ⟨rfl, H.ext⟩
  obtain ⟨B, hB⟩ : ∃ B, LightE [t] 0 4000 = B := ⟨_, rfl⟩
  have hLight1 : ∀ A' c' w, AR A' c' [t] [] w → Calls Try.prog 17 #[.slice A' 1 c'] w (RetV w (.bool B)) := fun A' c' w h => by rw [← hB]; exact Light_spec [t] A' c' w (by simp [maxLen]) h
  cases B
  · skip
    go_enter Try.func8, Try.ntmps8
    go_wp2_with (first | ((with_reducible refine wpl_runx_d 3 rfl ?_ ?_); (focus exact rfl); refine ⟨_, runs_box H rfl rfl, ?_⟩; clear H; rintro _ w ⟨b3, rfl, hE, H⟩; clear hE) | ((with_reducible refine wpl_runx_d 21 rfl ?_ ?_); (focus exact rfl); refine ⟨_, by apply runs_buildSlice H; iterate 10 rfl, ?_⟩; clear H; rintro _ w ⟨b21, rfl, hE, H⟩; clear hE) | ((with_reducible refine wpl_runx_d 7 rfl ?_ ?_); (focus exact rfl); refine ⟨_, runs_alloc H rfl rfl rfl, ?_⟩; clear H; rintro _ w ⟨b7, rfl, hE, H⟩; clear hE) | ((with_reducible refine wpl_runx ?_ ?_); (focus exact rfl); refine ⟨_, runs_load H 0 rfl rfl rfl rfl rfl, ?_⟩; rintro _ _ ⟨rfl, rfl⟩) | ((with_reducible refine wpl_runx ?_ ?_); (focus exact rfl); refine ⟨_, runs_load H 1 rfl rfl rfl rfl rfl, ?_⟩; rintro _ _ ⟨rfl, rfl⟩) | ((with_reducible refine wpl_runx ?_ ?_); (focus exact rfl); refine ⟨_, runs_load H 2 rfl rfl rfl rfl rfl, ?_⟩; rintro _ _ ⟨rfl, rfl⟩) | ((with_reducible refine wpl_runx ?_ ?_); (focus exact rfl); refine ⟨_, runs_store H 0 rfl rfl rfl rfl rfl rfl rfl rfl rfl, ?_⟩; clear H; rintro _ w ⟨rfl, hE, H⟩; clear hE) | ((with_reducible refine wpl_runx ?_ ?_); (focus exact rfl); refine ⟨_, runs_store H 1 rfl rfl rfl rfl rfl rfl rfl rfl rfl, ?_⟩; clear H; rintro _ w ⟨rfl, hE, H⟩; clear hE) | ((with_reducible refine wpl_runx ?_ ?_); (focus exact rfl); refine ⟨_, runs_store H 2 rfl rfl rfl rfl rfl rfl rfl rfl rfl, ?_⟩; clear H; rintro _ w ⟨rfl, hE, H⟩; clear hE) | ((with_reducible refine Calls.mono (hLight _ ?_) ?_); (focus exact H.out.1); rintro _ w ⟨rfl, hE⟩; replace H := H.step hE; clear hE) | (replace H := H.sealLit 0 rfl (l := [t]) (fun M w h => TsR.cons h.2 (TsR.nil _ _)) rfl; refine (hLight1 _ _ _ H.out.2).mono ?_; rintro _ w ⟨rfl, hE⟩; replace H := (H.step hE).weaken (fun h => h.1) ((AR.stab _ _ _).and (AR.stab _ _ _)); clear hE) | ((with_reducible refine Calls.mono (awake_spec _) ?_); rintro _ w ⟨rfl, hE⟩; replace H := H.step hE; clear hE))
    go_ret
    exact ⟨rfl, H.ext⟩
  have hst : slimA t := Light_slimA _ _ _ hB t (by simp)
  clear hB
  go_enter Try.func8, Try.ntmps8
  go_wp2_with (first | ((with_reducible refine wpl_runx_d 3 rfl ?_ ?_); (focus exact rfl); refine ⟨_, runs_box H rfl rfl, ?_⟩; clear H; rintro _ w ⟨b3, rfl, hE, H⟩; clear hE) | ((with_reducible refine wpl_runx_d 21 rfl ?_ ?_); (focus exact rfl); refine ⟨_, by apply runs_buildSlice H; iterate 10 rfl, ?_⟩; clear H; rintro _ w ⟨b21, rfl, hE, H⟩; clear hE) | ((with_reducible refine wpl_runx_d 7 rfl ?_ ?_); (focus exact rfl); refine ⟨_, runs_alloc H rfl rfl rfl, ?_⟩; clear H; rintro _ w ⟨b7, rfl, hE, H⟩; clear hE) | ((with_reducible refine wpl_runx ?_ ?_); (focus exact rfl); refine ⟨_, runs_load H 0 rfl rfl rfl rfl rfl, ?_⟩; rintro _ _ ⟨rfl, rfl⟩) | ((with_reducible refine wpl_runx ?_ ?_); (focus exact rfl); refine ⟨_, runs_load H 1 rfl rfl rfl rfl rfl, ?_⟩; rintro _ _ ⟨rfl, rfl⟩) | ((with_reducible refine wpl_runx ?_ ?_); (focus exact rfl); refine ⟨_, runs_load H 2 rfl rfl rfl rfl rfl, ?_⟩; rintro _ _ ⟨rfl, rfl⟩) | ((with_reducible refine wpl_runx ?_ ?_); (focus exact rfl); refine ⟨_, runs_store H 0 rfl rfl rfl rfl rfl rfl rfl rfl rfl, ?_⟩; clear H; rintro _ w ⟨rfl, hE, H⟩; clear hE) | ((with_reducible refine wpl_runx ?_ ?_); (focus exact rfl); refine ⟨_, runs_store H 1 rfl rfl rfl rfl rfl rfl rfl rfl rfl, ?_⟩; clear H; rintro _ w ⟨rfl, hE, H⟩; clear hE) | ((with_reducible refine wpl_runx ?_ ?_); (focus exact rfl); refine ⟨_, runs_store H 2 rfl rfl rfl rfl rfl rfl rfl rfl rfl, ?_⟩; clear H; rintro _ w ⟨rfl, hE, H⟩; clear hE) | ((with_reducible refine Calls.mono (hLight _ ?_) ?_); (focus exact H.out.1); rintro _ w ⟨rfl, hE⟩; replace H := H.step hE; clear hE) | (replace H := H.sealLit 0 rfl (l := [t]) (fun M w h => TsR.cons h.2 (TsR.nil _ _)) rfl; refine (hLight1 _ _ _ H.out.2).mono ?_; rintro _ w ⟨rfl, hE⟩; replace H := (H.step hE).weaken (fun h => h.1) ((AR.stab _ _ _).and (AR.stab _ _ _)); clear hE))
  go_loopw [5, 28] (fun nv iv wr => ∃ (j n : Nat), j ≤ l.length ∧ nv = .int .i64 n ∧ iv = .int .i64 j ∧ n = 1 + sumN (l.take j) ∧ (∀ u ∈ l.take j, mayE u = 0 ∧ hT u ≤ 400) ∧ n ≤ 1 + 2001 * j ∧ St [] [] w0 wr [.obj b3 (.cells #[.int .i64 t.kind, .string t.name, .int .i64 t.int, .int .u64 t.re, .int .u64 t.im, .slice At t.args.length ct] 25 (0, 0))] (fun M w => AR A c l M w ∧ AR At ct t.args M w)) (fun _ iv _ => l.length - (intOf iv).toNat)
  case atStart => exact ⟨0, 1, Nat.zero_le _, rfl, rfl, by simp [sumN], by simp, by omega, H⟩
  case round =>
    clear H
    obtain ⟨j, n, hj, rfl, rfl, hn, hok, hnb, H⟩ := hrel
    replace hn := Lib.hid hn
    by_cases hlt : j < l.length
    · obtain ⟨b2, o2, A1, c1, hAe, hbn, hbl, hcs, hA1⟩ := H.fact.1.at j hlt
      subst hAe
      replace H := H.add hA1 (AR.stab _ _ _)
      clear hA1 hbn hbl
      have HC := Lib.hid hcs; clear hcs
      by_cases hm : mayE l[j] = 0
      · have em : (mayE l[j] != 0) = false := by simp [hm]
        have hnn := nodesE_ok hm
        have hdd := depthE_ok hm
        obtain ⟨N, hN⟩ : ∃ N : Nat, nT l[j] = N := ⟨_, rfl⟩
        obtain ⟨D, hD⟩ : ∃ D : Nat, hT l[j] = D := ⟨_, rfl⟩
        have hN2 : N ≤ 2000 := by rw [← hN]; exact (mayE_ok.1 hm).2.1
        have hMay : ∀ A c w, AR A c (l[j]).args [] w → Calls Try.prog 13 #[.agg #[.int .i64 (l[j]).kind, .string (l[j]).name, .int .i64 (l[j]).int, .int .u64 (l[j]).re, .int .u64 (l[j]).im, .slice A (l[j]).args.length c]] w (RetV w (.int .i64 0)) := fun A c w h => by rw [← hm]; exact may_spec _ A c w h
        have hNodes : ∀ A c w, AR A c (l[j]).args [] w → Calls Try.prog 16 #[.agg #[.int .i64 (l[j]).kind, .string (l[j]).name, .int .i64 (l[j]).int, .int .u64 (l[j]).re, .int .u64 (l[j]).im, .slice A (l[j]).args.length c]] w (RetV w (.int .i64 N)) := fun A c w h => by rw [← hN, ← hnn]; exact nodes_spec _ A c w h
        have hDepth : ∀ A c w, AR A c (l[j]).args [] w → Calls Try.prog 18 #[.agg #[.int .i64 (l[j]).kind, .string (l[j]).name, .int .i64 (l[j]).int, .int .u64 (l[j]).re, .int .u64 (l[j]).im, .slice A (l[j]).args.length c]] w (RetV w (.int .i64 D)) := fun A c w h => by rw [← hD, ← hdd]; exact depth_spec _ A c w h
        clear hnn hdd
        by_cases h400 : 400 < D
        · have e400 : decide ((400 : Int) < (D : Int)) = true := by simp; omega
          go_wp2_with (first | ((with_reducible refine wpl_runx_d 3 rfl ?_ ?_); (focus exact rfl); refine ⟨_, runs_box H rfl rfl, ?_⟩; clear H; rintro _ w ⟨b3, rfl, hE, H⟩; clear hE) | ((with_reducible refine wpl_runx_d 21 rfl ?_ ?_); (focus exact rfl); refine ⟨_, by apply runs_buildSlice H; iterate 10 rfl, ?_⟩; clear H; rintro _ w ⟨b21, rfl, hE, H⟩; clear hE) | ((with_reducible refine wpl_runx_d 7 rfl ?_ ?_); (focus exact rfl); refine ⟨_, runs_alloc H rfl rfl rfl, ?_⟩; clear H; rintro _ w ⟨b7, rfl, hE, H⟩; clear hE) | ((with_reducible refine wpl_runx ?_ ?_); (focus exact rfl); refine ⟨_, runs_load H 0 rfl rfl rfl rfl rfl, ?_⟩; rintro _ _ ⟨rfl, rfl⟩) | ((with_reducible refine wpl_runx ?_ ?_); (focus exact rfl); refine ⟨_, runs_load H 1 rfl rfl rfl rfl rfl, ?_⟩; rintro _ _ ⟨rfl, rfl⟩) | ((with_reducible refine wpl_runx ?_ ?_); (focus exact rfl); refine ⟨_, runs_load H 2 rfl rfl rfl rfl rfl, ?_⟩; rintro _ _ ⟨rfl, rfl⟩) | ((with_reducible refine wpl_runx ?_ ?_); (focus exact rfl); refine ⟨_, runs_store H 0 rfl rfl rfl rfl rfl rfl rfl rfl rfl, ?_⟩; clear H; rintro _ w ⟨rfl, hE, H⟩; clear hE) | ((with_reducible refine wpl_runx ?_ ?_); (focus exact rfl); refine ⟨_, runs_store H 1 rfl rfl rfl rfl rfl rfl rfl rfl rfl, ?_⟩; clear H; rintro _ w ⟨rfl, hE, H⟩; clear hE) | ((with_reducible refine wpl_runx ?_ ?_); (focus exact rfl); refine ⟨_, runs_store H 2 rfl rfl rfl rfl rfl rfl rfl rfl rfl, ?_⟩; clear H; rintro _ w ⟨rfl, hE, H⟩; clear hE) | ((with_reducible refine wpl_runx ?_ ?_); (focus exact rfl); refine ⟨_, runs_load_at rfl rfl rfl HC.out rfl, ?_⟩; rintro _ _ ⟨rfl, rfl⟩) | ((with_reducible refine Calls.mono (hMay _ _ _ ?_) ?_); (focus exact H.out.2); rintro _ w ⟨rfl, hE⟩; replace H := H.step hE; clear hE) | ((with_reducible refine Calls.mono (hDepth _ _ _ ?_) ?_); (focus exact H.out.2); rintro _ w ⟨rfl, hE⟩; replace H := H.step hE; clear hE) | ((with_reducible refine Calls.mono (awake_spec _) ?_); rintro _ w ⟨rfl, hE⟩; replace H := H.step hE; clear hE))
          go_ret
          exact ⟨rfl, H.ext⟩
        have e400 : decide ((400 : Int) < (D : Int)) = false := by simp; omega
        go_wp2_with (first | ((with_reducible refine wpl_runx_d 3 rfl ?_ ?_); (focus exact rfl); refine ⟨_, runs_box H rfl rfl, ?_⟩; clear H; rintro _ w ⟨b3, rfl, hE, H⟩; clear hE) | ((with_reducible refine wpl_runx_d 21 rfl ?_ ?_); (focus exact rfl); refine ⟨_, by apply runs_buildSlice H; iterate 10 rfl, ?_⟩; clear H; rintro _ w ⟨b21, rfl, hE, H⟩; clear hE) | ((with_reducible refine wpl_runx_d 7 rfl ?_ ?_); (focus exact rfl); refine ⟨_, runs_alloc H rfl rfl rfl, ?_⟩; clear H; rintro _ w ⟨b7, rfl, hE, H⟩; clear hE) | ((with_reducible refine wpl_runx ?_ ?_); (focus exact rfl); refine ⟨_, runs_load H 0 rfl rfl rfl rfl rfl, ?_⟩; rintro _ _ ⟨rfl, rfl⟩) | ((with_reducible refine wpl_runx ?_ ?_); (focus exact rfl); refine ⟨_, runs_load H 1 rfl rfl rfl rfl rfl, ?_⟩; rintro _ _ ⟨rfl, rfl⟩) | ((with_reducible refine wpl_runx ?_ ?_); (focus exact rfl); refine ⟨_, runs_load H 2 rfl rfl rfl rfl rfl, ?_⟩; rintro _ _ ⟨rfl, rfl⟩) | ((with_reducible refine wpl_runx ?_ ?_); (focus exact rfl); refine ⟨_, runs_store H 0 rfl rfl rfl rfl rfl rfl rfl rfl rfl, ?_⟩; clear H; rintro _ w ⟨rfl, hE, H⟩; clear hE) | ((with_reducible refine wpl_runx ?_ ?_); (focus exact rfl); refine ⟨_, runs_store H 1 rfl rfl rfl rfl rfl rfl rfl rfl rfl, ?_⟩; clear H; rintro _ w ⟨rfl, hE, H⟩; clear hE) | ((with_reducible refine wpl_runx ?_ ?_); (focus exact rfl); refine ⟨_, runs_store H 2 rfl rfl rfl rfl rfl rfl rfl rfl rfl, ?_⟩; clear H; rintro _ w ⟨rfl, hE, H⟩; clear hE) | ((with_reducible refine wpl_runx ?_ ?_); (focus exact rfl); refine ⟨_, runs_load_at rfl rfl rfl HC.out rfl, ?_⟩; rintro _ _ ⟨rfl, rfl⟩) | ((with_reducible refine Calls.mono (hMay _ _ _ ?_) ?_); (focus exact H.out.2); rintro _ w ⟨rfl, hE⟩; replace H := H.step hE; clear hE) | ((with_reducible refine Calls.mono (hDepth _ _ _ ?_) ?_); (focus exact H.out.2); rintro _ w ⟨rfl, hE⟩; replace H := H.step hE; clear hE) | ((with_reducible refine Calls.mono (hNodes _ _ _ ?_) ?_); (focus exact H.out.2); rintro _ w ⟨rfl, hE⟩; replace H := H.step hE; clear hE))
        clear HC
        go_roundw
        case rel =>
          refine ⟨j + 1, n + (N + 1), by omega, by go_num, by go_num, ?_, ?_, by omega, (H.drop 0 rfl).weaken (fun h => h.1) ((AR.stab _ _ _).and (AR.stab _ _ _))⟩
          · rw [take_snoc hlt, sumN_snoc, hN, hn.out]; omega
          · rw [take_snoc hlt]
            intro u hu
            rcases List.mem_append.1 hu with hu | hu
            · exact hok u hu
            · obtain rfl := List.mem_singleton.1 hu
              exact ⟨hm, by omega⟩
        case measure => simp [intOf]; omega
      · have em : (mayE l[j] != 0) = true := by simpa using hm
        obtain ⟨E, hE⟩ : ∃ E, mayE l[j] = E := ⟨_, rfl⟩
        have hMay : ∀ A c w, AR A c (l[j]).args [] w → Calls Try.prog 13 #[.agg #[.int .i64 (l[j]).kind, .string (l[j]).name, .int .i64 (l[j]).int, .int .u64 (l[j]).re, .int .u64 (l[j]).im, .slice A (l[j]).args.length c]] w (RetV w (.int .i64 E)) := fun A c w h => by rw [← hE]; exact may_spec _ A c w h
        rw [hE] at em
        go_wp2_with (first | ((with_reducible refine wpl_runx_d 3 rfl ?_ ?_); (focus exact rfl); refine ⟨_, runs_box H rfl rfl, ?_⟩; clear H; rintro _ w ⟨b3, rfl, hE, H⟩; clear hE) | ((with_reducible refine wpl_runx_d 21 rfl ?_ ?_); (focus exact rfl); refine ⟨_, by apply runs_buildSlice H; iterate 10 rfl, ?_⟩; clear H; rintro _ w ⟨b21, rfl, hE, H⟩; clear hE) | ((with_reducible refine wpl_runx_d 7 rfl ?_ ?_); (focus exact rfl); refine ⟨_, runs_alloc H rfl rfl rfl, ?_⟩; clear H; rintro _ w ⟨b7, rfl, hE, H⟩; clear hE) | ((with_reducible refine wpl_runx ?_ ?_); (focus exact rfl); refine ⟨_, runs_load H 0 rfl rfl rfl rfl rfl, ?_⟩; rintro _ _ ⟨rfl, rfl⟩) | ((with_reducible refine wpl_runx ?_ ?_); (focus exact rfl); refine ⟨_, runs_load H 1 rfl rfl rfl rfl rfl, ?_⟩; rintro _ _ ⟨rfl, rfl⟩) | ((with_reducible refine wpl_runx ?_ ?_); (focus exact rfl); refine ⟨_, runs_load H 2 rfl rfl rfl rfl rfl, ?_⟩; rintro _ _ ⟨rfl, rfl⟩) | ((with_reducible refine wpl_runx ?_ ?_); (focus exact rfl); refine ⟨_, runs_store H 0 rfl rfl rfl rfl rfl rfl rfl rfl rfl, ?_⟩; clear H; rintro _ w ⟨rfl, hE, H⟩; clear hE) | ((with_reducible refine wpl_runx ?_ ?_); (focus exact rfl); refine ⟨_, runs_store H 1 rfl rfl rfl rfl rfl rfl rfl rfl rfl, ?_⟩; clear H; rintro _ w ⟨rfl, hE, H⟩; clear hE) | ((with_reducible refine wpl_runx ?_ ?_); (focus exact rfl); refine ⟨_, runs_store H 2 rfl rfl rfl rfl rfl rfl rfl rfl rfl, ?_⟩; clear H; rintro _ w ⟨rfl, hE, H⟩; clear hE) | ((with_reducible refine wpl_runx ?_ ?_); (focus exact rfl); refine ⟨_, runs_load_at rfl rfl rfl HC.out rfl, ?_⟩; rintro _ _ ⟨rfl, rfl⟩) | ((with_reducible refine Calls.mono (hMay _ _ _ ?_) ?_); (focus exact H.out.2); rintro _ w ⟨rfl, hE⟩; replace H := H.step hE; clear hE) | ((with_reducible refine Calls.mono (awake_spec _) ?_); rintro _ w ⟨rfl, hE⟩; replace H := H.step hE; clear hE))
        go_ret
        exact ⟨rfl, H.ext⟩
    · obtain rfl : j = l.length := by omega
      rw [List.take_length] at hok
      have hn := hn.out
      rw [List.take_length] at hn
      by_cases h2000 : 2000 < n
      · have e2 : decide ((2000 : Int) < (n : Int)) = true := by simp; omega
        go_wp2_with (first | ((with_reducible refine wpl_runx_d 3 rfl ?_ ?_); (focus exact rfl); refine ⟨_, runs_box H rfl rfl, ?_⟩; clear H; rintro _ w ⟨b3, rfl, hE, H⟩; clear hE) | ((with_reducible refine wpl_runx_d 21 rfl ?_ ?_); (focus exact rfl); refine ⟨_, by apply runs_buildSlice H; iterate 10 rfl, ?_⟩; clear H; rintro _ w ⟨b21, rfl, hE, H⟩; clear hE) | ((with_reducible refine wpl_runx_d 7 rfl ?_ ?_); (focus exact rfl); refine ⟨_, runs_alloc H rfl rfl rfl, ?_⟩; clear H; rintro _ w ⟨b7, rfl, hE, H⟩; clear hE) | ((with_reducible refine wpl_runx ?_ ?_); (focus exact rfl); refine ⟨_, runs_load H 0 rfl rfl rfl rfl rfl, ?_⟩; rintro _ _ ⟨rfl, rfl⟩) | ((with_reducible refine wpl_runx ?_ ?_); (focus exact rfl); refine ⟨_, runs_load H 1 rfl rfl rfl rfl rfl, ?_⟩; rintro _ _ ⟨rfl, rfl⟩) | ((with_reducible refine wpl_runx ?_ ?_); (focus exact rfl); refine ⟨_, runs_load H 2 rfl rfl rfl rfl rfl, ?_⟩; rintro _ _ ⟨rfl, rfl⟩) | ((with_reducible refine wpl_runx ?_ ?_); (focus exact rfl); refine ⟨_, runs_store H 0 rfl rfl rfl rfl rfl rfl rfl rfl rfl, ?_⟩; clear H; rintro _ w ⟨rfl, hE, H⟩; clear hE) | ((with_reducible refine wpl_runx ?_ ?_); (focus exact rfl); refine ⟨_, runs_store H 1 rfl rfl rfl rfl rfl rfl rfl rfl rfl, ?_⟩; clear H; rintro _ w ⟨rfl, hE, H⟩; clear hE) | ((with_reducible refine wpl_runx ?_ ?_); (focus exact rfl); refine ⟨_, runs_store H 2 rfl rfl rfl rfl rfl rfl rfl rfl rfl, ?_⟩; clear H; rintro _ w ⟨rfl, hE, H⟩; clear hE) | ((with_reducible refine Calls.mono (awake_spec _) ?_); rintro _ w ⟨rfl, hE⟩; replace H := H.step hE; clear hE))
        go_ret
        exact ⟨rfl, H.ext⟩
      have e2 : decide ((2000 : Int) < (n : Int)) = false := by simp; omega
      have hLI := list_items (l := l) (by omega) hok (by omega)
      obtain ⟨P, hP⟩ : ∃ P, listE l nilT = P := ⟨_, rfl⟩
      obtain ⟨gs, hgs⟩ : ∃ gs, l.map (turnT varT) = gs := ⟨_, rfl⟩
      have hgl : gs.length = l.length := by rw [← hgs, List.length_map]
      have hList : ∀ A' c' M w, (∀ b ∈ M, b < w.heap.size) → AR A c l M w → Calls Try.prog 29 #[.slice A l.length c, .agg #[.int .i64 (Tm.mk 2 ⟨#[91, 93]⟩ 0 0 0 []).kind, .string (Tm.mk 2 ⟨#[91, 93]⟩ 0 0 0 []).name, .int .i64 (Tm.mk 2 ⟨#[91, 93]⟩ 0 0 0 []).int, .int .u64 (Tm.mk 2 ⟨#[91, 93]⟩ 0 0 0 []).re, .int .u64 (Tm.mk 2 ⟨#[91, 93]⟩ 0 0 0 []).im, .slice A' (Tm.mk 2 ⟨#[91, 93]⟩ 0 0 0 []).args.length c']] w (RetT M w P) := fun A' c' M w h1 h2 => by rw [← hP]; exact List_spec l A c nilT A' c' M w hl h1 h2 (AR.nil _ _ _ _)
      have hItems : ∀ A' c' M w, (∀ b ∈ M, b < w.heap.size) → AR A' c' P.args M w → Calls Try.prog 28 #[.agg #[.int .i64 P.kind, .string P.name, .int .i64 P.int, .int .u64 P.re, .int .u64 P.im, .slice A' P.args.length c']] w (fun e w' => ∃ A c, e = .returned (.tuple #[.slice A l.length c, .bool true]) ∧ AR A c gs M w' ∧ Ext [] w w') := fun A' c' M w h1 h2 => by
        have := Items_spec P A' c' M w h1 h2
        rw [← hP, hLI, hgs] at this
        unfold RetO at this
        simp only [Option.getD_some, Option.isSome_some, hgl] at this
        rw [← hP]
        exact this
      have hSame : ∀ (j : Nat) (h : j < l.length) A c A' c' w, AR A c (gs[j]'(by omega)).args [] w → AR A' c' (l[j]).args [] w → Calls Try.prog 26 #[.agg #[.int .i64 (gs[j]'(by omega)).kind, .string (gs[j]'(by omega)).name, .int .i64 (gs[j]'(by omega)).int, .int .u64 (gs[j]'(by omega)).re, .int .u64 (gs[j]'(by omega)).im, .slice A (gs[j]'(by omega)).args.length c], .agg #[.int .i64 (l[j]).kind, .string (l[j]).name, .int .i64 (l[j]).int, .int .u64 (l[j]).re, .int .u64 (l[j]).im, .slice A' (l[j]).args.length c']] w (RetV w (.bool true)) := fun j h A c A' c' w h1 h2 => by
        have e : gs[j]'(by omega) = turnT varT l[j] := by subst hgs; rw [List.getElem_map]
        have := Same_spec (gs[j]'(by omega)) l[j] A A' c c' w h1 h2
        rw [show SameE (gs[j]'(by omega)) l[j] = true by rw [e]; exact Same_plain (hok _ (List.getElem_mem h)).1] at this
        exact this
      obtain ⟨Q, hQ⟩ : ∃ Q, plainE t = Q := ⟨_, rfl⟩
      have hEq : ∀ A c A' c' w, AR A c Q.args [] w → AR A' c' Q.args [] w → Calls Try.prog 30 #[.agg #[.int .i64 Q.kind, .string Q.name, .int .i64 Q.int, .int .u64 Q.re, .int .u64 Q.im, .slice A Q.args.length c], .agg #[.int .i64 Q.kind, .string Q.name, .int .i64 Q.int, .int .u64 Q.re, .int .u64 Q.im, .slice A' Q.args.length c']] w (RetV w (.bool true)) := fun A c A' c' w h1 h2 => by
        have := Equal_spec Q Q A A' c c' w (by rw [← hQ]; exact slimA_plain t) (by rw [← hQ]; exact slimA_plain t) h1 h2
        rw [show EqualE Q Q = true by rw [← hQ]; exact Equal_plain t] at this
        exact this
      have hNone : ∀ M w, (∀ b ∈ M, b < w.heap.size) → AR At ct t.args M w → Calls Try.prog 29 #[.slice none 0 0, .agg #[.int .i64 t.kind, .string t.name, .int .i64 t.int, .int .u64 t.re, .int .u64 t.im, .slice At t.args.length ct]] w (RetT M w Q) := fun M w h1 h2 => by
        have := List_spec [] none 0 t At ct M w (by simp) h1 (AR.nil _ _ _ _) h2
        rw [show listE [] t = Q from hQ] at this
        exact this
      have hPlain : ∀ M w, (∀ b ∈ M, b < w.heap.size) → AR At ct t.args M w → Calls Try.prog 31 #[.agg #[.int .i64 t.kind, .string t.name, .int .i64 t.int, .int .u64 t.re, .int .u64 t.im, .slice At t.args.length ct]] w (RetT M w Q) := fun M w h1 h2 => by rw [← hQ]; exact rPlain_spec t At ct M w (slim_of_slimA t hst) h1 h2
      clear hLI hP hgs hQ hok
      go_wp2_with (first | ((with_reducible refine wpl_runx_d 3 rfl ?_ ?_); (focus exact rfl); refine ⟨_, runs_box H rfl rfl, ?_⟩; clear H; rintro _ w ⟨b3, rfl, hE, H⟩; clear hE) | ((with_reducible refine wpl_runx_d 21 rfl ?_ ?_); (focus exact rfl); refine ⟨_, by apply runs_buildSlice H; iterate 10 rfl, ?_⟩; clear H; rintro _ w ⟨b21, rfl, hE, H⟩; clear hE) | ((with_reducible refine wpl_runx_d 7 rfl ?_ ?_); (focus exact rfl); refine ⟨_, runs_alloc H rfl rfl rfl, ?_⟩; clear H; rintro _ w ⟨b7, rfl, hE, H⟩; clear hE) | ((with_reducible refine wpl_runx ?_ ?_); (focus exact rfl); refine ⟨_, runs_load H 0 rfl rfl rfl rfl rfl, ?_⟩; rintro _ _ ⟨rfl, rfl⟩) | ((with_reducible refine wpl_runx ?_ ?_); (focus exact rfl); refine ⟨_, runs_load H 1 rfl rfl rfl rfl rfl, ?_⟩; rintro _ _ ⟨rfl, rfl⟩) | ((with_reducible refine wpl_runx ?_ ?_); (focus exact rfl); refine ⟨_, runs_load H 2 rfl rfl rfl rfl rfl, ?_⟩; rintro _ _ ⟨rfl, rfl⟩) | ((with_reducible refine wpl_runx ?_ ?_); (focus exact rfl); refine ⟨_, runs_store H 0 rfl rfl rfl rfl rfl rfl rfl rfl rfl, ?_⟩; clear H; rintro _ w ⟨rfl, hE, H⟩; clear hE) | ((with_reducible refine wpl_runx ?_ ?_); (focus exact rfl); refine ⟨_, runs_store H 1 rfl rfl rfl rfl rfl rfl rfl rfl rfl, ?_⟩; clear H; rintro _ w ⟨rfl, hE, H⟩; clear hE) | ((with_reducible refine wpl_runx ?_ ?_); (focus exact rfl); refine ⟨_, runs_store H 2 rfl rfl rfl rfl rfl rfl rfl rfl rfl, ?_⟩; clear H; rintro _ w ⟨rfl, hE, H⟩; clear hE) | (refine (atom_spec _ _ _ H.ltAll).mono ?_; rintro _ w ⟨A8, c8, rfl, hA1, hE⟩; replace H := H.step hE; clear hE hA1) | (refine (hList _ _ _ _ H.ltAll H.fact.1).mono ?_; rintro _ w ⟨A5, c5, rfl, hA5, hE⟩; replace H := (H.step hE).add hA5 (AR.stab _ _ _); clear hE hA5) | (refine (hItems _ _ _ _ H.ltAll H.fact.2).mono ?_; rintro _ w ⟨A7, c7, rfl, hA7, hE⟩; replace H := ((H.step hE).add hA7 (AR.stab _ _ _)).weaken (fun h => ⟨h.1.1, h.2⟩) (((AR.stab _ _ _).and (AR.stab _ _ _)).and (AR.stab _ _ _)); clear hE hA7))
      go_loopw [68] (fun iv wr => ∃ (j : Nat), j ≤ l.length ∧ iv = .int .i64 j ∧ St [] [] w0 wr [.obj b3 (.cells #[.int .i64 t.kind, .string t.name, .int .i64 t.int, .int .u64 t.re, .int .u64 t.im, .slice At t.args.length ct] 25 (0, 0))] (fun M w => (AR A c l M w ∧ AR At ct t.args M w) ∧ AR A7 c7 gs M w)) (fun iv _ => l.length - (intOf iv).toNat)
      case atStart => exact ⟨0, Nat.zero_le _, rfl, H⟩
      case round =>
        clear H
        obtain ⟨j, hj, rfl, H⟩ := hrel
        by_cases hlt : j < l.length
        · obtain ⟨q, o, A1, c1, rfl, hqm, hql, hcs, hA1⟩ := H.fact.2.at j (by omega)
          obtain ⟨q', o', A2, c2, rfl, hqm', hql', hcs', hA2⟩ := H.fact.1.1.at j hlt
          have C1 : CellF q (o + j * 6) _ _ _ := ⟨hqm, hql, hcs⟩
          have C2 : CellF q' (o' + j * 6) _ _ _ := ⟨hqm', hql', hcs'⟩
          replace H := (((H.add hA1 (AR.stab _ _ _)).add hA2 (AR.stab _ _ _)).add C1 (CellF.stab _ _ _)).add C2 (CellF.stab _ _ _)
          clear hcs hcs' hql hql' hA1 hA2 hqm hqm' C1 C2
          go_wp2_with (first | ((with_reducible refine wpl_runx_d 3 rfl ?_ ?_); (focus exact rfl); refine ⟨_, runs_box H rfl rfl, ?_⟩; clear H; rintro _ w ⟨b3, rfl, hE, H⟩; clear hE) | ((with_reducible refine wpl_runx_d 21 rfl ?_ ?_); (focus exact rfl); refine ⟨_, by apply runs_buildSlice H; iterate 10 rfl, ?_⟩; clear H; rintro _ w ⟨b21, rfl, hE, H⟩; clear hE) | ((with_reducible refine wpl_runx_d 7 rfl ?_ ?_); (focus exact rfl); refine ⟨_, runs_alloc H rfl rfl rfl, ?_⟩; clear H; rintro _ w ⟨b7, rfl, hE, H⟩; clear hE) | ((with_reducible refine wpl_runx ?_ ?_); (focus exact rfl); refine ⟨_, runs_load H 0 rfl rfl rfl rfl rfl, ?_⟩; rintro _ _ ⟨rfl, rfl⟩) | ((with_reducible refine wpl_runx ?_ ?_); (focus exact rfl); refine ⟨_, runs_load H 1 rfl rfl rfl rfl rfl, ?_⟩; rintro _ _ ⟨rfl, rfl⟩) | ((with_reducible refine wpl_runx ?_ ?_); (focus exact rfl); refine ⟨_, runs_store H 0 rfl rfl rfl rfl rfl rfl rfl rfl rfl, ?_⟩; clear H; rintro _ w ⟨rfl, hE, H⟩; clear hE) | ((with_reducible refine wpl_runx ?_ ?_); (focus exact rfl); refine ⟨_, runs_store H 1 rfl rfl rfl rfl rfl rfl rfl rfl rfl, ?_⟩; clear H; rintro _ w ⟨rfl, hE, H⟩; clear hE))
          refine wp_region_st H [] [[], [], [0, 1], [0, 1, 2], [], [], [4, 5], [4, 5, 6], [0, 1, 2, 3, 4, 5, 6, 7], [0, 1, 2, 3, 4, 5, 6, 7, 8]] [3, 7] [0, 1, 2, 3, 4, 5, 6, 7, 9] [0, 1, 2, 3, 4, 5, 6, 7, 8, 9] (by kernel_rfl) (by kernel_rfl) (fun d v c a w h => by cases d <;> exact h) ?_
          clear H
          intro w H
          have HS := Ext.refl [] w
          have H0 := H
          refine plan_pure (v := ?pv1) rfl (by decide) (by decide) rfl ?ph1 ?_
          case ph1 => (intro w; go_simp; try with_reducible rfl)
          (try simp only [Act.put, List.setIfInBounds_toArray, List.set_cons_succ, List.set_cons_zero])
          refine plan_pure (v := ?pv2) rfl (by decide) (by decide) rfl ?ph2 ?_
          case ph2 => (intro w; go_simp; try with_reducible rfl)
          (try simp only [Act.put, List.setIfInBounds_toArray, List.set_cons_succ, List.set_cons_zero])
          refine plan_pure (v := ?pv3) rfl (by decide) (by decide) rfl ?ph3 ?_
          case ph3 => (intro w; go_simp; try with_reducible rfl)
          (try simp only [Act.put, List.setIfInBounds_toArray, List.set_cons_succ, List.set_cons_zero])
          refine plan_load_at HS H0.fact.1.2.2.1 (by simp) H0.fact.1.2.2.2 rfl (by decide) (by decide) rfl rfl rfl rfl rfl ?_
          (try simp only [Act.put, List.setIfInBounds_toArray, List.set_cons_succ, List.set_cons_zero])
          refine plan_pure (v := ?pv4) rfl (by decide) (by decide) rfl ?ph4 ?_
          case ph4 => (intro w; go_simp; try with_reducible rfl)
          (try simp only [Act.put, List.setIfInBounds_toArray, List.set_cons_succ, List.set_cons_zero])
          refine plan_pure (v := ?pv5) rfl (by decide) (by decide) rfl ?ph5 ?_
          case ph5 => (intro w; go_simp; try with_reducible rfl)
          (try simp only [Act.put, List.setIfInBounds_toArray, List.set_cons_succ, List.set_cons_zero])
          refine plan_pure (v := ?pv6) rfl (by decide) (by decide) rfl ?ph6 ?_
          case ph6 => (intro w; go_simp; try with_reducible rfl)
          (try simp only [Act.put, List.setIfInBounds_toArray, List.set_cons_succ, List.set_cons_zero])
          refine plan_load_at HS H0.fact.2.2.1 (by simp) H0.fact.2.2.2 rfl (by decide) (by decide) rfl rfl rfl rfl rfl ?_
          (try simp only [Act.put, List.setIfInBounds_toArray, List.set_cons_succ, List.set_cons_zero])
          refine plan_op rfl (by decide) rfl (fun K hK => ?_)
          go_simp
          ((with_reducible refine Calls.mono (hSame j hlt _ _ _ _ _ ?_ ?_) ?_); (focus exact H.out.1.1.1.2); (focus exact H.out.1.1.2); rintro _ w ⟨rfl, hE⟩; replace HS := HS.trans hE; replace H := H.step hE; clear hE)
          refine hK _ _ (fun h => absurd h (by decide)) ?_
          clear hK K
          (try simp only [Act.put, List.setIfInBounds_toArray, List.set_cons_succ, List.set_cons_zero])
          refine plan_pure (v := ?pv7) rfl (by decide) (by decide) rfl ?ph7 ?_
          case ph7 => (intro w; go_simp; try with_reducible rfl)
          (try simp only [Act.put, List.setIfInBounds_toArray, List.set_cons_succ, List.set_cons_zero])
          refine plan_nil ?_
          clear H0 HS
          go_wp2
          go_roundw
          case rel => exact ⟨j + 1, by omega, by go_num, H.weaken (fun h => h.1.1.1.1) (((AR.stab _ _ _).and (AR.stab _ _ _)).and (AR.stab _ _ _))⟩
          case measure => simp [intOf]; omega
        · obtain rfl : j = l.length := by omega
          go_wp2_with (first | ((with_reducible refine wpl_runx_d 3 rfl ?_ ?_); (focus exact rfl); refine ⟨_, runs_box H rfl rfl, ?_⟩; clear H; rintro _ w ⟨b3, rfl, hE, H⟩; clear hE) | ((with_reducible refine wpl_runx_d 21 rfl ?_ ?_); (focus exact rfl); refine ⟨_, by apply runs_buildSlice H; iterate 10 rfl, ?_⟩; clear H; rintro _ w ⟨b21, rfl, hE, H⟩; clear hE) | ((with_reducible refine wpl_runx_d 7 rfl ?_ ?_); (focus exact rfl); refine ⟨_, runs_alloc H rfl rfl rfl, ?_⟩; clear H; rintro _ w ⟨b7, rfl, hE, H⟩; clear hE) | ((with_reducible refine wpl_runx ?_ ?_); (focus exact rfl); refine ⟨_, runs_load H 0 rfl rfl rfl rfl rfl, ?_⟩; rintro _ _ ⟨rfl, rfl⟩) | ((with_reducible refine wpl_runx ?_ ?_); (focus exact rfl); refine ⟨_, runs_load H 1 rfl rfl rfl rfl rfl, ?_⟩; rintro _ _ ⟨rfl, rfl⟩) | ((with_reducible refine wpl_runx ?_ ?_); (focus exact rfl); refine ⟨_, runs_store H 0 rfl rfl rfl rfl rfl rfl rfl rfl rfl, ?_⟩; clear H; rintro _ w ⟨rfl, hE, H⟩; clear hE) | ((with_reducible refine wpl_runx ?_ ?_); (focus exact rfl); refine ⟨_, runs_store H 1 rfl rfl rfl rfl rfl rfl rfl rfl rfl, ?_⟩; clear H; rintro _ w ⟨rfl, hE, H⟩; clear hE))
          refine wp_region_st H [] [[], [0], [], [0, 1, 2], [0, 1, 2, 3], [0, 1, 2, 3, 4], [0, 1, 2, 3, 4, 5], [0, 1, 2, 3, 4, 5, 6], [0, 1, 2, 3, 4, 5, 6, 7]] [0, 2] [0, 2, 5, 7, 8] [0, 2, 1, 3, 4, 5, 6, 7, 8] (by kernel_rfl) (by kernel_rfl) (fun d v c a w h => by cases d <;> exact h) ?_
          clear H
          intro w H
          have HS := Ext.refl [] w
          have H0 := H
          first | refine plan_load_open H0 HS 0 rfl (by simp) rfl (by decide) (by decide) rfl rfl rfl rfl rfl ?_ | refine plan_load_open H0 HS 1 rfl (by simp) rfl (by decide) (by decide) rfl rfl rfl rfl rfl ?_ | refine plan_load_open H0 HS 2 rfl (by simp) rfl (by decide) (by decide) rfl rfl rfl rfl rfl ?_ | refine plan_load_open H0 HS 3 rfl (by simp) rfl (by decide) (by decide) rfl rfl rfl rfl rfl ?_ | refine plan_load_open H0 HS 4 rfl (by simp) rfl (by decide) (by decide) rfl rfl rfl rfl rfl ?_ | refine plan_load_open H0 HS 5 rfl (by simp) rfl (by decide) (by decide) rfl rfl rfl rfl rfl ?_ | refine plan_load_open H0 HS 6 rfl (by simp) rfl (by decide) (by decide) rfl rfl rfl rfl rfl ?_ | refine plan_load_open H0 HS 7 rfl (by simp) rfl (by decide) (by decide) rfl rfl rfl rfl rfl ?_
          (try simp only [Act.put, List.setIfInBounds_toArray, List.set_cons_succ, List.set_cons_zero])
          first | refine plan_load_open H0 HS 0 rfl (by simp) rfl (by decide) (by decide) rfl rfl rfl rfl rfl ?_ | refine plan_load_open H0 HS 1 rfl (by simp) rfl (by decide) (by decide) rfl rfl rfl rfl rfl ?_ | refine plan_load_open H0 HS 2 rfl (by simp) rfl (by decide) (by decide) rfl rfl rfl rfl rfl ?_ | refine plan_load_open H0 HS 3 rfl (by simp) rfl (by decide) (by decide) rfl rfl rfl rfl rfl ?_ | refine plan_load_open H0 HS 4 rfl (by simp) rfl (by decide) (by decide) rfl rfl rfl rfl rfl ?_ | refine plan_load_open H0 HS 5 rfl (by simp) rfl (by decide) (by decide) rfl rfl rfl rfl rfl ?_ | refine plan_load_open H0 HS 6 rfl (by simp) rfl (by decide) (by decide) rfl rfl rfl rfl rfl ?_ | refine plan_load_open H0 HS 7 rfl (by simp) rfl (by decide) (by decide) rfl rfl rfl rfl rfl ?_
          (try simp only [Act.put, List.setIfInBounds_toArray, List.set_cons_succ, List.set_cons_zero])
          refine plan_op rfl (by decide) rfl (fun K hK => ?_)
          go_simp
          (refine (hNone _ _ H.ltAll H.fact.1.2).mono ?_; rintro _ w ⟨A3, c3, rfl, hA3, hE⟩; replace HS := HS.trans hE; replace H := (H.step hE).add hA3 (AR.stab _ _ _); clear hE hA3)
          refine hK _ _ (fun _ => HS) ?_
          clear hK K
          (try simp only [Act.put, List.setIfInBounds_toArray, List.set_cons_succ, List.set_cons_zero])
          refine plan_op rfl (by decide) rfl (fun K hK => ?_)
          go_simp
          (refine (hPlain _ _ H.ltAll H.fact.1.1.2).mono ?_; rintro _ w ⟨A4, c4, rfl, hA4, hE⟩; replace HS := HS.trans hE; replace H := (H.step hE).add hA4 (AR.stab _ _ _); clear hE hA4)
          refine hK _ _ (fun h => absurd h (by decide)) ?_
          clear hK K
          (try simp only [Act.put, List.setIfInBounds_toArray, List.set_cons_succ, List.set_cons_zero])
          refine plan_op rfl (by decide) rfl (fun K hK => ?_)
          go_simp
          ((with_reducible refine Calls.mono (hEq _ _ _ _ _ ?_ ?_) ?_); (focus exact H.out.1.2); (focus exact H.out.2); rintro _ w ⟨rfl, hE⟩; replace HS := HS.trans hE; replace H := H.step hE; clear hE)
          refine hK _ _ (fun h => absurd h (by decide)) ?_
          clear hK K
          (try simp only [Act.put, List.setIfInBounds_toArray, List.set_cons_succ, List.set_cons_zero])
          refine plan_pure (v := ?pv8) rfl (by decide) (by decide) rfl ?ph8 ?_
          case ph8 => (intro w; go_simp; try with_reducible rfl)
          (try simp only [Act.put, List.setIfInBounds_toArray, List.set_cons_succ, List.set_cons_zero])
          refine plan_op rfl (by decide) rfl (fun K hK => ?_)
          go_simp
          ((with_reducible refine Calls.mono (awake_spec _) ?_); rintro _ w ⟨rfl, hE⟩; replace HS := HS.trans hE; replace H := H.step hE; clear hE)
          refine hK _ _ (fun h => absurd h (by decide)) ?_
          clear hK K
          (try simp only [Act.put, List.setIfInBounds_toArray, List.set_cons_succ, List.set_cons_zero])
          refine plan_pure (v := ?pv9) rfl (by decide) (by decide) rfl ?ph9 ?_
          case ph9 => (intro w; go_simp; try with_reducible rfl)
          (try simp only [Act.put, List.setIfInBounds_toArray, List.set_cons_succ, List.set_cons_zero])
          refine plan_pure (v := ?pv10) rfl (by decide) (by decide) rfl ?ph10 ?_
          case ph10 => (intro w; go_simp; try with_reducible rfl)
          (try simp only [Act.put, List.setIfInBounds_toArray, List.set_cons_succ, List.set_cons_zero])
          refine plan_nil ?_
          clear H0 HS
          go_wp2
          go_ret
          exact ⟨rfl, H.ext⟩
end Go.Proofs.Ytbeimnaeaompjaa
