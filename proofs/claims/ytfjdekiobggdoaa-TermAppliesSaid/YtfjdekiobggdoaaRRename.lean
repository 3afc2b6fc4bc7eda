/- Walks: named, RenameFrom, Rename of the reference. -/
import Derived.Test.YtfjdekiobggdoaaROne
import Derived.Test.YtfjdekiobggdoaaRename
import Derived.Test.YtfjdekiobggdoaaLMap
import Derived.Test.YtfjdekiobggdoaaRVars
namespace Go.Proofs.Ytfjdekiobggdoaa
open Go.RowKit
set_option linter.unusedVariables false
set_option linter.unusedSimpArgs false
set_option maxRecDepth 20000
set_option maxHeartbeats 2000000

theorem rnamed_spec (b : Nat) (mp : List (Int × Value)) (F : Int → Int) (hF : ∀ n, (getL mp n).getD (.int .i64 0) = .int .i64 (F n)) : ∀ (t : Tm) (M : List Nat) (w : World) (A : Option Addr) (c : Nat),
    (∀ b ∈ M, b < w.heap.size) → AR A c t.args M w → okT t → MapF (Value.int .i64) b mp M w →
    Calls Try.prog 45 #[.agg #[.int .i64 t.kind, .string t.name, .int .i64 t.int, .int .u64 t.re, .int .u64 t.im, .slice A t.args.length c], .map (some b)] w (RetT M w (turnT (fun n => varT (F n)) t)) := by
  intro t
  induction t using Tm.ind with | _ k s n r i l IH
  intro M w0 A c hM hA hs0 hG
  have hs := hs0; unfold okT at hs
  simp only [Tm.kind, Tm.name, Tm.int, Tm.re, Tm.im, Tm.args] at hA ⊢
  have H := St.start hM ((AR.stab A c l).and (MapF.stab _ _ _)) ⟨hA, hG⟩
  clear hA hG
  have IH' := Lib.hid IH; clear IH
  have hu25 := Try.underlying25
  by_cases h1 : k = 1
  · subst h1
    go_enter Try.func45, Try.ntmps45
    go_wp2_with (first | ((with_reducible refine wpl_runx_d 2 rfl ?_ ?_); (focus exact rfl); refine ⟨_, runs_box H rfl rfl, ?_⟩; clear H; rintro _ w ⟨b2, rfl, hE, H⟩; clear hE) | ((with_reducible refine wpl_runx_d 4 rfl ?_ ?_); (focus exact rfl); refine ⟨_, runs_alloc H rfl rfl rfl, ?_⟩; clear H; rintro _ w ⟨b4, rfl, hE, H⟩; clear hE) | ((with_reducible refine wpl_runx_d 5 rfl ?_ ?_); (focus exact rfl); refine ⟨_, runs_alloc H rfl rfl rfl, ?_⟩; clear H; rintro _ w ⟨b5, rfl, hE, H⟩; clear hE) | ((with_reducible refine wpl_runx_d 7 rfl ?_ ?_); (focus exact rfl); refine ⟨_, runs_alloc H rfl rfl rfl, ?_⟩; clear H; rintro _ w ⟨b7, rfl, hE, H⟩; clear hE) | ((with_reducible refine wpl_runx_d 33 rfl ?_ ?_); (focus exact rfl); refine ⟨_, by apply runs_buildSlice H; iterate 10 rfl, ?_⟩; clear H; rintro _ w ⟨b33, rfl, hE, H⟩; clear hE) | ((with_reducible refine wpl_runx ?_ ?_); (focus exact rfl); refine ⟨_, runs_load H 0 rfl rfl rfl rfl rfl, ?_⟩; rintro _ _ ⟨rfl, rfl⟩) | ((with_reducible refine wpl_runx ?_ ?_); (focus exact rfl); refine ⟨_, runs_load H 1 rfl rfl rfl rfl rfl, ?_⟩; rintro _ _ ⟨rfl, rfl⟩) | ((with_reducible refine wpl_runx ?_ ?_); (focus exact rfl); refine ⟨_, runs_load H 2 rfl rfl rfl rfl rfl, ?_⟩; rintro _ _ ⟨rfl, rfl⟩) | ((with_reducible refine wpl_runx ?_ ?_); (focus exact rfl); refine ⟨_, runs_store H 0 rfl rfl rfl rfl rfl rfl rfl rfl rfl, ?_⟩; clear H; rintro _ w ⟨rfl, hE, H⟩; clear hE) | ((with_reducible refine wpl_runx ?_ ?_); (focus exact rfl); refine ⟨_, runs_store H 1 rfl rfl rfl rfl rfl rfl rfl rfl rfl, ?_⟩; clear H; rintro _ w ⟨rfl, hE, H⟩; clear hE) | ((with_reducible refine wpl_runx ?_ ?_); (focus exact rfl); refine ⟨_, runs_store H 2 rfl rfl rfl rfl rfl rfl rfl rfl rfl, ?_⟩; clear H; rintro _ w ⟨rfl, hE, H⟩; clear hE) | ((with_reducible refine wpl_runx ?_ ?_); (focus exact rfl); refine ⟨_, runs_lookup_at (intKey .i64) H.fact.2.1 rfl rfl rfl Try.tyRM Try.tyI64k Try.tzI64, ?_⟩; simp only [hF, Bool.false_eq_true, if_false]; rintro _ _ ⟨rfl, rfl⟩) | (refine (var_spec (F n) _ _ H.ltAll).mono ?_; rintro _ w ⟨A', c', rfl, hA', hE⟩; replace H := (H.step hE).add hA' (AR.stab _ _ _); clear hA' hE))
    refine (ret_cell H 0 rfl rfl rfl rfl rfl rfl ?_).1
    rw [show turnT (fun n => varT (F n)) (.mk 1 s n r i l) = varT (F n) by simp [turnT]]
    exact ⟨_, _, rfl, H.out.2, H.ext⟩
  by_cases h5 : k = 5
  · subst h5
    have hl : l.length ≤ 1000000 := Nat.le_trans (oneE_args hs.1 rfl) (by decide)
    have h0 : ∀ A c w, Calls Try.prog 55 #[.agg #[.int .i64 5, .string s, .int .i64 n, .int .u64 r, .int .u64 i, .slice A l.length c]] w (RetV w (.agg #[.int .i64 5, .string s, .int .i64 0, .int .u64 0, .int .u64 0, .slice none 0 0])) := fun A c w => by
      have := plainOne_spec 5 s n r i (.slice A l.length c) ⟨_, _, _, rfl⟩ w
      rw [show turnT varT (.mk 5 s n r i []) = .mk 5 s 0 0 0 [] by simp [turnT, turnL]] at this
      exact this
    go_enter Try.func45, Try.ntmps45
    go_wp2_with (first | ((with_reducible refine wpl_runx_d 2 rfl ?_ ?_); (focus exact rfl); refine ⟨_, runs_box H rfl rfl, ?_⟩; clear H; rintro _ w ⟨b2, rfl, hE, H⟩; clear hE) | ((with_reducible refine wpl_runx_d 4 rfl ?_ ?_); (focus exact rfl); refine ⟨_, runs_alloc H rfl rfl rfl, ?_⟩; clear H; rintro _ w ⟨b4, rfl, hE, H⟩; clear hE) | ((with_reducible refine wpl_runx_d 5 rfl ?_ ?_); (focus exact rfl); refine ⟨_, runs_alloc H rfl rfl rfl, ?_⟩; clear H; rintro _ w ⟨b5, rfl, hE, H⟩; clear hE) | ((with_reducible refine wpl_runx_d 7 rfl ?_ ?_); (focus exact rfl); refine ⟨_, runs_alloc H rfl rfl rfl, ?_⟩; clear H; rintro _ w ⟨b7, rfl, hE, H⟩; clear hE) | ((with_reducible refine wpl_runx_d 33 rfl ?_ ?_); (focus exact rfl); refine ⟨_, by apply runs_buildSlice H; iterate 10 rfl, ?_⟩; clear H; rintro _ w ⟨b33, rfl, hE, H⟩; clear hE) | ((with_reducible refine wpl_runx ?_ ?_); (focus exact rfl); refine ⟨_, runs_load H 0 rfl rfl rfl rfl rfl, ?_⟩; rintro _ _ ⟨rfl, rfl⟩) | ((with_reducible refine wpl_runx ?_ ?_); (focus exact rfl); refine ⟨_, runs_load H 1 rfl rfl rfl rfl rfl, ?_⟩; rintro _ _ ⟨rfl, rfl⟩) | ((with_reducible refine wpl_runx ?_ ?_); (focus exact rfl); refine ⟨_, runs_load H 2 rfl rfl rfl rfl rfl, ?_⟩; rintro _ _ ⟨rfl, rfl⟩) | ((with_reducible refine wpl_runx ?_ ?_); (focus exact rfl); refine ⟨_, runs_store H 0 rfl rfl rfl rfl rfl rfl rfl rfl rfl, ?_⟩; clear H; rintro _ w ⟨rfl, hE, H⟩; clear hE) | ((with_reducible refine wpl_runx ?_ ?_); (focus exact rfl); refine ⟨_, runs_store H 1 rfl rfl rfl rfl rfl rfl rfl rfl rfl, ?_⟩; clear H; rintro _ w ⟨rfl, hE, H⟩; clear hE) | ((with_reducible refine wpl_runx ?_ ?_); (focus exact rfl); refine ⟨_, runs_store H 2 rfl rfl rfl rfl rfl rfl rfl rfl rfl, ?_⟩; clear H; rintro _ w ⟨rfl, hE, H⟩; clear hE) | ((with_reducible refine Calls.mono (h0 _ _ _) ?_); rintro _ w ⟨rfl, hE⟩; replace H := H.step hE; clear hE))
    replace H := (H.nilRow 25 6).add (G := TsR [] ((l.take 0).map (turnT (fun n => varT (F n))))) (TsR.nil _ _) (TsR.stab _ _)
    go_loopw [24] (fun iv wr => ∃ (j : Nat) (v : Value) (xs : List Value), j ≤ l.length ∧ iv = .int .i64 j ∧
      St M [] w0 wr [.row v j xs 25 6, .obj b5 (.cells #[.int .i64 5, .string s, .int .i64 0, .int .u64 0, .int .u64 0, v] 25 (0, 0)), .obj b4 (.cells #[.int .i64 0, .string ⟨#[]⟩, .int .i64 0, .int .u64 0, .int .u64 0, .slice none 0 0] 25 (0, 0))] fun M w => (AR A c l M w ∧ MapF (Value.int .i64) b mp M w) ∧ TsR xs ((l.take j).map (turnT (fun n => varT (F n)))) M w) (fun iv _ => l.length - (intOf iv).toNat)
    case atStart => exact ⟨0, _, [], Nat.zero_le _, rfl, H.drop 3 rfl⟩
    case round =>
      clear H
      obtain ⟨j, v, xs, hj, rfl, H⟩ := hrel
      by_cases hlt : j < l.length
      · obtain ⟨⟨hA, hG⟩, hT⟩ := H.fact
        obtain ⟨b, o, A', c', hAe, hbn, hbl, hcs, hA'⟩ := hA.at j hlt
        subst hAe
        replace H := H.add hA' (AR.stab _ _ _)
        clear hA hG hT hA' hbn hbl
        have HC := Lib.hid hcs; clear hcs
        go_wp2_with (first | ((with_reducible refine wpl_runx_d 2 rfl ?_ ?_); (focus exact rfl); refine ⟨_, runs_box H rfl rfl, ?_⟩; clear H; rintro _ w ⟨b2, rfl, hE, H⟩; clear hE) | ((with_reducible refine wpl_runx_d 4 rfl ?_ ?_); (focus exact rfl); refine ⟨_, runs_alloc H rfl rfl rfl, ?_⟩; clear H; rintro _ w ⟨b4, rfl, hE, H⟩; clear hE) | ((with_reducible refine wpl_runx_d 5 rfl ?_ ?_); (focus exact rfl); refine ⟨_, runs_alloc H rfl rfl rfl, ?_⟩; clear H; rintro _ w ⟨b5, rfl, hE, H⟩; clear hE) | ((with_reducible refine wpl_runx_d 7 rfl ?_ ?_); (focus exact rfl); refine ⟨_, runs_alloc H rfl rfl rfl, ?_⟩; clear H; rintro _ w ⟨b7, rfl, hE, H⟩; clear hE) | ((with_reducible refine wpl_runx_d 33 rfl ?_ ?_); (focus exact rfl); refine ⟨_, by apply runs_buildSlice H; iterate 10 rfl, ?_⟩; clear H; rintro _ w ⟨b33, rfl, hE, H⟩; clear hE) | ((with_reducible refine wpl_runx ?_ ?_); (focus exact rfl); refine ⟨_, runs_load H 0 rfl rfl rfl rfl rfl, ?_⟩; rintro _ _ ⟨rfl, rfl⟩) | ((with_reducible refine wpl_runx ?_ ?_); (focus exact rfl); refine ⟨_, runs_load H 1 rfl rfl rfl rfl rfl, ?_⟩; rintro _ _ ⟨rfl, rfl⟩) | ((with_reducible refine wpl_runx ?_ ?_); (focus exact rfl); refine ⟨_, runs_load H 2 rfl rfl rfl rfl rfl, ?_⟩; rintro _ _ ⟨rfl, rfl⟩) | ((with_reducible refine wpl_runx ?_ ?_); (focus exact rfl); refine ⟨_, runs_store H 0 rfl rfl rfl rfl rfl rfl rfl rfl rfl, ?_⟩; clear H; rintro _ w ⟨rfl, hE, H⟩; clear hE) | ((with_reducible refine wpl_runx ?_ ?_); (focus exact rfl); refine ⟨_, runs_store H 1 rfl rfl rfl rfl rfl rfl rfl rfl rfl, ?_⟩; clear H; rintro _ w ⟨rfl, hE, H⟩; clear hE) | ((with_reducible refine wpl_runx ?_ ?_); (focus exact rfl); refine ⟨_, runs_store H 2 rfl rfl rfl rfl rfl rfl rfl rfl rfl, ?_⟩; clear H; rintro _ w ⟨rfl, hE, H⟩; clear hE) | ((with_reducible refine wpl_runx ?_ ?_); (focus exact rfl); refine ⟨_, runs_load_at rfl rfl rfl HC.out rfl, ?_⟩; rintro _ _ ⟨rfl, rfl⟩))
        clear HC
        refine wp_region_st H [] [[], [0], [], [], [2, 3], [2, 3, 4], [0, 1, 2, 3, 4, 5], [0, 1, 2, 3, 4, 5, 6], [0, 1, 2, 3, 4, 5, 6, 7]] [1, 2] [0, 1, 2, 3, 7] [0, 1, 2, 3, 4, 5, 6, 7, 8] (by kernel_rfl) (by kernel_rfl) (fun d v c a w h => by cases d <;> exact h) ?_
        clear H
        intro w H
        have HS := Ext.refl [] w
        have H0 := H
        refine plan_pure (v := ?pv1) rfl (by decide) (by decide) rfl ?ph1 ?_
        case ph1 => (intro w; go_simp; try with_reducible rfl)
        (try simp only [Act.put, List.setIfInBounds_toArray, List.set_cons_succ, List.set_cons_zero])
        first | refine plan_load_open H0 HS 0 rfl (by simp) rfl (by decide) (by decide) rfl rfl rfl rfl rfl ?_ | refine plan_load_open H0 HS 1 rfl (by simp) rfl (by decide) (by decide) rfl rfl rfl rfl rfl ?_ | refine plan_load_open H0 HS 2 rfl (by simp) rfl (by decide) (by decide) rfl rfl rfl rfl rfl ?_ | refine plan_load_open H0 HS 3 rfl (by simp) rfl (by decide) (by decide) rfl rfl rfl rfl rfl ?_ | refine plan_load_open H0 HS 4 rfl (by simp) rfl (by decide) (by decide) rfl rfl rfl rfl rfl ?_
        (try simp only [Act.put, List.setIfInBounds_toArray, List.set_cons_succ, List.set_cons_zero])
        first | refine plan_load_open H0 HS 0 rfl (by simp) rfl (by decide) (by decide) rfl rfl rfl rfl rfl ?_ | refine plan_load_open H0 HS 1 rfl (by simp) rfl (by decide) (by decide) rfl rfl rfl rfl rfl ?_ | refine plan_load_open H0 HS 2 rfl (by simp) rfl (by decide) (by decide) rfl rfl rfl rfl rfl ?_ | refine plan_load_open H0 HS 3 rfl (by simp) rfl (by decide) (by decide) rfl rfl rfl rfl rfl ?_ | refine plan_load_open H0 HS 4 rfl (by simp) rfl (by decide) (by decide) rfl rfl rfl rfl rfl ?_
        (try simp only [Act.put, List.setIfInBounds_toArray, List.set_cons_succ, List.set_cons_zero])
        refine plan_pure (v := ?pv2) rfl (by decide) (by decide) rfl ?ph2 ?_
        case ph2 => (intro w; go_simp; try with_reducible rfl)
        (try simp only [Act.put, List.setIfInBounds_toArray, List.set_cons_succ, List.set_cons_zero])
        refine plan_op rfl (by decide) rfl (fun K hK => ?_)
        go_simp
        (refine (IH'.out l[j] (List.getElem_mem hlt) _ _ _ _ H.ltAll H.fact.2 (okL_mem (hs.2 (by trivial)) (List.getElem_mem hlt)) H.fact.1.1.2).mono ?_; rintro _ w ⟨A2, c2, rfl, hA2, hE⟩; replace HS := HS.trans hE; replace H := (H.step hE).add hA2 (AR.stab _ _ _); clear hA2 hE)
        refine hK _ _ (fun _ => HS) ?_
        clear hK K
        (try simp only [Act.put, List.setIfInBounds_toArray, List.set_cons_succ, List.set_cons_zero])
        refine plan_step rfl (by decide) rfl ⟨_, by apply runs_buildSlice H; iterate 10 rfl, ?_⟩
        clear H
        rintro _ w ⟨b33, rfl, hE, H⟩
        replace HS := HS.trans hE
        clear hE
        refine ⟨fun _ => HS, ?_⟩
        (try simp only [Act.put, List.setIfInBounds_toArray, List.set_cons_succ, List.set_cons_zero])
        refine plan_step rfl (by decide) rfl ⟨_, runs_append1 H 2 rfl rfl rfl rfl rfl Try.infoT rfl (by decide) 0 rfl rfl rfl (by decide) (by unfold maxLen; omega) (by omega) (fun r => rfl), ?_⟩
        (clear H; rintro _ w ⟨g', cap', rfl, hE, H⟩; clear hE)
        refine ⟨(fun h => absurd h (by decide)), ?_⟩
        (try simp only [Act.put, List.setIfInBounds_toArray, List.set_cons_succ, List.set_cons_zero])
        refine plan_pure (v := ?pv3) rfl (by decide) (by decide) rfl ?ph3 ?_
        case ph3 => (intro w; go_simp; try with_reducible rfl)
        (try simp only [Act.put, List.setIfInBounds_toArray, List.set_cons_succ, List.set_cons_zero])
        first | (refine plan_step rfl (by decide) rfl ⟨_, runs_store H 0 rfl rfl rfl rfl rfl rfl rfl rfl rfl, ?_⟩; clear H; rintro _ w ⟨rfl, hE, H⟩) | (refine plan_step rfl (by decide) rfl ⟨_, runs_store H 1 rfl rfl rfl rfl rfl rfl rfl rfl rfl, ?_⟩; clear H; rintro _ w ⟨rfl, hE, H⟩) | (refine plan_step rfl (by decide) rfl ⟨_, runs_store H 2 rfl rfl rfl rfl rfl rfl rfl rfl rfl, ?_⟩; clear H; rintro _ w ⟨rfl, hE, H⟩) | (refine plan_step rfl (by decide) rfl ⟨_, runs_store H 3 rfl rfl rfl rfl rfl rfl rfl rfl rfl, ?_⟩; clear H; rintro _ w ⟨rfl, hE, H⟩) | (refine plan_step rfl (by decide) rfl ⟨_, runs_store H 4 rfl rfl rfl rfl rfl rfl rfl rfl rfl, ?_⟩; clear H; rintro _ w ⟨rfl, hE, H⟩)
        clear hE
        refine ⟨(fun h => absurd h (by decide)), ?_⟩
        (try simp only [Act.put, List.setIfInBounds_toArray, List.set_cons_succ, List.set_cons_zero])
        refine plan_nil ?_
        clear H0 HS
        go_wp2
        go_roundw
        case rel =>
          refine ⟨j + 1, _, _, by omega, by go_num, (((H.drop 0 rfl).drop 0 rfl).weaken (fun h => ⟨h.1.1.1, ?_⟩) (((AR.stab _ _ _).and (MapF.stab _ _ _)).and (TsR.stab _ _)))⟩
          rw [take_map_snoc hlt]
          have := h.1.1.2.snoc (k := (turnT (fun n => varT (F n)) l[j]).kind) (s := (turnT (fun n => varT (F n)) l[j]).name) (n := (turnT (fun n => varT (F n)) l[j]).int) (r := (turnT (fun n => varT (F n)) l[j]).re) (i := (turnT (fun n => varT (F n)) l[j]).im) h.2
          rw [Tm.eta] at this
          exact this
        case measure => simp [intOf]; omega
      · obtain rfl : j = l.length := by omega
        obtain ⟨A3, c3, rfl, H⟩ := H.sealT 0 (l := (l.take l.length).map (turnT (fun n => varT (F n)))) rfl (fun M w h => h.2)
        rw [List.take_length] at H
        simp only [List.eraseIdx_zero, List.tail_cons] at H
        go_wp2_with (first | ((with_reducible refine wpl_runx_d 2 rfl ?_ ?_); (focus exact rfl); refine ⟨_, runs_box H rfl rfl, ?_⟩; clear H; rintro _ w ⟨b2, rfl, hE, H⟩; clear hE) | ((with_reducible refine wpl_runx_d 4 rfl ?_ ?_); (focus exact rfl); refine ⟨_, runs_alloc H rfl rfl rfl, ?_⟩; clear H; rintro _ w ⟨b4, rfl, hE, H⟩; clear hE) | ((with_reducible refine wpl_runx_d 5 rfl ?_ ?_); (focus exact rfl); refine ⟨_, runs_alloc H rfl rfl rfl, ?_⟩; clear H; rintro _ w ⟨b5, rfl, hE, H⟩; clear hE) | ((with_reducible refine wpl_runx_d 7 rfl ?_ ?_); (focus exact rfl); refine ⟨_, runs_alloc H rfl rfl rfl, ?_⟩; clear H; rintro _ w ⟨b7, rfl, hE, H⟩; clear hE) | ((with_reducible refine wpl_runx_d 33 rfl ?_ ?_); (focus exact rfl); refine ⟨_, by apply runs_buildSlice H; iterate 10 rfl, ?_⟩; clear H; rintro _ w ⟨b33, rfl, hE, H⟩; clear hE) | ((with_reducible refine wpl_runx ?_ ?_); (focus exact rfl); refine ⟨_, runs_load H 0 rfl rfl rfl rfl rfl, ?_⟩; rintro _ _ ⟨rfl, rfl⟩) | ((with_reducible refine wpl_runx ?_ ?_); (focus exact rfl); refine ⟨_, runs_load H 1 rfl rfl rfl rfl rfl, ?_⟩; rintro _ _ ⟨rfl, rfl⟩) | ((with_reducible refine wpl_runx ?_ ?_); (focus exact rfl); refine ⟨_, runs_load H 2 rfl rfl rfl rfl rfl, ?_⟩; rintro _ _ ⟨rfl, rfl⟩) | ((with_reducible refine wpl_runx ?_ ?_); (focus exact rfl); refine ⟨_, runs_store H 0 rfl rfl rfl rfl rfl rfl rfl rfl rfl, ?_⟩; clear H; rintro _ w ⟨rfl, hE, H⟩; clear hE) | ((with_reducible refine wpl_runx ?_ ?_); (focus exact rfl); refine ⟨_, runs_store H 1 rfl rfl rfl rfl rfl rfl rfl rfl rfl, ?_⟩; clear H; rintro _ w ⟨rfl, hE, H⟩; clear hE) | ((with_reducible refine wpl_runx ?_ ?_); (focus exact rfl); refine ⟨_, runs_store H 2 rfl rfl rfl rfl rfl rfl rfl rfl rfl, ?_⟩; clear H; rintro _ w ⟨rfl, hE, H⟩; clear hE))
        refine (ret_cell H 1 rfl rfl rfl rfl rfl rfl ?_).1
        rw [show turnT (fun n => varT (F n)) (.mk 5 s n r i l) = .mk 5 s 0 0 0 (l.map (turnT (fun n => varT (F n)))) by simp [turnT, turnL_map]]
        exact ⟨A3, c3, by simp [Tm.kind, Tm.name, Tm.int, Tm.re, Tm.im, Tm.args], H.out.2, H.ext⟩
  have e1 : (k == 1) = false := by simpa using h1
  have e5 : (k == 5) = false := by simpa using h5
  have e5' : (k != 5) = true := by simpa using h5
  obtain ⟨P, hP⟩ : ∃ P, turnT (fun n => varT (F n)) (.mk k s n r i l) = P := ⟨_, rfl⟩
  have hPe : turnT varT (.mk k s n r i []) = P := by rw [← hP]; simp [turnT, h1, h5]
  have hPa : P.args = [] := by
    rw [← hP]
    unfold turnT
    rw [if_neg h1]
    split
    · rfl
    · split
      · rfl
      · split
        · rfl
        · rfl
  have h0 : ∀ A c w, Calls Try.prog 55 #[.agg #[.int .i64 k, .string s, .int .i64 n, .int .u64 r, .int .u64 i, .slice A l.length c]] w (RetZ w P) := fun A c w => by
    have := plainOne_spec k s n r i (.slice A l.length c) ⟨_, _, _, rfl⟩ w
    rw [hPe] at this
    exact this
  rw [hP]
  clear hP hPe
  go_enter Try.func45, Try.ntmps45
  go_wp2_with (first | ((with_reducible refine wpl_runx_d 2 rfl ?_ ?_); (focus exact rfl); refine ⟨_, runs_box H rfl rfl, ?_⟩; clear H; rintro _ w ⟨b2, rfl, hE, H⟩; clear hE) | ((with_reducible refine wpl_runx_d 4 rfl ?_ ?_); (focus exact rfl); refine ⟨_, runs_alloc H rfl rfl rfl, ?_⟩; clear H; rintro _ w ⟨b4, rfl, hE, H⟩; clear hE) | ((with_reducible refine wpl_runx_d 5 rfl ?_ ?_); (focus exact rfl); refine ⟨_, runs_alloc H rfl rfl rfl, ?_⟩; clear H; rintro _ w ⟨b5, rfl, hE, H⟩; clear hE) | ((with_reducible refine wpl_runx_d 7 rfl ?_ ?_); (focus exact rfl); refine ⟨_, runs_alloc H rfl rfl rfl, ?_⟩; clear H; rintro _ w ⟨b7, rfl, hE, H⟩; clear hE) | ((with_reducible refine wpl_runx_d 33 rfl ?_ ?_); (focus exact rfl); refine ⟨_, by apply runs_buildSlice H; iterate 10 rfl, ?_⟩; clear H; rintro _ w ⟨b33, rfl, hE, H⟩; clear hE) | ((with_reducible refine wpl_runx ?_ ?_); (focus exact rfl); refine ⟨_, runs_load H 0 rfl rfl rfl rfl rfl, ?_⟩; rintro _ _ ⟨rfl, rfl⟩) | ((with_reducible refine wpl_runx ?_ ?_); (focus exact rfl); refine ⟨_, runs_load H 1 rfl rfl rfl rfl rfl, ?_⟩; rintro _ _ ⟨rfl, rfl⟩) | ((with_reducible refine wpl_runx ?_ ?_); (focus exact rfl); refine ⟨_, runs_load H 2 rfl rfl rfl rfl rfl, ?_⟩; rintro _ _ ⟨rfl, rfl⟩) | ((with_reducible refine wpl_runx ?_ ?_); (focus exact rfl); refine ⟨_, runs_store H 0 rfl rfl rfl rfl rfl rfl rfl rfl rfl, ?_⟩; clear H; rintro _ w ⟨rfl, hE, H⟩; clear hE) | ((with_reducible refine wpl_runx ?_ ?_); (focus exact rfl); refine ⟨_, runs_store H 1 rfl rfl rfl rfl rfl rfl rfl rfl rfl, ?_⟩; clear H; rintro _ w ⟨rfl, hE, H⟩; clear hE) | ((with_reducible refine wpl_runx ?_ ?_); (focus exact rfl); refine ⟨_, runs_store H 2 rfl rfl rfl rfl rfl rfl rfl rfl rfl, ?_⟩; clear H; rintro _ w ⟨rfl, hE, H⟩; clear hE) | ((with_reducible refine Calls.mono (h0 _ _ _) ?_); rintro _ w ⟨rfl, hE⟩; replace H := H.step hE; clear hE))
  refine (ret_cell H 1 rfl rfl rfl rfl rfl rfl ?_).1
  exact ⟨none, 0, by rw [hPa]; rfl, by rw [hPa]; exact AR.nil _ _ _ _, H.ext⟩

theorem rRenameFrom_spec (t : Tm) (A : Option Addr) (c : Nat) (M : List Nat) (w0 : World) (hs : slim t) (h : mayE t = 0) (hM : ∀ b ∈ M, b < w0.heap.size) (hA : AR A c t.args M w0) :
    Calls Try.prog 26 #[.agg #[.int .i64 t.kind, .string t.name, .int .i64 t.int, .int .u64 t.re, .int .u64 t.im, .slice A t.args.length c], .int .i64 0] w0 (RetT M w0 (renameE t)) := by
  have H := St.start hM (AR.stab A c t.args) hA
  clear hA
  have hvl := varsE_len h
  have hre : renameE t = turnT (fun n => varT (renF (varsE t) 0 0 n)) t := by unfold renameE; rw [if_pos h]
  obtain ⟨vs, hvs⟩ : ∃ vs, varsE t = vs := ⟨_, rfl⟩
  have hV : ∀ M w, (∀ b ∈ M, b < w.heap.size) → AR A c t.args M w → Calls Try.prog 9 #[.agg #[.int .i64 t.kind, .string t.name, .int .i64 t.int, .int .u64 t.re, .int .u64 t.im, .slice A t.args.length c]] w (RetI M w vs) := fun M w h1 h2 => by rw [← hvs]; exact rVars_spec t A c M w hs h1 h2
  rw [hre, hvs]
  rw [hvs] at hvl
  clear hre hvs
  have h := Lib.hid h
  go_enter Try.func26, Try.ntmps26
  go_wp2_with (first | ((with_reducible refine wpl_runx_d 2 rfl ?_ ?_); (focus exact rfl); refine ⟨_, runs_box H rfl rfl, ?_⟩; clear H; rintro _ w ⟨b2, rfl, hE, H⟩; clear hE) | ((with_reducible refine wpl_runx_d 4 rfl ?_ ?_); (focus exact rfl); refine ⟨_, runs_alloc H rfl rfl rfl, ?_⟩; clear H; rintro _ w ⟨b4, rfl, hE, H⟩; clear hE) | ((with_reducible refine wpl_runx ?_ ?_); (focus exact rfl); refine ⟨_, runs_load H 0 rfl rfl rfl rfl rfl, ?_⟩; rintro _ _ ⟨rfl, rfl⟩) | ((with_reducible refine wpl_runx ?_ ?_); (focus exact rfl); refine ⟨_, runs_load H 1 rfl rfl rfl rfl rfl, ?_⟩; rintro _ _ ⟨rfl, rfl⟩) | ((with_reducible refine wpl_runx ?_ ?_); (focus exact rfl); refine ⟨_, runs_load H 2 rfl rfl rfl rfl rfl, ?_⟩; rintro _ _ ⟨rfl, rfl⟩) | ((with_reducible refine wpl_runx ?_ ?_); (focus exact rfl); refine ⟨_, runs_store H 0 rfl rfl rfl rfl rfl rfl rfl rfl rfl, ?_⟩; clear H; rintro _ w ⟨rfl, hE, H⟩; clear hE) | ((with_reducible refine wpl_runx ?_ ?_); (focus exact rfl); refine ⟨_, runs_store H 1 rfl rfl rfl rfl rfl rfl rfl rfl rfl, ?_⟩; clear H; rintro _ w ⟨rfl, hE, H⟩; clear hE) | ((with_reducible refine wpl_runx ?_ ?_); (focus exact rfl); refine ⟨_, runs_store H 2 rfl rfl rfl rfl rfl rfl rfl rfl rfl, ?_⟩; clear H; rintro _ w ⟨rfl, hE, H⟩; clear hE) | ((with_reducible refine wpl_runx_d 11 rfl ?_ ?_); (focus exact rfl); refine ⟨_, runs_makeMap (Value.int .i64) H rfl, ?_⟩; clear H; rintro _ w ⟨b11, rfl, hE, H⟩; clear hE) | (refine (hV _ _ H.ltAll H.fact).mono ?_; rintro _ w ⟨A1, c1, rfl, hV, hE⟩; replace H := (H.step hE).add hV (VR.stab _ _ _); clear hE hV))
  go_loopw [14] (fun iv wr => ∃ (j : Nat) (m : List (Int × Value)), j ≤ vs.length ∧ iv = .int .i64 j ∧ renM (vs.drop j) j m = renM vs 0 [] ∧
      St M [] w0 wr [mapR (Value.int .i64) b11 m, .obj b4 (.cells #[.int .i64 0, .string ⟨#[]⟩, .int .i64 0, .int .u64 0, .int .u64 0, .slice none 0 0] 25 (0, 0)), .obj b2 (.cells #[.int .i64 t.kind, .string t.name, .int .i64 t.int, .int .u64 t.re, .int .u64 t.im, .slice A t.args.length c] 25 (0, 0))] fun M w => AR A c t.args M w ∧ VR A1 c1 (vs.map (Value.int .i64)) M w) (fun iv _ => vs.length - (intOf iv).toNat)
  case atStart => exact ⟨0, [], Nat.zero_le _, rfl, rfl, H⟩
  case round =>
    clear H
    obtain ⟨j, m, hj, rfl, hm, H⟩ := hrel
    by_cases hlt : j < vs.length
    · obtain ⟨b, o, rfl, HC⟩ := H.fact.2.at j (by simpa using hlt)
      rw [List.getElem_map] at HC
      replace HC := Lib.hid HC
      go_wp2_with (first | ((with_reducible refine wpl_runx_d 2 rfl ?_ ?_); (focus exact rfl); refine ⟨_, runs_box H rfl rfl, ?_⟩; clear H; rintro _ w ⟨b2, rfl, hE, H⟩; clear hE) | ((with_reducible refine wpl_runx_d 4 rfl ?_ ?_); (focus exact rfl); refine ⟨_, runs_alloc H rfl rfl rfl, ?_⟩; clear H; rintro _ w ⟨b4, rfl, hE, H⟩; clear hE) | ((with_reducible refine wpl_runx ?_ ?_); (focus exact rfl); refine ⟨_, runs_load H 0 rfl rfl rfl rfl rfl, ?_⟩; rintro _ _ ⟨rfl, rfl⟩) | ((with_reducible refine wpl_runx ?_ ?_); (focus exact rfl); refine ⟨_, runs_load H 1 rfl rfl rfl rfl rfl, ?_⟩; rintro _ _ ⟨rfl, rfl⟩) | ((with_reducible refine wpl_runx ?_ ?_); (focus exact rfl); refine ⟨_, runs_load H 2 rfl rfl rfl rfl rfl, ?_⟩; rintro _ _ ⟨rfl, rfl⟩) | ((with_reducible refine wpl_runx ?_ ?_); (focus exact rfl); refine ⟨_, runs_store H 0 rfl rfl rfl rfl rfl rfl rfl rfl rfl, ?_⟩; clear H; rintro _ w ⟨rfl, hE, H⟩; clear hE) | ((with_reducible refine wpl_runx ?_ ?_); (focus exact rfl); refine ⟨_, runs_store H 1 rfl rfl rfl rfl rfl rfl rfl rfl rfl, ?_⟩; clear H; rintro _ w ⟨rfl, hE, H⟩; clear hE) | ((with_reducible refine wpl_runx ?_ ?_); (focus exact rfl); refine ⟨_, runs_store H 2 rfl rfl rfl rfl rfl rfl rfl rfl rfl, ?_⟩; clear H; rintro _ w ⟨rfl, hE, H⟩; clear hE) | ((with_reducible refine wpl_runx ?_ ?_); (focus exact rfl); refine ⟨_, runs_load_at rfl rfl rfl HC.out rfl, ?_⟩; rintro _ _ ⟨rfl, rfl⟩) | ((with_reducible refine wpl_runx ?_ ?_); (focus exact rfl); refine ⟨_, runs_mapUpdate (intKey .i64) H 0 rfl rfl rfl rfl rfl Try.tyRM Try.tyI64k (fun r => rfl), ?_⟩; clear H; rintro _ w ⟨rfl, hE, H⟩; clear hE))
      clear HC
      go_roundw
      case rel =>
        refine ⟨j + 1, _, by omega, by go_num, ?_, H⟩
        rw [← hm, List.drop_eq_getElem_cons hlt, renM]
        congr 1
      case measure => simp [intOf]; omega
    · obtain rfl : j = vs.length := by omega
      rw [List.drop_length, renM] at hm
      subst hm
      replace H := H.sealMap 0 rfl
      simp only [List.eraseIdx_zero, List.tail_cons] at H
      have hF : ∀ n, (getL (renM vs 0 []) n).getD (.int .i64 0) = .int .i64 (renF vs 0 0 n) := fun n => renM_get vs 0 [] 0 n rfl
      go_wp2_with (first | ((with_reducible refine wpl_runx_d 2 rfl ?_ ?_); (focus exact rfl); refine ⟨_, runs_box H rfl rfl, ?_⟩; clear H; rintro _ w ⟨b2, rfl, hE, H⟩; clear hE) | ((with_reducible refine wpl_runx_d 4 rfl ?_ ?_); (focus exact rfl); refine ⟨_, runs_alloc H rfl rfl rfl, ?_⟩; clear H; rintro _ w ⟨b4, rfl, hE, H⟩; clear hE) | ((with_reducible refine wpl_runx ?_ ?_); (focus exact rfl); refine ⟨_, runs_load H 0 rfl rfl rfl rfl rfl, ?_⟩; rintro _ _ ⟨rfl, rfl⟩) | ((with_reducible refine wpl_runx ?_ ?_); (focus exact rfl); refine ⟨_, runs_load H 1 rfl rfl rfl rfl rfl, ?_⟩; rintro _ _ ⟨rfl, rfl⟩) | ((with_reducible refine wpl_runx ?_ ?_); (focus exact rfl); refine ⟨_, runs_store H 0 rfl rfl rfl rfl rfl rfl rfl rfl rfl, ?_⟩; clear H; rintro _ w ⟨rfl, hE, H⟩; clear hE) | ((with_reducible refine wpl_runx ?_ ?_); (focus exact rfl); refine ⟨_, runs_store H 1 rfl rfl rfl rfl rfl rfl rfl rfl rfl, ?_⟩; clear H; rintro _ w ⟨rfl, hE, H⟩; clear hE) | (refine (rnamed_spec b11 (renM vs 0 []) (renF vs 0 0) hF t _ _ A c H.ltAll H.fact.1.1 (mayE_ok.1 h.out).1 H.fact.2).mono ?_; rintro _ w ⟨A2, c2, rfl, hA2, hE⟩; replace H := (H.step hE).add hA2 (AR.stab _ _ _); clear hE hA2))
      refine (ret_cell H 0 rfl rfl rfl rfl rfl rfl ?_).1
      exact ⟨_, _, rfl, H.out.2, H.ext⟩

theorem rRename_spec (t : Tm) (A : Option Addr) (c : Nat) (M : List Nat) (w0 : World) (hs : slim t) (hM : ∀ b ∈ M, b < w0.heap.size) (hA : AR A c t.args M w0) :
    Calls Try.prog 8 #[.agg #[.int .i64 t.kind, .string t.name, .int .i64 t.int, .int .u64 t.re, .int .u64 t.im, .slice A t.args.length c]] w0 (RetT M w0 (renameE t)) := by
  have H := St.start hM (AR.stab A c t.args) hA
  clear hA
  have hMay : ∀ w, AR A c t.args [] w → Calls Try.prog 25 #[.agg #[.int .i64 t.kind, .string t.name, .int .i64 t.int, .int .u64 t.re, .int .u64 t.im, .slice A t.args.length c]] w (RetV w (.int .i64 (mayE t))) := fun w h => rMay_spec t A c w hs h
  by_cases h : mayE t = 0
  · have e1 : (mayE t != 0) = false := by simpa using h
    go_enter Try.func8, Try.ntmps8
    go_wp2_with (first | ((with_reducible refine wpl_runx_d 1 rfl ?_ ?_); (focus exact rfl); refine ⟨_, runs_box H rfl rfl, ?_⟩; clear H; rintro _ w ⟨b1, rfl, hE, H⟩; clear hE) | ((with_reducible refine wpl_runx_d 2 rfl ?_ ?_); (focus exact rfl); refine ⟨_, runs_alloc H rfl rfl rfl, ?_⟩; clear H; rintro _ w ⟨b2, rfl, hE, H⟩; clear hE) | ((with_reducible refine wpl_runx ?_ ?_); (focus exact rfl); refine ⟨_, runs_load H 0 rfl rfl rfl rfl rfl, ?_⟩; rintro _ _ ⟨rfl, rfl⟩) | ((with_reducible refine wpl_runx ?_ ?_); (focus exact rfl); refine ⟨_, runs_load H 1 rfl rfl rfl rfl rfl, ?_⟩; rintro _ _ ⟨rfl, rfl⟩) | ((with_reducible refine wpl_runx ?_ ?_); (focus exact rfl); refine ⟨_, runs_store H 0 rfl rfl rfl rfl rfl rfl rfl rfl rfl, ?_⟩; clear H; rintro _ w ⟨rfl, hE, H⟩; clear hE) | ((with_reducible refine wpl_runx ?_ ?_); (focus exact rfl); refine ⟨_, runs_store H 1 rfl rfl rfl rfl rfl rfl rfl rfl rfl, ?_⟩; clear H; rintro _ w ⟨rfl, hE, H⟩; clear hE) | ((with_reducible refine Calls.mono (hMay _ ?_) ?_); (focus exact ((AR.stab _ _ _).sub _ [] _ (fun _ h => by cases h) H.out)); rintro _ w ⟨rfl, hE⟩; replace H := H.step hE; clear hE) | (refine (rRenameFrom_spec t A c _ _ hs h H.ltAll H.fact).mono ?_; rintro _ w ⟨A2, c2, rfl, hA2, hE⟩; replace H := (H.step hE).add hA2 (AR.stab _ _ _); clear hE hA2))
    refine (ret_cell H 0 rfl rfl rfl rfl rfl rfl ?_).1
    exact ⟨_, _, rfl, H.out.2, H.ext⟩
  · have e1 : (mayE t != 0) = true := by simpa using h
    go_enter Try.func8, Try.ntmps8
    go_wp2_with (first | ((with_reducible refine wpl_runx_d 1 rfl ?_ ?_); (focus exact rfl); refine ⟨_, runs_box H rfl rfl, ?_⟩; clear H; rintro _ w ⟨b1, rfl, hE, H⟩; clear hE) | ((with_reducible refine wpl_runx_d 2 rfl ?_ ?_); (focus exact rfl); refine ⟨_, runs_alloc H rfl rfl rfl, ?_⟩; clear H; rintro _ w ⟨b2, rfl, hE, H⟩; clear hE) | ((with_reducible refine wpl_runx ?_ ?_); (focus exact rfl); refine ⟨_, runs_load H 0 rfl rfl rfl rfl rfl, ?_⟩; rintro _ _ ⟨rfl, rfl⟩) | ((with_reducible refine wpl_runx ?_ ?_); (focus exact rfl); refine ⟨_, runs_load H 1 rfl rfl rfl rfl rfl, ?_⟩; rintro _ _ ⟨rfl, rfl⟩) | ((with_reducible refine wpl_runx ?_ ?_); (focus exact rfl); refine ⟨_, runs_store H 0 rfl rfl rfl rfl rfl rfl rfl rfl rfl, ?_⟩; clear H; rintro _ w ⟨rfl, hE, H⟩; clear hE) | ((with_reducible refine wpl_runx ?_ ?_); (focus exact rfl); refine ⟨_, runs_store H 1 rfl rfl rfl rfl rfl rfl rfl rfl rfl, ?_⟩; clear H; rintro _ w ⟨rfl, hE, H⟩; clear hE) | ((with_reducible refine Calls.mono (hMay _ ?_) ?_); (focus exact ((AR.stab _ _ _).sub _ [] _ (fun _ h => by cases h) H.out)); rintro _ w ⟨rfl, hE⟩; replace H := H.step hE; clear hE))
    refine (ret_cell H 0 rfl rfl rfl rfl rfl rfl ?_).1
    rw [show renameE t = Tm.zero by simp [renameE, h]]
    exact ⟨_, _, rfl, AR.nil _ _ _ _, H.ext⟩
end Go.Proofs.Ytfjdekiobggdoaa
