/- Walks: Map and the two functions that TermVariants hands it. -/
import Derived.Test.YtdjbbafdepdglaaRPlain
import Derived.Test.YtdjbbafdepdglaaMp
import Derived.Test.YtdjbbafdepdglaaTurn
import Derived.Test.YtdjbbafdepdglaaXorF
import Derived.Test.YtdjbbafdepdglaaSames0
namespace Go.Proofs.Ytdjbbafdepdglaa
open Go.RowKit
set_option linter.unusedVariables false
set_option linter.unusedSimpArgs false
set_option maxRecDepth 20000
set_option maxHeartbeats 2000000



theorem okL_mem : ∀ {l : List Tm} {t : Tm}, okL l → t ∈ l → okT t
  | a :: l, t, h, m => by
    unfold okL at h
    rcases List.mem_cons.1 m with rfl | m
    · exact h.1
    · exact okL_mem h.2 m

theorem map_any (G : List Nat → World → Prop) (g : FuncId) (caps : Array Value) (F : Int → Tm) (hF : FnT G g caps F) : ∀ (t : Tm) (M : List Nat) (w : World) (A : Option Addr) (c : Nat),
    (∀ b ∈ M, b < w.heap.size) → AR A c t.args M w → okT t → G M w →
    Calls Try.prog 47 #[.agg #[.int .i64 t.kind, .string t.name, .int .i64 t.int, .int .u64 t.re, .int .u64 t.im, .slice A t.args.length c], .func (.func g) #[] caps] w (RetT M w (turnT F t)) := by
  intro t
  induction t using Tm.ind with | _ k s n r i l IH
  intro M w0 A c hM hA hs0 hG
  have hs := hs0; unfold okT at hs
  simp only [Tm.kind, Tm.name, Tm.int, Tm.re, Tm.im, Tm.args] at hA ⊢
  have H := St.start hM ((AR.stab A c l).and hF.2.1) ⟨hA, hG⟩
  clear hA hG
  have hcf := hF.1
  have HF := Lib.hid hF; clear hF
  have IH' := Lib.hid IH; clear IH
  have hu25 := Try.underlying25
  by_cases h1 : k = 1
  · subst h1
    go_enter Try.func47, Try.ntmps47
    go_wp2_with (first | ((with_reducible refine wpl_runx_d 2 rfl ?_ ?_); (focus exact rfl); refine ⟨_, runs_box H rfl rfl, ?_⟩; clear H; rintro _ w ⟨b2, rfl, hE, H⟩; clear hE) | ((with_reducible refine wpl_runx_d 4 rfl ?_ ?_); (focus exact rfl); refine ⟨_, runs_alloc H rfl rfl rfl, ?_⟩; clear H; rintro _ w ⟨b4, rfl, hE, H⟩; clear hE) | ((with_reducible refine wpl_runx_d 5 rfl ?_ ?_); (focus exact rfl); refine ⟨_, runs_alloc H rfl rfl rfl, ?_⟩; clear H; rintro _ w ⟨b5, rfl, hE, H⟩; clear hE) | ((with_reducible refine wpl_runx_d 7 rfl ?_ ?_); (focus exact rfl); refine ⟨_, runs_alloc H rfl rfl rfl, ?_⟩; clear H; rintro _ w ⟨b7, rfl, hE, H⟩; clear hE) | ((with_reducible refine wpl_runx_d 37 rfl ?_ ?_); (focus exact rfl); refine ⟨_, by apply runs_buildSlice H; iterate 10 rfl, ?_⟩; clear H; rintro _ w ⟨b37, rfl, hE, H⟩; clear hE) | ((with_reducible refine wpl_runx ?_ ?_); (focus exact rfl); refine ⟨_, runs_load H 0 rfl rfl rfl rfl rfl, ?_⟩; rintro _ _ ⟨rfl, rfl⟩) | ((with_reducible refine wpl_runx ?_ ?_); (focus exact rfl); refine ⟨_, runs_load H 1 rfl rfl rfl rfl rfl, ?_⟩; rintro _ _ ⟨rfl, rfl⟩) | ((with_reducible refine wpl_runx ?_ ?_); (focus exact rfl); refine ⟨_, runs_load H 2 rfl rfl rfl rfl rfl, ?_⟩; rintro _ _ ⟨rfl, rfl⟩) | ((with_reducible refine wpl_runx ?_ ?_); (focus exact rfl); refine ⟨_, runs_store H 0 rfl rfl rfl rfl rfl rfl rfl rfl rfl, ?_⟩; clear H; rintro _ w ⟨rfl, hE, H⟩; clear hE) | ((with_reducible refine wpl_runx ?_ ?_); (focus exact rfl); refine ⟨_, runs_store H 1 rfl rfl rfl rfl rfl rfl rfl rfl rfl, ?_⟩; clear H; rintro _ w ⟨rfl, hE, H⟩; clear hE) | ((with_reducible refine wpl_runx ?_ ?_); (focus exact rfl); refine ⟨_, runs_store H 2 rfl rfl rfl rfl rfl rfl rfl rfl rfl, ?_⟩; clear H; rintro _ w ⟨rfl, hE, H⟩; clear hE) | (refine (HF.out.2.2 n _ _ H.ltAll H.fact.2).mono ?_; rintro e w ⟨A', c', rfl, hA', hE⟩; replace H := (H.step hE).add hA' (AR.stab _ _ _); clear hA' hE))
    refine (ret_cell H 0 rfl rfl rfl rfl rfl rfl ?_).1
    rw [show turnT F (.mk 1 s n r i l) = F n by simp [turnT]]
    exact ⟨_, _, rfl, H.out.2, H.ext⟩
  by_cases h5 : k = 5
  · subst h5
    have hl : l.length ≤ 1000000 := Nat.le_trans (oneE_args hs.1 rfl) (by decide)
    have e5' : ((5 : Int) != 5) = false := by decide
    go_enter Try.func47, Try.ntmps47
    go_wp2_with (first | ((with_reducible refine wpl_runx_d 2 rfl ?_ ?_); (focus exact rfl); refine ⟨_, runs_box H rfl rfl, ?_⟩; clear H; rintro _ w ⟨b2, rfl, hE, H⟩; clear hE) | ((with_reducible refine wpl_runx_d 4 rfl ?_ ?_); (focus exact rfl); refine ⟨_, runs_alloc H rfl rfl rfl, ?_⟩; clear H; rintro _ w ⟨b4, rfl, hE, H⟩; clear hE) | ((with_reducible refine wpl_runx_d 5 rfl ?_ ?_); (focus exact rfl); refine ⟨_, runs_alloc H rfl rfl rfl, ?_⟩; clear H; rintro _ w ⟨b5, rfl, hE, H⟩; clear hE) | ((with_reducible refine wpl_runx_d 7 rfl ?_ ?_); (focus exact rfl); refine ⟨_, runs_alloc H rfl rfl rfl, ?_⟩; clear H; rintro _ w ⟨b7, rfl, hE, H⟩; clear hE) | ((with_reducible refine wpl_runx_d 37 rfl ?_ ?_); (focus exact rfl); refine ⟨_, by apply runs_buildSlice H; iterate 10 rfl, ?_⟩; clear H; rintro _ w ⟨b37, rfl, hE, H⟩; clear hE) | ((with_reducible refine wpl_runx ?_ ?_); (focus exact rfl); refine ⟨_, runs_load H 0 rfl rfl rfl rfl rfl, ?_⟩; rintro _ _ ⟨rfl, rfl⟩) | ((with_reducible refine wpl_runx ?_ ?_); (focus exact rfl); refine ⟨_, runs_load H 1 rfl rfl rfl rfl rfl, ?_⟩; rintro _ _ ⟨rfl, rfl⟩) | ((with_reducible refine wpl_runx ?_ ?_); (focus exact rfl); refine ⟨_, runs_load H 2 rfl rfl rfl rfl rfl, ?_⟩; rintro _ _ ⟨rfl, rfl⟩) | ((with_reducible refine wpl_runx ?_ ?_); (focus exact rfl); refine ⟨_, runs_store H 0 rfl rfl rfl rfl rfl rfl rfl rfl rfl, ?_⟩; clear H; rintro _ w ⟨rfl, hE, H⟩; clear hE) | ((with_reducible refine wpl_runx ?_ ?_); (focus exact rfl); refine ⟨_, runs_store H 1 rfl rfl rfl rfl rfl rfl rfl rfl rfl, ?_⟩; clear H; rintro _ w ⟨rfl, hE, H⟩; clear hE) | ((with_reducible refine wpl_runx ?_ ?_); (focus exact rfl); refine ⟨_, runs_store H 2 rfl rfl rfl rfl rfl rfl rfl rfl rfl, ?_⟩; clear H; rintro _ w ⟨rfl, hE, H⟩; clear hE))
    replace H := (H.nilRow 26 6).add (G := TsR [] ((l.take 0).map (turnT F))) (TsR.nil _ _) (TsR.stab _ _)
    go_loopw [28] (fun iv wr => ∃ (j : Nat) (v : Value) (xs : List Value), j ≤ l.length ∧ iv = .int .i64 j ∧
      St M [] w0 wr [.row v j xs 26 6, .obj b5 (.cells #[.int .i64 5, .string s, .int .i64 0, .int .u64 0, .int .u64 0, v] 26 (0, 0)), .obj b4 (.cells #[.int .i64 0, .string ⟨#[]⟩, .int .i64 0, .int .u64 0, .int .u64 0, .slice none 0 0] 26 (0, 0))] fun M w => (AR A c l M w ∧ G M w) ∧ TsR xs ((l.take j).map (turnT F)) M w) (fun iv _ => l.length - (intOf iv).toNat)
    case atStart => exact ⟨0, _, [], Nat.zero_le _, rfl, H.drop 3 rfl⟩
    case round =>
      clear H
      obtain ⟨j, v, xs, hj, rfl, H⟩ := hrel
      by_cases hlt : j < l.length
      · obtain ⟨⟨hA, hG⟩, hT⟩ := H.fact
        obtain ⟨b, o, A', c', hAe, hbn, hbl, hcs, hA'⟩ := hA.at j hlt
        subst hAe
        replace H := H.add hA' (AR.stab _ _ _)
        clear hA hG hT hA' hbn hbl
        have HC := Lib.hid hcs; clear hcs
        go_wp2_with (first | ((with_reducible refine wpl_runx_d 2 rfl ?_ ?_); (focus exact rfl); refine ⟨_, runs_box H rfl rfl, ?_⟩; clear H; rintro _ w ⟨b2, rfl, hE, H⟩; clear hE) | ((with_reducible refine wpl_runx_d 4 rfl ?_ ?_); (focus exact rfl); refine ⟨_, runs_alloc H rfl rfl rfl, ?_⟩; clear H; rintro _ w ⟨b4, rfl, hE, H⟩; clear hE) | ((with_reducible refine wpl_runx_d 5 rfl ?_ ?_); (focus exact rfl); refine ⟨_, runs_alloc H rfl rfl rfl, ?_⟩; clear H; rintro _ w ⟨b5, rfl, hE, H⟩; clear hE) | ((with_reducible refine wpl_runx_d 7 rfl ?_ ?_); (focus exact rfl); refine ⟨_, runs_alloc H rfl rfl rfl, ?_⟩; clear H; rintro _ w ⟨b7, rfl, hE, H⟩; clear hE) | ((with_reducible refine wpl_runx_d 37 rfl ?_ ?_); (focus exact rfl); refine ⟨_, by apply runs_buildSlice H; iterate 10 rfl, ?_⟩; clear H; rintro _ w ⟨b37, rfl, hE, H⟩; clear hE) | ((with_reducible refine wpl_runx ?_ ?_); (focus exact rfl); refine ⟨_, runs_load H 0 rfl rfl rfl rfl rfl, ?_⟩; rintro _ _ ⟨rfl, rfl⟩) | ((with_reducible refine wpl_runx ?_ ?_); (focus exact rfl); refine ⟨_, runs_load H 1 rfl rfl rfl rfl rfl, ?_⟩; rintro _ _ ⟨rfl, rfl⟩) | ((with_reducible refine wpl_runx ?_ ?_); (focus exact rfl); refine ⟨_, runs_load H 2 rfl rfl rfl rfl rfl, ?_⟩; rintro _ _ ⟨rfl, rfl⟩) | ((with_reducible refine wpl_runx ?_ ?_); (focus exact rfl); refine ⟨_, runs_store H 0 rfl rfl rfl rfl rfl rfl rfl rfl rfl, ?_⟩; clear H; rintro _ w ⟨rfl, hE, H⟩; clear hE) | ((with_reducible refine wpl_runx ?_ ?_); (focus exact rfl); refine ⟨_, runs_store H 1 rfl rfl rfl rfl rfl rfl rfl rfl rfl, ?_⟩; clear H; rintro _ w ⟨rfl, hE, H⟩; clear hE) | ((with_reducible refine wpl_runx ?_ ?_); (focus exact rfl); refine ⟨_, runs_store H 2 rfl rfl rfl rfl rfl rfl rfl rfl rfl, ?_⟩; clear H; rintro _ w ⟨rfl, hE, H⟩; clear hE) | ((with_reducible refine wpl_runx ?_ ?_); (focus exact rfl); refine ⟨_, runs_load_at rfl rfl rfl HC.out rfl, ?_⟩; rintro _ _ ⟨rfl, rfl⟩))
        clear HC
        refine wp_region_st H [] [[], [0], [], [], [2, 3], [2, 3, 4], [0, 1, 2, 3, 4, 5], [0, 1, 2, 3, 4, 5, 6], [0, 1, 2, 3, 4, 5, 6, 7]] [1, 2] [0, 1, 2, 3, 7] [0, 1, 2, 3, 4, 5, 6, 7, 8] (by kernel_rfl) (by kernel_rfl) (fun d v c a w h => by cases d <;> exact h) ?_
        clear H
        intro w H
        have HS := Ext.refl [] w
        have H0 := H
        refine plan_pure (v := ?pv5) rfl (by decide) (by decide) rfl ?ph5 ?_
        case ph5 => (intro w; go_simp; try with_reducible rfl)
        (try simp only [Act.put, List.setIfInBounds_toArray, List.set_cons_succ, List.set_cons_zero])
        first | refine plan_load_open H0 HS 0 rfl (by simp) rfl (by decide) (by decide) rfl rfl rfl rfl rfl ?_ | refine plan_load_open H0 HS 1 rfl (by simp) rfl (by decide) (by decide) rfl rfl rfl rfl rfl ?_ | refine plan_load_open H0 HS 2 rfl (by simp) rfl (by decide) (by decide) rfl rfl rfl rfl rfl ?_ | refine plan_load_open H0 HS 3 rfl (by simp) rfl (by decide) (by decide) rfl rfl rfl rfl rfl ?_ | refine plan_load_open H0 HS 4 rfl (by simp) rfl (by decide) (by decide) rfl rfl rfl rfl rfl ?_
        (try simp only [Act.put, List.setIfInBounds_toArray, List.set_cons_succ, List.set_cons_zero])
        first | refine plan_load_open H0 HS 0 rfl (by simp) rfl (by decide) (by decide) rfl rfl rfl rfl rfl ?_ | refine plan_load_open H0 HS 1 rfl (by simp) rfl (by decide) (by decide) rfl rfl rfl rfl rfl ?_ | refine plan_load_open H0 HS 2 rfl (by simp) rfl (by decide) (by decide) rfl rfl rfl rfl rfl ?_ | refine plan_load_open H0 HS 3 rfl (by simp) rfl (by decide) (by decide) rfl rfl rfl rfl rfl ?_ | refine plan_load_open H0 HS 4 rfl (by simp) rfl (by decide) (by decide) rfl rfl rfl rfl rfl ?_
        (try simp only [Act.put, List.setIfInBounds_toArray, List.set_cons_succ, List.set_cons_zero])
        refine plan_pure (v := ?pv6) rfl (by decide) (by decide) rfl ?ph6 ?_
        case ph6 => (intro w; go_simp; try with_reducible rfl)
        (try simp only [Act.put, List.setIfInBounds_toArray, List.set_cons_succ, List.set_cons_zero])
        refine plan_op rfl (by decide) rfl (fun K hK => ?_)
        go_simp
        (refine (IH'.out l[j] (List.getElem_mem hlt) _ _ _ _ H.ltAll H.fact.2 (okL_mem (hs.2 (by trivial)) (List.getElem_mem hlt)) H.fact.1.1.2).mono ?_; rintro _ w ⟨A2, c2, rfl, hA2, hE⟩; replace HS := HS.trans hE; replace H := (H.step hE).add hA2 (AR.stab _ _ _); clear hA2 hE)
        refine hK _ _ (fun _ => HS) ?_
        clear hK K
        (try simp only [Act.put, List.setIfInBounds_toArray, List.set_cons_succ, List.set_cons_zero])
        refine plan_step rfl (by decide) rfl ⟨_, by apply runs_buildSlice H; iterate 10 rfl, ?_⟩
        clear H
        rintro _ w ⟨b37, rfl, hE, H⟩
        replace HS := HS.trans hE
        clear hE
        refine ⟨fun _ => HS, ?_⟩
        (try simp only [Act.put, List.setIfInBounds_toArray, List.set_cons_succ, List.set_cons_zero])
        refine plan_step rfl (by decide) rfl ⟨_, runs_append1 H 2 rfl rfl rfl rfl rfl Try.infoT rfl (by decide) 0 rfl rfl rfl (by decide) (by unfold maxLen; omega) (by omega) (fun r => rfl), ?_⟩
        (clear H; rintro _ w ⟨g', cap', rfl, hE, H⟩; clear hE)
        refine ⟨(fun h => absurd h (by decide)), ?_⟩
        (try simp only [Act.put, List.setIfInBounds_toArray, List.set_cons_succ, List.set_cons_zero])
        refine plan_pure (v := ?pv7) rfl (by decide) (by decide) rfl ?ph7 ?_
        case ph7 => (intro w; go_simp; try with_reducible rfl)
        (try simp only [Act.put, List.setIfInBounds_toArray, List.set_cons_succ, List.set_cons_zero])
        first | (refine plan_step rfl (by decide) rfl ⟨_, runs_store H 0 rfl rfl rfl rfl rfl rfl rfl rfl rfl, ?_⟩; clear H; rintro _ w ⟨rfl, hE, H⟩) | (refine plan_step rfl (by decide) rfl ⟨_, runs_store H 1 rfl rfl rfl rfl rfl rfl rfl rfl rfl, ?_⟩; clear H; rintro _ w ⟨rfl, hE, H⟩) | (refine plan_step rfl (by decide) rfl ⟨_, runs_store H 2 rfl rfl rfl rfl rfl rfl rfl rfl rfl, ?_⟩; clear H; rintro _ w ⟨rfl, hE, H⟩) | (refine plan_step rfl (by decide) rfl ⟨_, runs_store H 3 rfl rfl rfl rfl rfl rfl rfl rfl rfl, ?_⟩; clear H; rintro _ w ⟨rfl, hE, H⟩) | (refine plan_step rfl (by decide) rfl ⟨_, runs_store H 4 rfl rfl rfl rfl rfl rfl rfl rfl rfl, ?_⟩; clear H; rintro _ w ⟨rfl, hE, H⟩)
        clear hE
        refine ⟨(fun h => absurd h (by decide)), ?_⟩
        (try simp only [Act.put, List.setIfInBounds_toArray, List.set_cons_succ, List.set_cons_zero])
        refine plan_nil ?_
        clear H0 HS
        go_wp2
        go_roundw
        case rel =>
          refine ⟨j + 1, _, _, by omega, by go_num, (((H.drop 0 rfl).drop 0 rfl).weaken (fun h => ⟨h.1.1.1, ?_⟩) (((AR.stab _ _ _).and HF.out.2.1).and (TsR.stab _ _)))⟩
          rw [take_map_snoc hlt]
          have := h.1.1.2.snoc (k := (turnT F l[j]).kind) (s := (turnT F l[j]).name) (n := (turnT F l[j]).int) (r := (turnT F l[j]).re) (i := (turnT F l[j]).im) h.2
          rw [Tm.eta] at this
          exact this
        case measure => simp [intOf]; omega
      · obtain rfl : j = l.length := by omega
        obtain ⟨A3, c3, rfl, H⟩ := H.sealT 0 (l := (l.take l.length).map (turnT F)) rfl (fun M w h => h.2)
        rw [List.take_length] at H
        simp only [List.eraseIdx_zero, List.tail_cons] at H
        go_wp2_with (first | ((with_reducible refine wpl_runx_d 2 rfl ?_ ?_); (focus exact rfl); refine ⟨_, runs_box H rfl rfl, ?_⟩; clear H; rintro _ w ⟨b2, rfl, hE, H⟩; clear hE) | ((with_reducible refine wpl_runx_d 4 rfl ?_ ?_); (focus exact rfl); refine ⟨_, runs_alloc H rfl rfl rfl, ?_⟩; clear H; rintro _ w ⟨b4, rfl, hE, H⟩; clear hE) | ((with_reducible refine wpl_runx_d 5 rfl ?_ ?_); (focus exact rfl); refine ⟨_, runs_alloc H rfl rfl rfl, ?_⟩; clear H; rintro _ w ⟨b5, rfl, hE, H⟩; clear hE) | ((with_reducible refine wpl_runx_d 7 rfl ?_ ?_); (focus exact rfl); refine ⟨_, runs_alloc H rfl rfl rfl, ?_⟩; clear H; rintro _ w ⟨b7, rfl, hE, H⟩; clear hE) | ((with_reducible refine wpl_runx_d 37 rfl ?_ ?_); (focus exact rfl); refine ⟨_, by apply runs_buildSlice H; iterate 10 rfl, ?_⟩; clear H; rintro _ w ⟨b37, rfl, hE, H⟩; clear hE) | ((with_reducible refine wpl_runx ?_ ?_); (focus exact rfl); refine ⟨_, runs_load H 0 rfl rfl rfl rfl rfl, ?_⟩; rintro _ _ ⟨rfl, rfl⟩) | ((with_reducible refine wpl_runx ?_ ?_); (focus exact rfl); refine ⟨_, runs_load H 1 rfl rfl rfl rfl rfl, ?_⟩; rintro _ _ ⟨rfl, rfl⟩) | ((with_reducible refine wpl_runx ?_ ?_); (focus exact rfl); refine ⟨_, runs_load H 2 rfl rfl rfl rfl rfl, ?_⟩; rintro _ _ ⟨rfl, rfl⟩) | ((with_reducible refine wpl_runx ?_ ?_); (focus exact rfl); refine ⟨_, runs_store H 0 rfl rfl rfl rfl rfl rfl rfl rfl rfl, ?_⟩; clear H; rintro _ w ⟨rfl, hE, H⟩; clear hE) | ((with_reducible refine wpl_runx ?_ ?_); (focus exact rfl); refine ⟨_, runs_store H 1 rfl rfl rfl rfl rfl rfl rfl rfl rfl, ?_⟩; clear H; rintro _ w ⟨rfl, hE, H⟩; clear hE) | ((with_reducible refine wpl_runx ?_ ?_); (focus exact rfl); refine ⟨_, runs_store H 2 rfl rfl rfl rfl rfl rfl rfl rfl rfl, ?_⟩; clear H; rintro _ w ⟨rfl, hE, H⟩; clear hE))
        refine (ret_cell H 1 rfl rfl rfl rfl rfl rfl ?_).1
        rw [show turnT F (.mk 5 s n r i l) = .mk 5 s 0 0 0 (l.map (turnT F)) by simp [turnT, turnL_map]]
        exact ⟨A3, c3, by simp [Tm.kind, Tm.name, Tm.int, Tm.re, Tm.im, Tm.args], H.out.2, H.ext⟩
  have e1 : (k == 1) = false := by simpa using h1
  have e5 : (k == 5) = false := by simpa using h5
  have e5' : (k != 5) = true := by simpa using h5
  have hm : mayE (.mk k s n r i l) = 0 := mayE_ok.2 ⟨hs0, by rw [nT, if_neg h5]; omega, by rw [hT, if_neg h5]; omega⟩
  have hp : plainE (.mk k s n r i l) = turnT F (.mk k s n r i l) := by
    unfold plainE
    rw [if_pos hm]
    simp [turnT, h1, h5]
  have hsl := slim_of_ok _ hs0
  have hP : ∀ M w, (∀ b ∈ M, b < w.heap.size) → AR A c l M w → Calls Try.prog 66 #[.agg #[.int .i64 k, .string s, .int .i64 n, .int .u64 r, .int .u64 i, .slice A l.length c]] w (RetT M w (turnT F (.mk k s n r i l))) := fun M w h1 h2 => by
    have := rPlain_spec (.mk k s n r i l) A c M w hsl h1 h2
    rw [hp] at this
    exact this
  clear hp hm hsl
  go_enter Try.func47, Try.ntmps47
  go_wp2_with (first | ((with_reducible refine wpl_runx_d 2 rfl ?_ ?_); (focus exact rfl); refine ⟨_, runs_box H rfl rfl, ?_⟩; clear H; rintro _ w ⟨b2, rfl, hE, H⟩; clear hE) | ((with_reducible refine wpl_runx_d 4 rfl ?_ ?_); (focus exact rfl); refine ⟨_, runs_alloc H rfl rfl rfl, ?_⟩; clear H; rintro _ w ⟨b4, rfl, hE, H⟩; clear hE) | ((with_reducible refine wpl_runx_d 5 rfl ?_ ?_); (focus exact rfl); refine ⟨_, runs_alloc H rfl rfl rfl, ?_⟩; clear H; rintro _ w ⟨b5, rfl, hE, H⟩; clear hE) | ((with_reducible refine wpl_runx_d 7 rfl ?_ ?_); (focus exact rfl); refine ⟨_, runs_alloc H rfl rfl rfl, ?_⟩; clear H; rintro _ w ⟨b7, rfl, hE, H⟩; clear hE) | ((with_reducible refine wpl_runx_d 37 rfl ?_ ?_); (focus exact rfl); refine ⟨_, by apply runs_buildSlice H; iterate 10 rfl, ?_⟩; clear H; rintro _ w ⟨b37, rfl, hE, H⟩; clear hE) | ((with_reducible refine wpl_runx ?_ ?_); (focus exact rfl); refine ⟨_, runs_load H 0 rfl rfl rfl rfl rfl, ?_⟩; rintro _ _ ⟨rfl, rfl⟩) | ((with_reducible refine wpl_runx ?_ ?_); (focus exact rfl); refine ⟨_, runs_load H 1 rfl rfl rfl rfl rfl, ?_⟩; rintro _ _ ⟨rfl, rfl⟩) | ((with_reducible refine wpl_runx ?_ ?_); (focus exact rfl); refine ⟨_, runs_load H 2 rfl rfl rfl rfl rfl, ?_⟩; rintro _ _ ⟨rfl, rfl⟩) | ((with_reducible refine wpl_runx ?_ ?_); (focus exact rfl); refine ⟨_, runs_store H 0 rfl rfl rfl rfl rfl rfl rfl rfl rfl, ?_⟩; clear H; rintro _ w ⟨rfl, hE, H⟩; clear hE) | ((with_reducible refine wpl_runx ?_ ?_); (focus exact rfl); refine ⟨_, runs_store H 1 rfl rfl rfl rfl rfl rfl rfl rfl rfl, ?_⟩; clear H; rintro _ w ⟨rfl, hE, H⟩; clear hE) | ((with_reducible refine wpl_runx ?_ ?_); (focus exact rfl); refine ⟨_, runs_store H 2 rfl rfl rfl rfl rfl rfl rfl rfl rfl, ?_⟩; clear H; rintro _ w ⟨rfl, hE, H⟩; clear hE) | (refine (hP _ _ H.ltAll H.fact.1).mono ?_; rintro _ w ⟨A2, c2, rfl, hA2, hE⟩; replace H := (H.step hE).add hA2 (AR.stab _ _ _); clear hE hA2))
  refine (ret_cell H 0 rfl rfl rfl rfl rfl rfl ?_).1
  exact ⟨_, _, rfl, H.out.2, H.ext⟩
end Go.Proofs.Ytdjbbafdepdglaa
