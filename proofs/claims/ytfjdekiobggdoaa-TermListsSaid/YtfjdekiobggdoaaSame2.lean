/- Walks: Same, Variant. -/
import Derived.Test.YtfjdekiobggdoaaSame
import Derived.Test.YtfjdekiobggdoaaRename
namespace Go.Proofs.Ytfjdekiobggdoaa
open Go.RowKit
set_option linter.unusedVariables false
set_option linter.unusedSimpArgs false
set_option maxRecDepth 20000
set_option maxHeartbeats 2000000

/-- Are two the same? -/
def SameE (t u : Tm) : Bool := mayE t == 0 && (mayE u == 0 && sameE (plainE t) (plainE u))

theorem Same_spec (t u : Tm) (A B : Option Addr) (c d : Nat) (w0 : World) (hA : AR A c t.args [] w0) (hB : AR B d u.args [] w0) :
    Calls Try.prog 11 #[.agg #[.int .i64 t.kind, .string t.name, .int .i64 t.int, .int .u64 t.re, .int .u64 t.im, .slice A t.args.length c], .agg #[.int .i64 u.kind, .string u.name, .int .i64 u.int, .int .u64 u.re, .int .u64 u.im, .slice B u.args.length d]] w0 (RetV w0 (.bool (SameE t u))) := by
  have H := St.start (M := []) (by simp) ((AR.stab A c t.args).and (AR.stab B d u.args)) ⟨hA, hB⟩
  clear hA hB
  cases e1 : (mayE t == 0) with
  | false =>
    rw [show SameE t u = false by simp [SameE, e1]]
    go_enter Try.func11, Try.ntmps11
    go_wp2_with (first | ((with_reducible refine wpl_runx_d 2 rfl ?_ ?_); (focus exact rfl); refine ⟨_, runs_box H rfl rfl, ?_⟩; clear H; rintro _ w ⟨b2, rfl, hE, H⟩; clear hE) | ((with_reducible refine wpl_runx_d 3 rfl ?_ ?_); (focus exact rfl); refine ⟨_, runs_box H rfl rfl, ?_⟩; clear H; rintro _ w ⟨b3, rfl, hE, H⟩; clear hE) | ((with_reducible refine wpl_runx ?_ ?_); (focus exact rfl); refine ⟨_, runs_load H 0 rfl rfl rfl rfl rfl, ?_⟩; rintro _ _ ⟨rfl, rfl⟩) | ((with_reducible refine wpl_runx ?_ ?_); (focus exact rfl); refine ⟨_, runs_load H 1 rfl rfl rfl rfl rfl, ?_⟩; rintro _ _ ⟨rfl, rfl⟩) | ((with_reducible refine wpl_runx ?_ ?_); (focus exact rfl); refine ⟨_, runs_store H 0 rfl rfl rfl rfl rfl rfl rfl rfl rfl, ?_⟩; clear H; rintro _ w ⟨rfl, hE, H⟩; clear hE) | ((with_reducible refine wpl_runx ?_ ?_); (focus exact rfl); refine ⟨_, runs_store H 1 rfl rfl rfl rfl rfl rfl rfl rfl rfl, ?_⟩; clear H; rintro _ w ⟨rfl, hE, H⟩; clear hE))
    refine wp_region_st H [] [[], [0], [0, 1], [0, 1, 2], [0, 1, 2, 3], [0, 1, 2, 3, 4], [0, 1, 2, 3, 4, 5], [0, 1, 2, 3, 4, 5, 6], [0, 1, 2, 3, 4, 5, 6, 7], [0, 1, 2, 3, 4, 5, 6, 7, 8], [0, 1, 2, 3, 4, 5, 6, 7, 8, 9], [0, 1, 2, 3, 4, 5, 6, 7, 8], [0, 1, 2, 3, 4, 5, 6, 7, 8, 9, 10, 11], [0, 1, 2, 3, 4, 5, 6, 7, 8, 9, 10, 11, 12], [0, 1, 2, 3, 4, 5, 6, 7, 8, 9, 10, 11, 12, 13], [0, 1, 2, 3, 4, 5, 6, 7, 8, 9, 10, 11, 12, 13, 14]] [0, 4, 9, 11] [0, 2, 3, 4, 6, 7, 8, 9, 11, 14, 15] [0, 1, 2, 3, 4, 5, 6, 7, 8, 9, 11, 10, 12, 13, 14, 15] (by kernel_rfl) (by kernel_rfl) (fun d v c a w h => by cases d <;> exact h) ?_
    clear H
    intro w H
    have HS := Ext.refl [] w
    have H0 := H
    first | refine plan_load_open H0 HS 0 rfl (by simp) rfl (by decide) (by decide) rfl rfl rfl rfl rfl ?_ | refine plan_load_open H0 HS 1 rfl (by simp) rfl (by decide) (by decide) rfl rfl rfl rfl rfl ?_ | refine plan_load_open H0 HS 2 rfl (by simp) rfl (by decide) (by decide) rfl rfl rfl rfl rfl ?_ | refine plan_load_open H0 HS 3 rfl (by simp) rfl (by decide) (by decide) rfl rfl rfl rfl rfl ?_ | refine plan_load_open H0 HS 4 rfl (by simp) rfl (by decide) (by decide) rfl rfl rfl rfl rfl ?_ | refine plan_load_open H0 HS 5 rfl (by simp) rfl (by decide) (by decide) rfl rfl rfl rfl rfl ?_ | refine plan_load_open H0 HS 6 rfl (by simp) rfl (by decide) (by decide) rfl rfl rfl rfl rfl ?_ | refine plan_load_open H0 HS 7 rfl (by simp) rfl (by decide) (by decide) rfl rfl rfl rfl rfl ?_
    (try simp only [Act.put, List.setIfInBounds_toArray, List.set_cons_succ, List.set_cons_zero])
    refine plan_op rfl (by decide) rfl (fun K hK => ?_)
    go_simp
    (refine (may_spec t A c _ H.out.1).mono ?_; rintro _ w ⟨rfl, hE⟩; replace HS := HS.trans hE; replace H := H.step hE; clear hE)
    refine hK _ _ (fun _ => HS) ?_
    clear hK K
    (try simp only [Act.put, List.setIfInBounds_toArray, List.set_cons_succ, List.set_cons_zero])
    refine plan_pure (v := ?pv4) rfl (by decide) (by decide) rfl ?ph4 ?_
    case ph4 => (intro w; go_simp; try with_reducible rfl)
    (try simp only [Act.put, List.setIfInBounds_toArray, List.set_cons_succ, List.set_cons_zero])
    refine plan_pure (v := ?pv5) rfl (by decide) (by decide) rfl ?ph5 ?_
    case ph5 => (intro w; go_simp; try with_reducible rfl)
    (try simp only [Act.put, List.setIfInBounds_toArray, List.set_cons_succ, List.set_cons_zero])
    refine plan_skip rfl (by decide) (fun _ => HS) rfl ?_
    (try simp only [Act.put, List.setIfInBounds_toArray, List.set_cons_succ, List.set_cons_zero])
    refine plan_skip' rfl (by decide) (fun _ => HS) rfl ?_
    (try simp only [Act.put, List.setIfInBounds_toArray, List.set_cons_succ, List.set_cons_zero])
    refine plan_skip rfl (by decide) (fun _ => HS) rfl ?_
    (try simp only [Act.put, List.setIfInBounds_toArray, List.set_cons_succ, List.set_cons_zero])
    refine plan_pure (v := ?pv6) rfl (by decide) (by decide) rfl ?ph6 ?_
    case ph6 => (intro w; go_simp; try with_reducible rfl)
    (try simp only [Act.put, List.setIfInBounds_toArray, List.set_cons_succ, List.set_cons_zero])
    refine plan_pure (v := ?pv7) rfl (by decide) (by decide) rfl ?ph7 ?_
    case ph7 => (intro w; go_simp; try with_reducible rfl)
    (try simp only [Act.put, List.setIfInBounds_toArray, List.set_cons_succ, List.set_cons_zero])
    refine plan_skip rfl (by decide) (fun _ => HS) rfl ?_
    (try simp only [Act.put, List.setIfInBounds_toArray, List.set_cons_succ, List.set_cons_zero])
    refine plan_skip rfl (by decide) (fun _ => HS) rfl ?_
    (try simp only [Act.put, List.setIfInBounds_toArray, List.set_cons_succ, List.set_cons_zero])
    refine plan_skip' rfl (by decide) (fun _ => HS) rfl ?_
    (try simp only [Act.put, List.setIfInBounds_toArray, List.set_cons_succ, List.set_cons_zero])
    refine plan_skip' rfl (by decide) (fun h => absurd h (by decide)) rfl ?_
    (try simp only [Act.put, List.setIfInBounds_toArray, List.set_cons_succ, List.set_cons_zero])
    refine plan_skip' rfl (by decide) (fun h => absurd h (by decide)) rfl ?_
    (try simp only [Act.put, List.setIfInBounds_toArray, List.set_cons_succ, List.set_cons_zero])
    refine plan_pure (v := ?pv8) rfl (by decide) (by decide) rfl ?ph8 ?_
    case ph8 => (intro w; go_simp; try with_reducible rfl)
    (try simp only [Act.put, List.setIfInBounds_toArray, List.set_cons_succ, List.set_cons_zero])
    refine plan_pure (v := ?pv9) rfl (by decide) (by decide) rfl ?ph9 ?_
    case ph9 => (intro w; go_simp; try with_reducible rfl)
    (try simp only [Act.put, List.setIfInBounds_toArray, List.set_cons_succ, List.set_cons_zero])
    refine plan_nil ?_
    clear H0 HS
    go_wp2
    go_ret
    exact ⟨rfl, H.ext⟩
  | true =>
  cases e2 : (mayE u == 0) with
  | false =>
    rw [show SameE t u = false by simp [SameE, e2]]
    go_enter Try.func11, Try.ntmps11
    go_wp2_with (first | ((with_reducible refine wpl_runx_d 2 rfl ?_ ?_); (focus exact rfl); refine ⟨_, runs_box H rfl rfl, ?_⟩; clear H; rintro _ w ⟨b2, rfl, hE, H⟩; clear hE) | ((with_reducible refine wpl_runx_d 3 rfl ?_ ?_); (focus exact rfl); refine ⟨_, runs_box H rfl rfl, ?_⟩; clear H; rintro _ w ⟨b3, rfl, hE, H⟩; clear hE) | ((with_reducible refine wpl_runx ?_ ?_); (focus exact rfl); refine ⟨_, runs_load H 0 rfl rfl rfl rfl rfl, ?_⟩; rintro _ _ ⟨rfl, rfl⟩) | ((with_reducible refine wpl_runx ?_ ?_); (focus exact rfl); refine ⟨_, runs_load H 1 rfl rfl rfl rfl rfl, ?_⟩; rintro _ _ ⟨rfl, rfl⟩) | ((with_reducible refine wpl_runx ?_ ?_); (focus exact rfl); refine ⟨_, runs_store H 0 rfl rfl rfl rfl rfl rfl rfl rfl rfl, ?_⟩; clear H; rintro _ w ⟨rfl, hE, H⟩; clear hE) | ((with_reducible refine wpl_runx ?_ ?_); (focus exact rfl); refine ⟨_, runs_store H 1 rfl rfl rfl rfl rfl rfl rfl rfl rfl, ?_⟩; clear H; rintro _ w ⟨rfl, hE, H⟩; clear hE))
    refine wp_region_st H [] [[], [0], [0, 1], [0, 1, 2], [0, 1, 2, 3], [0, 1, 2, 3, 4], [0, 1, 2, 3, 4, 5], [0, 1, 2, 3, 4, 5, 6], [0, 1, 2, 3, 4, 5, 6, 7], [0, 1, 2, 3, 4, 5, 6, 7, 8], [0, 1, 2, 3, 4, 5, 6, 7, 8, 9], [0, 1, 2, 3, 4, 5, 6, 7, 8], [0, 1, 2, 3, 4, 5, 6, 7, 8, 9, 10, 11], [0, 1, 2, 3, 4, 5, 6, 7, 8, 9, 10, 11, 12], [0, 1, 2, 3, 4, 5, 6, 7, 8, 9, 10, 11, 12, 13], [0, 1, 2, 3, 4, 5, 6, 7, 8, 9, 10, 11, 12, 13, 14]] [0, 4, 9, 11] [0, 2, 3, 4, 6, 7, 8, 9, 11, 14, 15] [0, 1, 2, 3, 4, 5, 6, 7, 8, 9, 11, 10, 12, 13, 14, 15] (by kernel_rfl) (by kernel_rfl) (fun d v c a w h => by cases d <;> exact h) ?_
    clear H
    intro w H
    have HS := Ext.refl [] w
    have H0 := H
    first | refine plan_load_open H0 HS 0 rfl (by simp) rfl (by decide) (by decide) rfl rfl rfl rfl rfl ?_ | refine plan_load_open H0 HS 1 rfl (by simp) rfl (by decide) (by decide) rfl rfl rfl rfl rfl ?_ | refine plan_load_open H0 HS 2 rfl (by simp) rfl (by decide) (by decide) rfl rfl rfl rfl rfl ?_ | refine plan_load_open H0 HS 3 rfl (by simp) rfl (by decide) (by decide) rfl rfl rfl rfl rfl ?_ | refine plan_load_open H0 HS 4 rfl (by simp) rfl (by decide) (by decide) rfl rfl rfl rfl rfl ?_ | refine plan_load_open H0 HS 5 rfl (by simp) rfl (by decide) (by decide) rfl rfl rfl rfl rfl ?_ | refine plan_load_open H0 HS 6 rfl (by simp) rfl (by decide) (by decide) rfl rfl rfl rfl rfl ?_ | refine plan_load_open H0 HS 7 rfl (by simp) rfl (by decide) (by decide) rfl rfl rfl rfl rfl ?_
    (try simp only [Act.put, List.setIfInBounds_toArray, List.set_cons_succ, List.set_cons_zero])
    refine plan_op rfl (by decide) rfl (fun K hK => ?_)
    go_simp
    (refine (may_spec t A c _ H.out.1).mono ?_; rintro _ w ⟨rfl, hE⟩; replace HS := HS.trans hE; replace H := H.step hE; clear hE)
    refine hK _ _ (fun _ => HS) ?_
    clear hK K
    (try simp only [Act.put, List.setIfInBounds_toArray, List.set_cons_succ, List.set_cons_zero])
    refine plan_pure (v := ?pv10) rfl (by decide) (by decide) rfl ?ph10 ?_
    case ph10 => (intro w; go_simp; try with_reducible rfl)
    (try simp only [Act.put, List.setIfInBounds_toArray, List.set_cons_succ, List.set_cons_zero])
    refine plan_pure (v := ?pv11) rfl (by decide) (by decide) rfl ?ph11 ?_
    case ph11 => (intro w; go_simp; try with_reducible rfl)
    (try simp only [Act.put, List.setIfInBounds_toArray, List.set_cons_succ, List.set_cons_zero])
    first | refine plan_load_open H0 HS 0 rfl (by simp) rfl (by decide) (by decide) rfl rfl rfl rfl rfl ?_ | refine plan_load_open H0 HS 1 rfl (by simp) rfl (by decide) (by decide) rfl rfl rfl rfl rfl ?_ | refine plan_load_open H0 HS 2 rfl (by simp) rfl (by decide) (by decide) rfl rfl rfl rfl rfl ?_ | refine plan_load_open H0 HS 3 rfl (by simp) rfl (by decide) (by decide) rfl rfl rfl rfl rfl ?_ | refine plan_load_open H0 HS 4 rfl (by simp) rfl (by decide) (by decide) rfl rfl rfl rfl rfl ?_ | refine plan_load_open H0 HS 5 rfl (by simp) rfl (by decide) (by decide) rfl rfl rfl rfl rfl ?_ | refine plan_load_open H0 HS 6 rfl (by simp) rfl (by decide) (by decide) rfl rfl rfl rfl rfl ?_ | refine plan_load_open H0 HS 7 rfl (by simp) rfl (by decide) (by decide) rfl rfl rfl rfl rfl ?_
    (try simp only [Act.put, List.setIfInBounds_toArray, List.set_cons_succ, List.set_cons_zero])
    refine plan_op rfl (by decide) rfl (fun K hK => ?_)
    go_simp
    (refine (may_spec u B d _ H.out.2).mono ?_; rintro _ w ⟨rfl, hE⟩; replace HS := HS.trans hE; replace H := H.step hE; clear hE)
    refine hK _ _ (fun _ => HS) ?_
    clear hK K
    (try simp only [Act.put, List.setIfInBounds_toArray, List.set_cons_succ, List.set_cons_zero])
    refine plan_pure (v := ?pv12) rfl (by decide) (by decide) rfl ?ph12 ?_
    case ph12 => (intro w; go_simp; try with_reducible rfl)
    (try simp only [Act.put, List.setIfInBounds_toArray, List.set_cons_succ, List.set_cons_zero])
    refine plan_pure (v := ?pv13) rfl (by decide) (by decide) rfl ?ph13 ?_
    case ph13 => (intro w; go_simp; try with_reducible rfl)
    (try simp only [Act.put, List.setIfInBounds_toArray, List.set_cons_succ, List.set_cons_zero])
    refine plan_pure (v := ?pv14) rfl (by decide) (by decide) rfl ?ph14 ?_
    case ph14 => (intro w; go_simp; try with_reducible rfl)
    (try simp only [Act.put, List.setIfInBounds_toArray, List.set_cons_succ, List.set_cons_zero])
    refine plan_skip rfl (by decide) (fun _ => HS) rfl ?_
    (try simp only [Act.put, List.setIfInBounds_toArray, List.set_cons_succ, List.set_cons_zero])
    refine plan_skip rfl (by decide) (fun _ => HS) rfl ?_
    (try simp only [Act.put, List.setIfInBounds_toArray, List.set_cons_succ, List.set_cons_zero])
    refine plan_skip' rfl (by decide) (fun _ => HS) rfl ?_
    (try simp only [Act.put, List.setIfInBounds_toArray, List.set_cons_succ, List.set_cons_zero])
    refine plan_skip' rfl (by decide) (fun h => absurd h (by decide)) rfl ?_
    (try simp only [Act.put, List.setIfInBounds_toArray, List.set_cons_succ, List.set_cons_zero])
    refine plan_skip' rfl (by decide) (fun h => absurd h (by decide)) rfl ?_
    (try simp only [Act.put, List.setIfInBounds_toArray, List.set_cons_succ, List.set_cons_zero])
    refine plan_pure (v := ?pv15) rfl (by decide) (by decide) rfl ?ph15 ?_
    case ph15 => (intro w; go_simp; try with_reducible rfl)
    (try simp only [Act.put, List.setIfInBounds_toArray, List.set_cons_succ, List.set_cons_zero])
    refine plan_pure (v := ?pv16) rfl (by decide) (by decide) rfl ?ph16 ?_
    case ph16 => (intro w; go_simp; try with_reducible rfl)
    (try simp only [Act.put, List.setIfInBounds_toArray, List.set_cons_succ, List.set_cons_zero])
    refine plan_nil ?_
    clear H0 HS
    go_wp2
    go_ret
    exact ⟨rfl, H.ext⟩
  | true =>
    rw [show SameE t u = sameE (plainE t) (plainE u) by simp [SameE, e1, e2]]
    go_enter Try.func11, Try.ntmps11
    go_wp2_with (first | ((with_reducible refine wpl_runx_d 2 rfl ?_ ?_); (focus exact rfl); refine ⟨_, runs_box H rfl rfl, ?_⟩; clear H; rintro _ w ⟨b2, rfl, hE, H⟩; clear hE) | ((with_reducible refine wpl_runx_d 3 rfl ?_ ?_); (focus exact rfl); refine ⟨_, runs_box H rfl rfl, ?_⟩; clear H; rintro _ w ⟨b3, rfl, hE, H⟩; clear hE) | ((with_reducible refine wpl_runx ?_ ?_); (focus exact rfl); refine ⟨_, runs_load H 0 rfl rfl rfl rfl rfl, ?_⟩; rintro _ _ ⟨rfl, rfl⟩) | ((with_reducible refine wpl_runx ?_ ?_); (focus exact rfl); refine ⟨_, runs_load H 1 rfl rfl rfl rfl rfl, ?_⟩; rintro _ _ ⟨rfl, rfl⟩) | ((with_reducible refine wpl_runx ?_ ?_); (focus exact rfl); refine ⟨_, runs_store H 0 rfl rfl rfl rfl rfl rfl rfl rfl rfl, ?_⟩; clear H; rintro _ w ⟨rfl, hE, H⟩; clear hE) | ((with_reducible refine wpl_runx ?_ ?_); (focus exact rfl); refine ⟨_, runs_store H 1 rfl rfl rfl rfl rfl rfl rfl rfl rfl, ?_⟩; clear H; rintro _ w ⟨rfl, hE, H⟩; clear hE))
    refine wp_region_st H [] [[], [0], [0, 1], [0, 1, 2], [0, 1, 2, 3], [0, 1, 2, 3, 4], [0, 1, 2, 3, 4, 5], [0, 1, 2, 3, 4, 5, 6], [0, 1, 2, 3, 4, 5, 6, 7], [0, 1, 2, 3, 4, 5, 6, 7, 8], [0, 1, 2, 3, 4, 5, 6, 7, 8, 9], [0, 1, 2, 3, 4, 5, 6, 7, 8], [0, 1, 2, 3, 4, 5, 6, 7, 8, 9, 10, 11], [0, 1, 2, 3, 4, 5, 6, 7, 8, 9, 10, 11, 12], [0, 1, 2, 3, 4, 5, 6, 7, 8, 9, 10, 11, 12, 13], [0, 1, 2, 3, 4, 5, 6, 7, 8, 9, 10, 11, 12, 13, 14]] [0, 4, 9, 11] [0, 2, 3, 4, 6, 7, 8, 9, 11, 14, 15] [0, 1, 2, 3, 4, 5, 6, 7, 8, 9, 11, 10, 12, 13, 14, 15] (by kernel_rfl) (by kernel_rfl) (fun d v c a w h => by cases d <;> exact h) ?_
    clear H
    intro w H
    have HS := Ext.refl [] w
    have H0 := H
    first | refine plan_load_open H0 HS 0 rfl (by simp) rfl (by decide) (by decide) rfl rfl rfl rfl rfl ?_ | refine plan_load_open H0 HS 1 rfl (by simp) rfl (by decide) (by decide) rfl rfl rfl rfl rfl ?_ | refine plan_load_open H0 HS 2 rfl (by simp) rfl (by decide) (by decide) rfl rfl rfl rfl rfl ?_ | refine plan_load_open H0 HS 3 rfl (by simp) rfl (by decide) (by decide) rfl rfl rfl rfl rfl ?_ | refine plan_load_open H0 HS 4 rfl (by simp) rfl (by decide) (by decide) rfl rfl rfl rfl rfl ?_ | refine plan_load_open H0 HS 5 rfl (by simp) rfl (by decide) (by decide) rfl rfl rfl rfl rfl ?_ | refine plan_load_open H0 HS 6 rfl (by simp) rfl (by decide) (by decide) rfl rfl rfl rfl rfl ?_ | refine plan_load_open H0 HS 7 rfl (by simp) rfl (by decide) (by decide) rfl rfl rfl rfl rfl ?_
    (try simp only [Act.put, List.setIfInBounds_toArray, List.set_cons_succ, List.set_cons_zero])
    refine plan_op rfl (by decide) rfl (fun K hK => ?_)
    go_simp
    (refine (may_spec t A c _ H.out.1).mono ?_; rintro _ w ⟨rfl, hE⟩; replace HS := HS.trans hE; replace H := H.step hE; clear hE)
    refine hK _ _ (fun _ => HS) ?_
    clear hK K
    (try simp only [Act.put, List.setIfInBounds_toArray, List.set_cons_succ, List.set_cons_zero])
    refine plan_pure (v := ?pv17) rfl (by decide) (by decide) rfl ?ph17 ?_
    case ph17 => (intro w; go_simp; try with_reducible rfl)
    (try simp only [Act.put, List.setIfInBounds_toArray, List.set_cons_succ, List.set_cons_zero])
    refine plan_pure (v := ?pv18) rfl (by decide) (by decide) rfl ?ph18 ?_
    case ph18 => (intro w; go_simp; try with_reducible rfl)
    (try simp only [Act.put, List.setIfInBounds_toArray, List.set_cons_succ, List.set_cons_zero])
    first | refine plan_load_open H0 HS 0 rfl (by simp) rfl (by decide) (by decide) rfl rfl rfl rfl rfl ?_ | refine plan_load_open H0 HS 1 rfl (by simp) rfl (by decide) (by decide) rfl rfl rfl rfl rfl ?_ | refine plan_load_open H0 HS 2 rfl (by simp) rfl (by decide) (by decide) rfl rfl rfl rfl rfl ?_ | refine plan_load_open H0 HS 3 rfl (by simp) rfl (by decide) (by decide) rfl rfl rfl rfl rfl ?_ | refine plan_load_open H0 HS 4 rfl (by simp) rfl (by decide) (by decide) rfl rfl rfl rfl rfl ?_ | refine plan_load_open H0 HS 5 rfl (by simp) rfl (by decide) (by decide) rfl rfl rfl rfl rfl ?_ | refine plan_load_open H0 HS 6 rfl (by simp) rfl (by decide) (by decide) rfl rfl rfl rfl rfl ?_ | refine plan_load_open H0 HS 7 rfl (by simp) rfl (by decide) (by decide) rfl rfl rfl rfl rfl ?_
    (try simp only [Act.put, List.setIfInBounds_toArray, List.set_cons_succ, List.set_cons_zero])
    refine plan_op rfl (by decide) rfl (fun K hK => ?_)
    go_simp
    (refine (may_spec u B d _ H.out.2).mono ?_; rintro _ w ⟨rfl, hE⟩; replace HS := HS.trans hE; replace H := H.step hE; clear hE)
    refine hK _ _ (fun _ => HS) ?_
    clear hK K
    (try simp only [Act.put, List.setIfInBounds_toArray, List.set_cons_succ, List.set_cons_zero])
    refine plan_pure (v := ?pv19) rfl (by decide) (by decide) rfl ?ph19 ?_
    case ph19 => (intro w; go_simp; try with_reducible rfl)
    (try simp only [Act.put, List.setIfInBounds_toArray, List.set_cons_succ, List.set_cons_zero])
    refine plan_pure (v := ?pv20) rfl (by decide) (by decide) rfl ?ph20 ?_
    case ph20 => (intro w; go_simp; try with_reducible rfl)
    (try simp only [Act.put, List.setIfInBounds_toArray, List.set_cons_succ, List.set_cons_zero])
    refine plan_pure (v := ?pv21) rfl (by decide) (by decide) rfl ?ph21 ?_
    case ph21 => (intro w; go_simp; try with_reducible rfl)
    (try simp only [Act.put, List.setIfInBounds_toArray, List.set_cons_succ, List.set_cons_zero])
    first | refine plan_load_open H0 HS 0 rfl (by simp) rfl (by decide) (by decide) rfl rfl rfl rfl rfl ?_ | refine plan_load_open H0 HS 1 rfl (by simp) rfl (by decide) (by decide) rfl rfl rfl rfl rfl ?_ | refine plan_load_open H0 HS 2 rfl (by simp) rfl (by decide) (by decide) rfl rfl rfl rfl rfl ?_ | refine plan_load_open H0 HS 3 rfl (by simp) rfl (by decide) (by decide) rfl rfl rfl rfl rfl ?_ | refine plan_load_open H0 HS 4 rfl (by simp) rfl (by decide) (by decide) rfl rfl rfl rfl rfl ?_ | refine plan_load_open H0 HS 5 rfl (by simp) rfl (by decide) (by decide) rfl rfl rfl rfl rfl ?_ | refine plan_load_open H0 HS 6 rfl (by simp) rfl (by decide) (by decide) rfl rfl rfl rfl rfl ?_ | refine plan_load_open H0 HS 7 rfl (by simp) rfl (by decide) (by decide) rfl rfl rfl rfl rfl ?_
    (try simp only [Act.put, List.setIfInBounds_toArray, List.set_cons_succ, List.set_cons_zero])
    first | refine plan_load_open H0 HS 0 rfl (by simp) rfl (by decide) (by decide) rfl rfl rfl rfl rfl ?_ | refine plan_load_open H0 HS 1 rfl (by simp) rfl (by decide) (by decide) rfl rfl rfl rfl rfl ?_ | refine plan_load_open H0 HS 2 rfl (by simp) rfl (by decide) (by decide) rfl rfl rfl rfl rfl ?_ | refine plan_load_open H0 HS 3 rfl (by simp) rfl (by decide) (by decide) rfl rfl rfl rfl rfl ?_ | refine plan_load_open H0 HS 4 rfl (by simp) rfl (by decide) (by decide) rfl rfl rfl rfl rfl ?_ | refine plan_load_open H0 HS 5 rfl (by simp) rfl (by decide) (by decide) rfl rfl rfl rfl rfl ?_ | refine plan_load_open H0 HS 6 rfl (by simp) rfl (by decide) (by decide) rfl rfl rfl rfl rfl ?_ | refine plan_load_open H0 HS 7 rfl (by simp) rfl (by decide) (by decide) rfl rfl rfl rfl rfl ?_
    (try simp only [Act.put, List.setIfInBounds_toArray, List.set_cons_succ, List.set_cons_zero])
    refine plan_op rfl (by decide) rfl (fun K hK => ?_)
    go_simp
    (refine (plain_spec t A c _ _ H.ltAll H.fact.1).mono ?_; rintro _ w ⟨A2, c2, rfl, hA2, hE⟩; replace HS := HS.trans hE; replace H := (H.step hE).add hA2 (AR.stab _ _ _); clear hE hA2)
    refine hK _ _ (fun _ => HS) ?_
    clear hK K
    (try simp only [Act.put, List.setIfInBounds_toArray, List.set_cons_succ, List.set_cons_zero])
    refine plan_op rfl (by decide) rfl (fun K hK => ?_)
    go_simp
    (refine (plain_spec u B d _ _ H.ltAll H.fact.1.2).mono ?_; rintro _ w ⟨A3, c3, rfl, hA3, hE⟩; replace HS := HS.trans hE; replace H := (H.step hE).add hA3 (AR.stab _ _ _); clear hE hA3)
    refine hK _ _ (fun h => absurd h (by decide)) ?_
    clear hK K
    (try simp only [Act.put, List.setIfInBounds_toArray, List.set_cons_succ, List.set_cons_zero])
    refine plan_op rfl (by decide) rfl (fun K hK => ?_)
    go_simp
    (refine (same_spec _ _ _ _ _ _ _ (slimA_plain t) H.out.1.2 H.out.2).mono ?_; rintro _ w ⟨rfl, hE⟩; replace HS := HS.trans hE; replace H := H.step hE; clear hE)
    refine hK _ _ (fun h => absurd h (by decide)) ?_
    clear hK K
    (try simp only [Act.put, List.setIfInBounds_toArray, List.set_cons_succ, List.set_cons_zero])
    refine plan_pure (v := ?pv22) rfl (by decide) (by decide) rfl ?ph22 ?_
    case ph22 => (intro w; go_simp; try with_reducible rfl)
    (try simp only [Act.put, List.setIfInBounds_toArray, List.set_cons_succ, List.set_cons_zero])
    refine plan_pure (v := ?pv23) rfl (by decide) (by decide) rfl ?ph23 ?_
    case ph23 => (intro w; go_simp; try with_reducible rfl)
    (try simp only [Act.put, List.setIfInBounds_toArray, List.set_cons_succ, List.set_cons_zero])
    refine plan_nil ?_
    clear H0 HS
    go_wp2
    go_ret
    exact ⟨rfl, H.ext⟩

def variantE (t u : Tm) : Bool := SameE (renameE t) (renameE u)
end Go.Proofs.Ytfjdekiobggdoaa
