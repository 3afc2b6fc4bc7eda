/- Walks: Like, Same, Equal of the reference. -/
import Derived.Test.YthiionkikammkaaRPlain
import Derived.Test.YthiionkikammkaaSame
namespace Go.Proofs.Ythiionkikammkaa
open Go.RowKit
set_option linter.unusedVariables false
set_option linter.unusedSimpArgs false
set_option maxRecDepth 20000
set_option maxHeartbeats 4000000

mutual
/-- Are two alike, in what their kind gives a meaning. -/
def likeE : Tm → Tm → Bool
  | .mk k s n r i l, .mk k' s' n' r' i' l' => if k ≠ k' then false else if k = 1 ∨ k = 3 then n == n' else if k = 2 then s.toList == s'.toList else if k = 4 then (r == r' && i == i') else (s.toList == s'.toList && likeL l l')
def likeL : List Tm → List Tm → Bool
  | [], [] => true
  | a :: l, b :: m => likeE a b && likeL l m
  | _, _ => false
end
theorem likeL_len : ∀ {l m : List Tm}, l.length ≠ m.length → likeL l m = false
  | [], [], h => by simp at h
  | [], _ :: _, _ => rfl
  | _ :: _, [], _ => rfl
  | a :: l, b :: m, h => by
    unfold likeL
    rw [likeL_len (l := l) (m := m) (by simpa using h)]
    simp

theorem Like_spec : ∀ (t t' : Tm) (A A' : Option Addr) (c c' : Nat) (w0 : World), slimA t → AR A c t.args [] w0 → AR A' c' t'.args [] w0 →
    Calls Try.prog 32 #[.agg #[.int .i64 t.kind, .string t.name, .int .i64 t.int, .int .u64 t.re, .int .u64 t.im, .slice A t.args.length c], .agg #[.int .i64 t'.kind, .string t'.name, .int .i64 t'.int, .int .u64 t'.re, .int .u64 t'.im, .slice A' t'.args.length c']] w0 (RetV w0 (.bool (likeE t t'))) := by
  intro t
  induction t using Tm.ind with | _ k s n r i l IH
  intro t' A A' c c' w0 hs hA hA'
  cases t' with
  | mk k' s' n' r' i' l' =>
  simp only [Tm.kind, Tm.name, Tm.int, Tm.re, Tm.im, Tm.args] at hA hA' ⊢
  unfold slimA at hs
  have H := St.start (M := []) (by simp) ((AR.stab A c l).and (AR.stab A' c' l')) ⟨hA, hA'⟩
  clear hA hA'
  have IH' := Lib.hid IH; clear IH
  rw [likeE]
  by_cases hk : k = k'
  · subst hk
    rw [if_neg (by simp)]
    have ek : (k != k) = false := by simp
    by_cases h1 : k = 1
    · subst h1
      rw [if_pos (Or.inl rfl)]
      go_enter Try.func32, Try.ntmps32
      go_wp2_with (first | ((with_reducible refine wpl_runx_d 2 rfl ?_ ?_); (focus exact rfl); refine ⟨_, runs_box H rfl rfl, ?_⟩; clear H; rintro _ w ⟨b2, rfl, hE, H⟩; clear hE) | ((with_reducible refine wpl_runx_d 3 rfl ?_ ?_); (focus exact rfl); refine ⟨_, runs_box H rfl rfl, ?_⟩; clear H; rintro _ w ⟨b3, rfl, hE, H⟩; clear hE) | ((with_reducible refine wpl_runx ?_ ?_); (focus exact rfl); refine ⟨_, runs_load H 0 rfl rfl rfl rfl rfl, ?_⟩; rintro _ _ ⟨rfl, rfl⟩) | ((with_reducible refine wpl_runx ?_ ?_); (focus exact rfl); refine ⟨_, runs_load H 1 rfl rfl rfl rfl rfl, ?_⟩; rintro _ _ ⟨rfl, rfl⟩) | ((with_reducible refine wpl_runx ?_ ?_); (focus exact rfl); refine ⟨_, runs_store H 0 rfl rfl rfl rfl rfl rfl rfl rfl rfl, ?_⟩; clear H; rintro _ w ⟨rfl, hE, H⟩; clear hE) | ((with_reducible refine wpl_runx ?_ ?_); (focus exact rfl); refine ⟨_, runs_store H 1 rfl rfl rfl rfl rfl rfl rfl rfl rfl, ?_⟩; clear H; rintro _ w ⟨rfl, hE, H⟩; clear hE))
      go_ret
      exact ⟨rfl, H.ext⟩
    by_cases h3 : k = 3
    · subst h3
      rw [if_pos (Or.inr rfl)]
      go_enter Try.func32, Try.ntmps32
      go_wp2_with (first | ((with_reducible refine wpl_runx_d 2 rfl ?_ ?_); (focus exact rfl); refine ⟨_, runs_box H rfl rfl, ?_⟩; clear H; rintro _ w ⟨b2, rfl, hE, H⟩; clear hE) | ((with_reducible refine wpl_runx_d 3 rfl ?_ ?_); (focus exact rfl); refine ⟨_, runs_box H rfl rfl, ?_⟩; clear H; rintro _ w ⟨b3, rfl, hE, H⟩; clear hE) | ((with_reducible refine wpl_runx ?_ ?_); (focus exact rfl); refine ⟨_, runs_load H 0 rfl rfl rfl rfl rfl, ?_⟩; rintro _ _ ⟨rfl, rfl⟩) | ((with_reducible refine wpl_runx ?_ ?_); (focus exact rfl); refine ⟨_, runs_load H 1 rfl rfl rfl rfl rfl, ?_⟩; rintro _ _ ⟨rfl, rfl⟩) | ((with_reducible refine wpl_runx ?_ ?_); (focus exact rfl); refine ⟨_, runs_store H 0 rfl rfl rfl rfl rfl rfl rfl rfl rfl, ?_⟩; clear H; rintro _ w ⟨rfl, hE, H⟩; clear hE) | ((with_reducible refine wpl_runx ?_ ?_); (focus exact rfl); refine ⟨_, runs_store H 1 rfl rfl rfl rfl rfl rfl rfl rfl rfl, ?_⟩; clear H; rintro _ w ⟨rfl, hE, H⟩; clear hE))
      go_ret
      exact ⟨rfl, H.ext⟩
    by_cases h2 : k = 2
    · subst h2
      rw [if_neg (by decide), if_pos rfl]
      go_enter Try.func32, Try.ntmps32
      go_wp2_with (first | ((with_reducible refine wpl_runx_d 2 rfl ?_ ?_); (focus exact rfl); refine ⟨_, runs_box H rfl rfl, ?_⟩; clear H; rintro _ w ⟨b2, rfl, hE, H⟩; clear hE) | ((with_reducible refine wpl_runx_d 3 rfl ?_ ?_); (focus exact rfl); refine ⟨_, runs_box H rfl rfl, ?_⟩; clear H; rintro _ w ⟨b3, rfl, hE, H⟩; clear hE) | ((with_reducible refine wpl_runx ?_ ?_); (focus exact rfl); refine ⟨_, runs_load H 0 rfl rfl rfl rfl rfl, ?_⟩; rintro _ _ ⟨rfl, rfl⟩) | ((with_reducible refine wpl_runx ?_ ?_); (focus exact rfl); refine ⟨_, runs_load H 1 rfl rfl rfl rfl rfl, ?_⟩; rintro _ _ ⟨rfl, rfl⟩) | ((with_reducible refine wpl_runx ?_ ?_); (focus exact rfl); refine ⟨_, runs_store H 0 rfl rfl rfl rfl rfl rfl rfl rfl rfl, ?_⟩; clear H; rintro _ w ⟨rfl, hE, H⟩; clear hE) | ((with_reducible refine wpl_runx ?_ ?_); (focus exact rfl); refine ⟨_, runs_store H 1 rfl rfl rfl rfl rfl rfl rfl rfl rfl, ?_⟩; clear H; rintro _ w ⟨rfl, hE, H⟩; clear hE))
      go_ret
      exact ⟨rfl, H.ext⟩
    by_cases h4 : k = 4
    · subst h4
      rw [if_neg (by decide), if_neg (by decide), if_pos rfl]
      cases er : (r == r') with
      | false =>
        go_enter Try.func32, Try.ntmps32
        go_wp2_with (first | ((with_reducible refine wpl_runx_d 2 rfl ?_ ?_); (focus exact rfl); refine ⟨_, runs_box H rfl rfl, ?_⟩; clear H; rintro _ w ⟨b2, rfl, hE, H⟩; clear hE) | ((with_reducible refine wpl_runx_d 3 rfl ?_ ?_); (focus exact rfl); refine ⟨_, runs_box H rfl rfl, ?_⟩; clear H; rintro _ w ⟨b3, rfl, hE, H⟩; clear hE) | ((with_reducible refine wpl_runx ?_ ?_); (focus exact rfl); refine ⟨_, runs_load H 0 rfl rfl rfl rfl rfl, ?_⟩; rintro _ _ ⟨rfl, rfl⟩) | ((with_reducible refine wpl_runx ?_ ?_); (focus exact rfl); refine ⟨_, runs_load H 1 rfl rfl rfl rfl rfl, ?_⟩; rintro _ _ ⟨rfl, rfl⟩) | ((with_reducible refine wpl_runx ?_ ?_); (focus exact rfl); refine ⟨_, runs_store H 0 rfl rfl rfl rfl rfl rfl rfl rfl rfl, ?_⟩; clear H; rintro _ w ⟨rfl, hE, H⟩; clear hE) | ((with_reducible refine wpl_runx ?_ ?_); (focus exact rfl); refine ⟨_, runs_store H 1 rfl rfl rfl rfl rfl rfl rfl rfl rfl, ?_⟩; clear H; rintro _ w ⟨rfl, hE, H⟩; clear hE))
        go_ret
        exact ⟨rfl, H.ext⟩
      | true =>
        go_enter Try.func32, Try.ntmps32
        go_wp2_with (first | ((with_reducible refine wpl_runx_d 2 rfl ?_ ?_); (focus exact rfl); refine ⟨_, runs_box H rfl rfl, ?_⟩; clear H; rintro _ w ⟨b2, rfl, hE, H⟩; clear hE) | ((with_reducible refine wpl_runx_d 3 rfl ?_ ?_); (focus exact rfl); refine ⟨_, runs_box H rfl rfl, ?_⟩; clear H; rintro _ w ⟨b3, rfl, hE, H⟩; clear hE) | ((with_reducible refine wpl_runx ?_ ?_); (focus exact rfl); refine ⟨_, runs_load H 0 rfl rfl rfl rfl rfl, ?_⟩; rintro _ _ ⟨rfl, rfl⟩) | ((with_reducible refine wpl_runx ?_ ?_); (focus exact rfl); refine ⟨_, runs_load H 1 rfl rfl rfl rfl rfl, ?_⟩; rintro _ _ ⟨rfl, rfl⟩) | ((with_reducible refine wpl_runx ?_ ?_); (focus exact rfl); refine ⟨_, runs_store H 0 rfl rfl rfl rfl rfl rfl rfl rfl rfl, ?_⟩; clear H; rintro _ w ⟨rfl, hE, H⟩; clear hE) | ((with_reducible refine wpl_runx ?_ ?_); (focus exact rfl); refine ⟨_, runs_store H 1 rfl rfl rfl rfl rfl rfl rfl rfl rfl, ?_⟩; clear H; rintro _ w ⟨rfl, hE, H⟩; clear hE))
        go_ret
        exact ⟨rfl, H.ext⟩
    rw [if_neg (by omega), if_neg h2, if_neg h4]
    have e1 : (k == 1) = false := by simpa using h1
    have e2 : (k == 2) = false := by simpa using h2
    have e3 : (k == 3) = false := by simpa using h3
    have e4 : (k == 4) = false := by simpa using h4
    cases en : (s.toList == s'.toList) with
    | false =>
      have en' : (s.toList != s'.toList) = true := by simp [bne, en]
      go_enter Try.func32, Try.ntmps32
      go_wp2_with (first | ((with_reducible refine wpl_runx_d 2 rfl ?_ ?_); (focus exact rfl); refine ⟨_, runs_box H rfl rfl, ?_⟩; clear H; rintro _ w ⟨b2, rfl, hE, H⟩; clear hE) | ((with_reducible refine wpl_runx_d 3 rfl ?_ ?_); (focus exact rfl); refine ⟨_, runs_box H rfl rfl, ?_⟩; clear H; rintro _ w ⟨b3, rfl, hE, H⟩; clear hE) | ((with_reducible refine wpl_runx ?_ ?_); (focus exact rfl); refine ⟨_, runs_load H 0 rfl rfl rfl rfl rfl, ?_⟩; rintro _ _ ⟨rfl, rfl⟩) | ((with_reducible refine wpl_runx ?_ ?_); (focus exact rfl); refine ⟨_, runs_load H 1 rfl rfl rfl rfl rfl, ?_⟩; rintro _ _ ⟨rfl, rfl⟩) | ((with_reducible refine wpl_runx ?_ ?_); (focus exact rfl); refine ⟨_, runs_store H 0 rfl rfl rfl rfl rfl rfl rfl rfl rfl, ?_⟩; clear H; rintro _ w ⟨rfl, hE, H⟩; clear hE) | ((with_reducible refine wpl_runx ?_ ?_); (focus exact rfl); refine ⟨_, runs_store H 1 rfl rfl rfl rfl rfl rfl rfl rfl rfl, ?_⟩; clear H; rintro _ w ⟨rfl, hE, H⟩; clear hE))
      go_ret
      exact ⟨rfl, H.ext⟩
    | true =>
      have en' : (s.toList != s'.toList) = false := by simp [bne, en]
      by_cases hl : l.length = l'.length
      · have el : ((l.length : Int) != (l'.length : Int)) = false := by simp [hl]
        replace hl := Lib.hid hl
        go_enter Try.func32, Try.ntmps32
        go_wp2_with (first | ((with_reducible refine wpl_runx_d 2 rfl ?_ ?_); (focus exact rfl); refine ⟨_, runs_box H rfl rfl, ?_⟩; clear H; rintro _ w ⟨b2, rfl, hE, H⟩; clear hE) | ((with_reducible refine wpl_runx_d 3 rfl ?_ ?_); (focus exact rfl); refine ⟨_, runs_box H rfl rfl, ?_⟩; clear H; rintro _ w ⟨b3, rfl, hE, H⟩; clear hE) | ((with_reducible refine wpl_runx ?_ ?_); (focus exact rfl); refine ⟨_, runs_load H 0 rfl rfl rfl rfl rfl, ?_⟩; rintro _ _ ⟨rfl, rfl⟩) | ((with_reducible refine wpl_runx ?_ ?_); (focus exact rfl); refine ⟨_, runs_load H 1 rfl rfl rfl rfl rfl, ?_⟩; rintro _ _ ⟨rfl, rfl⟩) | ((with_reducible refine wpl_runx ?_ ?_); (focus exact rfl); refine ⟨_, runs_store H 0 rfl rfl rfl rfl rfl rfl rfl rfl rfl, ?_⟩; clear H; rintro _ w ⟨rfl, hE, H⟩; clear hE) | ((with_reducible refine wpl_runx ?_ ?_); (focus exact rfl); refine ⟨_, runs_store H 1 rfl rfl rfl rfl rfl rfl rfl rfl rfl, ?_⟩; clear H; rintro _ w ⟨rfl, hE, H⟩; clear hE))
        go_loopw [59] (fun iv wr => ∃ (j : Nat), j ≤ l.length ∧ iv = .int .i64 j ∧ likeL l l' = likeL (l.drop j) (l'.drop j) ∧ St [] [] w0 wr [.obj b3 (.cells #[.int .i64 k, .string s', .int .i64 n', .int .u64 r', .int .u64 i', .slice A' l'.length c'] 25 (0, 0)), .obj b2 (.cells #[.int .i64 k, .string s, .int .i64 n, .int .u64 r, .int .u64 i, .slice A l.length c] 25 (0, 0))] fun M w => AR A c l M w ∧ AR A' c' l' M w) (fun iv _ => l.length - (intOf iv).toNat)
        case atStart => exact ⟨0, Nat.zero_le _, rfl, by simp, H⟩
        case round =>
          clear H
          obtain ⟨j, hj, rfl, hL, H⟩ := hrel
          by_cases hlt : j < l.length
          · have hlt' : j < l'.length := by have := hl.out; omega
            obtain ⟨q, o, A1, c1, rfl, hqm, hql, hcs, hA1⟩ := H.fact.1.at j hlt
            obtain ⟨q', o', A2, c2, rfl, hqm', hql', hcs', hA2⟩ := H.fact.2.at j hlt'
            have C1 : CellF q (o + j * 6) _ _ _ := ⟨hqm, hql, hcs⟩
            have C2 : CellF q' (o' + j * 6) _ _ _ := ⟨hqm', hql', hcs'⟩
            replace H := (((H.add hA1 (AR.stab _ _ _)).add hA2 (AR.stab _ _ _)).add C1 (CellF.stab _ _ _)).add C2 (CellF.stab _ _ _)
            clear hcs hcs' hql hql' hA1 hA2 hqm hqm' C1 C2
            rw [List.drop_eq_getElem_cons hlt, List.drop_eq_getElem_cons hlt', likeL] at hL
            obtain ⟨B, hB⟩ : ∃ B, likeE l[j] l'[j] = B := ⟨_, rfl⟩
            have hC : ∀ w, AR A1 c1 (l[j]).args [] w → AR A2 c2 (l'[j]).args [] w → Calls Try.prog 32 #[.agg #[.int .i64 (l[j]).kind, .string (l[j]).name, .int .i64 (l[j]).int, .int .u64 (l[j]).re, .int .u64 (l[j]).im, .slice A1 (l[j]).args.length c1], .agg #[.int .i64 (l'[j]).kind, .string (l'[j]).name, .int .i64 (l'[j]).int, .int .u64 (l'[j]).re, .int .u64 (l'[j]).im, .slice A2 (l'[j]).args.length c2]] w (RetV w (.bool B)) := fun w h1 h2 => by rw [← hB]; exact IH'.out l[j] (List.getElem_mem hlt) _ _ _ _ _ w (slimAL_mem hs.2 (List.getElem_mem hlt)) h1 h2
            rw [hB] at hL
            clear hB
            cases B
            · rw [Bool.false_and] at hL
              go_wp2_with (first | ((with_reducible refine wpl_runx_d 2 rfl ?_ ?_); (focus exact rfl); refine ⟨_, runs_box H rfl rfl, ?_⟩; clear H; rintro _ w ⟨b2, rfl, hE, H⟩; clear hE) | ((with_reducible refine wpl_runx_d 3 rfl ?_ ?_); (focus exact rfl); refine ⟨_, runs_box H rfl rfl, ?_⟩; clear H; rintro _ w ⟨b3, rfl, hE, H⟩; clear hE) | ((with_reducible refine wpl_runx ?_ ?_); (focus exact rfl); refine ⟨_, runs_load H 0 rfl rfl rfl rfl rfl, ?_⟩; rintro _ _ ⟨rfl, rfl⟩) | ((with_reducible refine wpl_runx ?_ ?_); (focus exact rfl); refine ⟨_, runs_load H 1 rfl rfl rfl rfl rfl, ?_⟩; rintro _ _ ⟨rfl, rfl⟩) | ((with_reducible refine wpl_runx ?_ ?_); (focus exact rfl); refine ⟨_, runs_store H 0 rfl rfl rfl rfl rfl rfl rfl rfl rfl, ?_⟩; clear H; rintro _ w ⟨rfl, hE, H⟩; clear hE) | ((with_reducible refine wpl_runx ?_ ?_); (focus exact rfl); refine ⟨_, runs_store H 1 rfl rfl rfl rfl rfl rfl rfl rfl rfl, ?_⟩; clear H; rintro _ w ⟨rfl, hE, H⟩; clear hE))
              refine wp_region_st H [] [[], [0], [], [0, 1, 2], [0, 1, 2, 3], [], [5], [], [5, 6, 7], [5, 6, 7, 8], [0, 1, 2, 3, 4, 5, 6, 7, 8, 9], [0, 1, 2, 3, 4, 5, 6, 7, 8, 9, 10]] [1, 4, 6, 9] [0, 1, 2, 3, 4, 5, 6, 7, 8, 9, 11] [0, 1, 2, 3, 4, 5, 6, 7, 8, 9, 10, 11] (by kernel_rfl) (by kernel_rfl) (fun d v c a w h => by cases d <;> exact h) ?_
              clear H
              intro w H
              have HS := Ext.refl [] w
              have H0 := H
              refine plan_pure (v := ?pv14) rfl (by decide) (by decide) rfl ?ph14 ?_
              case ph14 => (intro w; go_simp; try with_reducible rfl)
              (try simp only [Act.put, List.setIfInBounds_toArray, List.set_cons_succ, List.set_cons_zero])
              first | refine plan_load_open H0 HS 0 rfl (by simp) rfl (by decide) (by decide) rfl rfl rfl rfl rfl ?_ | refine plan_load_open H0 HS 1 rfl (by simp) rfl (by decide) (by decide) rfl rfl rfl rfl rfl ?_ | refine plan_load_open H0 HS 2 rfl (by simp) rfl (by decide) (by decide) rfl rfl rfl rfl rfl ?_ | refine plan_load_open H0 HS 3 rfl (by simp) rfl (by decide) (by decide) rfl rfl rfl rfl rfl ?_ | refine plan_load_open H0 HS 4 rfl (by simp) rfl (by decide) (by decide) rfl rfl rfl rfl rfl ?_ | refine plan_load_open H0 HS 5 rfl (by simp) rfl (by decide) (by decide) rfl rfl rfl rfl rfl ?_ | refine plan_load_open H0 HS 6 rfl (by simp) rfl (by decide) (by decide) rfl rfl rfl rfl rfl ?_ | refine plan_load_open H0 HS 7 rfl (by simp) rfl (by decide) (by decide) rfl rfl rfl rfl rfl ?_
              (try simp only [Act.put, List.setIfInBounds_toArray, List.set_cons_succ, List.set_cons_zero])
              refine plan_pure (v := ?pv15) rfl (by decide) (by decide) rfl ?ph15 ?_
              case ph15 => (intro w; go_simp; try with_reducible rfl)
              (try simp only [Act.put, List.setIfInBounds_toArray, List.set_cons_succ, List.set_cons_zero])
              refine plan_pure (v := ?pv16) rfl (by decide) (by decide) rfl ?ph16 ?_
              case ph16 => (intro w; go_simp; try with_reducible rfl)
              (try simp only [Act.put, List.setIfInBounds_toArray, List.set_cons_succ, List.set_cons_zero])
              refine plan_load_at HS H0.fact.1.2.2.1 (by simp) H0.fact.1.2.2.2 rfl (by decide) (by decide) rfl rfl rfl rfl rfl ?_
              (try simp only [Act.put, List.setIfInBounds_toArray, List.set_cons_succ, List.set_cons_zero])
              refine plan_pure (v := ?pv17) rfl (by decide) (by decide) rfl ?ph17 ?_
              case ph17 => (intro w; go_simp; try with_reducible rfl)
              (try simp only [Act.put, List.setIfInBounds_toArray, List.set_cons_succ, List.set_cons_zero])
              first | refine plan_load_open H0 HS 0 rfl (by simp) rfl (by decide) (by decide) rfl rfl rfl rfl rfl ?_ | refine plan_load_open H0 HS 1 rfl (by simp) rfl (by decide) (by decide) rfl rfl rfl rfl rfl ?_ | refine plan_load_open H0 HS 2 rfl (by simp) rfl (by decide) (by decide) rfl rfl rfl rfl rfl ?_ | refine plan_load_open H0 HS 3 rfl (by simp) rfl (by decide) (by decide) rfl rfl rfl rfl rfl ?_ | refine plan_load_open H0 HS 4 rfl (by simp) rfl (by decide) (by decide) rfl rfl rfl rfl rfl ?_ | refine plan_load_open H0 HS 5 rfl (by simp) rfl (by decide) (by decide) rfl rfl rfl rfl rfl ?_ | refine plan_load_open H0 HS 6 rfl (by simp) rfl (by decide) (by decide) rfl rfl rfl rfl rfl ?_ | refine plan_load_open H0 HS 7 rfl (by simp) rfl (by decide) (by decide) rfl rfl rfl rfl rfl ?_
              (try simp only [Act.put, List.setIfInBounds_toArray, List.set_cons_succ, List.set_cons_zero])
              refine plan_pure (v := ?pv18) rfl (by decide) (by decide) rfl ?ph18 ?_
              case ph18 => (intro w; go_simp; try with_reducible rfl)
              (try simp only [Act.put, List.setIfInBounds_toArray, List.set_cons_succ, List.set_cons_zero])
              refine plan_pure (v := ?pv19) rfl (by decide) (by decide) rfl ?ph19 ?_
              case ph19 => (intro w; go_simp; try with_reducible rfl)
              (try simp only [Act.put, List.setIfInBounds_toArray, List.set_cons_succ, List.set_cons_zero])
              refine plan_load_at HS H0.fact.2.2.1 (by simp) H0.fact.2.2.2 rfl (by decide) (by decide) rfl rfl rfl rfl rfl ?_
              (try simp only [Act.put, List.setIfInBounds_toArray, List.set_cons_succ, List.set_cons_zero])
              refine plan_op rfl (by decide) rfl (fun K hK => ?_)
              go_simp
              ((with_reducible refine Calls.mono (hC _ ?_ ?_) ?_); (focus exact H.out.1.1.1.2); (focus exact H.out.1.1.2); rintro _ w ⟨rfl, hE⟩; replace HS := HS.trans hE; replace H := H.step hE; clear hE)
              refine hK _ _ (fun h => absurd h (by decide)) ?_
              clear hK K
              (try simp only [Act.put, List.setIfInBounds_toArray, List.set_cons_succ, List.set_cons_zero])
              refine plan_pure (v := ?pv20) rfl (by decide) (by decide) rfl ?ph20 ?_
              case ph20 => (intro w; go_simp; try with_reducible rfl)
              (try simp only [Act.put, List.setIfInBounds_toArray, List.set_cons_succ, List.set_cons_zero])
              refine plan_nil ?_
              clear H0 HS
              go_wp2
              go_ret
              exact ⟨by rw [hL]; rfl, H.ext⟩
            · rw [Bool.true_and] at hL
              go_wp2_with (first | ((with_reducible refine wpl_runx_d 2 rfl ?_ ?_); (focus exact rfl); refine ⟨_, runs_box H rfl rfl, ?_⟩; clear H; rintro _ w ⟨b2, rfl, hE, H⟩; clear hE) | ((with_reducible refine wpl_runx_d 3 rfl ?_ ?_); (focus exact rfl); refine ⟨_, runs_box H rfl rfl, ?_⟩; clear H; rintro _ w ⟨b3, rfl, hE, H⟩; clear hE) | ((with_reducible refine wpl_runx ?_ ?_); (focus exact rfl); refine ⟨_, runs_load H 0 rfl rfl rfl rfl rfl, ?_⟩; rintro _ _ ⟨rfl, rfl⟩) | ((with_reducible refine wpl_runx ?_ ?_); (focus exact rfl); refine ⟨_, runs_load H 1 rfl rfl rfl rfl rfl, ?_⟩; rintro _ _ ⟨rfl, rfl⟩) | ((with_reducible refine wpl_runx ?_ ?_); (focus exact rfl); refine ⟨_, runs_store H 0 rfl rfl rfl rfl rfl rfl rfl rfl rfl, ?_⟩; clear H; rintro _ w ⟨rfl, hE, H⟩; clear hE) | ((with_reducible refine wpl_runx ?_ ?_); (focus exact rfl); refine ⟨_, runs_store H 1 rfl rfl rfl rfl rfl rfl rfl rfl rfl, ?_⟩; clear H; rintro _ w ⟨rfl, hE, H⟩; clear hE))
              refine wp_region_st H [] [[], [0], [], [0, 1, 2], [0, 1, 2, 3], [], [5], [], [5, 6, 7], [5, 6, 7, 8], [0, 1, 2, 3, 4, 5, 6, 7, 8, 9], [0, 1, 2, 3, 4, 5, 6, 7, 8, 9, 10]] [1, 4, 6, 9] [0, 1, 2, 3, 4, 5, 6, 7, 8, 9, 11] [0, 1, 2, 3, 4, 5, 6, 7, 8, 9, 10, 11] (by kernel_rfl) (by kernel_rfl) (fun d v c a w h => by cases d <;> exact h) ?_
              clear H
              intro w H
              have HS := Ext.refl [] w
              have H0 := H
              refine plan_pure (v := ?pv21) rfl (by decide) (by decide) rfl ?ph21 ?_
              case ph21 => (intro w; go_simp; try with_reducible rfl)
              (try simp only [Act.put, List.setIfInBounds_toArray, List.set_cons_succ, List.set_cons_zero])
              first | refine plan_load_open H0 HS 0 rfl (by simp) rfl (by decide) (by decide) rfl rfl rfl rfl rfl ?_ | refine plan_load_open H0 HS 1 rfl (by simp) rfl (by decide) (by decide) rfl rfl rfl rfl rfl ?_ | refine plan_load_open H0 HS 2 rfl (by simp) rfl (by decide) (by decide) rfl rfl rfl rfl rfl ?_ | refine plan_load_open H0 HS 3 rfl (by simp) rfl (by decide) (by decide) rfl rfl rfl rfl rfl ?_ | refine plan_load_open H0 HS 4 rfl (by simp) rfl (by decide) (by decide) rfl rfl rfl rfl rfl ?_ | refine plan_load_open H0 HS 5 rfl (by simp) rfl (by decide) (by decide) rfl rfl rfl rfl rfl ?_ | refine plan_load_open H0 HS 6 rfl (by simp) rfl (by decide) (by decide) rfl rfl rfl rfl rfl ?_ | refine plan_load_open H0 HS 7 rfl (by simp) rfl (by decide) (by decide) rfl rfl rfl rfl rfl ?_
              (try simp only [Act.put, List.setIfInBounds_toArray, List.set_cons_succ, List.set_cons_zero])
              refine plan_pure (v := ?pv22) rfl (by decide) (by decide) rfl ?ph22 ?_
              case ph22 => (intro w; go_simp; try with_reducible rfl)
              (try simp only [Act.put, List.setIfInBounds_toArray, List.set_cons_succ, List.set_cons_zero])
              refine plan_pure (v := ?pv23) rfl (by decide) (by decide) rfl ?ph23 ?_
              case ph23 => (intro w; go_simp; try with_reducible rfl)
              (try simp only [Act.put, List.setIfInBounds_toArray, List.set_cons_succ, List.set_cons_zero])
              refine plan_load_at HS H0.fact.1.2.2.1 (by simp) H0.fact.1.2.2.2 rfl (by decide) (by decide) rfl rfl rfl rfl rfl ?_
              (try simp only [Act.put, List.setIfInBounds_toArray, List.set_cons_succ, List.set_cons_zero])
              refine plan_pure (v := ?pv24) rfl (by decide) (by decide) rfl ?ph24 ?_
              case ph24 => (intro w; go_simp; try with_reducible rfl)
              (try simp only [Act.put, List.setIfInBounds_toArray, List.set_cons_succ, List.set_cons_zero])
              first | refine plan_load_open H0 HS 0 rfl (by simp) rfl (by decide) (by decide) rfl rfl rfl rfl rfl ?_ | refine plan_load_open H0 HS 1 rfl (by simp) rfl (by decide) (by decide) rfl rfl rfl rfl rfl ?_ | refine plan_load_open H0 HS 2 rfl (by simp) rfl (by decide) (by decide) rfl rfl rfl rfl rfl ?_ | refine plan_load_open H0 HS 3 rfl (by simp) rfl (by decide) (by decide) rfl rfl rfl rfl rfl ?_ | refine plan_load_open H0 HS 4 rfl (by simp) rfl (by decide) (by decide) rfl rfl rfl rfl rfl ?_ | refine plan_load_open H0 HS 5 rfl (by simp) rfl (by decide) (by decide) rfl rfl rfl rfl rfl ?_ | refine plan_load_open H0 HS 6 rfl (by simp) rfl (by decide) (by decide) rfl rfl rfl rfl rfl ?_ | refine plan_load_open H0 HS 7 rfl (by simp) rfl (by decide) (by decide) rfl rfl rfl rfl rfl ?_
              (try simp only [Act.put, List.setIfInBounds_toArray, List.set_cons_succ, List.set_cons_zero])
              refine plan_pure (v := ?pv25) rfl (by decide) (by decide) rfl ?ph25 ?_
              case ph25 => (intro w; go_simp; try with_reducible rfl)
              (try simp only [Act.put, List.setIfInBounds_toArray, List.set_cons_succ, List.set_cons_zero])
              refine plan_pure (v := ?pv26) rfl (by decide) (by decide) rfl ?ph26 ?_
              case ph26 => (intro w; go_simp; try with_reducible rfl)
              (try simp only [Act.put, List.setIfInBounds_toArray, List.set_cons_succ, List.set_cons_zero])
              refine plan_load_at HS H0.fact.2.2.1 (by simp) H0.fact.2.2.2 rfl (by decide) (by decide) rfl rfl rfl rfl rfl ?_
              (try simp only [Act.put, List.setIfInBounds_toArray, List.set_cons_succ, List.set_cons_zero])
              refine plan_op rfl (by decide) rfl (fun K hK => ?_)
              go_simp
              ((with_reducible refine Calls.mono (hC _ ?_ ?_) ?_); (focus exact H.out.1.1.1.2); (focus exact H.out.1.1.2); rintro _ w ⟨rfl, hE⟩; replace HS := HS.trans hE; replace H := H.step hE; clear hE)
              refine hK _ _ (fun h => absurd h (by decide)) ?_
              clear hK K
              (try simp only [Act.put, List.setIfInBounds_toArray, List.set_cons_succ, List.set_cons_zero])
              refine plan_pure (v := ?pv27) rfl (by decide) (by decide) rfl ?ph27 ?_
              case ph27 => (intro w; go_simp; try with_reducible rfl)
              (try simp only [Act.put, List.setIfInBounds_toArray, List.set_cons_succ, List.set_cons_zero])
              refine plan_nil ?_
              clear H0 HS
              go_wp2
              go_roundw
              case rel => exact ⟨j + 1, by omega, by go_num, hL, H.weaken (fun h => h.1.1.1.1) ((AR.stab _ _ _).and (AR.stab _ _ _))⟩
              case measure => simp [intOf]; omega
          · obtain rfl : j = l.length := by omega
            rw [List.drop_length, List.drop_eq_nil_of_le (by have := hl.out; omega)] at hL
            go_wp2_with (first | ((with_reducible refine wpl_runx_d 2 rfl ?_ ?_); (focus exact rfl); refine ⟨_, runs_box H rfl rfl, ?_⟩; clear H; rintro _ w ⟨b2, rfl, hE, H⟩; clear hE) | ((with_reducible refine wpl_runx_d 3 rfl ?_ ?_); (focus exact rfl); refine ⟨_, runs_box H rfl rfl, ?_⟩; clear H; rintro _ w ⟨b3, rfl, hE, H⟩; clear hE) | ((with_reducible refine wpl_runx ?_ ?_); (focus exact rfl); refine ⟨_, runs_load H 0 rfl rfl rfl rfl rfl, ?_⟩; rintro _ _ ⟨rfl, rfl⟩) | ((with_reducible refine wpl_runx ?_ ?_); (focus exact rfl); refine ⟨_, runs_load H 1 rfl rfl rfl rfl rfl, ?_⟩; rintro _ _ ⟨rfl, rfl⟩) | ((with_reducible refine wpl_runx ?_ ?_); (focus exact rfl); refine ⟨_, runs_store H 0 rfl rfl rfl rfl rfl rfl rfl rfl rfl, ?_⟩; clear H; rintro _ w ⟨rfl, hE, H⟩; clear hE) | ((with_reducible refine wpl_runx ?_ ?_); (focus exact rfl); refine ⟨_, runs_store H 1 rfl rfl rfl rfl rfl rfl rfl rfl rfl, ?_⟩; clear H; rintro _ w ⟨rfl, hE, H⟩; clear hE))
            go_ret
            exact ⟨by rw [hL]; rfl, H.ext⟩
      · have el : ((l.length : Int) != (l'.length : Int)) = true := by simp; omega
        rw [likeL_len hl]
        go_enter Try.func32, Try.ntmps32
        go_wp2_with (first | ((with_reducible refine wpl_runx_d 2 rfl ?_ ?_); (focus exact rfl); refine ⟨_, runs_box H rfl rfl, ?_⟩; clear H; rintro _ w ⟨b2, rfl, hE, H⟩; clear hE) | ((with_reducible refine wpl_runx_d 3 rfl ?_ ?_); (focus exact rfl); refine ⟨_, runs_box H rfl rfl, ?_⟩; clear H; rintro _ w ⟨b3, rfl, hE, H⟩; clear hE) | ((with_reducible refine wpl_runx ?_ ?_); (focus exact rfl); refine ⟨_, runs_load H 0 rfl rfl rfl rfl rfl, ?_⟩; rintro _ _ ⟨rfl, rfl⟩) | ((with_reducible refine wpl_runx ?_ ?_); (focus exact rfl); refine ⟨_, runs_load H 1 rfl rfl rfl rfl rfl, ?_⟩; rintro _ _ ⟨rfl, rfl⟩) | ((with_reducible refine wpl_runx ?_ ?_); (focus exact rfl); refine ⟨_, runs_store H 0 rfl rfl rfl rfl rfl rfl rfl rfl rfl, ?_⟩; clear H; rintro _ w ⟨rfl, hE, H⟩; clear hE) | ((with_reducible refine wpl_runx ?_ ?_); (focus exact rfl); refine ⟨_, runs_store H 1 rfl rfl rfl rfl rfl rfl rfl rfl rfl, ?_⟩; clear H; rintro _ w ⟨rfl, hE, H⟩; clear hE))
        go_ret
        exact ⟨rfl, H.ext⟩
  · rw [if_pos hk]
    have ek : (k != k') = true := by simpa using hk
    go_enter Try.func32, Try.ntmps32
    go_wp2_with (first | ((with_reducible refine wpl_runx_d 2 rfl ?_ ?_); (focus exact rfl); refine ⟨_, runs_box H rfl rfl, ?_⟩; clear H; rintro _ w ⟨b2, rfl, hE, H⟩; clear hE) | ((with_reducible refine wpl_runx_d 3 rfl ?_ ?_); (focus exact rfl); refine ⟨_, runs_box H rfl rfl, ?_⟩; clear H; rintro _ w ⟨b3, rfl, hE, H⟩; clear hE) | ((with_reducible refine wpl_runx ?_ ?_); (focus exact rfl); refine ⟨_, runs_load H 0 rfl rfl rfl rfl rfl, ?_⟩; rintro _ _ ⟨rfl, rfl⟩) | ((with_reducible refine wpl_runx ?_ ?_); (focus exact rfl); refine ⟨_, runs_load H 1 rfl rfl rfl rfl rfl, ?_⟩; rintro _ _ ⟨rfl, rfl⟩) | ((with_reducible refine wpl_runx ?_ ?_); (focus exact rfl); refine ⟨_, runs_store H 0 rfl rfl rfl rfl rfl rfl rfl rfl rfl, ?_⟩; clear H; rintro _ w ⟨rfl, hE, H⟩; clear hE) | ((with_reducible refine wpl_runx ?_ ?_); (focus exact rfl); refine ⟨_, runs_store H 1 rfl rfl rfl rfl rfl rfl rfl rfl rfl, ?_⟩; clear H; rintro _ w ⟨rfl, hE, H⟩; clear hE))
    go_ret
    exact ⟨rfl, H.ext⟩

end Go.Proofs.Ythiionkikammkaa
