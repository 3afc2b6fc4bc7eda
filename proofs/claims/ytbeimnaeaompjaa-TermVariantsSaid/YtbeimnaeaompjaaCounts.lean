/- TermCounts: the walk and what it says of trees. -/
import Derived.Test.YtbeimnaeaompjaaLit
import Derived.Test.YtbeimnaeaompjaaLight
import Derived.Test.YtbeimnaeaompjaaOpen
import Derived.Test.YtbeimnaeaompjaaPlain
namespace Go.Proofs.Ytbeimnaeaompjaa
open Go.RowKit
set_option linter.unusedVariables false
set_option linter.unusedSimpArgs false
set_option maxHeartbeats 2000000

theorem nL_snoc (t : Tm) : ∀ l : List Tm, nL (l ++ [t]) = nL l + nT t
  | [] => by simp [nL]
  | a :: l => by rw [List.cons_append, nL, nL, nL_snoc t l]; omega
theorem hL_snoc (t : Tm) : ∀ l : List Tm, hL (l ++ [t]) = max (hL l) (hT t)
  | [] => by simp [hL]
  | a :: l => by rw [List.cons_append, hL, hL, hL_snoc t l]; omega
theorem okL_snoc (t : Tm) : ∀ l : List Tm, okL l → okT t → okL (l ++ [t])
  | [], _, h => by rw [List.nil_append]; unfold okL; exact ⟨h, by unfold okL; trivial⟩
  | a :: l, h, ht => by rw [List.cons_append]; unfold okL at h ⊢; exact ⟨h.1, okL_snoc t l h.2 ht⟩
theorem take_snoc {l : List Tm} {j : Nat} (h : j < l.length) : l.take (j + 1) = l.take j ++ [l[j]] := by rw [List.take_succ_eq_append_getElem h]
/-- A compound of good arguments. -/
theorem comp_ok {s : ByteArray} {l : List Tm} (hs : s.size ≤ 50) (h0 : l.length ≠ 0) (h8 : l.length ≤ 8) (ho : okL l) (hn : nL l ≤ 1600) (hh : hL l ≤ 300) :
    mayE (.mk 5 s 0 0 0 l) = 0 ∧ nodesE (.mk 5 s 0 0 0 l) = 1 + nL l ∧ depthE (.mk 5 s 0 0 0 l) = 1 + hL l := by
  have e1 : nT (.mk 5 s 0 0 0 l) = 1 + nL l := by rw [nT, if_pos rfl]
  have e2 : hT (.mk 5 s 0 0 0 l) = 1 + hL l := by rw [hT, if_pos rfl]
  have hm : mayE (.mk 5 s 0 0 0 l) = 0 := mayE_ok.2 ⟨by
    unfold okT
    refine ⟨?_, fun _ => ho⟩
    simp only [oneE]
    rw [if_neg (by decide), if_neg (by decide), if_pos trivial, if_neg h0, if_neg (by omega), if_neg (by omega)], by omega, by omega⟩
  refine ⟨hm, ?_, ?_⟩
  · rw [nodesE_ok hm, e1]; simp
  · rw [depthE_ok hm, e2]; simp

theorem counts_spec (s : ByteArray) (A : Option Addr) (c : Nat) (l : List Tm) (w0 : World) (hsz : s.size ≤ 140737488351232) (hA : AR A c l [] w0) (hl : l.length ≤ maxLen) (hw : wfL l) :
    Calls Try.prog 4 #[.string s, .slice A l.length c] w0 (RetV w0 (.bool true)) := by
  have H := St.start (M := []) (by simp) (AR.stab A c l) hA
  clear hA hw
  have hl' := hl
  unfold maxLen at hl'
  by_cases h0 : l.length = 0
  · have : l = [] := List.eq_nil_of_length_eq_zero h0
    subst this
    go_enter Try.func4, Try.ntmps4
    go_wp2_with (first | ((with_reducible refine wpl_runx_d 8 rfl ?_ ?_); (focus exact rfl); refine ⟨_, runs_alloc H rfl rfl rfl, ?_⟩; clear H; rintro _ w ⟨b8, rfl, hE, H⟩; clear hE) | ((with_reducible refine wpl_runx_d 9 rfl ?_ ?_); (focus exact rfl); refine ⟨_, runs_alloc H rfl rfl rfl, ?_⟩; clear H; rintro _ w ⟨b9, rfl, hE, H⟩; clear hE) | ((with_reducible refine wpl_runx ?_ ?_); (focus exact rfl); refine ⟨_, runs_load H 0 rfl rfl rfl rfl rfl, ?_⟩; rintro _ _ ⟨rfl, rfl⟩) | ((with_reducible refine wpl_runx ?_ ?_); (focus exact rfl); refine ⟨_, runs_load H 1 rfl rfl rfl rfl rfl, ?_⟩; rintro _ _ ⟨rfl, rfl⟩) | ((with_reducible refine wpl_runx ?_ ?_); (focus exact rfl); refine ⟨_, runs_store H 0 rfl rfl rfl rfl rfl rfl rfl rfl rfl, ?_⟩; clear H; rintro _ w ⟨rfl, hE, H⟩; clear hE) | ((with_reducible refine wpl_runx ?_ ?_); (focus exact rfl); refine ⟨_, runs_store H 1 rfl rfl rfl rfl rfl rfl rfl rfl rfl, ?_⟩; clear H; rintro _ w ⟨rfl, hE, H⟩; clear hE) | (refine (awake_spec _).mono ?_; rintro _ w ⟨rfl, hE⟩; replace H := H.step hE; clear hE))
    go_ret
    exact ⟨rfl, H.ext⟩
  have e0 : ((l.length : Int) == 0) = false := by simp; intro h; simp [h] at h0
  by_cases h8 : 8 < l.length
  · have e8 : decide ((8 : Int) < (l.length : Int)) = true := by simp; omega
    go_enter Try.func4, Try.ntmps4
    go_wp2_with (first | ((with_reducible refine wpl_runx_d 8 rfl ?_ ?_); (focus exact rfl); refine ⟨_, runs_alloc H rfl rfl rfl, ?_⟩; clear H; rintro _ w ⟨b8, rfl, hE, H⟩; clear hE) | ((with_reducible refine wpl_runx_d 9 rfl ?_ ?_); (focus exact rfl); refine ⟨_, runs_alloc H rfl rfl rfl, ?_⟩; clear H; rintro _ w ⟨b9, rfl, hE, H⟩; clear hE) | ((with_reducible refine wpl_runx ?_ ?_); (focus exact rfl); refine ⟨_, runs_load H 0 rfl rfl rfl rfl rfl, ?_⟩; rintro _ _ ⟨rfl, rfl⟩) | ((with_reducible refine wpl_runx ?_ ?_); (focus exact rfl); refine ⟨_, runs_load H 1 rfl rfl rfl rfl rfl, ?_⟩; rintro _ _ ⟨rfl, rfl⟩) | ((with_reducible refine wpl_runx ?_ ?_); (focus exact rfl); refine ⟨_, runs_store H 0 rfl rfl rfl rfl rfl rfl rfl rfl rfl, ?_⟩; clear H; rintro _ w ⟨rfl, hE, H⟩; clear hE) | ((with_reducible refine wpl_runx ?_ ?_); (focus exact rfl); refine ⟨_, runs_store H 1 rfl rfl rfl rfl rfl rfl rfl rfl rfl, ?_⟩; clear H; rintro _ w ⟨rfl, hE, H⟩; clear hE) | (refine (awake_spec _).mono ?_; rintro _ w ⟨rfl, hE⟩; replace H := H.step hE; clear hE))
    go_ret
    exact ⟨rfl, H.ext⟩
  have e8 : decide ((8 : Int) < (l.length : Int)) = false := by simp; omega
  by_cases h50 : 50 < s.size
  · have e50 : decide ((50 : Int) < (s.size : Int)) = true := by simp; omega
    go_enter Try.func4, Try.ntmps4
    go_wp2_with (first | ((with_reducible refine wpl_runx_d 8 rfl ?_ ?_); (focus exact rfl); refine ⟨_, runs_alloc H rfl rfl rfl, ?_⟩; clear H; rintro _ w ⟨b8, rfl, hE, H⟩; clear hE) | ((with_reducible refine wpl_runx_d 9 rfl ?_ ?_); (focus exact rfl); refine ⟨_, runs_alloc H rfl rfl rfl, ?_⟩; clear H; rintro _ w ⟨b9, rfl, hE, H⟩; clear hE) | ((with_reducible refine wpl_runx ?_ ?_); (focus exact rfl); refine ⟨_, runs_load H 0 rfl rfl rfl rfl rfl, ?_⟩; rintro _ _ ⟨rfl, rfl⟩) | ((with_reducible refine wpl_runx ?_ ?_); (focus exact rfl); refine ⟨_, runs_load H 1 rfl rfl rfl rfl rfl, ?_⟩; rintro _ _ ⟨rfl, rfl⟩) | ((with_reducible refine wpl_runx ?_ ?_); (focus exact rfl); refine ⟨_, runs_store H 0 rfl rfl rfl rfl rfl rfl rfl rfl rfl, ?_⟩; clear H; rintro _ w ⟨rfl, hE, H⟩; clear hE) | ((with_reducible refine wpl_runx ?_ ?_); (focus exact rfl); refine ⟨_, runs_store H 1 rfl rfl rfl rfl rfl rfl rfl rfl rfl, ?_⟩; clear H; rintro _ w ⟨rfl, hE, H⟩; clear hE) | (refine (awake_spec _).mono ?_; rintro _ w ⟨rfl, hE⟩; replace H := H.step hE; clear hE))
    go_ret
    exact ⟨rfl, H.ext⟩
  have e50 : decide ((50 : Int) < (s.size : Int)) = false := by simp; omega
  obtain ⟨B, hB⟩ : ∃ B, LightE l 0 4000 = B := ⟨_, rfl⟩
  have hLight : ∀ w, AR A c l [] w → Calls Try.prog 17 #[.slice A l.length c] w (RetV w (.bool B)) := fun w h => by rw [← hB]; exact Light_spec l A c w hl h
  cases B
  · go_enter Try.func4, Try.ntmps4
    go_wp2_with (first | ((with_reducible refine wpl_runx_d 8 rfl ?_ ?_); (focus exact rfl); refine ⟨_, runs_alloc H rfl rfl rfl, ?_⟩; clear H; rintro _ w ⟨b8, rfl, hE, H⟩; clear hE) | ((with_reducible refine wpl_runx_d 9 rfl ?_ ?_); (focus exact rfl); refine ⟨_, runs_alloc H rfl rfl rfl, ?_⟩; clear H; rintro _ w ⟨b9, rfl, hE, H⟩; clear hE) | ((with_reducible refine wpl_runx ?_ ?_); (focus exact rfl); refine ⟨_, runs_load H 0 rfl rfl rfl rfl rfl, ?_⟩; rintro _ _ ⟨rfl, rfl⟩) | ((with_reducible refine wpl_runx ?_ ?_); (focus exact rfl); refine ⟨_, runs_load H 1 rfl rfl rfl rfl rfl, ?_⟩; rintro _ _ ⟨rfl, rfl⟩) | ((with_reducible refine wpl_runx ?_ ?_); (focus exact rfl); refine ⟨_, runs_store H 0 rfl rfl rfl rfl rfl rfl rfl rfl rfl, ?_⟩; clear H; rintro _ w ⟨rfl, hE, H⟩; clear hE) | ((with_reducible refine wpl_runx ?_ ?_); (focus exact rfl); refine ⟨_, runs_store H 1 rfl rfl rfl rfl rfl rfl rfl rfl rfl, ?_⟩; clear H; rintro _ w ⟨rfl, hE, H⟩; clear hE) | (refine (hLight _ H.out).mono ?_; rintro _ w ⟨rfl, hE⟩; replace H := H.step hE; clear hE) | (refine (awake_spec _).mono ?_; rintro _ w ⟨rfl, hE⟩; replace H := H.step hE; clear hE))
    go_ret
    exact ⟨rfl, H.ext⟩
  go_enter Try.func4, Try.ntmps4
  go_wp2_with (first | ((with_reducible refine wpl_runx_d 8 rfl ?_ ?_); (focus exact rfl); refine ⟨_, runs_alloc H rfl rfl rfl, ?_⟩; clear H; rintro _ w ⟨b8, rfl, hE, H⟩; clear hE) | ((with_reducible refine wpl_runx_d 9 rfl ?_ ?_); (focus exact rfl); refine ⟨_, runs_alloc H rfl rfl rfl, ?_⟩; clear H; rintro _ w ⟨b9, rfl, hE, H⟩; clear hE) | ((with_reducible refine wpl_runx ?_ ?_); (focus exact rfl); refine ⟨_, runs_load H 0 rfl rfl rfl rfl rfl, ?_⟩; rintro _ _ ⟨rfl, rfl⟩) | ((with_reducible refine wpl_runx ?_ ?_); (focus exact rfl); refine ⟨_, runs_load H 1 rfl rfl rfl rfl rfl, ?_⟩; rintro _ _ ⟨rfl, rfl⟩) | ((with_reducible refine wpl_runx ?_ ?_); (focus exact rfl); refine ⟨_, runs_store H 0 rfl rfl rfl rfl rfl rfl rfl rfl rfl, ?_⟩; clear H; rintro _ w ⟨rfl, hE, H⟩; clear hE) | ((with_reducible refine wpl_runx ?_ ?_); (focus exact rfl); refine ⟨_, runs_store H 1 rfl rfl rfl rfl rfl rfl rfl rfl rfl, ?_⟩; clear H; rintro _ w ⟨rfl, hE, H⟩; clear hE) | (refine (hLight _ H.out).mono ?_; rintro _ w ⟨rfl, hE⟩; replace H := H.step hE; clear hE))
  go_loopw [5, 6, 31] (fun nv dv iv wr => ∃ (j n d : Nat), j ≤ l.length ∧ nv = .int .i64 n ∧ dv = .int .i64 d ∧ iv = .int .i64 j ∧ n = 1 + nL (l.take j) ∧ d = hL (l.take j) ∧ okL (l.take j) ∧ n ≤ 1 + 200 * j ∧ d ≤ 300 ∧ St [] [] w0 wr [] (AR A c l)) (fun _ _ iv _ => l.length - (intOf iv).toNat)
  case atStart => exact ⟨0, 1, 0, Nat.zero_le _, rfl, rfl, rfl, by simp [nL], by simp [hL], by simp [okL], by omega, by omega, H⟩
  case round =>
    clear H
    obtain ⟨j, n, d, hj, rfl, rfl, rfl, hn, hd, hok, hnb, hdb, H⟩ := hrel
    by_cases hlt : j < l.length
    · obtain ⟨b2, o2, A1, c1, hAe, hbn, hbl, hcs, hA1⟩ := H.fact.at j hlt
      subst hAe
      replace H := H.add hA1 (AR.stab _ _ _)
      clear hA1 hbn hbl
      have HC := Lib.hid hcs; clear hcs
      by_cases hm : mayE l[j] = 0
      · have em : (mayE l[j] != 0) = false := by simp [hm]
        have hnn := nodesE_ok hm
        have hdd := depthE_ok hm
        obtain ⟨N, hN⟩ : ∃ N : Nat, nT l[j] = N := ⟨_, rfl⟩
        obtain ⟨D, hD⟩ : ∃ D : Nat, hT l[j] = D := ⟨_, rfl⟩
        have hMay : ∀ A c w, AR A c (l[j]).args [] w → Calls Try.prog 13 #[.agg #[.int .i64 (l[j]).kind, .string (l[j]).name, .int .i64 (l[j]).int, .int .u64 (l[j]).re, .int .u64 (l[j]).im, .slice A (l[j]).args.length c]] w (RetV w (.int .i64 0)) := fun A c w h => by rw [← hm]; exact may_spec _ A c w h
        have hNodes : ∀ A c w, AR A c (l[j]).args [] w → Calls Try.prog 16 #[.agg #[.int .i64 (l[j]).kind, .string (l[j]).name, .int .i64 (l[j]).int, .int .u64 (l[j]).re, .int .u64 (l[j]).im, .slice A (l[j]).args.length c]] w (RetV w (.int .i64 N)) := fun A c w h => by rw [← hN, ← hnn]; exact nodes_spec _ A c w h
        have hDepth : ∀ A c w, AR A c (l[j]).args [] w → Calls Try.prog 18 #[.agg #[.int .i64 (l[j]).kind, .string (l[j]).name, .int .i64 (l[j]).int, .int .u64 (l[j]).re, .int .u64 (l[j]).im, .slice A (l[j]).args.length c]] w (RetV w (.int .i64 D)) := fun A c w h => by rw [← hD, ← hdd]; exact depth_spec _ A c w h
        by_cases h200 : 200 < N
        · have e200 : decide ((200 : Int) < (N : Int)) = true := by simp; omega
          go_wp2_with (first | ((with_reducible refine wpl_runx_d 8 rfl ?_ ?_); (focus exact rfl); refine ⟨_, runs_alloc H rfl rfl rfl, ?_⟩; clear H; rintro _ w ⟨b8, rfl, hE, H⟩; clear hE) | ((with_reducible refine wpl_runx_d 9 rfl ?_ ?_); (focus exact rfl); refine ⟨_, runs_alloc H rfl rfl rfl, ?_⟩; clear H; rintro _ w ⟨b9, rfl, hE, H⟩; clear hE) | ((with_reducible refine wpl_runx ?_ ?_); (focus exact rfl); refine ⟨_, runs_load H 0 rfl rfl rfl rfl rfl, ?_⟩; rintro _ _ ⟨rfl, rfl⟩) | ((with_reducible refine wpl_runx ?_ ?_); (focus exact rfl); refine ⟨_, runs_load H 1 rfl rfl rfl rfl rfl, ?_⟩; rintro _ _ ⟨rfl, rfl⟩) | ((with_reducible refine wpl_runx ?_ ?_); (focus exact rfl); refine ⟨_, runs_load H 2 rfl rfl rfl rfl rfl, ?_⟩; rintro _ _ ⟨rfl, rfl⟩) | ((with_reducible refine wpl_runx ?_ ?_); (focus exact rfl); refine ⟨_, runs_store H 0 rfl rfl rfl rfl rfl rfl rfl rfl rfl, ?_⟩; clear H; rintro _ w ⟨rfl, hE, H⟩; clear hE) | ((with_reducible refine wpl_runx ?_ ?_); (focus exact rfl); refine ⟨_, runs_store H 1 rfl rfl rfl rfl rfl rfl rfl rfl rfl, ?_⟩; clear H; rintro _ w ⟨rfl, hE, H⟩; clear hE) | ((with_reducible refine wpl_runx ?_ ?_); (focus exact rfl); refine ⟨_, runs_store H 2 rfl rfl rfl rfl rfl rfl rfl rfl rfl, ?_⟩; clear H; rintro _ w ⟨rfl, hE, H⟩; clear hE) | ((with_reducible refine wpl_runx ?_ ?_); (focus exact rfl); refine ⟨_, runs_load_at rfl rfl rfl HC.out rfl, ?_⟩; rintro _ _ ⟨rfl, rfl⟩) | (refine (hMay _ _ _ H.out.2).mono ?_; rintro _ w ⟨rfl, hE⟩; replace H := H.step hE; clear hE) | (refine (hNodes _ _ _ H.out.2).mono ?_; rintro _ w ⟨rfl, hE⟩; replace H := H.step hE; clear hE) | (refine (hDepth _ _ _ H.out.2).mono ?_; rintro _ w ⟨rfl, hE⟩; replace H := H.step hE; clear hE) | (refine (awake_spec _).mono ?_; rintro _ w ⟨rfl, hE⟩; replace H := H.step hE; clear hE))
          go_ret
          exact ⟨rfl, H.ext⟩
        have e200 : decide ((200 : Int) < (N : Int)) = false := by simp; omega
        by_cases h300 : 300 < D
        · have e300 : decide ((300 : Int) < (D : Int)) = true := by simp; omega
          go_wp2_with (first | ((with_reducible refine wpl_runx_d 8 rfl ?_ ?_); (focus exact rfl); refine ⟨_, runs_alloc H rfl rfl rfl, ?_⟩; clear H; rintro _ w ⟨b8, rfl, hE, H⟩; clear hE) | ((with_reducible refine wpl_runx_d 9 rfl ?_ ?_); (focus exact rfl); refine ⟨_, runs_alloc H rfl rfl rfl, ?_⟩; clear H; rintro _ w ⟨b9, rfl, hE, H⟩; clear hE) | ((with_reducible refine wpl_runx ?_ ?_); (focus exact rfl); refine ⟨_, runs_load H 0 rfl rfl rfl rfl rfl, ?_⟩; rintro _ _ ⟨rfl, rfl⟩) | ((with_reducible refine wpl_runx ?_ ?_); (focus exact rfl); refine ⟨_, runs_load H 1 rfl rfl rfl rfl rfl, ?_⟩; rintro _ _ ⟨rfl, rfl⟩) | ((with_reducible refine wpl_runx ?_ ?_); (focus exact rfl); refine ⟨_, runs_load H 2 rfl rfl rfl rfl rfl, ?_⟩; rintro _ _ ⟨rfl, rfl⟩) | ((with_reducible refine wpl_runx ?_ ?_); (focus exact rfl); refine ⟨_, runs_store H 0 rfl rfl rfl rfl rfl rfl rfl rfl rfl, ?_⟩; clear H; rintro _ w ⟨rfl, hE, H⟩; clear hE) | ((with_reducible refine wpl_runx ?_ ?_); (focus exact rfl); refine ⟨_, runs_store H 1 rfl rfl rfl rfl rfl rfl rfl rfl rfl, ?_⟩; clear H; rintro _ w ⟨rfl, hE, H⟩; clear hE) | ((with_reducible refine wpl_runx ?_ ?_); (focus exact rfl); refine ⟨_, runs_store H 2 rfl rfl rfl rfl rfl rfl rfl rfl rfl, ?_⟩; clear H; rintro _ w ⟨rfl, hE, H⟩; clear hE) | ((with_reducible refine wpl_runx ?_ ?_); (focus exact rfl); refine ⟨_, runs_load_at rfl rfl rfl HC.out rfl, ?_⟩; rintro _ _ ⟨rfl, rfl⟩) | (refine (hMay _ _ _ H.out.2).mono ?_; rintro _ w ⟨rfl, hE⟩; replace H := H.step hE; clear hE) | (refine (hNodes _ _ _ H.out.2).mono ?_; rintro _ w ⟨rfl, hE⟩; replace H := H.step hE; clear hE) | (refine (hDepth _ _ _ H.out.2).mono ?_; rintro _ w ⟨rfl, hE⟩; replace H := H.step hE; clear hE) | (refine (awake_spec _).mono ?_; rintro _ w ⟨rfl, hE⟩; replace H := H.step hE; clear hE))
          go_ret
          exact ⟨rfl, H.ext⟩
        have e300 : decide ((300 : Int) < (D : Int)) = false := by simp; omega
        go_wp2_with (first | ((with_reducible refine wpl_runx_d 8 rfl ?_ ?_); (focus exact rfl); refine ⟨_, runs_alloc H rfl rfl rfl, ?_⟩; clear H; rintro _ w ⟨b8, rfl, hE, H⟩; clear hE) | ((with_reducible refine wpl_runx_d 9 rfl ?_ ?_); (focus exact rfl); refine ⟨_, runs_alloc H rfl rfl rfl, ?_⟩; clear H; rintro _ w ⟨b9, rfl, hE, H⟩; clear hE) | ((with_reducible refine wpl_runx ?_ ?_); (focus exact rfl); refine ⟨_, runs_load H 0 rfl rfl rfl rfl rfl, ?_⟩; rintro _ _ ⟨rfl, rfl⟩) | ((with_reducible refine wpl_runx ?_ ?_); (focus exact rfl); refine ⟨_, runs_load H 1 rfl rfl rfl rfl rfl, ?_⟩; rintro _ _ ⟨rfl, rfl⟩) | ((with_reducible refine wpl_runx ?_ ?_); (focus exact rfl); refine ⟨_, runs_load H 2 rfl rfl rfl rfl rfl, ?_⟩; rintro _ _ ⟨rfl, rfl⟩) | ((with_reducible refine wpl_runx ?_ ?_); (focus exact rfl); refine ⟨_, runs_store H 0 rfl rfl rfl rfl rfl rfl rfl rfl rfl, ?_⟩; clear H; rintro _ w ⟨rfl, hE, H⟩; clear hE) | ((with_reducible refine wpl_runx ?_ ?_); (focus exact rfl); refine ⟨_, runs_store H 1 rfl rfl rfl rfl rfl rfl rfl rfl rfl, ?_⟩; clear H; rintro _ w ⟨rfl, hE, H⟩; clear hE) | ((with_reducible refine wpl_runx ?_ ?_); (focus exact rfl); refine ⟨_, runs_store H 2 rfl rfl rfl rfl rfl rfl rfl rfl rfl, ?_⟩; clear H; rintro _ w ⟨rfl, hE, H⟩; clear hE) | ((with_reducible refine wpl_runx ?_ ?_); (focus exact rfl); refine ⟨_, runs_load_at rfl rfl rfl HC.out rfl, ?_⟩; rintro _ _ ⟨rfl, rfl⟩) | (refine (hMay _ _ _ H.out.2).mono ?_; rintro _ w ⟨rfl, hE⟩; replace H := H.step hE; clear hE) | (refine (hNodes _ _ _ H.out.2).mono ?_; rintro _ w ⟨rfl, hE⟩; replace H := H.step hE; clear hE) | (refine (hDepth _ _ _ H.out.2).mono ?_; rintro _ w ⟨rfl, hE⟩; replace H := H.step hE; clear hE))
        clear HC
        go_roundw
        case rel =>
          refine ⟨j + 1, 1 + nL (l.take j) + N, max (hL (l.take j)) D, by omega, by go_num, by congr 1; split <;> omega, by go_num, ?_, ?_, ?_, by omega, by omega, (H.drop 0 rfl).weaken (fun h => h.1) (AR.stab _ _ _)⟩
          · rw [take_snoc hlt, nL_snoc, hN]; omega
          · rw [take_snoc hlt, hL_snoc, hD]
          · rw [take_snoc hlt]; exact okL_snoc _ _ hok (mayE_ok.1 hm).1
        case measure => simp [intOf]; omega
      · have em : (mayE l[j] != 0) = true := by simpa using hm
        go_wp2_with (first | ((with_reducible refine wpl_runx_d 8 rfl ?_ ?_); (focus exact rfl); refine ⟨_, runs_alloc H rfl rfl rfl, ?_⟩; clear H; rintro _ w ⟨b8, rfl, hE, H⟩; clear hE) | ((with_reducible refine wpl_runx_d 9 rfl ?_ ?_); (focus exact rfl); refine ⟨_, runs_alloc H rfl rfl rfl, ?_⟩; clear H; rintro _ w ⟨b9, rfl, hE, H⟩; clear hE) | ((with_reducible refine wpl_runx ?_ ?_); (focus exact rfl); refine ⟨_, runs_load H 0 rfl rfl rfl rfl rfl, ?_⟩; rintro _ _ ⟨rfl, rfl⟩) | ((with_reducible refine wpl_runx ?_ ?_); (focus exact rfl); refine ⟨_, runs_load H 1 rfl rfl rfl rfl rfl, ?_⟩; rintro _ _ ⟨rfl, rfl⟩) | ((with_reducible refine wpl_runx ?_ ?_); (focus exact rfl); refine ⟨_, runs_load H 2 rfl rfl rfl rfl rfl, ?_⟩; rintro _ _ ⟨rfl, rfl⟩) | ((with_reducible refine wpl_runx ?_ ?_); (focus exact rfl); refine ⟨_, runs_store H 0 rfl rfl rfl rfl rfl rfl rfl rfl rfl, ?_⟩; clear H; rintro _ w ⟨rfl, hE, H⟩; clear hE) | ((with_reducible refine wpl_runx ?_ ?_); (focus exact rfl); refine ⟨_, runs_store H 1 rfl rfl rfl rfl rfl rfl rfl rfl rfl, ?_⟩; clear H; rintro _ w ⟨rfl, hE, H⟩; clear hE) | ((with_reducible refine wpl_runx ?_ ?_); (focus exact rfl); refine ⟨_, runs_store H 2 rfl rfl rfl rfl rfl rfl rfl rfl rfl, ?_⟩; clear H; rintro _ w ⟨rfl, hE, H⟩; clear hE) | ((with_reducible refine wpl_runx ?_ ?_); (focus exact rfl); refine ⟨_, runs_load_at rfl rfl rfl HC.out rfl, ?_⟩; rintro _ _ ⟨rfl, rfl⟩) | (refine (may_spec _ _ _ _ H.out.2).mono ?_; rintro _ w ⟨rfl, hE⟩; replace H := H.step hE; clear hE) | (refine (awake_spec _).mono ?_; rintro _ w ⟨rfl, hE⟩; replace H := H.step hE; clear hE))
        go_ret
        exact ⟨rfl, H.ext⟩
    · obtain rfl : j = l.length := by omega
      rw [List.take_length] at hn hd hok
      obtain ⟨m1, m2, m3⟩ := comp_ok (s := s) (by omega) h0 (by omega) hok (by omega) (by omega)
      have hMay : ∀ A c w, AR A c l [] w → Calls Try.prog 13 #[.agg #[.int .i64 (Tm.mk 5 s 0 0 0 l).kind, .string (Tm.mk 5 s 0 0 0 l).name, .int .i64 (Tm.mk 5 s 0 0 0 l).int, .int .u64 (Tm.mk 5 s 0 0 0 l).re, .int .u64 (Tm.mk 5 s 0 0 0 l).im, .slice A (Tm.mk 5 s 0 0 0 l).args.length c]] w (RetV w (.int .i64 0)) := fun A c w h => by have := may_spec (Tm.mk 5 s 0 0 0 l) A c w h; rw [m1] at this; exact this
      have hNodes : ∀ A c w, AR A c l [] w → Calls Try.prog 16 #[.agg #[.int .i64 (Tm.mk 5 s 0 0 0 l).kind, .string (Tm.mk 5 s 0 0 0 l).name, .int .i64 (Tm.mk 5 s 0 0 0 l).int, .int .u64 (Tm.mk 5 s 0 0 0 l).re, .int .u64 (Tm.mk 5 s 0 0 0 l).im, .slice A (Tm.mk 5 s 0 0 0 l).args.length c]] w (RetV w (.int .i64 n)) := fun A c w h => by have := nodes_spec (Tm.mk 5 s 0 0 0 l) A c w h; rw [m2] at this; rw [hn]; simpa using this
      have hDepth : ∀ A c w, AR A c l [] w → Calls Try.prog 18 #[.agg #[.int .i64 (Tm.mk 5 s 0 0 0 l).kind, .string (Tm.mk 5 s 0 0 0 l).name, .int .i64 (Tm.mk 5 s 0 0 0 l).int, .int .u64 (Tm.mk 5 s 0 0 0 l).re, .int .u64 (Tm.mk 5 s 0 0 0 l).im, .slice A (Tm.mk 5 s 0 0 0 l).args.length c]] w (RetV w (.int .i64 (d + 1))) := fun A c w h => by have := depth_spec (Tm.mk 5 s 0 0 0 l) A c w h; rw [m3] at this; rw [hd]; rwa [Int.add_comm] at this
      go_wp2_with (first | ((with_reducible refine wpl_runx_d 8 rfl ?_ ?_); (focus exact rfl); refine ⟨_, runs_alloc H rfl rfl rfl, ?_⟩; clear H; rintro _ w ⟨b8, rfl, hE, H⟩; clear hE) | ((with_reducible refine wpl_runx_d 9 rfl ?_ ?_); (focus exact rfl); refine ⟨_, runs_alloc H rfl rfl rfl, ?_⟩; clear H; rintro _ w ⟨b9, rfl, hE, H⟩; clear hE) | ((with_reducible refine wpl_runx ?_ ?_); (focus exact rfl); refine ⟨_, runs_load H 0 rfl rfl rfl rfl rfl, ?_⟩; rintro _ _ ⟨rfl, rfl⟩) | ((with_reducible refine wpl_runx ?_ ?_); (focus exact rfl); refine ⟨_, runs_load H 1 rfl rfl rfl rfl rfl, ?_⟩; rintro _ _ ⟨rfl, rfl⟩) | ((with_reducible refine wpl_runx ?_ ?_); (focus exact rfl); refine ⟨_, runs_store H 0 rfl rfl rfl rfl rfl rfl rfl rfl rfl, ?_⟩; clear H; rintro _ w ⟨rfl, hE, H⟩; clear hE) | ((with_reducible refine wpl_runx ?_ ?_); (focus exact rfl); refine ⟨_, runs_store H 1 rfl rfl rfl rfl rfl rfl rfl rfl rfl, ?_⟩; clear H; rintro _ w ⟨rfl, hE, H⟩; clear hE) | (refine (comp_spec _ _ _ l _ _ H.ltAll H.fact).mono ?_; rintro _ w ⟨A2, c2, rfl, hA2, hE⟩; replace H := ((H.step hE).add hA2 (AR.stab _ _ _)).weaken (fun h => h.2) (AR.stab _ _ _); clear hE hA2) | (refine (hMay _ _ _ H.out).mono ?_; rintro _ w ⟨rfl, hE⟩; replace H := H.step hE; clear hE) | (refine (hNodes _ _ _ H.out).mono ?_; rintro _ w ⟨rfl, hE⟩; replace H := H.step hE; clear hE) | (refine (hDepth _ _ _ H.out).mono ?_; rintro _ w ⟨rfl, hE⟩; replace H := H.step hE; clear hE) | (refine (awake_spec _).mono ?_; rintro _ w ⟨rfl, hE⟩; replace H := H.step hE; clear hE))
      go_ret
      exact ⟨rfl, H.ext⟩
end Go.Proofs.Ytbeimnaeaompjaa
