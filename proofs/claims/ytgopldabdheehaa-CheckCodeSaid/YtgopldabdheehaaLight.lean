/- Walks: light, Light. -/
import Derived.Test.YtgopldabdheehaaW1
import Derived.Test.YtgopldabdheehaaMore
namespace Go.Proofs.Ytgopldabdheehaa
open Go.RowKit
set_option linter.unusedVariables false
set_option linter.unusedSimpArgs false
set_option maxRecDepth 20000
set_option maxHeartbeats 2000000

mutual
/-- How many nodes may still come; below 0: none. -/
def lightE : Tm → Int → Int → Int
  | .mk k s n r i l, d, q => if q < 1 ∨ 700 < d ∨ 400 < s.size ∨ 60 < l.length then -1 else lightL l (d + 1) (q - 1)
def lightL : List Tm → Int → Int → Int
  | [], _, q => q
  | t :: ts, d, q => if lightE t d q < 0 then -1 else lightL ts d (lightE t d q)
end
/-- Of several terms, from the i-th on. -/
def LightE : List Tm → Nat → Int → Bool
  | [], _, _ => true
  | t :: ts, i, q => if 100 ≤ i ∨ lightE t 1 q < 0 then false else LightE ts (i + 1) (lightE t 1 q)

mutual
theorem lightE_bd : ∀ (t : Tm) (d q : Int), -1 ≤ lightE t d q ∧ (0 ≤ q → lightE t d q ≤ q)
  | .mk k s n r i l, d, q => by
    unfold lightE
    split
    · exact ⟨by omega, fun _ => by omega⟩
    · have := lightL_bd l (d + 1) (q - 1) (by omega)
      exact ⟨this.1, fun _ => by omega⟩
theorem lightL_bd : ∀ (l : List Tm) (d q : Int), 0 ≤ q → -1 ≤ lightL l d q ∧ lightL l d q ≤ q
  | [], d, q, h => by unfold lightL; omega
  | t :: ts, d, q, h => by
    unfold lightL
    have h1 := lightE_bd t d q
    split
    · omega
    · have h2 := lightL_bd ts d (lightE t d q) (by omega)
      have := h1.2 h
      omega
end

theorem light_spec : ∀ (t : Tm) (A : Option Addr) (c : Nat) (d q : Int) (w0 : World), 0 ≤ d → d ≤ 701 → 0 ≤ q → q ≤ 4000 → AR A c t.args [] w0 →
    Calls Try.prog 16 #[.agg #[.int .i64 t.kind, .string t.name, .int .i64 t.int, .int .u64 t.re, .int .u64 t.im, .slice A t.args.length c], .int .i64 d, .int .i64 q] w0 (RetV w0 (.int .i64 (lightE t d q))) := by
  intro t
  induction t using Tm.ind with | _ k s n r i l IH
  intro A c d q w0 hd0 hd1 hq0 hq1 hA
  simp only [Tm.kind, Tm.name, Tm.int, Tm.re, Tm.im, Tm.args] at hA ⊢
  have H := St.start (M := []) (by simp) (AR.stab A c l) hA
  clear hA
  have IH' := Lib.hid IH; clear IH
  rw [lightE]
  by_cases h1 : q < 1
  · rw [if_pos (Or.inl h1)]
    go_enter Try.func16, Try.ntmps16
    go_wp2_with (first | ((with_reducible refine wpl_runx_d 3 rfl ?_ ?_); (focus exact rfl); refine ⟨_, runs_box H rfl rfl, ?_⟩; clear H; rintro _ w ⟨b3, rfl, hE, H⟩; clear hE) | ((with_reducible refine wpl_runx_d 8 rfl ?_ ?_); (focus exact rfl); refine ⟨_, runs_alloc H rfl rfl rfl, ?_⟩; clear H; rintro _ w ⟨b8, rfl, hE, H⟩; clear hE) | ((with_reducible refine wpl_runx ?_ ?_); (focus exact rfl); refine ⟨_, runs_load H 0 rfl rfl rfl rfl rfl, ?_⟩; rintro _ _ ⟨rfl, rfl⟩) | ((with_reducible refine wpl_runx ?_ ?_); (focus exact rfl); refine ⟨_, runs_load H 1 rfl rfl rfl rfl rfl, ?_⟩; rintro _ _ ⟨rfl, rfl⟩) | ((with_reducible refine wpl_runx ?_ ?_); (focus exact rfl); refine ⟨_, runs_store H 0 rfl rfl rfl rfl rfl rfl rfl rfl rfl, ?_⟩; clear H; rintro _ w ⟨rfl, hE, H⟩; clear hE) | ((with_reducible refine wpl_runx ?_ ?_); (focus exact rfl); refine ⟨_, runs_store H 1 rfl rfl rfl rfl rfl rfl rfl rfl rfl, ?_⟩; clear H; rintro _ w ⟨rfl, hE, H⟩; clear hE))
    go_ret
    exact ⟨rfl, H.ext⟩
  have q1 : decide (q < 1) = false := by simpa using h1
  by_cases h2 : 700 < d
  · rw [if_pos (Or.inr (Or.inl h2))]
    go_enter Try.func16, Try.ntmps16
    go_wp2_with (first | ((with_reducible refine wpl_runx_d 3 rfl ?_ ?_); (focus exact rfl); refine ⟨_, runs_box H rfl rfl, ?_⟩; clear H; rintro _ w ⟨b3, rfl, hE, H⟩; clear hE) | ((with_reducible refine wpl_runx_d 8 rfl ?_ ?_); (focus exact rfl); refine ⟨_, runs_alloc H rfl rfl rfl, ?_⟩; clear H; rintro _ w ⟨b8, rfl, hE, H⟩; clear hE) | ((with_reducible refine wpl_runx ?_ ?_); (focus exact rfl); refine ⟨_, runs_load H 0 rfl rfl rfl rfl rfl, ?_⟩; rintro _ _ ⟨rfl, rfl⟩) | ((with_reducible refine wpl_runx ?_ ?_); (focus exact rfl); refine ⟨_, runs_load H 1 rfl rfl rfl rfl rfl, ?_⟩; rintro _ _ ⟨rfl, rfl⟩) | ((with_reducible refine wpl_runx ?_ ?_); (focus exact rfl); refine ⟨_, runs_store H 0 rfl rfl rfl rfl rfl rfl rfl rfl rfl, ?_⟩; clear H; rintro _ w ⟨rfl, hE, H⟩; clear hE) | ((with_reducible refine wpl_runx ?_ ?_); (focus exact rfl); refine ⟨_, runs_store H 1 rfl rfl rfl rfl rfl rfl rfl rfl rfl, ?_⟩; clear H; rintro _ w ⟨rfl, hE, H⟩; clear hE))
    go_ret
    exact ⟨rfl, H.ext⟩
  have q2 : decide (700 < d) = false := by simpa using h2
  by_cases h3 : 400 < s.size
  · rw [if_pos (Or.inr (Or.inr (Or.inl h3)))]
    have q3 : decide ((400 : Int) < (s.size : Int)) = true := by simp; omega
    go_enter Try.func16, Try.ntmps16
    go_wp2_with (first | ((with_reducible refine wpl_runx_d 3 rfl ?_ ?_); (focus exact rfl); refine ⟨_, runs_box H rfl rfl, ?_⟩; clear H; rintro _ w ⟨b3, rfl, hE, H⟩; clear hE) | ((with_reducible refine wpl_runx_d 8 rfl ?_ ?_); (focus exact rfl); refine ⟨_, runs_alloc H rfl rfl rfl, ?_⟩; clear H; rintro _ w ⟨b8, rfl, hE, H⟩; clear hE) | ((with_reducible refine wpl_runx ?_ ?_); (focus exact rfl); refine ⟨_, runs_load H 0 rfl rfl rfl rfl rfl, ?_⟩; rintro _ _ ⟨rfl, rfl⟩) | ((with_reducible refine wpl_runx ?_ ?_); (focus exact rfl); refine ⟨_, runs_load H 1 rfl rfl rfl rfl rfl, ?_⟩; rintro _ _ ⟨rfl, rfl⟩) | ((with_reducible refine wpl_runx ?_ ?_); (focus exact rfl); refine ⟨_, runs_store H 0 rfl rfl rfl rfl rfl rfl rfl rfl rfl, ?_⟩; clear H; rintro _ w ⟨rfl, hE, H⟩; clear hE) | ((with_reducible refine wpl_runx ?_ ?_); (focus exact rfl); refine ⟨_, runs_store H 1 rfl rfl rfl rfl rfl rfl rfl rfl rfl, ?_⟩; clear H; rintro _ w ⟨rfl, hE, H⟩; clear hE))
    go_ret
    exact ⟨rfl, H.ext⟩
  have q3 : decide ((400 : Int) < (s.size : Int)) = false := by simp; omega
  by_cases h4 : 60 < l.length
  · rw [if_pos (Or.inr (Or.inr (Or.inr h4)))]
    have q4 : decide ((60 : Int) < (l.length : Int)) = true := by simp; omega
    go_enter Try.func16, Try.ntmps16
    go_wp2_with (first | ((with_reducible refine wpl_runx_d 3 rfl ?_ ?_); (focus exact rfl); refine ⟨_, runs_box H rfl rfl, ?_⟩; clear H; rintro _ w ⟨b3, rfl, hE, H⟩; clear hE) | ((with_reducible refine wpl_runx_d 8 rfl ?_ ?_); (focus exact rfl); refine ⟨_, runs_alloc H rfl rfl rfl, ?_⟩; clear H; rintro _ w ⟨b8, rfl, hE, H⟩; clear hE) | ((with_reducible refine wpl_runx ?_ ?_); (focus exact rfl); refine ⟨_, runs_load H 0 rfl rfl rfl rfl rfl, ?_⟩; rintro _ _ ⟨rfl, rfl⟩) | ((with_reducible refine wpl_runx ?_ ?_); (focus exact rfl); refine ⟨_, runs_load H 1 rfl rfl rfl rfl rfl, ?_⟩; rintro _ _ ⟨rfl, rfl⟩) | ((with_reducible refine wpl_runx ?_ ?_); (focus exact rfl); refine ⟨_, runs_store H 0 rfl rfl rfl rfl rfl rfl rfl rfl rfl, ?_⟩; clear H; rintro _ w ⟨rfl, hE, H⟩; clear hE) | ((with_reducible refine wpl_runx ?_ ?_); (focus exact rfl); refine ⟨_, runs_store H 1 rfl rfl rfl rfl rfl rfl rfl rfl rfl, ?_⟩; clear H; rintro _ w ⟨rfl, hE, H⟩; clear hE))
    go_ret
    exact ⟨rfl, H.ext⟩
  have q4 : decide ((60 : Int) < (l.length : Int)) = false := by simp; omega
  rw [if_neg (by omega)]
  go_enter Try.func16, Try.ntmps16
  go_wp2_with (first | ((with_reducible refine wpl_runx_d 3 rfl ?_ ?_); (focus exact rfl); refine ⟨_, runs_box H rfl rfl, ?_⟩; clear H; rintro _ w ⟨b3, rfl, hE, H⟩; clear hE) | ((with_reducible refine wpl_runx_d 8 rfl ?_ ?_); (focus exact rfl); refine ⟨_, runs_alloc H rfl rfl rfl, ?_⟩; clear H; rintro _ w ⟨b8, rfl, hE, H⟩; clear hE) | ((with_reducible refine wpl_runx ?_ ?_); (focus exact rfl); refine ⟨_, runs_load H 0 rfl rfl rfl rfl rfl, ?_⟩; rintro _ _ ⟨rfl, rfl⟩) | ((with_reducible refine wpl_runx ?_ ?_); (focus exact rfl); refine ⟨_, runs_load H 1 rfl rfl rfl rfl rfl, ?_⟩; rintro _ _ ⟨rfl, rfl⟩) | ((with_reducible refine wpl_runx ?_ ?_); (focus exact rfl); refine ⟨_, runs_store H 0 rfl rfl rfl rfl rfl rfl rfl rfl rfl, ?_⟩; clear H; rintro _ w ⟨rfl, hE, H⟩; clear hE) | ((with_reducible refine wpl_runx ?_ ?_); (focus exact rfl); refine ⟨_, runs_store H 1 rfl rfl rfl rfl rfl rfl rfl rfl rfl, ?_⟩; clear H; rintro _ w ⟨rfl, hE, H⟩; clear hE))
  go_loopw [2, 32] (fun qv iv wr => ∃ (j : Nat) (q' : Int), j ≤ l.length ∧ qv = .int .i64 q' ∧ iv = .int .i64 j ∧ 0 ≤ q' ∧ q' ≤ 4000 ∧ lightL l (d + 1) (q - 1) = lightL (l.drop j) (d + 1) q' ∧
    St [] [] w0 wr [.obj b3 (.cells #[.int .i64 k, .string s, .int .i64 n, .int .u64 r, .int .u64 i, .slice A l.length c] 25 (0, 0))] (AR A c l)) (fun _ iv _ => l.length - (intOf iv).toNat)
  case atStart => exact ⟨0, q - 1, Nat.zero_le _, rfl, rfl, by omega, by omega, by simp, H⟩
  case round =>
    clear H
    obtain ⟨j, q', hj, rfl, rfl, hq0', hq1', hL, H⟩ := hrel
    by_cases hlt : j < l.length
    · obtain ⟨b2, o2, A1, c1, hAe, hbn, hbl, hcs, hA1⟩ := H.fact.at j hlt
      subst hAe
      replace H := H.add hA1 (AR.stab _ _ _)
      clear hA1 hbn hbl
      have HC := Lib.hid hcs; clear hcs
      rw [List.drop_eq_getElem_cons hlt, lightL] at hL
      have hbd := lightE_bd l[j] (d + 1) q'
      by_cases hneg : lightE l[j] (d + 1) q' < 0
      · rw [if_pos hneg] at hL
        rw [hL]
        have hd : decide (lightE l[j] (d + 1) q' < 0) = true := by simpa using hneg
        go_wp2_with (first | ((with_reducible refine wpl_runx_d 3 rfl ?_ ?_); (focus exact rfl); refine ⟨_, runs_box H rfl rfl, ?_⟩; clear H; rintro _ w ⟨b3, rfl, hE, H⟩; clear hE) | ((with_reducible refine wpl_runx_d 8 rfl ?_ ?_); (focus exact rfl); refine ⟨_, runs_alloc H rfl rfl rfl, ?_⟩; clear H; rintro _ w ⟨b8, rfl, hE, H⟩; clear hE) | ((with_reducible refine wpl_runx ?_ ?_); (focus exact rfl); refine ⟨_, runs_load H 0 rfl rfl rfl rfl rfl, ?_⟩; rintro _ _ ⟨rfl, rfl⟩) | ((with_reducible refine wpl_runx ?_ ?_); (focus exact rfl); refine ⟨_, runs_load H 1 rfl rfl rfl rfl rfl, ?_⟩; rintro _ _ ⟨rfl, rfl⟩) | ((with_reducible refine wpl_runx ?_ ?_); (focus exact rfl); refine ⟨_, runs_store H 0 rfl rfl rfl rfl rfl rfl rfl rfl rfl, ?_⟩; clear H; rintro _ w ⟨rfl, hE, H⟩; clear hE) | ((with_reducible refine wpl_runx ?_ ?_); (focus exact rfl); refine ⟨_, runs_store H 1 rfl rfl rfl rfl rfl rfl rfl rfl rfl, ?_⟩; clear H; rintro _ w ⟨rfl, hE, H⟩; clear hE) | ((with_reducible refine wpl_runx ?_ ?_); (focus exact rfl); refine ⟨_, runs_load_at rfl rfl rfl HC.out rfl, ?_⟩; rintro _ _ ⟨rfl, rfl⟩) | (refine (IH'.out l[j] (List.getElem_mem hlt) _ _ (d + 1) q' _ (by omega) (by omega) hq0' hq1' H.out.2).mono ?_; rintro _ w ⟨rfl, hE⟩; replace H := H.step hE; clear hE))
        go_ret
        exact ⟨rfl, H.ext⟩
      · rw [if_neg hneg] at hL
        have hd : decide (lightE l[j] (d + 1) q' < 0) = false := by simpa using hneg
        go_wp2_with (first | ((with_reducible refine wpl_runx_d 3 rfl ?_ ?_); (focus exact rfl); refine ⟨_, runs_box H rfl rfl, ?_⟩; clear H; rintro _ w ⟨b3, rfl, hE, H⟩; clear hE) | ((with_reducible refine wpl_runx_d 8 rfl ?_ ?_); (focus exact rfl); refine ⟨_, runs_alloc H rfl rfl rfl, ?_⟩; clear H; rintro _ w ⟨b8, rfl, hE, H⟩; clear hE) | ((with_reducible refine wpl_runx ?_ ?_); (focus exact rfl); refine ⟨_, runs_load H 0 rfl rfl rfl rfl rfl, ?_⟩; rintro _ _ ⟨rfl, rfl⟩) | ((with_reducible refine wpl_runx ?_ ?_); (focus exact rfl); refine ⟨_, runs_load H 1 rfl rfl rfl rfl rfl, ?_⟩; rintro _ _ ⟨rfl, rfl⟩) | ((with_reducible refine wpl_runx ?_ ?_); (focus exact rfl); refine ⟨_, runs_store H 0 rfl rfl rfl rfl rfl rfl rfl rfl rfl, ?_⟩; clear H; rintro _ w ⟨rfl, hE, H⟩; clear hE) | ((with_reducible refine wpl_runx ?_ ?_); (focus exact rfl); refine ⟨_, runs_store H 1 rfl rfl rfl rfl rfl rfl rfl rfl rfl, ?_⟩; clear H; rintro _ w ⟨rfl, hE, H⟩; clear hE) | ((with_reducible refine wpl_runx ?_ ?_); (focus exact rfl); refine ⟨_, runs_load_at rfl rfl rfl HC.out rfl, ?_⟩; rintro _ _ ⟨rfl, rfl⟩) | (refine (IH'.out l[j] (List.getElem_mem hlt) _ _ (d + 1) q' _ (by omega) (by omega) hq0' hq1' H.out.2).mono ?_; rintro _ w ⟨rfl, hE⟩; replace H := H.step hE; clear hE))
        clear HC
        go_roundw
        case rel => exact ⟨j + 1, _, by omega, rfl, by go_num, by omega, by have := hbd.2 hq0'; omega, hL, (H.drop 0 rfl).weaken (fun h => h.1) (AR.stab _ _ _)⟩
        case measure => simp [intOf]; omega
    · obtain rfl : j = l.length := by omega
      rw [List.drop_length, lightL] at hL
      go_wp2_with (first | ((with_reducible refine wpl_runx_d 3 rfl ?_ ?_); (focus exact rfl); refine ⟨_, runs_box H rfl rfl, ?_⟩; clear H; rintro _ w ⟨b3, rfl, hE, H⟩; clear hE) | ((with_reducible refine wpl_runx_d 8 rfl ?_ ?_); (focus exact rfl); refine ⟨_, runs_alloc H rfl rfl rfl, ?_⟩; clear H; rintro _ w ⟨b8, rfl, hE, H⟩; clear hE) | ((with_reducible refine wpl_runx ?_ ?_); (focus exact rfl); refine ⟨_, runs_load H 0 rfl rfl rfl rfl rfl, ?_⟩; rintro _ _ ⟨rfl, rfl⟩) | ((with_reducible refine wpl_runx ?_ ?_); (focus exact rfl); refine ⟨_, runs_load H 1 rfl rfl rfl rfl rfl, ?_⟩; rintro _ _ ⟨rfl, rfl⟩) | ((with_reducible refine wpl_runx ?_ ?_); (focus exact rfl); refine ⟨_, runs_store H 0 rfl rfl rfl rfl rfl rfl rfl rfl rfl, ?_⟩; clear H; rintro _ w ⟨rfl, hE, H⟩; clear hE) | ((with_reducible refine wpl_runx ?_ ?_); (focus exact rfl); refine ⟨_, runs_store H 1 rfl rfl rfl rfl rfl rfl rfl rfl rfl, ?_⟩; clear H; rintro _ w ⟨rfl, hE, H⟩; clear hE))
      go_ret
      exact ⟨by rw [hL]; rfl, H.ext⟩

theorem Light_spec (l : List Tm) (A : Option Addr) (c : Nat) (w0 : World) (hl : l.length ≤ maxLen) (hA : AR A c l [] w0) :
    Calls Try.prog 8 #[.slice A l.length c] w0 (RetV w0 (.bool (LightE l 0 4000))) := by
  have H := St.start (M := []) (by simp) (AR.stab A c l) hA
  clear hA
  unfold maxLen at hl
  go_enter Try.func8, Try.ntmps8
  go_wp2_with (first | ((with_reducible refine wpl_runx_d 5 rfl ?_ ?_); (focus exact rfl); refine ⟨_, runs_alloc H rfl rfl rfl, ?_⟩; clear H; rintro _ w ⟨b5, rfl, hE, H⟩; clear hE) | ((with_reducible refine wpl_runx ?_ ?_); (focus exact rfl); refine ⟨_, runs_load H 0 rfl rfl rfl rfl rfl, ?_⟩; rintro _ _ ⟨rfl, rfl⟩) | ((with_reducible refine wpl_runx ?_ ?_); (focus exact rfl); refine ⟨_, runs_load H 1 rfl rfl rfl rfl rfl, ?_⟩; rintro _ _ ⟨rfl, rfl⟩) | ((with_reducible refine wpl_runx ?_ ?_); (focus exact rfl); refine ⟨_, runs_store H 0 rfl rfl rfl rfl rfl rfl rfl rfl rfl, ?_⟩; clear H; rintro _ w ⟨rfl, hE, H⟩; clear hE) | ((with_reducible refine wpl_runx ?_ ?_); (focus exact rfl); refine ⟨_, runs_store H 1 rfl rfl rfl rfl rfl rfl rfl rfl rfl, ?_⟩; clear H; rintro _ w ⟨rfl, hE, H⟩; clear hE))
  go_loopw [3, 8] (fun qv iv wr => ∃ (j : Nat) (q' : Int), j ≤ l.length ∧ qv = .int .i64 q' ∧ iv = .int .i64 j ∧ 0 ≤ q' ∧ q' ≤ 4000 ∧ LightE l 0 4000 = LightE (l.drop j) j q' ∧ St [] [] w0 wr [] (AR A c l)) (fun _ iv _ => l.length - (intOf iv).toNat)
  case atStart => exact ⟨0, 4000, Nat.zero_le _, rfl, rfl, by omega, by omega, by simp, H⟩
  case round =>
    clear H
    obtain ⟨j, q', hj, rfl, rfl, hq0', hq1', hL, H⟩ := hrel
    by_cases hlt : j < l.length
    · obtain ⟨b2, o2, A1, c1, hAe, hbn, hbl, hcs, hA1⟩ := H.fact.at j hlt
      subst hAe
      replace H := H.add hA1 (AR.stab _ _ _)
      clear hA1 hbn hbl
      have HC := Lib.hid hcs; clear hcs
      rw [List.drop_eq_getElem_cons hlt, LightE] at hL
      have hbd := lightE_bd l[j] 1 q'
      by_cases h100 : 100 ≤ j
      · rw [if_pos (Or.inl h100)] at hL
        rw [hL]
        have hd : decide ((100 : Int) ≤ (j : Int)) = true := by simp; omega
        go_wp2_with (first | ((with_reducible refine wpl_runx_d 5 rfl ?_ ?_); (focus exact rfl); refine ⟨_, runs_alloc H rfl rfl rfl, ?_⟩; clear H; rintro _ w ⟨b5, rfl, hE, H⟩; clear hE) | ((with_reducible refine wpl_runx ?_ ?_); (focus exact rfl); refine ⟨_, runs_load H 0 rfl rfl rfl rfl rfl, ?_⟩; rintro _ _ ⟨rfl, rfl⟩) | ((with_reducible refine wpl_runx ?_ ?_); (focus exact rfl); refine ⟨_, runs_load H 1 rfl rfl rfl rfl rfl, ?_⟩; rintro _ _ ⟨rfl, rfl⟩) | ((with_reducible refine wpl_runx ?_ ?_); (focus exact rfl); refine ⟨_, runs_store H 0 rfl rfl rfl rfl rfl rfl rfl rfl rfl, ?_⟩; clear H; rintro _ w ⟨rfl, hE, H⟩; clear hE) | ((with_reducible refine wpl_runx ?_ ?_); (focus exact rfl); refine ⟨_, runs_store H 1 rfl rfl rfl rfl rfl rfl rfl rfl rfl, ?_⟩; clear H; rintro _ w ⟨rfl, hE, H⟩; clear hE) | ((with_reducible refine wpl_runx ?_ ?_); (focus exact rfl); refine ⟨_, runs_load_at rfl rfl rfl HC.out rfl, ?_⟩; rintro _ _ ⟨rfl, rfl⟩) | (refine (light_spec l[j] _ _ 1 q' _ (by omega) (by omega) hq0' hq1' H.out.2).mono ?_; rintro _ w ⟨rfl, hE⟩; replace H := H.step hE; clear hE))
        go_ret
        exact ⟨rfl, H.ext⟩
      have hd1 : decide ((100 : Int) ≤ (j : Int)) = false := by simp; omega
      by_cases hneg : lightE l[j] 1 q' < 0
      · rw [if_pos (Or.inr hneg)] at hL
        rw [hL]
        have hd : decide (lightE l[j] 1 q' < 0) = true := by simpa using hneg
        go_wp2_with (first | ((with_reducible refine wpl_runx_d 5 rfl ?_ ?_); (focus exact rfl); refine ⟨_, runs_alloc H rfl rfl rfl, ?_⟩; clear H; rintro _ w ⟨b5, rfl, hE, H⟩; clear hE) | ((with_reducible refine wpl_runx ?_ ?_); (focus exact rfl); refine ⟨_, runs_load H 0 rfl rfl rfl rfl rfl, ?_⟩; rintro _ _ ⟨rfl, rfl⟩) | ((with_reducible refine wpl_runx ?_ ?_); (focus exact rfl); refine ⟨_, runs_load H 1 rfl rfl rfl rfl rfl, ?_⟩; rintro _ _ ⟨rfl, rfl⟩) | ((with_reducible refine wpl_runx ?_ ?_); (focus exact rfl); refine ⟨_, runs_store H 0 rfl rfl rfl rfl rfl rfl rfl rfl rfl, ?_⟩; clear H; rintro _ w ⟨rfl, hE, H⟩; clear hE) | ((with_reducible refine wpl_runx ?_ ?_); (focus exact rfl); refine ⟨_, runs_store H 1 rfl rfl rfl rfl rfl rfl rfl rfl rfl, ?_⟩; clear H; rintro _ w ⟨rfl, hE, H⟩; clear hE) | ((with_reducible refine wpl_runx ?_ ?_); (focus exact rfl); refine ⟨_, runs_load_at rfl rfl rfl HC.out rfl, ?_⟩; rintro _ _ ⟨rfl, rfl⟩) | (refine (light_spec l[j] _ _ 1 q' _ (by omega) (by omega) hq0' hq1' H.out.2).mono ?_; rintro _ w ⟨rfl, hE⟩; replace H := H.step hE; clear hE))
        go_ret
        exact ⟨rfl, H.ext⟩
      · rw [if_neg (by omega)] at hL
        have hd : decide (lightE l[j] 1 q' < 0) = false := by simpa using hneg
        go_wp2_with (first | ((with_reducible refine wpl_runx_d 5 rfl ?_ ?_); (focus exact rfl); refine ⟨_, runs_alloc H rfl rfl rfl, ?_⟩; clear H; rintro _ w ⟨b5, rfl, hE, H⟩; clear hE) | ((with_reducible refine wpl_runx ?_ ?_); (focus exact rfl); refine ⟨_, runs_load H 0 rfl rfl rfl rfl rfl, ?_⟩; rintro _ _ ⟨rfl, rfl⟩) | ((with_reducible refine wpl_runx ?_ ?_); (focus exact rfl); refine ⟨_, runs_load H 1 rfl rfl rfl rfl rfl, ?_⟩; rintro _ _ ⟨rfl, rfl⟩) | ((with_reducible refine wpl_runx ?_ ?_); (focus exact rfl); refine ⟨_, runs_store H 0 rfl rfl rfl rfl rfl rfl rfl rfl rfl, ?_⟩; clear H; rintro _ w ⟨rfl, hE, H⟩; clear hE) | ((with_reducible refine wpl_runx ?_ ?_); (focus exact rfl); refine ⟨_, runs_store H 1 rfl rfl rfl rfl rfl rfl rfl rfl rfl, ?_⟩; clear H; rintro _ w ⟨rfl, hE, H⟩; clear hE) | ((with_reducible refine wpl_runx ?_ ?_); (focus exact rfl); refine ⟨_, runs_load_at rfl rfl rfl HC.out rfl, ?_⟩; rintro _ _ ⟨rfl, rfl⟩) | (refine (light_spec l[j] _ _ 1 q' _ (by omega) (by omega) hq0' hq1' H.out.2).mono ?_; rintro _ w ⟨rfl, hE⟩; replace H := H.step hE; clear hE))
        clear HC
        go_roundw
        case rel => exact ⟨j + 1, _, by omega, rfl, by go_num, by omega, by have := hbd.2 hq0'; omega, hL, (H.drop 0 rfl).weaken (fun h => h.1) (AR.stab _ _ _)⟩
        case measure => simp [intOf]; omega
    · obtain rfl : j = l.length := by omega
      rw [List.drop_length, LightE] at hL
      go_wp2_with (first | ((with_reducible refine wpl_runx_d 5 rfl ?_ ?_); (focus exact rfl); refine ⟨_, runs_alloc H rfl rfl rfl, ?_⟩; clear H; rintro _ w ⟨b5, rfl, hE, H⟩; clear hE) | ((with_reducible refine wpl_runx ?_ ?_); (focus exact rfl); refine ⟨_, runs_load H 0 rfl rfl rfl rfl rfl, ?_⟩; rintro _ _ ⟨rfl, rfl⟩) | ((with_reducible refine wpl_runx ?_ ?_); (focus exact rfl); refine ⟨_, runs_load H 1 rfl rfl rfl rfl rfl, ?_⟩; rintro _ _ ⟨rfl, rfl⟩) | ((with_reducible refine wpl_runx ?_ ?_); (focus exact rfl); refine ⟨_, runs_store H 0 rfl rfl rfl rfl rfl rfl rfl rfl rfl, ?_⟩; clear H; rintro _ w ⟨rfl, hE, H⟩; clear hE) | ((with_reducible refine wpl_runx ?_ ?_); (focus exact rfl); refine ⟨_, runs_store H 1 rfl rfl rfl rfl rfl rfl rfl rfl rfl, ?_⟩; clear H; rintro _ w ⟨rfl, hE, H⟩; clear hE))
      go_ret
      exact ⟨by rw [hL]; rfl, H.ext⟩
end Go.Proofs.Ytgopldabdheehaa
