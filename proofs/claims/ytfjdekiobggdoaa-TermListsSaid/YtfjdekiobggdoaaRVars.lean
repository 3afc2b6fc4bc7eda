/- Walks: vars, Vars of the reference. -/
import Derived.Test.YtfjdekiobggdoaaLVars
import Derived.Test.YtfjdekiobggdoaaRMay2
namespace Go.Proofs.Ytfjdekiobggdoaa
open Go.RowKit
set_option linter.unusedVariables false
set_option linter.unusedSimpArgs false
set_option maxRecDepth 20000
set_option maxHeartbeats 4000000

/-- What vars leaves: the row, longer. -/
inductive RVars (t : Tm) (x : List Int) (v : Value) (M : List Nat) (w0 : World) : Ending → World → Prop
  | mk {v' : Value} {w' : World} (h : St M v.ownBlock.toList w0 w' [.row v' (foldT varF t x).length ((foldT varF t x).map (Value.int .i64)) 2 1] fun _ _ => True) : RVars t x v M w0 (.returned v') w'

theorem rvars_spec : ∀ (t : Tm) (x : List Int) (v : Value) (A : Option Addr) (c : Nat) (M : List Nat) (w0 : World), slim t → x.length + nT t ≤ 1000000 → (∀ b ∈ M, b < w0.heap.size) → w0.ownsRow 0 2 1 v x.length (x.map (Value.int .i64)) → AR A c t.args (v.ownBlock.toList ++ M) w0 →
    Calls Try.prog 27 #[.agg #[.int .i64 t.kind, .string t.name, .int .i64 t.int, .int .u64 t.re, .int .u64 t.im, .slice A t.args.length c], v] w0 (RVars t x v M w0) := by
  intro t
  induction t using Tm.ind with | _ k s n r i l IH
  intro x v A c M w0 hs hx hM hv hA
  simp only [Tm.kind, Tm.name, Tm.int, Tm.re, Tm.im, Tm.args] at hA ⊢
  have H := St.startR (r := .row v x.length (x.map (Value.int .i64)) 2 1) hM (AR.stab A c l) hv (by cases h : v.ownBlock <;> simp [Res.ids, h]) hA
  clear hA hv
  obtain ⟨va, vk, rfl⟩ := H.rowVal (k := 0) rfl
  have IH' := Lib.hid IH; clear IH
  have hxb : x.length ≤ 1000000 := by omega
  replace hx := Lib.hid hx
  by_cases h1 : k = 1
  · subst h1
    have ef : ∀ y, foldT varF (.mk 1 s n r i l) y = if n ∈ y then y else y ++ [n] := fun y => by
      rw [foldT, if_neg (by decide)]; unfold varF; simp only [Tm.kind, Tm.int]; by_cases h : n ∈ y <;> simp [h]
    go_enter Try.func27, Try.ntmps27
    go_wp2_with (first | ((with_reducible refine wpl_runx_d 2 rfl ?_ ?_); (focus exact rfl); refine ⟨_, runs_box H rfl rfl, ?_⟩; clear H; rintro _ w ⟨b2, rfl, hE, H⟩; clear hE) | ((with_reducible refine wpl_runx_d 27 rfl ?_ ?_); (focus exact rfl); refine ⟨_, by apply runs_buildSlice H; iterate 10 rfl, ?_⟩; clear H; rintro _ w ⟨b27, rfl, hE, H⟩; clear hE) | ((with_reducible refine wpl_runx_d 8 rfl ?_ ?_); (focus exact rfl); refine ⟨_, runs_alloc H rfl rfl rfl, ?_⟩; clear H; rintro _ w ⟨b8, rfl, hE, H⟩; clear hE) | ((with_reducible refine wpl_runx ?_ ?_); (focus exact rfl); refine ⟨_, runs_load H 0 rfl rfl rfl rfl rfl, ?_⟩; rintro _ _ ⟨rfl, rfl⟩) | ((with_reducible refine wpl_runx ?_ ?_); (focus exact rfl); refine ⟨_, runs_load H 1 rfl rfl rfl rfl rfl, ?_⟩; rintro _ _ ⟨rfl, rfl⟩) | ((with_reducible refine wpl_runx ?_ ?_); (focus exact rfl); refine ⟨_, runs_store H 0 rfl rfl rfl rfl rfl rfl rfl rfl rfl, ?_⟩; clear H; rintro _ w ⟨rfl, hE, H⟩; clear hE) | ((with_reducible refine wpl_runx ?_ ?_); (focus exact rfl); refine ⟨_, runs_store H 1 rfl rfl rfl rfl rfl rfl rfl rfl rfl, ?_⟩; clear H; rintro _ w ⟨rfl, hE, H⟩; clear hE))
    go_loopw [14] (fun iv wr => ∃ (j : Nat), j ≤ x.length ∧ iv = .int .i64 j ∧ n ∉ x.take j ∧ St M (Value.slice va x.length vk).ownBlock.toList w0 wr [.obj b2 (.cells #[.int .i64 1, .string s, .int .i64 n, .int .u64 r, .int .u64 i, .slice A l.length c] 25 (0, 0)), .row (.slice va x.length vk) x.length (x.map (Value.int .i64)) 2 1] (AR A c l)) (fun iv _ => x.length - (intOf iv).toNat)
    case atStart => exact ⟨0, Nat.zero_le _, rfl, by simp, H⟩
    case round =>
      clear H
      obtain ⟨j, hj, rfl, hnm, H⟩ := hrel
      by_cases hlt : j < x.length
      · obtain ⟨g, cap, e, _, _, hcell⟩ := H.rowCells (k := 1) rfl (by omega)
        simp only [Value.slice.injEq, Option.some.injEq, true_and] at e
        obtain ⟨rfl, rfl⟩ := e
        have HC : RowKit.Hid (∀ (q : Nat) (v : Value), [Value.int .i64 x[j]][q]? = some v → wr.cell? ⟨g, j + q, none⟩ = some v) := Lib.hid fun q v hq => by
          cases q with
          | zero => exact hcell j v (by rw [List.getElem?_map, List.getElem?_eq_getElem hlt]; exact hq)
          | succ q => simp at hq
        clear hcell
        cases D : (x[j] == n) with
        | true =>
          have hmem : n ∈ x := by
            have h : x[j] = n := by simpa using D
            exact h ▸ List.getElem_mem hlt
          go_wp2_with (first | ((with_reducible refine wpl_runx_d 2 rfl ?_ ?_); (focus exact rfl); refine ⟨_, runs_box H rfl rfl, ?_⟩; clear H; rintro _ w ⟨b2, rfl, hE, H⟩; clear hE) | ((with_reducible refine wpl_runx_d 27 rfl ?_ ?_); (focus exact rfl); refine ⟨_, by apply runs_buildSlice H; iterate 10 rfl, ?_⟩; clear H; rintro _ w ⟨b27, rfl, hE, H⟩; clear hE) | ((with_reducible refine wpl_runx_d 8 rfl ?_ ?_); (focus exact rfl); refine ⟨_, runs_alloc H rfl rfl rfl, ?_⟩; clear H; rintro _ w ⟨b8, rfl, hE, H⟩; clear hE) | ((with_reducible refine wpl_runx ?_ ?_); (focus exact rfl); refine ⟨_, runs_load H 0 rfl rfl rfl rfl rfl, ?_⟩; rintro _ _ ⟨rfl, rfl⟩) | ((with_reducible refine wpl_runx ?_ ?_); (focus exact rfl); refine ⟨_, runs_load H 1 rfl rfl rfl rfl rfl, ?_⟩; rintro _ _ ⟨rfl, rfl⟩) | ((with_reducible refine wpl_runx ?_ ?_); (focus exact rfl); refine ⟨_, runs_store H 0 rfl rfl rfl rfl rfl rfl rfl rfl rfl, ?_⟩; clear H; rintro _ w ⟨rfl, hE, H⟩; clear hE) | ((with_reducible refine wpl_runx ?_ ?_); (focus exact rfl); refine ⟨_, runs_store H 1 rfl rfl rfl rfl rfl rfl rfl rfl rfl, ?_⟩; clear H; rintro _ w ⟨rfl, hE, H⟩; clear hE) | ((with_reducible refine wpl_runx ?_ ?_); (focus exact rfl); refine ⟨_, runs_load_at rfl rfl rfl HC.out rfl, ?_⟩; rintro _ _ ⟨rfl, rfl⟩))
          go_ret
          have e := ef x
          rw [if_pos hmem] at e
          exact .mk (by rw [e]; exact (H.drop 0 rfl).weaken (fun _ => trivial) (Stab.const _))
        | false =>
          go_wp2_with (first | ((with_reducible refine wpl_runx_d 2 rfl ?_ ?_); (focus exact rfl); refine ⟨_, runs_box H rfl rfl, ?_⟩; clear H; rintro _ w ⟨b2, rfl, hE, H⟩; clear hE) | ((with_reducible refine wpl_runx_d 27 rfl ?_ ?_); (focus exact rfl); refine ⟨_, by apply runs_buildSlice H; iterate 10 rfl, ?_⟩; clear H; rintro _ w ⟨b27, rfl, hE, H⟩; clear hE) | ((with_reducible refine wpl_runx_d 8 rfl ?_ ?_); (focus exact rfl); refine ⟨_, runs_alloc H rfl rfl rfl, ?_⟩; clear H; rintro _ w ⟨b8, rfl, hE, H⟩; clear hE) | ((with_reducible refine wpl_runx ?_ ?_); (focus exact rfl); refine ⟨_, runs_load H 0 rfl rfl rfl rfl rfl, ?_⟩; rintro _ _ ⟨rfl, rfl⟩) | ((with_reducible refine wpl_runx ?_ ?_); (focus exact rfl); refine ⟨_, runs_load H 1 rfl rfl rfl rfl rfl, ?_⟩; rintro _ _ ⟨rfl, rfl⟩) | ((with_reducible refine wpl_runx ?_ ?_); (focus exact rfl); refine ⟨_, runs_store H 0 rfl rfl rfl rfl rfl rfl rfl rfl rfl, ?_⟩; clear H; rintro _ w ⟨rfl, hE, H⟩; clear hE) | ((with_reducible refine wpl_runx ?_ ?_); (focus exact rfl); refine ⟨_, runs_store H 1 rfl rfl rfl rfl rfl rfl rfl rfl rfl, ?_⟩; clear H; rintro _ w ⟨rfl, hE, H⟩; clear hE) | ((with_reducible refine wpl_runx ?_ ?_); (focus exact rfl); refine ⟨_, runs_load_at rfl rfl rfl HC.out rfl, ?_⟩; rintro _ _ ⟨rfl, rfl⟩))
          clear HC
          go_roundw
          case rel =>
            refine ⟨j + 1, by omega, by go_num, ?_, H⟩
            rw [take_int hlt]
            intro h
            rcases List.mem_append.1 h with h | h
            · exact hnm h
            · rw [List.mem_singleton.1 h] at D; simp at D
          case measure => simp [intOf]; omega
      · obtain rfl : j = x.length := by omega
        rw [List.take_length] at hnm
        have hx' := hx.out
        have := nT_pos (.mk 1 s n r i l)
        go_wp2_with (first | ((with_reducible refine wpl_runx_d 2 rfl ?_ ?_); (focus exact rfl); refine ⟨_, runs_box H rfl rfl, ?_⟩; clear H; rintro _ w ⟨b2, rfl, hE, H⟩; clear hE) | ((with_reducible refine wpl_runx_d 27 rfl ?_ ?_); (focus exact rfl); refine ⟨_, by apply runs_buildSlice H; iterate 10 rfl, ?_⟩; clear H; rintro _ w ⟨b27, rfl, hE, H⟩; clear hE) | ((with_reducible refine wpl_runx_d 8 rfl ?_ ?_); (focus exact rfl); refine ⟨_, runs_alloc H rfl rfl rfl, ?_⟩; clear H; rintro _ w ⟨b8, rfl, hE, H⟩; clear hE) | ((with_reducible refine wpl_runx ?_ ?_); (focus exact rfl); refine ⟨_, runs_load H 0 rfl rfl rfl rfl rfl, ?_⟩; rintro _ _ ⟨rfl, rfl⟩) | ((with_reducible refine wpl_runx ?_ ?_); (focus exact rfl); refine ⟨_, runs_load H 1 rfl rfl rfl rfl rfl, ?_⟩; rintro _ _ ⟨rfl, rfl⟩) | ((with_reducible refine wpl_runx ?_ ?_); (focus exact rfl); refine ⟨_, runs_load H 2 rfl rfl rfl rfl rfl, ?_⟩; rintro _ _ ⟨rfl, rfl⟩) | ((with_reducible refine wpl_runx ?_ ?_); (focus exact rfl); refine ⟨_, runs_store H 0 rfl rfl rfl rfl rfl rfl rfl rfl rfl, ?_⟩; clear H; rintro _ w ⟨rfl, hE, H⟩; clear hE) | ((with_reducible refine wpl_runx ?_ ?_); (focus exact rfl); refine ⟨_, runs_store H 1 rfl rfl rfl rfl rfl rfl rfl rfl rfl, ?_⟩; clear H; rintro _ w ⟨rfl, hE, H⟩; clear hE) | ((with_reducible refine wpl_runx ?_ ?_); (focus exact rfl); refine ⟨_, runs_store H 2 rfl rfl rfl rfl rfl rfl rfl rfl rfl, ?_⟩; clear H; rintro _ w ⟨rfl, hE, H⟩; clear hE) | ((with_reducible refine wpl_runx ?_ ?_); (focus exact rfl); refine ⟨_, runs_append1 H 2 rfl rfl rfl rfl rfl Try.infoI64 rfl (by decide) 0 rfl rfl rfl (by decide) (by unfold maxLen; omega) (by omega) (fun r => rfl), ?_⟩; clear H; rintro _ w ⟨g', cap', rfl, hE, H⟩; clear hE))
        go_ret
        have e := ef x
        rw [if_neg hnm] at e
        refine .mk ?_
        rw [e]
        simpa using (((H.drop 0 rfl).drop 0 rfl).weaken (fun _ => trivial) (Stab.const _))
  have e1 : (k == 1) = false := by simpa using h1
  by_cases h5 : k = 5
  · subst h5
    have hs := hs rfl
    have hl : l.length ≤ 1000000 := hs.1
    have ef : foldT varF (.mk 5 s n r i l) x = foldL varF l x := by
      rw [foldT, if_pos rfl]; congr 1
    go_enter Try.func27, Try.ntmps27
    go_wp2_with (first | ((with_reducible refine wpl_runx_d 2 rfl ?_ ?_); (focus exact rfl); refine ⟨_, runs_box H rfl rfl, ?_⟩; clear H; rintro _ w ⟨b2, rfl, hE, H⟩; clear hE) | ((with_reducible refine wpl_runx_d 27 rfl ?_ ?_); (focus exact rfl); refine ⟨_, by apply runs_buildSlice H; iterate 10 rfl, ?_⟩; clear H; rintro _ w ⟨b27, rfl, hE, H⟩; clear hE) | ((with_reducible refine wpl_runx_d 8 rfl ?_ ?_); (focus exact rfl); refine ⟨_, runs_alloc H rfl rfl rfl, ?_⟩; clear H; rintro _ w ⟨b8, rfl, hE, H⟩; clear hE) | ((with_reducible refine wpl_runx ?_ ?_); (focus exact rfl); refine ⟨_, runs_load H 0 rfl rfl rfl rfl rfl, ?_⟩; rintro _ _ ⟨rfl, rfl⟩) | ((with_reducible refine wpl_runx ?_ ?_); (focus exact rfl); refine ⟨_, runs_load H 1 rfl rfl rfl rfl rfl, ?_⟩; rintro _ _ ⟨rfl, rfl⟩) | ((with_reducible refine wpl_runx ?_ ?_); (focus exact rfl); refine ⟨_, runs_store H 0 rfl rfl rfl rfl rfl rfl rfl rfl rfl, ?_⟩; clear H; rintro _ w ⟨rfl, hE, H⟩; clear hE) | ((with_reducible refine wpl_runx ?_ ?_); (focus exact rfl); refine ⟨_, runs_store H 1 rfl rfl rfl rfl rfl rfl rfl rfl rfl, ?_⟩; clear H; rintro _ w ⟨rfl, hE, H⟩; clear hE))
    go_loopw [1, 35] (fun xv iv wr => ∃ (j : Nat) (y : List Int), j ≤ l.length ∧ iv = .int .i64 j ∧ y = foldL varF (l.take j) x ∧ y.length + nL (l.drop j) ≤ 1000000 ∧ St M (Value.slice va x.length vk).ownBlock.toList w0 wr [.obj b2 (.cells #[.int .i64 5, .string s, .int .i64 n, .int .u64 r, .int .u64 i, .slice A l.length c] 25 (0, 0)), .row xv y.length (y.map (Value.int .i64)) 2 1] (AR A c l)) (fun _ iv _ => l.length - (intOf iv).toNat)
    case atStart => exact ⟨0, x, Nat.zero_le _, rfl, by simp [foldL], by have := hx.out; rw [nT, if_pos rfl] at this; simp only [List.drop_zero]; omega, H⟩
    case round =>
      clear H
      obtain ⟨j, y, hj, rfl, hy, hyl, H⟩ := hrel
      replace hy := Lib.hid hy
      by_cases hlt : j < l.length
      · obtain ⟨b3, o3, A1, c1, hAe, hbn, hbl, hcs, hA1⟩ := H.fact.at j hlt
        subst hAe
        replace H := H.add hA1 (AR.stab _ _ _)
        clear hA1 hbn hbl
        have HC := Lib.hid hcs; clear hcs
        have hd := List.drop_eq_getElem_cons hlt
        rw [hd, nL] at hyl
        go_wp2_with (first | ((with_reducible refine wpl_runx_d 2 rfl ?_ ?_); (focus exact rfl); refine ⟨_, runs_box H rfl rfl, ?_⟩; clear H; rintro _ w ⟨b2, rfl, hE, H⟩; clear hE) | ((with_reducible refine wpl_runx_d 27 rfl ?_ ?_); (focus exact rfl); refine ⟨_, by apply runs_buildSlice H; iterate 10 rfl, ?_⟩; clear H; rintro _ w ⟨b27, rfl, hE, H⟩; clear hE) | ((with_reducible refine wpl_runx_d 8 rfl ?_ ?_); (focus exact rfl); refine ⟨_, runs_alloc H rfl rfl rfl, ?_⟩; clear H; rintro _ w ⟨b8, rfl, hE, H⟩; clear hE) | ((with_reducible refine wpl_runx ?_ ?_); (focus exact rfl); refine ⟨_, runs_load H 0 rfl rfl rfl rfl rfl, ?_⟩; rintro _ _ ⟨rfl, rfl⟩) | ((with_reducible refine wpl_runx ?_ ?_); (focus exact rfl); refine ⟨_, runs_load H 1 rfl rfl rfl rfl rfl, ?_⟩; rintro _ _ ⟨rfl, rfl⟩) | ((with_reducible refine wpl_runx ?_ ?_); (focus exact rfl); refine ⟨_, runs_load H 2 rfl rfl rfl rfl rfl, ?_⟩; rintro _ _ ⟨rfl, rfl⟩) | ((with_reducible refine wpl_runx ?_ ?_); (focus exact rfl); refine ⟨_, runs_store H 0 rfl rfl rfl rfl rfl rfl rfl rfl rfl, ?_⟩; clear H; rintro _ w ⟨rfl, hE, H⟩; clear hE) | ((with_reducible refine wpl_runx ?_ ?_); (focus exact rfl); refine ⟨_, runs_store H 1 rfl rfl rfl rfl rfl rfl rfl rfl rfl, ?_⟩; clear H; rintro _ w ⟨rfl, hE, H⟩; clear hE) | ((with_reducible refine wpl_runx ?_ ?_); (focus exact rfl); refine ⟨_, runs_store H 2 rfl rfl rfl rfl rfl rfl rfl rfl rfl, ?_⟩; clear H; rintro _ w ⟨rfl, hE, H⟩; clear hE) | ((with_reducible refine wpl_runx ?_ ?_); (focus exact rfl); refine ⟨_, runs_load_at rfl rfl rfl HC.out rfl, ?_⟩; rintro _ _ ⟨rfl, rfl⟩) | (refine (IH'.out l[j] (List.getElem_mem hlt) y _ _ _ _ _ (slimL_mem hs.2 (List.getElem_mem hlt)) (by omega) (H.restLt 2 rfl) (H.getRow (k := 2) rfl) (H.rest (k := 2) rfl).2).mono ?_; rintro _ w ⟨h⟩; replace H := H.call 2 rfl h (fun r => rfl); clear h))
        clear HC
        go_roundw
        case rel =>
          refine ⟨j + 1, foldT varF l[j] y, by omega, by go_num, ?_, ?_, (H.drop 0 rfl).weaken (fun h => h.1) (AR.stab _ _ _)⟩
          · rw [take_snoc hlt, foldL_snoc, ← hy.out]
          · have := foldT_len l[j] y
            omega
        case measure => simp [intOf]; omega
      · obtain rfl : j = l.length := by omega
        have hy := hy.out
        rw [List.take_length] at hy
        replace hy := Lib.hid hy
        go_wp2_with (first | ((with_reducible refine wpl_runx_d 2 rfl ?_ ?_); (focus exact rfl); refine ⟨_, runs_box H rfl rfl, ?_⟩; clear H; rintro _ w ⟨b2, rfl, hE, H⟩; clear hE) | ((with_reducible refine wpl_runx_d 27 rfl ?_ ?_); (focus exact rfl); refine ⟨_, by apply runs_buildSlice H; iterate 10 rfl, ?_⟩; clear H; rintro _ w ⟨b27, rfl, hE, H⟩; clear hE) | ((with_reducible refine wpl_runx_d 8 rfl ?_ ?_); (focus exact rfl); refine ⟨_, runs_alloc H rfl rfl rfl, ?_⟩; clear H; rintro _ w ⟨b8, rfl, hE, H⟩; clear hE) | ((with_reducible refine wpl_runx ?_ ?_); (focus exact rfl); refine ⟨_, runs_load H 0 rfl rfl rfl rfl rfl, ?_⟩; rintro _ _ ⟨rfl, rfl⟩) | ((with_reducible refine wpl_runx ?_ ?_); (focus exact rfl); refine ⟨_, runs_load H 1 rfl rfl rfl rfl rfl, ?_⟩; rintro _ _ ⟨rfl, rfl⟩) | ((with_reducible refine wpl_runx ?_ ?_); (focus exact rfl); refine ⟨_, runs_store H 0 rfl rfl rfl rfl rfl rfl rfl rfl rfl, ?_⟩; clear H; rintro _ w ⟨rfl, hE, H⟩; clear hE) | ((with_reducible refine wpl_runx ?_ ?_); (focus exact rfl); refine ⟨_, runs_store H 1 rfl rfl rfl rfl rfl rfl rfl rfl rfl, ?_⟩; clear H; rintro _ w ⟨rfl, hE, H⟩; clear hE))
        go_ret
        exact .mk (by rw [ef, ← hy.out]; exact (H.drop 0 rfl).weaken (fun _ => trivial) (Stab.const _))
  · have e5 : (k == 5) = false := by simpa using h5
    have ef : foldT varF (.mk k s n r i l) x = x := by
      rw [foldT, if_neg h5]; simp [varF, Tm.kind, h1]
    go_enter Try.func27, Try.ntmps27
    go_wp2_with (first | ((with_reducible refine wpl_runx_d 2 rfl ?_ ?_); (focus exact rfl); refine ⟨_, runs_box H rfl rfl, ?_⟩; clear H; rintro _ w ⟨b2, rfl, hE, H⟩; clear hE) | ((with_reducible refine wpl_runx_d 27 rfl ?_ ?_); (focus exact rfl); refine ⟨_, by apply runs_buildSlice H; iterate 10 rfl, ?_⟩; clear H; rintro _ w ⟨b27, rfl, hE, H⟩; clear hE) | ((with_reducible refine wpl_runx_d 8 rfl ?_ ?_); (focus exact rfl); refine ⟨_, runs_alloc H rfl rfl rfl, ?_⟩; clear H; rintro _ w ⟨b8, rfl, hE, H⟩; clear hE) | ((with_reducible refine wpl_runx ?_ ?_); (focus exact rfl); refine ⟨_, runs_load H 0 rfl rfl rfl rfl rfl, ?_⟩; rintro _ _ ⟨rfl, rfl⟩) | ((with_reducible refine wpl_runx ?_ ?_); (focus exact rfl); refine ⟨_, runs_load H 1 rfl rfl rfl rfl rfl, ?_⟩; rintro _ _ ⟨rfl, rfl⟩) | ((with_reducible refine wpl_runx ?_ ?_); (focus exact rfl); refine ⟨_, runs_store H 0 rfl rfl rfl rfl rfl rfl rfl rfl rfl, ?_⟩; clear H; rintro _ w ⟨rfl, hE, H⟩; clear hE) | ((with_reducible refine wpl_runx ?_ ?_); (focus exact rfl); refine ⟨_, runs_store H 1 rfl rfl rfl rfl rfl rfl rfl rfl rfl, ?_⟩; clear H; rintro _ w ⟨rfl, hE, H⟩; clear hE))
    go_ret
    exact .mk (by rw [ef]; exact (H.drop 0 rfl).weaken (fun _ => trivial) (Stab.const _))

theorem rVars_spec (t : Tm) (A : Option Addr) (c : Nat) (M : List Nat) (w0 : World) (hs : slim t) (hM : ∀ b ∈ M, b < w0.heap.size) (hA : AR A c t.args M w0) :
    Calls Try.prog 9 #[.agg #[.int .i64 t.kind, .string t.name, .int .i64 t.int, .int .u64 t.re, .int .u64 t.im, .slice A t.args.length c]] w0 (RetI M w0 (varsE t)) := by
  have H := St.start hM (AR.stab A c t.args) hA
  clear hA
  have hMay : ∀ w, AR A c t.args [] w → Calls Try.prog 25 #[.agg #[.int .i64 t.kind, .string t.name, .int .i64 t.int, .int .u64 t.re, .int .u64 t.im, .slice A t.args.length c]] w (RetV w (.int .i64 (mayE t))) := fun w h => rMay_spec t A c w hs h
  by_cases h : mayE t = 0
  · have e1 : (mayE t != 0) = false := by simpa using h
    have hn : nT t ≤ 2000 := (mayE_ok.1 h).2.1
    go_enter Try.func9, Try.ntmps9
    go_wp2_with (first | ((with_reducible refine wpl_runx_d 1 rfl ?_ ?_); (focus exact rfl); refine ⟨_, runs_box H rfl rfl, ?_⟩; clear H; rintro _ w ⟨b1, rfl, hE, H⟩; clear hE) | ((with_reducible refine wpl_runx ?_ ?_); (focus exact rfl); refine ⟨_, runs_load H 0 rfl rfl rfl rfl rfl, ?_⟩; rintro _ _ ⟨rfl, rfl⟩) | ((with_reducible refine wpl_runx ?_ ?_); (focus exact rfl); refine ⟨_, runs_load H 1 rfl rfl rfl rfl rfl, ?_⟩; rintro _ _ ⟨rfl, rfl⟩) | ((with_reducible refine wpl_runx ?_ ?_); (focus exact rfl); refine ⟨_, runs_store H 0 rfl rfl rfl rfl rfl rfl rfl rfl rfl, ?_⟩; clear H; rintro _ w ⟨rfl, hE, H⟩; clear hE) | ((with_reducible refine wpl_runx ?_ ?_); (focus exact rfl); refine ⟨_, runs_store H 1 rfl rfl rfl rfl rfl rfl rfl rfl rfl, ?_⟩; clear H; rintro _ w ⟨rfl, hE, H⟩; clear hE) | ((with_reducible refine Calls.mono (hMay _ ?_) ?_); (focus exact ((AR.stab _ _ _).sub _ [] _ (fun _ h => by cases h) H.out)); rintro _ w ⟨rfl, hE⟩; replace H := H.step hE; clear hE) | (replace H := H.nilRow 2 1; refine (rvars_spec t [] (.slice none 0 0) A c _ _ hs (by simp; omega) (H.restLt 0 rfl) (H.getRow (k := 0) rfl) (H.rest (k := 0) rfl)).mono ?_; rintro _ w ⟨h⟩; replace H := H.call 0 rfl h (fun r => rfl); clear h))
    obtain ⟨A7, c7, rfl, H'⟩ := H.sealV 0 rfl
    clear H
    have H := H'; clear H'
    go_ret
    rw [varsE_ok h]
    exact ⟨A7, c7, by simp, H.out.2, H.ext⟩
  · have e1 : (mayE t != 0) = true := by simpa using h
    go_enter Try.func9, Try.ntmps9
    go_wp2_with (first | ((with_reducible refine wpl_runx_d 1 rfl ?_ ?_); (focus exact rfl); refine ⟨_, runs_box H rfl rfl, ?_⟩; clear H; rintro _ w ⟨b1, rfl, hE, H⟩; clear hE) | ((with_reducible refine wpl_runx ?_ ?_); (focus exact rfl); refine ⟨_, runs_load H 0 rfl rfl rfl rfl rfl, ?_⟩; rintro _ _ ⟨rfl, rfl⟩) | ((with_reducible refine wpl_runx ?_ ?_); (focus exact rfl); refine ⟨_, runs_load H 1 rfl rfl rfl rfl rfl, ?_⟩; rintro _ _ ⟨rfl, rfl⟩) | ((with_reducible refine wpl_runx ?_ ?_); (focus exact rfl); refine ⟨_, runs_store H 0 rfl rfl rfl rfl rfl rfl rfl rfl rfl, ?_⟩; clear H; rintro _ w ⟨rfl, hE, H⟩; clear hE) | ((with_reducible refine wpl_runx ?_ ?_); (focus exact rfl); refine ⟨_, runs_store H 1 rfl rfl rfl rfl rfl rfl rfl rfl rfl, ?_⟩; clear H; rintro _ w ⟨rfl, hE, H⟩; clear hE) | ((with_reducible refine Calls.mono (hMay _ ?_) ?_); (focus exact ((AR.stab _ _ _).sub _ [] _ (fun _ h => by cases h) H.out)); rintro _ w ⟨rfl, hE⟩; replace H := H.step hE; clear hE))
    go_ret
    have hv : varsE t = [] := by
      unfold varsE
      unfold mayE chk0 at h
      cases hc : chkG varF t 1 0 0 [] with
      | error e => rfl
      | ok q =>
        exfalso
        obtain ⟨a, b, c', _⟩ := ok_of_chkG varF t 1 0 0 [] q (by omega) hc
        exact h (by rw [chkG_of_ok _ t 1 0 0 () a (by omega) (by omega)])
    rw [hv]
    exact ⟨none, 0, rfl, VR.nil _ _ _ _, H.ext⟩
end Go.Proofs.Ytfjdekiobggdoaa
