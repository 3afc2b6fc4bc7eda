/- Walks: Vars. -/
import Derived.Test.YtfjdekiobggdoaaPlain
namespace Go.Proofs.Ytfjdekiobggdoaa
open Go.RowKit
set_option linter.unusedVariables false
set_option linter.unusedSimpArgs false
set_option maxRecDepth 20000
set_option maxHeartbeats 1000000

/-- A variable more, if it is one. -/
def varF (x : List Int) (t : Tm) : List Int := if t.kind = 1 ∧ t.int ∉ x then x ++ [t.int] else x
def varsE (t : Tm) : List Int := match chkG varF t 1 0 0 [] with | .error _ => [] | .ok (_, _, x) => x

theorem getL_ones (x : List Int) (n : Int) : getL (x.map fun n => (n, Value.int .i64 1)) n = if n ∈ x then some (.int .i64 1) else none := by
  induction x with
  | nil => rfl
  | cons a x ih =>
    simp only [List.map_cons, getL, ih, List.mem_cons]
    by_cases h : n = a
    · simp [h]
    · simp [h]
theorem putL_ones (x : List Int) (n : Int) (h : n ∉ x) : putL (x.map fun n => (n, Value.int .i64 1)) n (.int .i64 1) = (x ++ [n]).map fun n => (n, Value.int .i64 1) := by
  induction x with
  | nil => rfl
  | cons a x ih =>
    simp only [List.mem_cons, not_or] at h
    simp only [List.map_cons, putL, if_neg h.1, ih h.2, List.cons_append]

theorem Try.tyVM : Try.prog.underlying 49 = some (.map 2 3) := by kernel_rfl
theorem Try.tyI64k : Try.prog.underlying 2 = some (.int .i64) := by kernel_rfl
theorem Try.tzI : tyZero Try.prog 3 = some (.int .i64 0) := by kernel_rfl
theorem Try.infoI64 : (Try.prog.info? 2).map (fun i => (i.zero, i.size, i.bytes)) = some (some (.int .i64 0), 1, 8) := by kernel_rfl

/-- What Vars's closure turns. -/
def VarsR (bm bo mp : Nat) (x : List Int) (r : Res) : Prop :=
  ∃ v, r = packR [.row v x.length (x.map (Value.int .i64)) 2 1, .obj bm (.cells #[.map (some mp)] 49), mapR (Value.int .i64) mp (x.map fun n => (n, Value.int .i64 1)), .obj bo (.cells #[v] 31)]

theorem vars1_spec (bm bo mp : Nat) (x : List Int) (r : Res) (hr : VarsR bm bo mp x r) (hx : x.length ≤ 2000) (t : Tm) (A : Option Addr) (c : Nat) (M : List Nat) (w0 : World) (hM : ∀ b ∈ M, b < w0.heap.size) (hh : r.holds w0) (hn : r.ids.Nodup) :
    Calls Try.prog 34 #[.agg #[.int .i64 t.kind, .string t.name, .int .i64 t.int, .int .u64 t.re, .int .u64 t.im, .slice A t.args.length c], .pointer (some ⟨bm, 0, none⟩), .pointer (some ⟨bo, 0, none⟩)] w0 (fun e w' => (∃ v, e = .returned v) ∧ ∃ r', VarsR bm bo mp (varF x t) r' ∧ St M r.ids w0 w' [r'] fun _ _ => True) := by
  obtain ⟨v, rfl⟩ := hr
  have H := St.startR (F := fun _ _ => True) hM (Stab.const True) hh hn trivial
  replace H := H.unpackAll
  have hvs : ∃ a m k, v = .slice a m k := by rcases (H.getRow (k := 0) rfl).2 with ⟨h, _⟩ | ⟨g, cap, cur, h, _⟩ <;> exact ⟨_, _, _, h⟩
  obtain ⟨va, vm, vk, rfl⟩ := hvs
  have hl := getL_ones x t.int
  by_cases h1 : t.kind = 1
  · by_cases h2 : t.int ∈ x
    · rw [if_pos h2] at hl
      go_enter Try.func34, Try.ntmps34
      go_wp2_with (first | ((with_reducible refine wpl_runx_d 3 rfl ?_ ?_); (focus exact rfl); refine ⟨_, runs_box H rfl rfl, ?_⟩; clear H; rintro _ w ⟨b3, rfl, hE, H⟩; clear hE) | ((with_reducible refine wpl_runx_d 20 rfl ?_ ?_); (focus exact rfl); refine ⟨_, by apply runs_buildSlice H; iterate 10 rfl, ?_⟩; clear H; rintro _ w ⟨b20, rfl, hE, H⟩; clear hE) | ((with_reducible refine wpl_runx ?_ ?_); (focus exact rfl); refine ⟨_, runs_load H 0 rfl rfl rfl rfl rfl, ?_⟩; rintro _ _ ⟨rfl, rfl⟩) | ((with_reducible refine wpl_runx ?_ ?_); (focus exact rfl); refine ⟨_, runs_load H 1 rfl rfl rfl rfl rfl, ?_⟩; rintro _ _ ⟨rfl, rfl⟩) | ((with_reducible refine wpl_runx ?_ ?_); (focus exact rfl); refine ⟨_, runs_load H 2 rfl rfl rfl rfl rfl, ?_⟩; rintro _ _ ⟨rfl, rfl⟩) | ((with_reducible refine wpl_runx ?_ ?_); (focus exact rfl); refine ⟨_, runs_load H 3 rfl rfl rfl rfl rfl, ?_⟩; rintro _ _ ⟨rfl, rfl⟩) | ((with_reducible refine wpl_runx ?_ ?_); (focus exact rfl); refine ⟨_, runs_load H 4 rfl rfl rfl rfl rfl, ?_⟩; rintro _ _ ⟨rfl, rfl⟩) | ((with_reducible refine wpl_runx ?_ ?_); (focus exact rfl); refine ⟨_, runs_load H 5 rfl rfl rfl rfl rfl, ?_⟩; rintro _ _ ⟨rfl, rfl⟩) | ((with_reducible refine wpl_runx ?_ ?_); (focus exact rfl); refine ⟨_, runs_store H 0 rfl rfl rfl rfl rfl rfl rfl rfl rfl, ?_⟩; clear H; rintro _ w ⟨rfl, hE, H⟩; clear hE) | ((with_reducible refine wpl_runx ?_ ?_); (focus exact rfl); refine ⟨_, runs_store H 1 rfl rfl rfl rfl rfl rfl rfl rfl rfl, ?_⟩; clear H; rintro _ w ⟨rfl, hE, H⟩; clear hE) | ((with_reducible refine wpl_runx ?_ ?_); (focus exact rfl); refine ⟨_, runs_store H 2 rfl rfl rfl rfl rfl rfl rfl rfl rfl, ?_⟩; clear H; rintro _ w ⟨rfl, hE, H⟩; clear hE) | ((with_reducible refine wpl_runx ?_ ?_); (focus exact rfl); refine ⟨_, runs_store H 3 rfl rfl rfl rfl rfl rfl rfl rfl rfl, ?_⟩; clear H; rintro _ w ⟨rfl, hE, H⟩; clear hE) | ((with_reducible refine wpl_runx ?_ ?_); (focus exact rfl); refine ⟨_, runs_store H 4 rfl rfl rfl rfl rfl rfl rfl rfl rfl, ?_⟩; clear H; rintro _ w ⟨rfl, hE, H⟩; clear hE) | ((with_reducible refine wpl_runx ?_ ?_); (focus exact rfl); refine ⟨_, runs_store H 5 rfl rfl rfl rfl rfl rfl rfl rfl rfl, ?_⟩; clear H; rintro _ w ⟨rfl, hE, H⟩; clear hE) | ((with_reducible refine wpl_runx ?_ ?_); (focus exact rfl); refine ⟨_, runs_lookup (intKey .i64) H 3 rfl rfl rfl rfl Try.tyVM Try.tyI64k Try.tzI, ?_⟩; rw [hl]; rintro _ _ ⟨rfl, rfl⟩))
      go_end0
      refine ⟨⟨_, rfl⟩, _, ?_, (H.drop 0 rfl).packAll⟩
      rw [show varF x t = x by simp [varF, h2]]
      exact ⟨_, rfl⟩
    · rw [if_neg h2] at hl
      go_enter Try.func34, Try.ntmps34
      go_wp2_with (first | ((with_reducible refine wpl_runx_d 3 rfl ?_ ?_); (focus exact rfl); refine ⟨_, runs_box H rfl rfl, ?_⟩; clear H; rintro _ w ⟨b3, rfl, hE, H⟩; clear hE) | ((with_reducible refine wpl_runx_d 20 rfl ?_ ?_); (focus exact rfl); refine ⟨_, by apply runs_buildSlice H; iterate 10 rfl, ?_⟩; clear H; rintro _ w ⟨b20, rfl, hE, H⟩; clear hE) | ((with_reducible refine wpl_runx ?_ ?_); (focus exact rfl); refine ⟨_, runs_load H 0 rfl rfl rfl rfl rfl, ?_⟩; rintro _ _ ⟨rfl, rfl⟩) | ((with_reducible refine wpl_runx ?_ ?_); (focus exact rfl); refine ⟨_, runs_load H 1 rfl rfl rfl rfl rfl, ?_⟩; rintro _ _ ⟨rfl, rfl⟩) | ((with_reducible refine wpl_runx ?_ ?_); (focus exact rfl); refine ⟨_, runs_load H 2 rfl rfl rfl rfl rfl, ?_⟩; rintro _ _ ⟨rfl, rfl⟩) | ((with_reducible refine wpl_runx ?_ ?_); (focus exact rfl); refine ⟨_, runs_load H 3 rfl rfl rfl rfl rfl, ?_⟩; rintro _ _ ⟨rfl, rfl⟩) | ((with_reducible refine wpl_runx ?_ ?_); (focus exact rfl); refine ⟨_, runs_load H 4 rfl rfl rfl rfl rfl, ?_⟩; rintro _ _ ⟨rfl, rfl⟩) | ((with_reducible refine wpl_runx ?_ ?_); (focus exact rfl); refine ⟨_, runs_load H 5 rfl rfl rfl rfl rfl, ?_⟩; rintro _ _ ⟨rfl, rfl⟩) | ((with_reducible refine wpl_runx ?_ ?_); (focus exact rfl); refine ⟨_, runs_store H 0 rfl rfl rfl rfl rfl rfl rfl rfl rfl, ?_⟩; clear H; rintro _ w ⟨rfl, hE, H⟩; clear hE) | ((with_reducible refine wpl_runx ?_ ?_); (focus exact rfl); refine ⟨_, runs_store H 1 rfl rfl rfl rfl rfl rfl rfl rfl rfl, ?_⟩; clear H; rintro _ w ⟨rfl, hE, H⟩; clear hE) | ((with_reducible refine wpl_runx ?_ ?_); (focus exact rfl); refine ⟨_, runs_store H 2 rfl rfl rfl rfl rfl rfl rfl rfl rfl, ?_⟩; clear H; rintro _ w ⟨rfl, hE, H⟩; clear hE) | ((with_reducible refine wpl_runx ?_ ?_); (focus exact rfl); refine ⟨_, runs_store H 3 rfl rfl rfl rfl rfl rfl rfl rfl rfl, ?_⟩; clear H; rintro _ w ⟨rfl, hE, H⟩; clear hE) | ((with_reducible refine wpl_runx ?_ ?_); (focus exact rfl); refine ⟨_, runs_store H 4 rfl rfl rfl rfl rfl rfl rfl rfl rfl, ?_⟩; clear H; rintro _ w ⟨rfl, hE, H⟩; clear hE) | ((with_reducible refine wpl_runx ?_ ?_); (focus exact rfl); refine ⟨_, runs_store H 5 rfl rfl rfl rfl rfl rfl rfl rfl rfl, ?_⟩; clear H; rintro _ w ⟨rfl, hE, H⟩; clear hE) | ((with_reducible refine wpl_runx ?_ ?_); (focus exact rfl); refine ⟨_, runs_lookup (intKey .i64) H 3 rfl rfl rfl rfl Try.tyVM Try.tyI64k Try.tzI, ?_⟩; rw [hl]; rintro _ _ ⟨rfl, rfl⟩) | ((with_reducible refine wpl_runx ?_ ?_); (focus exact rfl); refine ⟨_, runs_mapUpdate (intKey .i64) H 3 rfl rfl rfl rfl rfl Try.tyVM Try.tyI64k (fun r => rfl), ?_⟩; clear H; rintro _ w ⟨rfl, hE, H⟩; clear hE) | ((with_reducible refine wpl_runx ?_ ?_); (focus exact rfl); refine ⟨_, runs_append1 H 2 rfl rfl rfl rfl rfl Try.infoI64 rfl (by decide) 0 rfl rfl rfl (by decide) (by unfold maxLen; omega) (by omega) (fun r => rfl), ?_⟩; clear H; rintro _ w ⟨g', cap', rfl, hE, H⟩; clear hE))
      go_end0
      refine ⟨⟨_, rfl⟩, _, ?_, ((H.drop 0 rfl).drop 0 rfl).packAll⟩
      rw [show varF x t = x ++ [t.int] by simp [varF, h1, h2]]
      exact ⟨_, by rw [putL_ones x t.int h2, show (x ++ [t.int]).map (Value.int .i64) = x.map (Value.int .i64) ++ [Value.int .i64 t.int] by simp, List.length_append]; rfl⟩
  · have e1 : (t.kind == 1) = false := by simpa using h1
    go_enter Try.func34, Try.ntmps34
    go_wp2_with (first | ((with_reducible refine wpl_runx_d 3 rfl ?_ ?_); (focus exact rfl); refine ⟨_, runs_box H rfl rfl, ?_⟩; clear H; rintro _ w ⟨b3, rfl, hE, H⟩; clear hE) | ((with_reducible refine wpl_runx_d 20 rfl ?_ ?_); (focus exact rfl); refine ⟨_, by apply runs_buildSlice H; iterate 10 rfl, ?_⟩; clear H; rintro _ w ⟨b20, rfl, hE, H⟩; clear hE) | ((with_reducible refine wpl_runx ?_ ?_); (focus exact rfl); refine ⟨_, runs_load H 0 rfl rfl rfl rfl rfl, ?_⟩; rintro _ _ ⟨rfl, rfl⟩) | ((with_reducible refine wpl_runx ?_ ?_); (focus exact rfl); refine ⟨_, runs_load H 1 rfl rfl rfl rfl rfl, ?_⟩; rintro _ _ ⟨rfl, rfl⟩) | ((with_reducible refine wpl_runx ?_ ?_); (focus exact rfl); refine ⟨_, runs_load H 2 rfl rfl rfl rfl rfl, ?_⟩; rintro _ _ ⟨rfl, rfl⟩) | ((with_reducible refine wpl_runx ?_ ?_); (focus exact rfl); refine ⟨_, runs_load H 3 rfl rfl rfl rfl rfl, ?_⟩; rintro _ _ ⟨rfl, rfl⟩) | ((with_reducible refine wpl_runx ?_ ?_); (focus exact rfl); refine ⟨_, runs_load H 4 rfl rfl rfl rfl rfl, ?_⟩; rintro _ _ ⟨rfl, rfl⟩) | ((with_reducible refine wpl_runx ?_ ?_); (focus exact rfl); refine ⟨_, runs_load H 5 rfl rfl rfl rfl rfl, ?_⟩; rintro _ _ ⟨rfl, rfl⟩) | ((with_reducible refine wpl_runx ?_ ?_); (focus exact rfl); refine ⟨_, runs_store H 0 rfl rfl rfl rfl rfl rfl rfl rfl rfl, ?_⟩; clear H; rintro _ w ⟨rfl, hE, H⟩; clear hE) | ((with_reducible refine wpl_runx ?_ ?_); (focus exact rfl); refine ⟨_, runs_store H 1 rfl rfl rfl rfl rfl rfl rfl rfl rfl, ?_⟩; clear H; rintro _ w ⟨rfl, hE, H⟩; clear hE) | ((with_reducible refine wpl_runx ?_ ?_); (focus exact rfl); refine ⟨_, runs_store H 2 rfl rfl rfl rfl rfl rfl rfl rfl rfl, ?_⟩; clear H; rintro _ w ⟨rfl, hE, H⟩; clear hE) | ((with_reducible refine wpl_runx ?_ ?_); (focus exact rfl); refine ⟨_, runs_store H 3 rfl rfl rfl rfl rfl rfl rfl rfl rfl, ?_⟩; clear H; rintro _ w ⟨rfl, hE, H⟩; clear hE) | ((with_reducible refine wpl_runx ?_ ?_); (focus exact rfl); refine ⟨_, runs_store H 4 rfl rfl rfl rfl rfl rfl rfl rfl rfl, ?_⟩; clear H; rintro _ w ⟨rfl, hE, H⟩; clear hE) | ((with_reducible refine wpl_runx ?_ ?_); (focus exact rfl); refine ⟨_, runs_store H 5 rfl rfl rfl rfl rfl rfl rfl rfl rfl, ?_⟩; clear H; rintro _ w ⟨rfl, hE, H⟩; clear hE))
    go_end0
    refine ⟨⟨_, rfl⟩, _, ?_, (H.drop 0 rfl).packAll⟩
    rw [show varF x t = x by simp [varF, h1]]
    exact ⟨_, rfl⟩
theorem vars_fn (bm bo mp : Nat) : EachOk (fun _ _ => True) (.func (.func 34) #[] #[.pointer (some ⟨bm, 0, none⟩), .pointer (some ⟨bo, 0, none⟩)]) varF (VarsR bm bo mp) List.length :=
  ⟨Stab.const _, fun x t => by unfold varF; split <;> simp, .inr ⟨_, _, rfl, fun _ _ => rfl, fun x r t A c M w hr hx hM hh hn _ _ => vars1_spec bm bo mp x r hr hx t A c M w hM hh hn⟩⟩

/-- A call answers a row of numbers. -/
def RetI (M : List Nat) (w : World) (l : List Int) (e : Ending) (w' : World) : Prop :=
  ∃ A c, e = .returned (.slice A l.length c) ∧ VR A c (l.map (Value.int .i64)) M w' ∧ Ext [] w w'

theorem vars_spec (t : Tm) (A : Option Addr) (c : Nat) (M : List Nat) (w0 : World) (hM : ∀ b ∈ M, b < w0.heap.size) (hA : AR A c t.args M w0) :
    Calls Try.prog 13 #[.agg #[.int .i64 t.kind, .string t.name, .int .i64 t.int, .int .u64 t.re, .int .u64 t.im, .slice A t.args.length c]] w0 (RetI M w0 (varsE t)) := by
  have H := St.start hM (AR.stab A c t.args) hA
  clear hA
  go_enter Try.func13, Try.ntmps13
  go_wp2_with (first | ((with_reducible refine wpl_runx_d 1 rfl ?_ ?_); (focus exact rfl); refine ⟨_, runs_box H rfl rfl, ?_⟩; clear H; rintro _ w ⟨b1, rfl, hE, H⟩; clear hE) | ((with_reducible refine wpl_runx_d 3 rfl ?_ ?_); (focus exact rfl); refine ⟨_, runs_alloc H rfl rfl rfl, ?_⟩; clear H; rintro _ w ⟨b3, rfl, hE, H⟩; clear hE) | ((with_reducible refine wpl_runx_d 4 rfl ?_ ?_); (focus exact rfl); refine ⟨_, runs_alloc H rfl rfl rfl, ?_⟩; clear H; rintro _ w ⟨b4, rfl, hE, H⟩; clear hE) | ((with_reducible refine wpl_runx ?_ ?_); (focus exact rfl); refine ⟨_, runs_load H 0 rfl rfl rfl rfl rfl, ?_⟩; rintro _ _ ⟨rfl, rfl⟩) | ((with_reducible refine wpl_runx ?_ ?_); (focus exact rfl); refine ⟨_, runs_load H 1 rfl rfl rfl rfl rfl, ?_⟩; rintro _ _ ⟨rfl, rfl⟩) | ((with_reducible refine wpl_runx ?_ ?_); (focus exact rfl); refine ⟨_, runs_load H 2 rfl rfl rfl rfl rfl, ?_⟩; rintro _ _ ⟨rfl, rfl⟩) | ((with_reducible refine wpl_runx ?_ ?_); (focus exact rfl); refine ⟨_, runs_load H 3 rfl rfl rfl rfl rfl, ?_⟩; rintro _ _ ⟨rfl, rfl⟩) | ((with_reducible refine wpl_runx ?_ ?_); (focus exact rfl); refine ⟨_, runs_store H 0 rfl rfl rfl rfl rfl rfl rfl rfl rfl, ?_⟩; clear H; rintro _ w ⟨rfl, hE, H⟩; clear hE) | ((with_reducible refine wpl_runx ?_ ?_); (focus exact rfl); refine ⟨_, runs_store H 1 rfl rfl rfl rfl rfl rfl rfl rfl rfl, ?_⟩; clear H; rintro _ w ⟨rfl, hE, H⟩; clear hE) | ((with_reducible refine wpl_runx ?_ ?_); (focus exact rfl); refine ⟨_, runs_store H 2 rfl rfl rfl rfl rfl rfl rfl rfl rfl, ?_⟩; clear H; rintro _ w ⟨rfl, hE, H⟩; clear hE) | ((with_reducible refine wpl_runx ?_ ?_); (focus exact rfl); refine ⟨_, runs_store H 3 rfl rfl rfl rfl rfl rfl rfl rfl rfl, ?_⟩; clear H; rintro _ w ⟨rfl, hE, H⟩; clear hE) | ((with_reducible refine wpl_runx_d 8 rfl ?_ ?_); (focus exact rfl); refine ⟨_, runs_makeMap (Value.int .i64) H rfl, ?_⟩; clear H; rintro _ w ⟨b8, rfl, hE, H⟩; clear hE) | (replace H := (H.nilRow 2 1).pack [_, _, _, _]; refine (walk_spec _ _ _ _ _ (vars_fn b4 b3 b8) t A c [] _ ⟨_, rfl⟩ rfl (H.nodupAt (k := 0) rfl) _ _ (H.restLt 0 rfl) (H.holds _ (by simp)) (H.rest (k := 0) rfl) trivial).mono ?_; rintro _ w ⟨n, d, er, x, r', rfl, hres, ⟨v', rfl⟩, h⟩; replace H := (H.call 0 rfl h (fun r => rfl)).unpack; clear h; simp only [List.cons_append, List.nil_append] at H; rcases hres with ⟨hres, rfl⟩ | ⟨hres, her, rfl, rfl⟩))
  · go_ret
    obtain ⟨A', c', rfl, H⟩ := H.sealV 0 rfl
    rw [show varsE t = x by simp [varsE, hres]]
    exact ⟨A', c', by simp, H.out.2, H.ext⟩
  · go_ret
    rw [show varsE t = [] by simp [varsE, hres]]
    exact ⟨none, 0, rfl, VR.nil _ _ _ _, H.ext⟩
end Go.Proofs.Ytfjdekiobggdoaa
