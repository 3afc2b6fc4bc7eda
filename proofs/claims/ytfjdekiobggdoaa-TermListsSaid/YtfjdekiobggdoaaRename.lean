/- Walks: Rename. -/
import Derived.Test.YtfjdekiobggdoaaVars
namespace Go.Proofs.Ytfjdekiobggdoaa
open Go.RowKit
set_option linter.unusedVariables false
set_option linter.unusedSimpArgs false
set_option maxRecDepth 20000
set_option maxHeartbeats 1000000

/-- Numbers given in order. -/
def renM : List Int → Int → List (Int × Value) → List (Int × Value)
  | [], _, m => m
  | a :: l, i, m => renM l (i + 1) (putL m a (.int .i64 i))
/-- The number of a variable, d if it has none. -/
def renF : List Int → Int → Int → Int → Int
  | [], _, d, _ => d
  | a :: l, i, d, n => renF l (i + 1) (if n = a then i else d) n
theorem renM_get : ∀ (l : List Int) (i : Int) (m : List (Int × Value)) (d n : Int), (getL m n).getD (.int .i64 0) = .int .i64 d → (getL (renM l i m) n).getD (.int .i64 0) = .int .i64 (renF l i d n)
  | [], _, _, _, _, h => h
  | a :: l, i, m, d, n, h => by
    refine renM_get l (i + 1) _ _ n ?_
    rw [getL_putL]
    split <;> simp [h]
def renameE (t : Tm) : Tm := if mayE t = 0 then turnT (fun n => varT (renF (varsE t) 0 0 n)) t else Tm.zero

theorem varF_len (x : List Int) (t : Tm) : (varF x t).length ≤ x.length + 1 := by unfold varF; split <;> simp
mutual
theorem foldT_len : ∀ (t : Tm) (x : List Int), (foldT varF t x).length ≤ x.length + nT t
  | .mk k s n r i l, x => by
    unfold foldT nT
    have := varF_len x (.mk k s n r i l)
    split
    · have := foldL_len l (varF x (.mk k s n r i l)); omega
    · omega
theorem foldL_len : ∀ (l : List Tm) (x : List Int), (foldL varF l x).length ≤ x.length + nL l
  | [], x => by simp [foldL, nL]
  | t :: ts, x => by
    unfold foldL nL
    have h1 := foldT_len t x
    have h2 := foldL_len ts (foldT varF t x)
    omega
end
theorem varsE_ok {t : Tm} (h : mayE t = 0) : varsE t = foldT varF t [] := by
  obtain ⟨a, b, c⟩ := mayE_ok.1 h
  unfold varsE
  rw [chkG_of_ok varF t 1 0 0 [] a (by omega) (by omega)]
theorem varsE_len {t : Tm} (h : mayE t = 0) : (varsE t).length ≤ 2000 := by
  have := foldT_len t []
  rw [varsE_ok h]
  obtain ⟨a, b, c⟩ := mayE_ok.1 h
  simp at this
  omega

theorem Try.tyRM : Try.prog.underlying 61 = some (.map 2 2) := by kernel_rfl
theorem Try.tzI64 : tyZero Try.prog 2 = some (.int .i64 0) := by kernel_rfl

/-- What Rename's closure reads. -/
def RenG (b mp : Nat) (m : List (Int × Value)) (M : List Nat) (w : World) : Prop := ObjF b (.cells #[.map (some mp)] 61) M w ∧ MapF (Value.int .i64) mp m M w

theorem rename1_spec (b mp : Nat) (l : List Int) (n : Int) (M : List Nat) (w0 : World) (hM : ∀ b ∈ M, b < w0.heap.size) (hG : RenG b mp (renM l 0 []) M w0) :
    Calls Try.prog 43 #[.int .i64 n, .pointer (some ⟨b, 0, none⟩)] w0 (RetT M w0 (varT (renF l 0 0 n))) := by
  have H := St.start hM ((ObjF.stab _ _).and (MapF.stab _ _ _)) hG
  clear hG
  have hg := renM_get l 0 [] 0 n rfl
  go_enter Try.func43, Try.ntmps43
  go_wp2_with (first | ((with_reducible refine wpl_runx_d 3 rfl ?_ ?_); (focus exact rfl); refine ⟨_, runs_alloc H rfl rfl rfl, ?_⟩; clear H; rintro _ w ⟨b3, rfl, hE, H⟩; clear hE) | ((with_reducible refine wpl_runx ?_ ?_); (focus exact rfl); refine ⟨_, runs_load H 0 rfl rfl rfl rfl rfl, ?_⟩; rintro _ _ ⟨rfl, rfl⟩) | ((with_reducible refine wpl_runx ?_ ?_); (focus exact rfl); refine ⟨_, runs_store H 0 rfl rfl rfl rfl rfl rfl rfl rfl rfl, ?_⟩; clear H; rintro _ w ⟨rfl, hE, H⟩; clear hE) | ((with_reducible refine wpl_runx ?_ ?_); (focus exact rfl); refine ⟨_, runs_load_at rfl rfl rfl (cells_open H.out.1.1) rfl, ?_⟩; rintro _ _ ⟨rfl, rfl⟩) | ((with_reducible refine wpl_runx ?_ ?_); (focus exact rfl); refine ⟨_, runs_lookup_at (intKey .i64) H.out.2.1 rfl rfl rfl Try.tyRM Try.tyI64k Try.tzI64, ?_⟩; simp only [hg, Bool.false_eq_true, if_false]; rintro _ _ ⟨rfl, rfl⟩) | (refine (variable_spec _ _ _ H.ltAll).mono ?_; rintro _ w ⟨A2, c2, rfl, hA2, hE⟩; replace H := (H.step hE).add hA2 (AR.stab _ _ _); clear hE hA2))
  refine (ret_cell H 0 rfl rfl rfl rfl rfl rfl ?_).1
  exact ⟨_, _, rfl, H.out.2, H.ext⟩

theorem rename_fn (b mp : Nat) (l : List Int) : FnT (RenG b mp (renM l 0 [])) 43 #[.pointer (some ⟨b, 0, none⟩)] (fun n => varT (renF l 0 0 n)) :=
  ⟨fun _ _ => rfl, (ObjF.stab _ _).and (MapF.stab _ _ _), fun n M w hM hG => rename1_spec b mp l n M w hM hG⟩

theorem rename_spec (t : Tm) (A : Option Addr) (c : Nat) (M : List Nat) (w0 : World) (hM : ∀ b ∈ M, b < w0.heap.size) (hA : AR A c t.args M w0) :
    Calls Try.prog 23 #[.agg #[.int .i64 t.kind, .string t.name, .int .i64 t.int, .int .u64 t.re, .int .u64 t.im, .slice A t.args.length c]] w0 (RetT M w0 (renameE t)) := by
  have H := St.start hM (AR.stab A c t.args) hA
  clear hA
  by_cases h : mayE t = 0
  · have e1 : (mayE t == 0) = true := by simpa using h
    have hvl := varsE_len h
    go_enter Try.func23, Try.ntmps23
    go_wp2_with (first | ((with_reducible refine wpl_runx_d 1 rfl ?_ ?_); (focus exact rfl); refine ⟨_, runs_box H rfl rfl, ?_⟩; clear H; rintro _ w ⟨b1, rfl, hE, H⟩; clear hE) | ((with_reducible refine wpl_runx_d 2 rfl ?_ ?_); (focus exact rfl); refine ⟨_, runs_alloc H rfl rfl rfl, ?_⟩; clear H; rintro _ w ⟨b2, rfl, hE, H⟩; clear hE) | ((with_reducible refine wpl_runx_d 3 rfl ?_ ?_); (focus exact rfl); refine ⟨_, runs_alloc H rfl rfl rfl, ?_⟩; clear H; rintro _ w ⟨b3, rfl, hE, H⟩; clear hE) | ((with_reducible refine wpl_runx ?_ ?_); (focus exact rfl); refine ⟨_, runs_load H 0 rfl rfl rfl rfl rfl, ?_⟩; rintro _ _ ⟨rfl, rfl⟩) | ((with_reducible refine wpl_runx ?_ ?_); (focus exact rfl); refine ⟨_, runs_load H 1 rfl rfl rfl rfl rfl, ?_⟩; rintro _ _ ⟨rfl, rfl⟩) | ((with_reducible refine wpl_runx ?_ ?_); (focus exact rfl); refine ⟨_, runs_load H 2 rfl rfl rfl rfl rfl, ?_⟩; rintro _ _ ⟨rfl, rfl⟩) | ((with_reducible refine wpl_runx ?_ ?_); (focus exact rfl); refine ⟨_, runs_load H 3 rfl rfl rfl rfl rfl, ?_⟩; rintro _ _ ⟨rfl, rfl⟩) | ((with_reducible refine wpl_runx ?_ ?_); (focus exact rfl); refine ⟨_, runs_store H 0 rfl rfl rfl rfl rfl rfl rfl rfl rfl, ?_⟩; clear H; rintro _ w ⟨rfl, hE, H⟩; clear hE) | ((with_reducible refine wpl_runx ?_ ?_); (focus exact rfl); refine ⟨_, runs_store H 1 rfl rfl rfl rfl rfl rfl rfl rfl rfl, ?_⟩; clear H; rintro _ w ⟨rfl, hE, H⟩; clear hE) | ((with_reducible refine wpl_runx ?_ ?_); (focus exact rfl); refine ⟨_, runs_store H 2 rfl rfl rfl rfl rfl rfl rfl rfl rfl, ?_⟩; clear H; rintro _ w ⟨rfl, hE, H⟩; clear hE) | ((with_reducible refine wpl_runx ?_ ?_); (focus exact rfl); refine ⟨_, runs_store H 3 rfl rfl rfl rfl rfl rfl rfl rfl rfl, ?_⟩; clear H; rintro _ w ⟨rfl, hE, H⟩; clear hE) | (refine (may_spec t A c _ ((AR.stab _ _ _).sub _ [] _ (fun _ h => by cases h) H.out)).mono ?_; rintro _ w ⟨rfl, hE⟩; replace H := H.step hE; clear hE) | ((with_reducible refine wpl_runx_d 10 rfl ?_ ?_); (focus exact rfl); refine ⟨_, runs_makeMap (Value.int .i64) H rfl, ?_⟩; clear H; rintro _ w ⟨b10, rfl, hE, H⟩; clear hE) | (refine (vars_spec t A c _ _ H.ltAll H.fact).mono ?_; rintro _ w ⟨A1, c1, rfl, hV, hE⟩; replace H := (H.step hE).add hV (VR.stab _ _ _); clear hE hV))
    go_loopw [14] (fun iv wr => ∃ (j : Nat) (m : List (Int × Value)), j ≤ (varsE t).length ∧ iv = .int .i64 j ∧ renM ((varsE t).drop j) j m = renM (varsE t) 0 [] ∧
      St M [] w0 wr [.obj b3 (.cells #[.map (some b10)] 61), mapR (Value.int .i64) b10 m, .obj b2 (.cells #[.int .i64 0, .string ⟨#[]⟩, .int .i64 0, .int .u64 0, .int .u64 0, .slice none 0 0] 25 (0, 0)), .obj b1 (.cells #[.int .i64 t.kind, .string t.name, .int .i64 t.int, .int .u64 t.re, .int .u64 t.im, .slice A t.args.length c] 25 (0, 0))] fun M w => AR A c t.args M w ∧ VR A1 c1 ((varsE t).map (Value.int .i64)) M w) (fun iv _ => (varsE t).length - (intOf iv).toNat)
    case atStart => exact ⟨0, [], Nat.zero_le _, rfl, rfl, H⟩
    case round =>
      clear H
      obtain ⟨j, m, hj, rfl, hm, H⟩ := hrel
      by_cases hlt : j < (varsE t).length
      · obtain ⟨b, o, rfl, HC⟩ := H.fact.2.at j (by simpa using hlt)
        rw [List.getElem_map] at HC
        replace HC := Lib.hid HC
        go_wp2_with (first | ((with_reducible refine wpl_runx_d 1 rfl ?_ ?_); (focus exact rfl); refine ⟨_, runs_box H rfl rfl, ?_⟩; clear H; rintro _ w ⟨b1, rfl, hE, H⟩; clear hE) | ((with_reducible refine wpl_runx_d 2 rfl ?_ ?_); (focus exact rfl); refine ⟨_, runs_alloc H rfl rfl rfl, ?_⟩; clear H; rintro _ w ⟨b2, rfl, hE, H⟩; clear hE) | ((with_reducible refine wpl_runx_d 3 rfl ?_ ?_); (focus exact rfl); refine ⟨_, runs_alloc H rfl rfl rfl, ?_⟩; clear H; rintro _ w ⟨b3, rfl, hE, H⟩; clear hE) | ((with_reducible refine wpl_runx ?_ ?_); (focus exact rfl); refine ⟨_, runs_load H 0 rfl rfl rfl rfl rfl, ?_⟩; rintro _ _ ⟨rfl, rfl⟩) | ((with_reducible refine wpl_runx ?_ ?_); (focus exact rfl); refine ⟨_, runs_load H 1 rfl rfl rfl rfl rfl, ?_⟩; rintro _ _ ⟨rfl, rfl⟩) | ((with_reducible refine wpl_runx ?_ ?_); (focus exact rfl); refine ⟨_, runs_load H 2 rfl rfl rfl rfl rfl, ?_⟩; rintro _ _ ⟨rfl, rfl⟩) | ((with_reducible refine wpl_runx ?_ ?_); (focus exact rfl); refine ⟨_, runs_load H 3 rfl rfl rfl rfl rfl, ?_⟩; rintro _ _ ⟨rfl, rfl⟩) | ((with_reducible refine wpl_runx ?_ ?_); (focus exact rfl); refine ⟨_, runs_store H 0 rfl rfl rfl rfl rfl rfl rfl rfl rfl, ?_⟩; clear H; rintro _ w ⟨rfl, hE, H⟩; clear hE) | ((with_reducible refine wpl_runx ?_ ?_); (focus exact rfl); refine ⟨_, runs_store H 1 rfl rfl rfl rfl rfl rfl rfl rfl rfl, ?_⟩; clear H; rintro _ w ⟨rfl, hE, H⟩; clear hE) | ((with_reducible refine wpl_runx ?_ ?_); (focus exact rfl); refine ⟨_, runs_store H 2 rfl rfl rfl rfl rfl rfl rfl rfl rfl, ?_⟩; clear H; rintro _ w ⟨rfl, hE, H⟩; clear hE) | ((with_reducible refine wpl_runx ?_ ?_); (focus exact rfl); refine ⟨_, runs_store H 3 rfl rfl rfl rfl rfl rfl rfl rfl rfl, ?_⟩; clear H; rintro _ w ⟨rfl, hE, H⟩; clear hE) | ((with_reducible refine wpl_runx ?_ ?_); (focus exact rfl); refine ⟨_, runs_load_at rfl rfl rfl HC.out rfl, ?_⟩; rintro _ _ ⟨rfl, rfl⟩) | ((with_reducible refine wpl_runx ?_ ?_); (focus exact rfl); refine ⟨_, runs_mapUpdate (intKey .i64) H 1 rfl rfl rfl rfl rfl Try.tyRM Try.tyI64k (fun r => rfl), ?_⟩; clear H; rintro _ w ⟨rfl, hE, H⟩; clear hE))
        clear HC
        go_roundw
        case rel =>
          refine ⟨j + 1, _, by omega, by go_num, ?_, H⟩
          rw [← hm, List.drop_eq_getElem_cons hlt, renM]
          congr 1
        case measure => simp [intOf]; omega
      · obtain rfl : j = (varsE t).length := by omega
        rw [List.drop_length, renM] at hm
        subst hm
        replace H := (H.sealObj 0 rfl).sealMap 0 rfl
        simp only [List.eraseIdx_zero, List.tail_cons] at H
        go_wp2_with (first | ((with_reducible refine wpl_runx_d 1 rfl ?_ ?_); (focus exact rfl); refine ⟨_, runs_box H rfl rfl, ?_⟩; clear H; rintro _ w ⟨b1, rfl, hE, H⟩; clear hE) | ((with_reducible refine wpl_runx_d 2 rfl ?_ ?_); (focus exact rfl); refine ⟨_, runs_alloc H rfl rfl rfl, ?_⟩; clear H; rintro _ w ⟨b2, rfl, hE, H⟩; clear hE) | ((with_reducible refine wpl_runx_d 3 rfl ?_ ?_); (focus exact rfl); refine ⟨_, runs_alloc H rfl rfl rfl, ?_⟩; clear H; rintro _ w ⟨b3, rfl, hE, H⟩; clear hE) | ((with_reducible refine wpl_runx ?_ ?_); (focus exact rfl); refine ⟨_, runs_load H 0 rfl rfl rfl rfl rfl, ?_⟩; rintro _ _ ⟨rfl, rfl⟩) | ((with_reducible refine wpl_runx ?_ ?_); (focus exact rfl); refine ⟨_, runs_load H 1 rfl rfl rfl rfl rfl, ?_⟩; rintro _ _ ⟨rfl, rfl⟩) | ((with_reducible refine wpl_runx ?_ ?_); (focus exact rfl); refine ⟨_, runs_store H 0 rfl rfl rfl rfl rfl rfl rfl rfl rfl, ?_⟩; clear H; rintro _ w ⟨rfl, hE, H⟩; clear hE) | ((with_reducible refine wpl_runx ?_ ?_); (focus exact rfl); refine ⟨_, runs_store H 1 rfl rfl rfl rfl rfl rfl rfl rfl rfl, ?_⟩; clear H; rintro _ w ⟨rfl, hE, H⟩; clear hE) | (refine (turn_any _ _ _ _ (rename_fn b3 b10 (varsE t)) t _ _ A c H.ltAll H.fact.1.1.1 (mayE_slim h) ⟨H.fact.1.2, H.fact.2⟩).mono ?_; rintro _ w ⟨A2, c2, rfl, hA2, hE⟩; replace H := (H.step hE).add hA2 (AR.stab _ _ _); clear hE hA2))
        refine (ret_cell H 0 rfl rfl rfl rfl rfl rfl ?_).1
        rw [show renameE t = turnT (fun n => varT (renF (varsE t) 0 0 n)) t by simp [renameE, h]]
        exact ⟨_, _, rfl, H.out.2, H.ext⟩
  · have e1 : (mayE t == 0) = false := by simpa using h
    go_enter Try.func23, Try.ntmps23
    go_wp2_with (first | ((with_reducible refine wpl_runx_d 1 rfl ?_ ?_); (focus exact rfl); refine ⟨_, runs_box H rfl rfl, ?_⟩; clear H; rintro _ w ⟨b1, rfl, hE, H⟩; clear hE) | ((with_reducible refine wpl_runx_d 2 rfl ?_ ?_); (focus exact rfl); refine ⟨_, runs_alloc H rfl rfl rfl, ?_⟩; clear H; rintro _ w ⟨b2, rfl, hE, H⟩; clear hE) | ((with_reducible refine wpl_runx_d 3 rfl ?_ ?_); (focus exact rfl); refine ⟨_, runs_alloc H rfl rfl rfl, ?_⟩; clear H; rintro _ w ⟨b3, rfl, hE, H⟩; clear hE) | ((with_reducible refine wpl_runx ?_ ?_); (focus exact rfl); refine ⟨_, runs_load H 0 rfl rfl rfl rfl rfl, ?_⟩; rintro _ _ ⟨rfl, rfl⟩) | ((with_reducible refine wpl_runx ?_ ?_); (focus exact rfl); refine ⟨_, runs_load H 1 rfl rfl rfl rfl rfl, ?_⟩; rintro _ _ ⟨rfl, rfl⟩) | ((with_reducible refine wpl_runx ?_ ?_); (focus exact rfl); refine ⟨_, runs_store H 0 rfl rfl rfl rfl rfl rfl rfl rfl rfl, ?_⟩; clear H; rintro _ w ⟨rfl, hE, H⟩; clear hE) | ((with_reducible refine wpl_runx ?_ ?_); (focus exact rfl); refine ⟨_, runs_store H 1 rfl rfl rfl rfl rfl rfl rfl rfl rfl, ?_⟩; clear H; rintro _ w ⟨rfl, hE, H⟩; clear hE) | (refine (may_spec t A c _ ((AR.stab _ _ _).sub _ [] _ (fun _ h => by cases h) H.out)).mono ?_; rintro _ w ⟨rfl, hE⟩; replace H := H.step hE; clear hE))
    refine (ret_cell H 0 rfl rfl rfl rfl rfl rfl ?_).1
    rw [show renameE t = Tm.zero by simp [renameE, h]]
    exact ⟨_, _, rfl, AR.nil _ _ _ _, H.ext⟩
end Go.Proofs.Ytfjdekiobggdoaa
