/- Walks: check.base; a walker that is made. -/
import Derived.Test.YtgopldabdheehaaChk1
import Derived.Test.YtgopldabdheehaaChk2
namespace Go.Proofs.Ytgopldabdheehaa
open Go.RowKit
set_option linter.unusedVariables false
set_option linter.unusedSimpArgs false
set_option maxRecDepth 20000
set_option maxHeartbeats 8000000
def stepB (n : Int) (x : Ins) : Int := if x.op == 15 then (if n < x.ar then x.ar else n) else if x.op == 16 then (if n < 1 then 1 else n) else n
def baseE (a : Int) (l : List Ins) : Int := l.foldl stepB a
theorem baseE_zero (a : Int) (l : List Ins) : baseE a (l.take 0) = a := rfl
theorem baseE_succ (a : Int) (l : List Ins) {j : Nat} {x : Ins} (h : l[j]? = some x) : baseE a (l.take (j + 1)) = stepB (baseE a (l.take j)) x := by
  obtain ⟨hl, rfl⟩ := List.getElem?_eq_some_iff.1 h
  unfold baseE
  rw [List.take_succ_eq_append_getElem hl, List.foldl_append]
  rfl
theorem stepB_le (n : Int) (x : Ins) : n ≤ stepB n x := by unfold stepB; repeat' split <;> omega
theorem baseE_le (l : List Ins) : ∀ a : Int, a ≤ baseE a l := by
  induction l with
  | nil => exact fun a => Int.le_refl _
  | cons x l ih => exact fun a => Int.le_trans (stepB_le a x) (ih _)
attribute [irreducible] baseE
theorem base_spec (c_m : ByteArray) (c_a c_r : Int) (Ac : Option Addr) (cc : Nat) (c : List Ins) (M : List Nat) (w0 : World) (hM : ∀ b ∈ M, b < w0.heap.size) (hc : IR Ac cc c M w0) (pre0 : c.length ≤ 1000000) : Calls Try.prog 21 #[.agg #[.string c_m, .int .i64 c_a, .int .i64 c_r, .slice Ac c.length cc]] w0 (RetV w0 (.int .i64 (baseE c_a c))) := by
  have H := St.start hM (IR.stab Ac cc c) hc
  clear hc
  go_enter Try.func21, Try.ntmps21
  go_wp2_with (first | ((with_reducible refine wpl_runx_d 1 rfl ?_ ?_); (focus exact rfl); refine ⟨_, runs_box H rfl rfl, ?_⟩; clear H; rintro _ w ⟨b1, rfl, hE, H⟩; clear hE) | ((with_reducible refine wpl_runx_d 5 rfl ?_ ?_); (focus exact rfl); refine ⟨_, runs_alloc H rfl rfl rfl, ?_⟩; clear H; rintro _ w ⟨b5, rfl, hE, H⟩; clear hE) | ((with_reducible refine wpl_runx ?_ ?_); (focus exact rfl); refine ⟨_, runs_load H 0 rfl rfl rfl rfl rfl, ?_⟩; rintro _ _ ⟨rfl, rfl⟩) | ((with_reducible refine wpl_runx ?_ ?_); (focus exact rfl); refine ⟨_, runs_load H 1 rfl rfl rfl rfl rfl, ?_⟩; rintro _ _ ⟨rfl, rfl⟩) | ((with_reducible refine wpl_runx ?_ ?_); (focus exact rfl); refine ⟨_, runs_load_cell H rfl rfl rfl rfl, ?_⟩; rintro _ _ ⟨rfl, rfl⟩) | ((with_reducible refine wpl_runx ?_ ?_); (focus exact rfl); refine ⟨_, runs_load_cell0 H rfl rfl rfl rfl, ?_⟩; rintro _ _ ⟨rfl, rfl⟩) | ((with_reducible refine wpl_runx ?_ ?_); (focus exact rfl); refine ⟨_, runs_load_obj H rfl rfl rfl rfl, ?_⟩; rintro _ _ ⟨rfl, rfl⟩) | ((with_reducible refine wpl_runx ?_ ?_); (focus exact rfl); refine ⟨_, runs_store H 0 rfl rfl rfl rfl rfl rfl rfl rfl rfl, ?_⟩; clear H; rintro _ w ⟨rfl, hE, H⟩; clear hE) | ((with_reducible refine wpl_runx ?_ ?_); (focus exact rfl); refine ⟨_, runs_store H 1 rfl rfl rfl rfl rfl rfl rfl rfl rfl, ?_⟩; clear H; rintro _ w ⟨rfl, hE, H⟩; clear hE) | ((with_reducible refine wpl_pureX ?_); refine ⟨rfl, rfl, ?_⟩; apply Exists.intro; apply And.intro; (focus (intro w; go_simp; (try with_reducible rfl); done)); (try simp only [Act.put, List.setIfInBounds_toArray, List.set_cons_succ, List.set_cons_zero])) | ((fail_if_success ((with_reducible refine wpl_runx ?_ ?_); (focus exact rfl))); ((with_reducible refine wpl_gcaseE ?_); refine ⟨_, rfl, ?_, ?_⟩) <;> (intro hg; first | (simp only [reduceCtorEq] at hg; done) | contradiction | ((with_reducible have hx := eq_of_beq hg); contradiction) | ((with_reducible have hx := ne_of_beq_false hg); contradiction) | ((with_reducible have hx := bne_iff_ne.1 hg); contradiction) | ((with_reducible have hx := bne_eq_false_iff_eq.1 hg); contradiction) | ((with_reducible have hx := of_decide_eq_true hg); first | contradiction | omega) | ((with_reducible have hx := of_decide_eq_false hg); first | contradiction | omega) | (simp only [Bool.not_eq_true', Bool.not_eq_false', beq_iff_eq, beq_eq_false_iff_ne, bne_iff_ne, ne_eq] at hg; contradiction) | (simp only [hg]))))
  go_loopw [3, 11] (fun nv iv wr => ∃ (j : Nat) (n : Int), j ≤ c.length ∧ baseE c_a (c.take j) = n ∧ nv = .int .i64 n ∧ iv = .int .i64 j ∧ St M [] w0 wr [.obj b1 (.cells #[.string c_m, .int .i64 c_a, .int .i64 c_r, .slice Ac c.length cc] 34 (0, 0))] (IR Ac cc c)) (fun _ iv _ => c.length - (intOf iv).toNat)
  case atStart => exact ⟨0, c_a, Nat.zero_le _, baseE_zero _ _, rfl, rfl, H⟩
  case round =>
    clear H
    obtain ⟨j, n, hj, hn, rfl, rfl, H⟩ := hrel
    replace hn := Lib.hid hn
    by_cases hlt : j < c.length
    · have i1 : (j : Int) < (c.length : Int) := by omega
      obtain ⟨x, hx⟩ : ∃ x, c[j]? = some x := ⟨_, List.getElem?_eq_getElem hlt⟩
      obtain ⟨b2, o2, A2, c2, hA, C2, f2⟩ := H.fact.2 j x hx
      subst hA
      replace H := (H.add C2 (CellF.stab _ _ _)).add f2 (AR.stab _ _ _)
      clear C2 f2
      have hs := baseE_succ c_a c hx
      rw [hn.out] at hs
      replace hs := Lib.hid hs; replace hx := Lib.hid hx
      unfold cellsI at H
      cases g : (x.op == 15)
      all_goals cases g2 : (x.op == 16)
      all_goals
        go_wp2_with (first | ((with_reducible refine wpl_runx_d 1 rfl ?_ ?_); (focus exact rfl); refine ⟨_, runs_box H rfl rfl, ?_⟩; clear H; rintro _ w ⟨b1, rfl, hE, H⟩; clear hE) | ((with_reducible refine wpl_runx_d 5 rfl ?_ ?_); (focus exact rfl); refine ⟨_, runs_alloc H rfl rfl rfl, ?_⟩; clear H; rintro _ w ⟨b5, rfl, hE, H⟩; clear hE) | ((with_reducible refine wpl_runx ?_ ?_); (focus exact rfl); refine ⟨_, runs_load H 0 rfl rfl rfl rfl rfl, ?_⟩; rintro _ _ ⟨rfl, rfl⟩) | ((with_reducible refine wpl_runx ?_ ?_); (focus exact rfl); refine ⟨_, runs_load H 1 rfl rfl rfl rfl rfl, ?_⟩; rintro _ _ ⟨rfl, rfl⟩) | ((with_reducible refine wpl_runx ?_ ?_); (focus exact rfl); refine ⟨_, runs_load_cell H rfl rfl rfl rfl, ?_⟩; rintro _ _ ⟨rfl, rfl⟩) | ((with_reducible refine wpl_runx ?_ ?_); (focus exact rfl); refine ⟨_, runs_load_cell0 H rfl rfl rfl rfl, ?_⟩; rintro _ _ ⟨rfl, rfl⟩) | ((with_reducible refine wpl_runx ?_ ?_); (focus exact rfl); refine ⟨_, runs_load_obj H rfl rfl rfl rfl, ?_⟩; rintro _ _ ⟨rfl, rfl⟩) | ((with_reducible refine wpl_runx ?_ ?_); (focus exact rfl); refine ⟨_, runs_store H 0 rfl rfl rfl rfl rfl rfl rfl rfl rfl, ?_⟩; clear H; rintro _ w ⟨rfl, hE, H⟩; clear hE) | ((with_reducible refine wpl_runx ?_ ?_); (focus exact rfl); refine ⟨_, runs_store H 1 rfl rfl rfl rfl rfl rfl rfl rfl rfl, ?_⟩; clear H; rintro _ w ⟨rfl, hE, H⟩; clear hE) | ((with_reducible refine wpl_pureX ?_); refine ⟨rfl, rfl, ?_⟩; apply Exists.intro; apply And.intro; (focus (intro w; go_simp; (try with_reducible rfl); done)); (try simp only [Act.put, List.setIfInBounds_toArray, List.set_cons_succ, List.set_cons_zero])) | ((fail_if_success ((with_reducible refine wpl_runx ?_ ?_); (focus exact rfl))); ((with_reducible refine wpl_gcaseE ?_); refine ⟨_, rfl, ?_, ?_⟩) <;> (intro hg; first | (simp only [reduceCtorEq] at hg; done) | contradiction | ((with_reducible have hx := eq_of_beq hg); contradiction) | ((with_reducible have hx := ne_of_beq_false hg); contradiction) | ((with_reducible have hx := bne_iff_ne.1 hg); contradiction) | ((with_reducible have hx := bne_eq_false_iff_eq.1 hg); contradiction) | ((with_reducible have hx := of_decide_eq_true hg); first | contradiction | omega) | ((with_reducible have hx := of_decide_eq_false hg); first | contradiction | omega) | (simp only [Bool.not_eq_true', Bool.not_eq_false', beq_iff_eq, beq_eq_false_iff_ne, bne_iff_ne, ne_eq] at hg; contradiction) | (simp only [hg]))))
        go_roundw
        case rel => exact ⟨j + 1, _, by omega, hs.out, by (first | rfl | (simp only [stepB, g, g2]; rfl) | (simp [stepB, g, g2]; done)), by go_num, (H.drop 0 rfl).weaken (fun h => h.1.1) (IR.stab _ _ _)⟩
        case measure => simp [intOf]; omega
    · obtain rfl : j = c.length := by omega
      have hn2 := hn.out
      rw [List.take_length] at hn2
      subst hn2
      go_wp2_with (first | ((with_reducible refine wpl_runx_d 1 rfl ?_ ?_); (focus exact rfl); refine ⟨_, runs_box H rfl rfl, ?_⟩; clear H; rintro _ w ⟨b1, rfl, hE, H⟩; clear hE) | ((with_reducible refine wpl_runx_d 5 rfl ?_ ?_); (focus exact rfl); refine ⟨_, runs_alloc H rfl rfl rfl, ?_⟩; clear H; rintro _ w ⟨b5, rfl, hE, H⟩; clear hE) | ((with_reducible refine wpl_runx ?_ ?_); (focus exact rfl); refine ⟨_, runs_load H 0 rfl rfl rfl rfl rfl, ?_⟩; rintro _ _ ⟨rfl, rfl⟩) | ((with_reducible refine wpl_runx ?_ ?_); (focus exact rfl); refine ⟨_, runs_load H 1 rfl rfl rfl rfl rfl, ?_⟩; rintro _ _ ⟨rfl, rfl⟩) | ((with_reducible refine wpl_runx ?_ ?_); (focus exact rfl); refine ⟨_, runs_load_cell H rfl rfl rfl rfl, ?_⟩; rintro _ _ ⟨rfl, rfl⟩) | ((with_reducible refine wpl_runx ?_ ?_); (focus exact rfl); refine ⟨_, runs_load_cell0 H rfl rfl rfl rfl, ?_⟩; rintro _ _ ⟨rfl, rfl⟩) | ((with_reducible refine wpl_runx ?_ ?_); (focus exact rfl); refine ⟨_, runs_load_obj H rfl rfl rfl rfl, ?_⟩; rintro _ _ ⟨rfl, rfl⟩) | ((with_reducible refine wpl_runx ?_ ?_); (focus exact rfl); refine ⟨_, runs_store H 0 rfl rfl rfl rfl rfl rfl rfl rfl rfl, ?_⟩; clear H; rintro _ w ⟨rfl, hE, H⟩; clear hE) | ((with_reducible refine wpl_runx ?_ ?_); (focus exact rfl); refine ⟨_, runs_store H 1 rfl rfl rfl rfl rfl rfl rfl rfl rfl, ?_⟩; clear H; rintro _ w ⟨rfl, hE, H⟩; clear hE) | ((with_reducible refine wpl_pureX ?_); refine ⟨rfl, rfl, ?_⟩; apply Exists.intro; apply And.intro; (focus (intro w; go_simp; (try with_reducible rfl); done)); (try simp only [Act.put, List.setIfInBounds_toArray, List.set_cons_succ, List.set_cons_zero])) | ((fail_if_success ((with_reducible refine wpl_runx ?_ ?_); (focus exact rfl))); ((with_reducible refine wpl_gcaseE ?_); refine ⟨_, rfl, ?_, ?_⟩) <;> (intro hg; first | (simp only [reduceCtorEq] at hg; done) | contradiction | ((with_reducible have hx := eq_of_beq hg); contradiction) | ((with_reducible have hx := ne_of_beq_false hg); contradiction) | ((with_reducible have hx := bne_iff_ne.1 hg); contradiction) | ((with_reducible have hx := bne_eq_false_iff_eq.1 hg); contradiction) | ((with_reducible have hx := of_decide_eq_true hg); first | contradiction | omega) | ((with_reducible have hx := of_decide_eq_false hg); first | contradiction | omega) | (simp only [Bool.not_eq_true', Bool.not_eq_false', beq_iff_eq, beq_eq_false_iff_ne, bne_iff_ne, ne_eq] at hg; contradiction) | (simp only [hg]))))
      go_ret
      exact ⟨rfl, H.ext⟩
theorem base_spec_c {M X : List Nat} {w1 w0 : World} {L : List Res} {F : List Nat → World → Prop} (H : St M X w1 w0 L F) (c_m : ByteArray) (c_a c_r : Int) (Ac : Option Addr) (cc lenc : Nat) (c : List Ins) [xc : HasIR F Ac cc c] (ec : lenc = c.length) (pre0 : c.length ≤ 1000000) : Calls Try.prog 21 #[.agg #[.string c_m, .int .i64 c_a, .int .i64 c_r, .slice Ac lenc cc]] w0 (RetV w0 (.int .i64 (baseE c_a c))) := by
  subst ec
  exact base_spec c_m c_a c_r Ac cc c _ _ H.ltAll H.ir pre0
theorem wk_make (n : Int) : wkL ⟨fun _ => false, n, 0, 0, false⟩ = List.replicate 200 (.bool false) ++ [.int .i64 n, .int .i64 0, .int .i64 0, .bool false] := by
  unfold wkL
  congr 1
theorem runs_makeWk {ev : Operand → Value} {o : Oper} {w : World} {x : Operand} (ho : o.op = .build 59 #[(1, x)]) {n : Int} (hx : ev x = .int .i64 n) : (execOp ev o).run Try.prog w = .ok (.value (.agg (wkL ⟨fun _ => false, n, 0, 0, false⟩).toArray)) w := by
  rw [wk_make]
  have hz : (zeroValue 59).run Try.prog w = .ok (Value.agg (List.replicate 200 (Value.bool false) ++ [Value.int .i64 0, Value.int .i64 0, Value.int .i64 0, Value.bool false] : List Value).toArray) w := by kernel_rfl
  unfold execOp
  simp only [ho, List.map_toArray, List.map_cons, List.map_nil, hx]
  unfold Instr.build
  simp only [Sem.run_bind, hz, Result.andThen_ok]
  first | rfl | (show _ = _; kernel_rfl)
end Go.Proofs.Ytgopldabdheehaa
