/- Walks: all operators; a copy of a table. -/
import Derived.Test.YthapmdlminnihaaOpTab
import Derived.Test.YthapmdlminnihaaFApp
import Derived.Laws.Cover3
import Derived.Laws.StructEq
namespace Go.Proofs.Ythapmdlminnihaa
open Go.RowKit
set_option linter.unusedVariables false
set_option linter.unusedSimpArgs false
set_option maxRecDepth 20000
set_option maxHeartbeats 4000000
attribute [local irreducible] infE placeE mayO cmpO
theorem OR.src {A : Option Addr} {c : Nat} {l : List OpT} {M : List Nat} {w : World} (h : OR A c l M w) : l.length = 0 ∨ ∃ b d, A = some ⟨b, d, none⟩ ∧ ∀ j u, (opsL l)[j]? = some u → w.cell? ⟨b, d + j, none⟩ = some u := by
  rcases h.2 with rfl | ⟨b, d, e, h1, h2, hc⟩
  · exact .inl rfl
  · exact .inr ⟨b, d, e, hc⟩
theorem opsL_all (l : List OpT) : (opsL l).all Value.oneCell' = true := List.all_eq_true.2 fun v hv => opsL_one l v hv
theorem eqlNil (a : Option Addr) (l c : Nat) (w : World) : (binOp .eql 22 (.slice a l c) (.slice none 0 0)).run Try.prog w = .ok (.bool a.isNone) w := by
  simp only [binOp]
  simp [run_equal_slice_nil w 22 32 a l c Try.underlying22]
/-- A row of the call's own. -/
def RetOR (l : List OpT) (w : World) (e : Ending) (w' : World) : Prop := ∃ v, e = .returned v ∧ St [] [] w w' [.row v l.length (opsL l) 32 3] (fun _ _ => True)
theorem clone_spec (l : List OpT) (hl : l.length ≤ 1000) (A : Option Addr) (c : Nat) (hc0 : A = none → c = 0) (w0 : World) (hA : OR A c l [] w0) :
    Calls Try.prog 26 #[.slice A l.length c] w0 (RetOR l w0) := by
  have H := St.start (M := []) (by simp) (OR.stab A c l) hA
  cases A with
  | none =>
    obtain rfl : l = [] := by
      rcases hA.2 with h | ⟨b, d, e, _⟩
      · exact h
      · cases e
    obtain rfl := hc0 rfl
    clear hA hc0
    have hnil := eqlNil
    go_enter Try.func26, Try.ntmps26
    go_wp2_with (first | ((with_reducible refine wpl_runx_d 5 rfl ?_ ?_); (focus exact rfl); refine ⟨_, by apply runs_buildSlice H; iterate 10 rfl, ?_⟩; clear H; rintro _ w ⟨b5, rfl, hE, H⟩; clear hE) | ((with_reducible refine wpl_runx ?_ ?_); (focus exact rfl); refine ⟨_, runs_load H 0 rfl rfl rfl rfl rfl, ?_⟩; rintro _ _ ⟨rfl, rfl⟩) | ((with_reducible refine wpl_runx ?_ ?_); (focus exact rfl); refine ⟨_, runs_load H 1 rfl rfl rfl rfl rfl, ?_⟩; rintro _ _ ⟨rfl, rfl⟩) | ((with_reducible refine wpl_runx ?_ ?_); (focus exact rfl); refine ⟨_, runs_load_cell H rfl rfl rfl rfl, ?_⟩; rintro _ _ ⟨rfl, rfl⟩) | ((with_reducible refine wpl_runx ?_ ?_); (focus exact rfl); refine ⟨_, runs_load_cell0 H rfl rfl rfl rfl, ?_⟩; rintro _ _ ⟨rfl, rfl⟩) | ((with_reducible refine wpl_runx ?_ ?_); (focus exact rfl); refine ⟨_, runs_load_obj H rfl rfl rfl rfl, ?_⟩; rintro _ _ ⟨rfl, rfl⟩) | ((with_reducible refine wpl_runx ?_ ?_); (focus exact rfl); refine ⟨_, runs_store H 0 rfl rfl rfl rfl rfl rfl rfl rfl rfl, ?_⟩; clear H; rintro _ w ⟨rfl, hE, H⟩; clear hE) | ((with_reducible refine wpl_runx ?_ ?_); (focus exact rfl); refine ⟨_, runs_store H 1 rfl rfl rfl rfl rfl rfl rfl rfl rfl, ?_⟩; clear H; rintro _ w ⟨rfl, hE, H⟩; clear hE) | ((with_reducible refine wpl_pureX ?_); refine ⟨rfl, rfl, ?_⟩; apply Exists.intro; apply And.intro; (focus (intro w; go_simp; (try with_reducible rfl); done)); (try simp only [Act.put, List.setIfInBounds_toArray, List.set_cons_succ, List.set_cons_zero])) | ((fail_if_success ((with_reducible refine wpl_runx ?_ ?_); (focus exact rfl))); ((with_reducible refine wpl_gcaseE ?_); refine ⟨_, rfl, ?_, ?_⟩) <;> (intro hg; first | (simp only [reduceCtorEq] at hg; done) | contradiction | ((with_reducible have hx := eq_of_beq hg); contradiction) | ((with_reducible have hx := ne_of_beq_false hg); contradiction) | ((with_reducible have hx := bne_iff_ne.1 hg); contradiction) | ((with_reducible have hx := bne_eq_false_iff_eq.1 hg); contradiction) | ((with_reducible have hx := of_decide_eq_true hg); first | contradiction | omega) | ((with_reducible have hx := of_decide_eq_false hg); first | contradiction | omega) | (simp only [Bool.not_eq_true', Bool.not_eq_false', beq_iff_eq, beq_eq_false_iff_ne, bne_iff_ne, ne_eq] at hg; contradiction) | (simp only [hg]))))
    go_ret
    exact ⟨_, rfl, (H.nilRow 32 3).weaken (fun _ => trivial) (Stab.const True)⟩
  | some a =>
    clear hA hc0
    have hnil := eqlNil
    go_enter Try.func26, Try.ntmps26
    go_wp2_with (first | ((with_reducible refine wpl_runx_d 5 rfl ?_ ?_); (focus exact rfl); refine ⟨_, by apply runs_buildSlice H; iterate 10 rfl, ?_⟩; clear H; rintro _ w ⟨b5, rfl, hE, H⟩; clear hE) | ((with_reducible refine wpl_runx ?_ ?_); (focus exact rfl); refine ⟨_, runs_load H 0 rfl rfl rfl rfl rfl, ?_⟩; rintro _ _ ⟨rfl, rfl⟩) | ((with_reducible refine wpl_runx ?_ ?_); (focus exact rfl); refine ⟨_, runs_load H 1 rfl rfl rfl rfl rfl, ?_⟩; rintro _ _ ⟨rfl, rfl⟩) | ((with_reducible refine wpl_runx ?_ ?_); (focus exact rfl); refine ⟨_, runs_load_cell H rfl rfl rfl rfl, ?_⟩; rintro _ _ ⟨rfl, rfl⟩) | ((with_reducible refine wpl_runx ?_ ?_); (focus exact rfl); refine ⟨_, runs_load_cell0 H rfl rfl rfl rfl, ?_⟩; rintro _ _ ⟨rfl, rfl⟩) | ((with_reducible refine wpl_runx ?_ ?_); (focus exact rfl); refine ⟨_, runs_load_obj H rfl rfl rfl rfl, ?_⟩; rintro _ _ ⟨rfl, rfl⟩) | ((with_reducible refine wpl_runx ?_ ?_); (focus exact rfl); refine ⟨_, runs_store H 0 rfl rfl rfl rfl rfl rfl rfl rfl rfl, ?_⟩; clear H; rintro _ w ⟨rfl, hE, H⟩; clear hE) | ((with_reducible refine wpl_runx ?_ ?_); (focus exact rfl); refine ⟨_, runs_store H 1 rfl rfl rfl rfl rfl rfl rfl rfl rfl, ?_⟩; clear H; rintro _ w ⟨rfl, hE, H⟩; clear hE) | ((with_reducible refine wpl_runx ?_ ?_); (focus exact rfl); refine ⟨_, runs_buildEmpty H rfl rfl rfl, ?_⟩; clear H; rintro _ w ⟨b5, rfl, hE, H⟩; clear hE) | ((with_reducible refine wpl_runx ?_ ?_); (focus exact rfl); replace H := H.emptyRow 0 rfl 3 (fun r => rfl); refine ⟨_, runs_appendV H 0 rfl rfl rfl rfl (opsL_len l) H.fact.src (opsL_all l) rfl Try.infoOp rfl (by decide) (by unfold maxLen; omega) (by omega) (fun r => rfl), ?_⟩; clear H; rintro _ w ⟨A', cap', rfl, hE, H⟩; clear hE) | ((with_reducible refine wpl_pureX ?_); refine ⟨rfl, rfl, ?_⟩; apply Exists.intro; apply And.intro; (focus (intro w; go_simp; (try with_reducible rfl); done)); (try simp only [Act.put, List.setIfInBounds_toArray, List.set_cons_succ, List.set_cons_zero])) | ((fail_if_success ((with_reducible refine wpl_runx ?_ ?_); (focus exact rfl))); ((with_reducible refine wpl_gcaseE ?_); refine ⟨_, rfl, ?_, ?_⟩) <;> (intro hg; first | (simp only [reduceCtorEq] at hg; done) | contradiction | ((with_reducible have hx := eq_of_beq hg); contradiction) | ((with_reducible have hx := ne_of_beq_false hg); contradiction) | ((with_reducible have hx := bne_iff_ne.1 hg); contradiction) | ((with_reducible have hx := bne_eq_false_iff_eq.1 hg); contradiction) | ((with_reducible have hx := of_decide_eq_true hg); first | contradiction | omega) | ((with_reducible have hx := of_decide_eq_false hg); first | contradiction | omega) | (simp only [Bool.not_eq_true', Bool.not_eq_false', beq_iff_eq, beq_eq_false_iff_ne, bne_iff_ne, ne_eq] at hg; contradiction) | (simp only [hg]))))
    rw [List.nil_append, Nat.zero_add] at H
    go_ret
    refine ⟨_, ?_, H.weaken (fun _ => trivial) (Stab.const True)⟩
    simp
theorem tab_look0 {T : TypeId} {bt : Nat} {v : Value} {l : List OpT} {w : World} (h : tabH T bt v l w) : ∃ A c, v = .slice A l.length c ∧ (A = none → c = 0) ∧ ObjF bt (.cells #[.slice A l.length c] T (0, 0)) [] w ∧ OR A c l [] w := by
  obtain ⟨A, c, rfl, hO, hA⟩ := tab_look h
  refine ⟨A, c, rfl, fun e => ?_, hO, hA⟩
  subst e
  rcases h.2.2 with ⟨e, _⟩ | ⟨g, cap, cur, e, _⟩
  · simp only [Value.slice.injEq] at e
    exact e.2.2
  · simp at e
theorem all_spec (l : List OpT) (hl : l.length ≤ 1000) (T : TypeId) (bt : Nat) (v : Value) (w0 : World) (h : tabH T bt v l w0) :
    Calls Try.prog 12 #[.pointer (some ⟨bt, 0, none⟩)] w0 (RetOR l w0) := by
  obtain ⟨A, c, rfl, h0, hO, hA⟩ := tab_look0 h
  clear h
  have hc := fun w (h : OR A c l [] w) => clone_spec l hl A c h0 w h
  have H := St.start (M := []) (by simp) ((ObjF.stab bt (.cells #[.slice A l.length c] T (0, 0))).and (OR.stab A c l)) ⟨hO, hA⟩
  clear hO hA h0
  obtain ⟨N, hN⟩ : ∃ N, l.length = N := ⟨_, rfl⟩
  rw [hN] at H hc
  clear hN hl
  replace hc := Lib.hid hc
  go_enter Try.func12, Try.ntmps12
  go_wp2_with (first | ((with_reducible refine wpl_runx ?_ ?_); (focus exact rfl); refine ⟨_, runs_load H 0 rfl rfl rfl rfl rfl, ?_⟩; rintro _ _ ⟨rfl, rfl⟩) | ((with_reducible refine wpl_runx ?_ ?_); (focus exact rfl); refine ⟨_, runs_load H 1 rfl rfl rfl rfl rfl, ?_⟩; rintro _ _ ⟨rfl, rfl⟩) | ((with_reducible refine wpl_runx ?_ ?_); (focus exact rfl); refine ⟨_, runs_load_cell H rfl rfl rfl rfl, ?_⟩; rintro _ _ ⟨rfl, rfl⟩) | ((with_reducible refine wpl_runx ?_ ?_); (focus exact rfl); refine ⟨_, runs_load_cell0 H rfl rfl rfl rfl, ?_⟩; rintro _ _ ⟨rfl, rfl⟩) | ((with_reducible refine wpl_runx ?_ ?_); (focus exact rfl); refine ⟨_, runs_load_obj H rfl rfl rfl rfl, ?_⟩; rintro _ _ ⟨rfl, rfl⟩) | ((with_reducible refine wpl_runx ?_ ?_); (focus exact rfl); refine ⟨_, runs_store H 0 rfl rfl rfl rfl rfl rfl rfl rfl rfl, ?_⟩; clear H; rintro _ w ⟨rfl, hE, H⟩; clear hE) | ((with_reducible refine wpl_runx ?_ ?_); (focus exact rfl); refine ⟨_, runs_store H 1 rfl rfl rfl rfl rfl rfl rfl rfl rfl, ?_⟩; clear H; rintro _ w ⟨rfl, hE, H⟩; clear hE) | (go_at_call 26; refine Calls.mono (hc.out _ H.fact.2.nil0) ?_; rintro _ w ⟨v', rfl, h⟩; replace H := H.addNew h; clear h) | ((with_reducible refine wpl_pureX ?_); refine ⟨rfl, rfl, ?_⟩; apply Exists.intro; apply And.intro; (focus (intro w; go_simp; (try with_reducible rfl); done)); (try simp only [Act.put, List.setIfInBounds_toArray, List.set_cons_succ, List.set_cons_zero])) | ((fail_if_success ((with_reducible refine wpl_runx ?_ ?_); (focus exact rfl))); ((with_reducible refine wpl_gcaseE ?_); refine ⟨_, rfl, ?_, ?_⟩) <;> (intro hg; first | (simp only [reduceCtorEq] at hg; done) | contradiction | ((with_reducible have hx := eq_of_beq hg); contradiction) | ((with_reducible have hx := ne_of_beq_false hg); contradiction) | ((with_reducible have hx := bne_iff_ne.1 hg); contradiction) | ((with_reducible have hx := bne_eq_false_iff_eq.1 hg); contradiction) | ((with_reducible have hx := of_decide_eq_true hg); first | contradiction | omega) | ((with_reducible have hx := of_decide_eq_false hg); first | contradiction | omega) | (simp only [Bool.not_eq_true', Bool.not_eq_false', beq_iff_eq, beq_eq_false_iff_ne, bne_iff_ne, ne_eq] at hg; contradiction) | (simp only [hg]))))
  go_ret
  exact ⟨_, rfl, H.weaken (fun _ => trivial) (Stab.const True)⟩
/-- A new table. -/
def RetTab (T : TypeId) (l : List OpT) (w : World) (e : Ending) (w' : World) : Prop := ∃ b v, e = .returned (.pointer (some ⟨b, 0, none⟩)) ∧ St [] [] w w' [tabR T b v l] (fun _ _ => True)
theorem copy_spec (l : List OpT) (hl : l.length ≤ 1000) (T : TypeId) (bt : Nat) (v : Value) (w0 : World) (h : tabH T bt v l w0) :
    Calls Try.prog 21 #[.pointer (some ⟨bt, 0, none⟩)] w0 (RetTab 48 l w0) := by
  obtain ⟨A, c, rfl, h0, hO, hA⟩ := tab_look0 h
  clear h
  have hc := fun w (h : OR A c l [] w) => clone_spec l hl A c h0 w h
  have H := St.start (M := []) (by simp) ((ObjF.stab bt (.cells #[.slice A l.length c] T (0, 0))).and (OR.stab A c l)) ⟨hO, hA⟩
  clear hO hA h0
  obtain ⟨N, hN⟩ : ∃ N, l.length = N := ⟨_, rfl⟩
  rw [hN] at H hc
  replace hN := Lib.hid hN
  clear hl
  replace hc := Lib.hid hc
  go_enter Try.func21, Try.ntmps21
  go_wp2_with (first | ((with_reducible refine wpl_runx_d 11 rfl ?_ ?_); (focus exact rfl); refine ⟨_, runs_box H rfl rfl, ?_⟩; clear H; rintro _ w ⟨b11, rfl, hE, H⟩; clear hE) | ((with_reducible refine wpl_runx ?_ ?_); (focus exact rfl); refine ⟨_, runs_load H 0 rfl rfl rfl rfl rfl, ?_⟩; rintro _ _ ⟨rfl, rfl⟩) | ((with_reducible refine wpl_runx ?_ ?_); (focus exact rfl); refine ⟨_, runs_load H 1 rfl rfl rfl rfl rfl, ?_⟩; rintro _ _ ⟨rfl, rfl⟩) | ((with_reducible refine wpl_runx ?_ ?_); (focus exact rfl); refine ⟨_, runs_load_cell H rfl rfl rfl rfl, ?_⟩; rintro _ _ ⟨rfl, rfl⟩) | ((with_reducible refine wpl_runx ?_ ?_); (focus exact rfl); refine ⟨_, runs_load_cell0 H rfl rfl rfl rfl, ?_⟩; rintro _ _ ⟨rfl, rfl⟩) | ((with_reducible refine wpl_runx ?_ ?_); (focus exact rfl); refine ⟨_, runs_load_obj H rfl rfl rfl rfl, ?_⟩; rintro _ _ ⟨rfl, rfl⟩) | ((with_reducible refine wpl_runx ?_ ?_); (focus exact rfl); refine ⟨_, runs_store H 0 rfl rfl rfl rfl rfl rfl rfl rfl rfl, ?_⟩; clear H; rintro _ w ⟨rfl, hE, H⟩; clear hE) | ((with_reducible refine wpl_runx ?_ ?_); (focus exact rfl); refine ⟨_, runs_store H 1 rfl rfl rfl rfl rfl rfl rfl rfl rfl, ?_⟩; clear H; rintro _ w ⟨rfl, hE, H⟩; clear hE) | (go_at_call 26; refine Calls.mono (hc.out _ H.fact.2.nil0) ?_; rintro _ w ⟨v', rfl, h⟩; replace H := H.addNew h; clear h; obtain ⟨va, vk, rfl⟩ := H.rowVal0 (k := 0) rfl) | ((with_reducible refine wpl_pureX ?_); refine ⟨rfl, rfl, ?_⟩; apply Exists.intro; apply And.intro; (focus (intro w; go_simp; (try with_reducible rfl); done)); (try simp only [Act.put, List.setIfInBounds_toArray, List.set_cons_succ, List.set_cons_zero])) | ((fail_if_success ((with_reducible refine wpl_runx ?_ ?_); (focus exact rfl))); ((with_reducible refine wpl_gcaseE ?_); refine ⟨_, rfl, ?_, ?_⟩) <;> (intro hg; first | (simp only [reduceCtorEq] at hg; done) | contradiction | ((with_reducible have hx := eq_of_beq hg); contradiction) | ((with_reducible have hx := ne_of_beq_false hg); contradiction) | ((with_reducible have hx := bne_iff_ne.1 hg); contradiction) | ((with_reducible have hx := bne_eq_false_iff_eq.1 hg); contradiction) | ((with_reducible have hx := of_decide_eq_true hg); first | contradiction | omega) | ((with_reducible have hx := of_decide_eq_false hg); first | contradiction | omega) | (simp only [Bool.not_eq_true', Bool.not_eq_false', beq_iff_eq, beq_eq_false_iff_ne, bne_iff_ne, ne_eq] at hg; contradiction) | (simp only [hg]))))
  trace_state
  go_ret
  exact ⟨_, _, rfl, (H.closeTab).weaken (fun _ => trivial) (Stab.const True)⟩
end Go.Proofs.Ythapmdlminnihaa
