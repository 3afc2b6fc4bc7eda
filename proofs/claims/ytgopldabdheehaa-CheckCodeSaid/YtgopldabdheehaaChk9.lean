/- Walks: the reference's short, has, number, Fits; light of law17. -/
import Derived.Test.YtgopldabdheehaaChk1
namespace Go.Proofs.Ytgopldabdheehaa
open Go.RowKit
set_option linter.unusedVariables false
set_option linter.unusedSimpArgs false
set_option maxRecDepth 20000
set_option maxHeartbeats 8000000
def shN (op : Int) : Bool := op == 4 || op == 11 || op == 15
theorem short_spec (s : ByteArray) (M : List Nat) (w0 : World) (hM : ∀ b ∈ M, b < w0.heap.size)  : Calls Try.prog 25 #[.string s] w0 (RetV w0 (.bool (decide ((s.size : Int) ≤ 200)))) := by
  have H := St.start hM (Stab.const True) trivial
  go_enter Try.func25, Try.ntmps25
  go_wp2_with (first | ((with_reducible refine wpl_runx ?_ ?_); (focus exact rfl); refine ⟨_, runs_load H 0 rfl rfl rfl rfl rfl, ?_⟩; rintro _ _ ⟨rfl, rfl⟩) | ((with_reducible refine wpl_runx ?_ ?_); (focus exact rfl); refine ⟨_, runs_load_cell H rfl rfl rfl rfl, ?_⟩; rintro _ _ ⟨rfl, rfl⟩) | ((with_reducible refine wpl_runx ?_ ?_); (focus exact rfl); refine ⟨_, runs_load_cell0 H rfl rfl rfl rfl, ?_⟩; rintro _ _ ⟨rfl, rfl⟩) | ((with_reducible refine wpl_runx ?_ ?_); (focus exact rfl); refine ⟨_, runs_load_obj H rfl rfl rfl rfl, ?_⟩; rintro _ _ ⟨rfl, rfl⟩) | ((with_reducible refine wpl_runx ?_ ?_); (focus exact rfl); refine ⟨_, runs_store H 0 rfl rfl rfl rfl rfl rfl rfl rfl rfl, ?_⟩; clear H; rintro _ w ⟨rfl, hE, H⟩; clear hE) | ((with_reducible refine wpl_pureX ?_); refine ⟨rfl, rfl, ?_⟩; apply Exists.intro; apply And.intro; (focus (intro w; go_simp; (try with_reducible rfl); done)); (try simp only [Act.put, List.setIfInBounds_toArray, List.set_cons_succ, List.set_cons_zero])) | ((fail_if_success ((with_reducible refine wpl_runx ?_ ?_); (focus exact rfl))); ((with_reducible refine wpl_gcaseE ?_); refine ⟨_, rfl, ?_, ?_⟩) <;> (intro hg; first | (simp only [reduceCtorEq] at hg; done) | contradiction | ((with_reducible have hx := eq_of_beq hg); contradiction) | ((with_reducible have hx := ne_of_beq_false hg); contradiction) | ((with_reducible have hx := bne_iff_ne.1 hg); contradiction) | ((with_reducible have hx := bne_eq_false_iff_eq.1 hg); contradiction) | ((with_reducible have hx := of_decide_eq_true hg); first | contradiction | omega) | ((with_reducible have hx := of_decide_eq_false hg); first | contradiction | omega) | (simp only [Bool.not_eq_true', Bool.not_eq_false', beq_iff_eq, beq_eq_false_iff_ne, bne_iff_ne, ne_eq] at hg; contradiction) | (simp only [hg]))))
  all_goals
    go_ret
    refine ⟨?_, H.ext⟩
    clear H
    go_tidy
    first | rfl | (simp only [Tm.zero, *, Tm.eta, Bool.false_eq_true, reduceIte, Bool.and_self, Bool.true_and, Bool.and_true, Bool.false_and, Bool.and_false, Bool.true_or, Bool.or_true, Bool.false_or, Bool.or_false, Bool.not_true, Bool.not_false, bne]; done) | (simp [Tm.zero, Tm.eta, *]; done) | (simp_all [Tm.zero, Tm.eta]; done) | (simp_all [Tm.zero, Tm.eta]; omega)
theorem short_spec_c {M X : List Nat} {w1 w0 : World} {L : List Res} {F : List Nat → World → Prop} (H : St M X w1 w0 L F) (s : ByteArray)    : Calls Try.prog 25 #[.string s] w0 (RetV w0 (.bool (decide ((s.size : Int) ≤ 200)))) := by
  exact short_spec s _ _ H.ltAll 
theorem number_spec (t : Tm) (At : Option Addr) (ct : Nat) (M : List Nat) (w0 : World) (hM : ∀ b ∈ M, b < w0.heap.size) (ht : AR At ct t.args M w0) : Calls Try.prog 28 #[.agg #[.int .i64 t.kind, .string t.name, .int .i64 t.int, .int .u64 t.re, .int .u64 t.im, .slice At t.args.length ct]] w0 (RetV w0 (.bool (t.kind == 3 || t.kind == 4))) := by
  have H := St.start hM (AR.stab At ct t.args) ht
  clear ht
  cases g : (t.kind == 3)
  all_goals
    go_enter Try.func28, Try.ntmps28
    go_wp2_with (first | ((with_reducible refine wpl_runx_d 1 rfl ?_ ?_); (focus exact rfl); refine ⟨_, runs_box H rfl rfl, ?_⟩; clear H; rintro _ w ⟨b1, rfl, hE, H⟩; clear hE) | ((with_reducible refine wpl_runx ?_ ?_); (focus exact rfl); refine ⟨_, runs_load H 0 rfl rfl rfl rfl rfl, ?_⟩; rintro _ _ ⟨rfl, rfl⟩) | ((with_reducible refine wpl_runx ?_ ?_); (focus exact rfl); refine ⟨_, runs_load_cell H rfl rfl rfl rfl, ?_⟩; rintro _ _ ⟨rfl, rfl⟩) | ((with_reducible refine wpl_runx ?_ ?_); (focus exact rfl); refine ⟨_, runs_load_cell0 H rfl rfl rfl rfl, ?_⟩; rintro _ _ ⟨rfl, rfl⟩) | ((with_reducible refine wpl_runx ?_ ?_); (focus exact rfl); refine ⟨_, runs_load_obj H rfl rfl rfl rfl, ?_⟩; rintro _ _ ⟨rfl, rfl⟩) | ((with_reducible refine wpl_runx ?_ ?_); (focus exact rfl); refine ⟨_, runs_store H 0 rfl rfl rfl rfl rfl rfl rfl rfl rfl, ?_⟩; clear H; rintro _ w ⟨rfl, hE, H⟩; clear hE) | ((with_reducible refine wpl_pureX ?_); refine ⟨rfl, rfl, ?_⟩; apply Exists.intro; apply And.intro; (focus (intro w; go_simp; (try with_reducible rfl); done)); (try simp only [Act.put, List.setIfInBounds_toArray, List.set_cons_succ, List.set_cons_zero])) | ((fail_if_success ((with_reducible refine wpl_runx ?_ ?_); (focus exact rfl))); ((with_reducible refine wpl_gcaseE ?_); refine ⟨_, rfl, ?_, ?_⟩) <;> (intro hg; first | (simp only [reduceCtorEq] at hg; done) | contradiction | ((with_reducible have hx := eq_of_beq hg); contradiction) | ((with_reducible have hx := ne_of_beq_false hg); contradiction) | ((with_reducible have hx := bne_iff_ne.1 hg); contradiction) | ((with_reducible have hx := bne_eq_false_iff_eq.1 hg); contradiction) | ((with_reducible have hx := of_decide_eq_true hg); first | contradiction | omega) | ((with_reducible have hx := of_decide_eq_false hg); first | contradiction | omega) | (simp only [Bool.not_eq_true', Bool.not_eq_false', beq_iff_eq, beq_eq_false_iff_ne, bne_iff_ne, ne_eq] at hg; contradiction) | (simp only [hg]))))
    all_goals
      go_ret
      refine ⟨?_, H.ext⟩
      clear H
      go_tidy
      first | rfl | (simp only [g, *, Tm.eta, Bool.false_eq_true, reduceIte, Bool.and_self, Bool.true_and, Bool.and_true, Bool.false_and, Bool.and_false, Bool.true_or, Bool.or_true, Bool.false_or, Bool.or_false, Bool.not_true, Bool.not_false, bne]; done) | (simp [g, Tm.eta, *]; done) | (simp_all [g, Tm.eta]; done) | (simp_all [g, Tm.eta]; omega)
theorem number_spec_c {M X : List Nat} {w1 w0 : World} {L : List Res} {F : List Nat → World → Prop} (H : St M X w1 w0 L F) (kt : Int) (st : ByteArray) (nt rt it : Int) (At : Option Addr) (ct lent : Nat) (lt : List Tm) [xt : HasAR F At ct lt] (et : lent = lt.length)  : Calls Try.prog 28 #[.agg #[.int .i64 kt, .string st, .int .i64 nt, .int .u64 rt, .int .u64 it, .slice At lent ct]] w0 (RetV w0 (.bool ((Tm.mk kt st nt rt it lt).kind == 3 || (Tm.mk kt st nt rt it lt).kind == 4))) := by
  subst et
  exact number_spec (Tm.mk kt st nt rt it lt) At ct _ _ H.ltAll H.ar
theorem results_tmp4 {P : Program} {fn : Func} {a b c d : Tmp} (hr : fn.results = #[.tmp a, .tmp b, .tmp c, .tmp d]) (tmps : Array Value) (w : World) : (results fn tmps).run P w = .ok (.tuple #[tmps.getD a undef, tmps.getD b undef, tmps.getD c undef, tmps.getD d undef]) w := by
  simp [results, hr, Sem.run_bind]
theorem has15_spec (op : Int) (M : List Nat) (w0 : World) (hM : ∀ b ∈ M, b < w0.heap.size)  : Calls Try.prog 27 #[.int .i64 op] w0 (RetV w0 (.tuple #[.bool (shA op), .bool (shB op), .bool (shN op), .bool (shK op)])) := by
  have H := St.start hM (Stab.const True) trivial
  rcases op_cases op with rfl | rfl | rfl | rfl | rfl | rfl | rfl | rfl | rfl | rfl | rfl | rfl | rfl | rfl | rfl | rfl | rfl | rfl | h
  rotate_right
  obtain ⟨h1, h2, h3, h4, h5, h6, h7, h8, h9, h10, h11, h12, h13, h14, h15, h16, h17, h18⟩ := op_other h
  have ea : shA op = false := by simp [shA, h1, h2, h3, h4, h5, h6, h8, h9, h10, h11, h12, h13]
  have eb : shB op = false := by simp [shB, h1, h2, h8, h9]
  have ef : shN op = false := by simp [shN, h4, h11, h15]
  have ek : shK op = false := by simp [shK, h3, h10, h7, h14]
  all_goals
    go_enter Try.func27, Try.ntmps27
    go_wp2_with (first | ((with_reducible refine wpl_runx ?_ ?_); (focus exact rfl); refine ⟨_, runs_load H 0 rfl rfl rfl rfl rfl, ?_⟩; rintro _ _ ⟨rfl, rfl⟩) | ((with_reducible refine wpl_runx ?_ ?_); (focus exact rfl); refine ⟨_, runs_load_cell H rfl rfl rfl rfl, ?_⟩; rintro _ _ ⟨rfl, rfl⟩) | ((with_reducible refine wpl_runx ?_ ?_); (focus exact rfl); refine ⟨_, runs_load_cell0 H rfl rfl rfl rfl, ?_⟩; rintro _ _ ⟨rfl, rfl⟩) | ((with_reducible refine wpl_runx ?_ ?_); (focus exact rfl); refine ⟨_, runs_load_obj H rfl rfl rfl rfl, ?_⟩; rintro _ _ ⟨rfl, rfl⟩) | ((with_reducible refine wpl_runx ?_ ?_); (focus exact rfl); refine ⟨_, runs_store H 0 rfl rfl rfl rfl rfl rfl rfl rfl rfl, ?_⟩; clear H; rintro _ w ⟨rfl, hE, H⟩; clear hE) | ((with_reducible refine wpl_pureX ?_); refine ⟨rfl, rfl, ?_⟩; apply Exists.intro; apply And.intro; (focus (intro w; go_simp; (try with_reducible rfl); done)); (try simp only [Act.put, List.setIfInBounds_toArray, List.set_cons_succ, List.set_cons_zero])) | ((fail_if_success ((with_reducible refine wpl_runx ?_ ?_); (focus exact rfl))); ((with_reducible refine wpl_gcaseE ?_); refine ⟨_, rfl, ?_, ?_⟩) <;> (intro hg; first | (simp only [reduceCtorEq] at hg; done) | contradiction | ((with_reducible have hx := eq_of_beq hg); contradiction) | ((with_reducible have hx := ne_of_beq_false hg); contradiction) | ((with_reducible have hx := bne_iff_ne.1 hg); contradiction) | ((with_reducible have hx := bne_eq_false_iff_eq.1 hg); contradiction) | ((with_reducible have hx := of_decide_eq_true hg); first | contradiction | omega) | ((with_reducible have hx := of_decide_eq_false hg); first | contradiction | omega) | (simp only [Bool.not_eq_true', Bool.not_eq_false', beq_iff_eq, beq_eq_false_iff_ne, bne_iff_ne, ne_eq] at hg; contradiction) | (simp only [hg]))))
    refine bodyPost_ret (results_tmp4 rfl _ _) rfl ⟨?_, H.ext⟩
    first | rfl | (rw [ea, eb, ef, ek]; rfl)
theorem has15_spec_c {M X : List Nat} {w1 w0 : World} {L : List Res} {F : List Nat → World → Prop} (H : St M X w1 w0 L F) (op : Int)    : Calls Try.prog 27 #[.int .i64 op] w0 (RetV w0 (.tuple #[.bool (shA op), .bool (shB op), .bool (shN op), .bool (shK op)])) := by
  exact has15_spec op _ _ H.ltAll 
theorem bc (op n r : Int) (_ : shA op = true) : (decide (n < 0) = true ∧ belowE n r = false) ∨ (decide (n < 0) = false ∧ decide (r ≤ n) = true ∧ belowE n r = false) ∨ (decide (n < 0) = false ∧ decide (r ≤ n) = false ∧ belowE n r = true) := by
  unfold belowE
  by_cases h : n < 0 <;> by_cases h' : r ≤ n <;> simp [h, h'] <;> omega
theorem bc2 (op n r : Int) (_ : shB op = true) : (decide (n < 0) = true ∧ belowE n r = false) ∨ (decide (n < 0) = false ∧ decide (r ≤ n) = true ∧ belowE n r = false) ∨ (decide (n < 0) = false ∧ decide (r ≤ n) = false ∧ belowE n r = true) := by
  unfold belowE
  by_cases h : n < 0 <;> by_cases h' : r ≤ n <;> simp [h, h'] <;> omega
theorem wc (op n : Int) (lo : Int) (_ : shF op = true ∧ lo = 1 ∨ (op == 15) = true ∧ lo = 0) : (decide (n < lo) = true ∧ withinE n lo 20 = false) ∨ (decide (n < lo) = false ∧ decide (20 < n) = true ∧ withinE n lo 20 = false) ∨ (decide (n < lo) = false ∧ decide (20 < n) = false ∧ withinE n lo 20 = true) := by
  unfold withinE
  by_cases h : n < lo <;> by_cases h' : 20 < n <;> simp [h, h'] <;> omega
theorem lc (s : ByteArray) : (decide ((s.size : Int) ≤ 200) = true ∧ longE s = false) ∨ (decide ((s.size : Int) ≤ 200) = false ∧ longE s = true) := by
  unfold longE
  by_cases h : (s.size : Int) ≤ 200
  · left; exact ⟨by simpa using h, by simpa using h⟩
  · right; exact ⟨by simpa using h, by simp; omega⟩
theorem cc (op : Int) (t : Tm) (_ : shK op = true) : (∃ b, (t.kind == 2) = true ∧ (mayE t == 0) = b ∧ constE t = b) ∨ (∃ b, (t.kind == 2) = false ∧ (t.kind == 3 || t.kind == 4) = true ∧ (mayE t == 0) = b ∧ constE t = b) ∨ ((t.kind == 2) = false ∧ (t.kind == 3 || t.kind == 4) = false ∧ constE t = false) := by
  unfold constE
  cases t.kind == 2 <;> cases t.kind == 3 <;> cases t.kind == 4 <;> cases mayE t == 0 <;> simp
theorem shN_F (op : Int) (h1 : shF op = true) : shN op = true := by
  unfold shF at h1; unfold shN
  cases h : (op == 4) <;> cases h' : (op == 11) <;> simp_all
theorem shN_15 (op : Int) (h1 : (op == 15) = true) : shN op = true := by unfold shN; simp [h1]
theorem shN_no (op : Int) (h1 : shF op = false) (h2 : (op == 15) = false) : shN op = false := by
  unfold shF at h1; unfold shN
  cases h : (op == 4) <;> cases h' : (op == 11) <;> simp_all
theorem ok_facts (op : Int) (h : shOk op = true) : decide (op < 1) = false ∧ decide (18 < op) = false := by
  unfold shOk at h; simp at h; exact ⟨by simp; omega, by simp; omega⟩
theorem no_facts (op : Int) (h : shOk op = false) : decide (op < 1) = true ∨ (decide (op < 1) = false ∧ decide (18 < op) = true) := by
  unfold shOk at h; simp at h
  by_cases g : op < 1
  · exact .inl (by simpa using g)
  · exact .inr ⟨by simpa using g, by simp; omega⟩
attribute [local irreducible] mayE nodesE depthE plainE renameE varsE EqualE LightE rSameE turnT shA shB shF shK shN shOk belowE withinE constE longE
theorem rfits_spec (x : Ins) (Ax : Option Addr) (cx : Nat) (r : Int) (M : List Nat) (w0 : World) (hM : ∀ b ∈ M, b < w0.heap.size) (hx : AR Ax cx x.con.args M w0) (pre0 : slim x.con) : Calls Try.prog 14 #[.agg #[.int .i64 x.op, .int .i64 x.a, .int .i64 x.b, .string x.name, .int .i64 x.ar, .int .i64 x.con.kind, .string x.con.name, .int .i64 x.con.int, .int .u64 x.con.re, .int .u64 x.con.im, .slice Ax x.con.args.length cx], .int .i64 r] w0 (RetV w0 (.bool (fitsE x r))) := by
  have H := St.start hM (AR.stab Ax cx x.con.args) hx
  clear hx
  rcases sh_cases x.op with h1 | ⟨h1, h2, h3, h4, h5, h6⟩ | ⟨h1, h2, h3, h4, h5, h6⟩ | ⟨h1, h2, h3, h4, h5, h6⟩ | ⟨h1, h2, h3, h4, h5, h6⟩ | ⟨h1, h2, h3, h4, h5, h6⟩ | ⟨h1, h2, h3, h4, h5, h6⟩ | ⟨h1, h2, h3, h4, h5, h6⟩
  case' inl => rcases no_facts _ h1 with o1 | ⟨o1, o2⟩
  case' inr.inl => rcases bc _ x.a r h2 with ⟨a1, a2⟩ | ⟨a1, a2, a3⟩ | ⟨a1, a2, a3⟩ <;> rcases bc2 _ x.b r h3 with ⟨b1, b2⟩ | ⟨b1, b2, b3⟩ | ⟨b1, b2, b3⟩
  case' inr.inr.inl => rcases bc _ x.a r h2 with ⟨a1, a2⟩ | ⟨a1, a2, a3⟩ | ⟨a1, a2, a3⟩ <;> rcases cc _ x.con h5 with ⟨b, c1, c2, c3⟩ | ⟨b, c1, c2, c3, c4⟩ | ⟨c1, c2, c3⟩
  case' inr.inr.inr.inl => rcases bc _ x.a r h2 with ⟨a1, a2⟩ | ⟨a1, a2, a3⟩ | ⟨a1, a2, a3⟩ <;> rcases lc x.name with ⟨l1, l2⟩ | ⟨l1, l2⟩ <;> rcases wc _ x.ar 1 (.inl ⟨h4, rfl⟩) with ⟨w1, w2⟩ | ⟨w1, w2, w3⟩ | ⟨w1, w2, w3⟩
  case' inr.inr.inr.inr.inl => rcases bc _ x.a r h2 with ⟨a1, a2⟩ | ⟨a1, a2, a3⟩ | ⟨a1, a2, a3⟩
  case' inr.inr.inr.inr.inr.inl => rcases cc _ x.con h5 with ⟨b, c1, c2, c3⟩ | ⟨b, c1, c2, c3, c4⟩ | ⟨c1, c2, c3⟩
  case' inr.inr.inr.inr.inr.inr.inl => rcases lc x.name with ⟨l1, l2⟩ | ⟨l1, l2⟩ <;> rcases wc _ x.ar 0 (.inr ⟨h6, rfl⟩) with ⟨w1, w2⟩ | ⟨w1, w2, w3⟩ | ⟨w1, w2, w3⟩
  all_goals (try (have hN := shN_F _ h4))
  all_goals (try (have hN := shN_15 _ h6))
  all_goals (try (have hN := shN_no _ h4 h6))
  all_goals (try obtain ⟨o1, o2⟩ := ok_facts _ h1)
  all_goals
    go_enter Try.func14, Try.ntmps14
    go_wp2_with (first | ((with_reducible refine wpl_runx_d 2 rfl ?_ ?_); (focus exact rfl); refine ⟨_, runs_box H rfl rfl, ?_⟩; clear H; rintro _ w ⟨b2, rfl, hE, H⟩; clear hE) | ((with_reducible refine wpl_runx ?_ ?_); (focus exact rfl); refine ⟨_, runs_load H 0 rfl rfl rfl rfl rfl, ?_⟩; rintro _ _ ⟨rfl, rfl⟩) | ((with_reducible refine wpl_runx ?_ ?_); (focus exact rfl); refine ⟨_, runs_load H 1 rfl rfl rfl rfl rfl, ?_⟩; rintro _ _ ⟨rfl, rfl⟩) | ((with_reducible refine wpl_runx ?_ ?_); (focus exact rfl); refine ⟨_, runs_load_cell H rfl rfl rfl rfl, ?_⟩; rintro _ _ ⟨rfl, rfl⟩) | ((with_reducible refine wpl_runx ?_ ?_); (focus exact rfl); refine ⟨_, runs_load_cell0 H rfl rfl rfl rfl, ?_⟩; rintro _ _ ⟨rfl, rfl⟩) | ((with_reducible refine wpl_runx ?_ ?_); (focus exact rfl); refine ⟨_, runs_load_obj H rfl rfl rfl rfl, ?_⟩; rintro _ _ ⟨rfl, rfl⟩) | ((with_reducible refine wpl_runx ?_ ?_); (focus exact rfl); refine ⟨_, runs_store H 0 rfl rfl rfl rfl rfl rfl rfl rfl rfl, ?_⟩; clear H; rintro _ w ⟨rfl, hE, H⟩; clear hE) | ((with_reducible refine wpl_runx ?_ ?_); (focus exact rfl); refine ⟨_, runs_store H 1 rfl rfl rfl rfl rfl rfl rfl rfl rfl, ?_⟩; clear H; rintro _ w ⟨rfl, hE, H⟩; clear hE) | ((with_reducible refine wpl_callX ?_); refine ⟨rfl, rfl, fun K hK => ?_⟩; go_simp; (first | (go_at_call 27; (with_reducible refine Calls.mono (has15_spec_c H _) ?_); intro e w h; obtain ⟨rfl, hE⟩ := h; replace H := H.step hE; clear hE) | (go_at_call 25; (with_reducible refine Calls.mono (short_spec_c H _) ?_); intro e w h; obtain ⟨rfl, hE⟩ := h; replace H := H.step hE; clear hE) | (go_at_call 28; (with_reducible refine Calls.mono (number_spec_c H _ _ _ _ _ _ _ _ _ ?_) ?_); (focus (first | with_reducible rfl | rfl | simp)); intro e w h; (try simp only [Tm.eta] at h); obtain ⟨rfl, hE⟩ := h; replace H := H.step hE; clear hE) | (go_at_call 29; (with_reducible refine Calls.mono (rMay_c H _ _ _ _ _ _ _ _ _ ?_ ?_) ?_); (focus (first | with_reducible rfl | rfl | simp)); (focus ((try simp only [Tm.eta]); (first | assumption | (apply slim_of_slimA; assumption) | exact slimA_plain _ | exact slimA_rename _ | exact slim_plain _ | exact slim_rename _ | exact slimA_var _ | exact slimA_more _ _ | exact slimA_rmore _ _ | exact slimA_expand _ _ | exact slimA_rexpand _ _ | (simp [slim, slimL, slimA, slimAL]; done)))); intro e w h; (try simp only [Tm.eta] at h); obtain ⟨rfl, hE⟩ := h; replace H := H.step hE; clear hE)); refine hK _ _ ?_; clear hK K; (try simp only [Act.put, List.setIfInBounds_toArray, List.set_cons_succ, List.set_cons_zero])) | ((with_reducible refine wpl_pureX ?_); refine ⟨rfl, rfl, ?_⟩; apply Exists.intro; apply And.intro; (focus (intro w; go_simp; (try with_reducible rfl); done)); (try simp only [Act.put, List.setIfInBounds_toArray, List.set_cons_succ, List.set_cons_zero])) | ((fail_if_success ((with_reducible refine wpl_runx ?_ ?_); (focus exact rfl))); ((with_reducible refine wpl_gcaseE ?_); refine ⟨_, rfl, ?_, ?_⟩) <;> (intro hg; first | (simp only [reduceCtorEq] at hg; done) | contradiction | ((with_reducible have hx := eq_of_beq hg); contradiction) | ((with_reducible have hx := ne_of_beq_false hg); contradiction) | ((with_reducible have hx := bne_iff_ne.1 hg); contradiction) | ((with_reducible have hx := bne_eq_false_iff_eq.1 hg); contradiction) | ((with_reducible have hx := of_decide_eq_true hg); first | contradiction | omega) | ((with_reducible have hx := of_decide_eq_false hg); first | contradiction | omega) | (simp only [Bool.not_eq_true', Bool.not_eq_false', beq_iff_eq, beq_eq_false_iff_ne, bne_iff_ne, ne_eq] at hg; contradiction) | (simp only [hg]))))
    all_goals
      go_ret
      refine ⟨?_, H.ext⟩
      clear H
      go_tidy
      first | rfl | (simp only [fitsE, *, Tm.eta, Bool.false_eq_true, reduceIte, Bool.and_self, Bool.true_and, Bool.and_true, Bool.false_and, Bool.and_false, Bool.true_or, Bool.or_true, Bool.false_or, Bool.or_false, Bool.not_true, Bool.not_false, bne]; done) | (simp [fitsE, Tm.eta, *]; done) | (simp_all [fitsE, Tm.eta]; done) | (simp_all [fitsE, Tm.eta]; omega)
theorem rfits_spec_c {M X : List Nat} {w1 w0 : World} {L : List Res} {F : List Nat → World → Prop} (H : St M X w1 w0 L F) (ox ax bx : Int) (mx : ByteArray) (tx kx : Int) (sx : ByteArray) (nx rx ix : Int) (Ax : Option Addr) (cx lenx : Nat) (lx : List Tm) (r : Int) [xx : HasAR F Ax cx lx] (ex : lenx = lx.length) (pre0 : slim (Ins.mk ox ax bx mx tx (Tm.mk kx sx nx rx ix lx)).con) : Calls Try.prog 14 #[.agg #[.int .i64 ox, .int .i64 ax, .int .i64 bx, .string mx, .int .i64 tx, .int .i64 kx, .string sx, .int .i64 nx, .int .u64 rx, .int .u64 ix, .slice Ax lenx cx], .int .i64 r] w0 (RetV w0 (.bool (fitsE (Ins.mk ox ax bx mx tx (Tm.mk kx sx nx rx ix lx)) r))) := by
  subst ex
  exact rfits_spec (Ins.mk ox ax bx mx tx (Tm.mk kx sx nx rx ix lx)) Ax cx r _ _ H.ltAll H.ar pre0
end Go.Proofs.Ytgopldabdheehaa
