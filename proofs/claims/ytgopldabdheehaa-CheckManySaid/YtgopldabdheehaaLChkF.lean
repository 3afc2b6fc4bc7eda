/- Laws: what fits fits with more registers. -/
import Derived.Test.YtgopldabdheehaaChk8
import Derived.Test.YtgopldabdheehaaOpen
namespace Go.Proofs.Ytgopldabdheehaa
open Go.RowKit
set_option linter.unusedVariables false
set_option linter.unusedSimpArgs false
set_option maxRecDepth 20000
set_option maxHeartbeats 8000000
theorem redW (a : Int) (n : Nat) (h0 : 0 < n) (h1 : n ≤ 1000) : ∃ m : Nat, m < n ∧ wrap64 ((IntKind.u64.wrap a).tmod n) = m := by
  have hx := wrap_u64_nonneg a
  generalize IntKind.u64.wrap a = x at hx ⊢
  rw [Int.tmod_eq_emod_of_nonneg hx]
  have hy := Int.emod_nonneg x (b := (n : Int)) (by omega)
  have hz := Int.emod_lt_of_pos x (b := (n : Int)) (by omega)
  generalize x % (n : Int) = y at hy hz
  exact ⟨y.toNat, by omega, by unfold wrap64; omega⟩
theorem fits_mono {x : Ins} {r r' : Int} (h : fitsE x r = true) (hr : r ≤ r') : fitsE x r' = true := by
  have bm : ∀ n : Int, belowE n r = true → belowE n r' = true := fun n h => by
    unfold belowE at h ⊢
    simp at h ⊢
    omega
  unfold fitsE at h ⊢
  simp only [Bool.and_eq_true, Bool.or_eq_true] at h ⊢
  obtain ⟨⟨⟨⟨⟨h1, h2⟩, h3⟩, h4⟩, h5⟩, h6⟩ := h
  exact ⟨⟨⟨⟨⟨h1, h2.imp id (bm _)⟩, h3.imp id (bm _)⟩, h4⟩, h5⟩, h6⟩
theorem fit18 : fitsE ⟨18, 0, 0, ⟨#[]⟩, 0, .mk 0 ⟨#[]⟩ 0 0 0 []⟩ 0 = true := by kernel_rfl
theorem fit17 : fitsE ⟨17, 0, 0, ⟨#[]⟩, 0, .mk 0 ⟨#[]⟩ 0 0 0 []⟩ 0 = true := by kernel_rfl
theorem fit16 : fitsE ⟨16, 0, 0, ⟨#[]⟩, 0, .mk 0 ⟨#[]⟩ 0 0 0 []⟩ 0 = true := by kernel_rfl
theorem fit1 : fitsE ⟨1, 0, 0, ⟨#[]⟩, 0, .mk 0 ⟨#[]⟩ 0 0 0 []⟩ 0 = false := by kernel_rfl
theorem fitsno_spec (x : Ins) (Ax : Option Addr) (cx : Nat) (n : Int) (m : Int) (M : List Nat) (w0 : World) (hM : ∀ b ∈ M, b < w0.heap.size) (hx : AR Ax cx x.con.args M w0) (pre0 : LightE [x.con] 0 4000 = false ∨ (LightE [x.con] 0 4000 = true ∧ decide ((300 : Int) < (x.name.size : Int)) = true ∧ decide (300 < x.name.size) = true) ∨ (LightE [x.con] 0 4000 = true ∧ decide ((300 : Int) < (x.name.size : Int)) = false ∧ decide (300 < x.name.size) = false)) : Calls Try.prog 3 #[.agg #[.int .i64 x.op, .int .i64 x.a, .int .i64 x.b, .string x.name, .int .i64 x.ar, .int .i64 x.con.kind, .string x.con.name, .int .i64 x.con.int, .int .u64 x.con.re, .int .u64 x.con.im, .slice Ax x.con.args.length cx], .int .i64 n, .int .i64 m] w0 (RetV w0 (.bool true)) := by
  have H := St.start hM (AR.stab Ax cx x.con.args) hx
  clear hx
  have f1 := fit18
  have f2 := fit17
  have f3 := fit16
  have f4 := fit1
  obtain ⟨p, hp, ep⟩ := redW n 300 (by decide) (by decide)
  obtain ⟨q, hq, eq⟩ := redW m 300 (by decide) (by decide)
  have ep' : IntKind.wrap .i64 ((IntKind.u64.wrap n).tmod 300) = (p : Int) := (IntWalk.i64_left _).trans ep
  have eq' : IntKind.wrap .i64 ((IntKind.u64.wrap m).tmod 300) = (q : Int) := (IntWalk.i64_left _).trans eq
  have ep2 : wrap64 ((IntKind.u64.wrap n).tmod 300) = (p : Int) := ep
  have eq2 : wrap64 ((IntKind.u64.wrap m).tmod 300) = (q : Int) := eq
  obtain ⟨s, hs⟩ : ∃ s : Nat, p + q = s := ⟨_, rfl⟩
  have W1 : wrap64 ((p : Int) + (q : Int)) = (s : Int) := by unfold wrap64; omega
  have W2 : IntKind.wrap .i64 ((p : Int) + (q : Int)) = (s : Int) := by rw [IntKind.wrap_i64] <;> omega
  have W3 : (p : Int) + (q : Int) = (s : Int) := by omega
  have hm : fitsE x p = true → fitsE x s = true := fun h => fits_mono h (by omega)
  clear ep eq hs
  rcases pre0 with h | ⟨h, h1, h2⟩ | ⟨h, h1, h2⟩
  case' inr.inr => cases g : fitsE x p
  case' inr.inr.true => have g2 := hm g
  all_goals clear hm
  all_goals
    go_enter Try.func3, Try.ntmps3
    go_wp2_with (first | ((with_reducible refine wpl_runx_d 3 rfl ?_ ?_); (focus exact rfl); refine ⟨_, runs_box H rfl rfl, ?_⟩; clear H; rintro _ w ⟨b3, rfl, hE, H⟩; clear hE) | ((with_reducible refine wpl_runx_d 9 rfl ?_ ?_); (focus exact rfl); refine ⟨_, by apply runs_buildSlice H; iterate 10 rfl, ?_⟩; clear H; rintro _ w ⟨b9, rfl, hE, H⟩; clear hE; (try replace H := H.sealLitC)) | ((with_reducible refine wpl_runx ?_ ?_); (focus exact rfl); refine ⟨_, runs_load H 0 rfl rfl rfl rfl rfl, ?_⟩; rintro _ _ ⟨rfl, rfl⟩) | ((with_reducible refine wpl_runx ?_ ?_); (focus exact rfl); refine ⟨_, runs_load H 1 rfl rfl rfl rfl rfl, ?_⟩; rintro _ _ ⟨rfl, rfl⟩) | ((with_reducible refine wpl_runx ?_ ?_); (focus exact rfl); refine ⟨_, runs_load_cell H rfl rfl rfl rfl, ?_⟩; rintro _ _ ⟨rfl, rfl⟩) | ((with_reducible refine wpl_runx ?_ ?_); (focus exact rfl); refine ⟨_, runs_load_cell0 H rfl rfl rfl rfl, ?_⟩; rintro _ _ ⟨rfl, rfl⟩) | ((with_reducible refine wpl_runx ?_ ?_); (focus exact rfl); refine ⟨_, runs_load_obj H rfl rfl rfl rfl, ?_⟩; rintro _ _ ⟨rfl, rfl⟩) | ((with_reducible refine wpl_runx ?_ ?_); (focus exact rfl); refine ⟨_, runs_store H 0 rfl rfl rfl rfl rfl rfl rfl rfl rfl, ?_⟩; clear H; rintro _ w ⟨rfl, hE, H⟩; clear hE) | ((with_reducible refine wpl_runx ?_ ?_); (focus exact rfl); refine ⟨_, runs_store H 1 rfl rfl rfl rfl rfl rfl rfl rfl rfl, ?_⟩; clear H; rintro _ w ⟨rfl, hE, H⟩; clear hE) | ((with_reducible refine wpl_callX ?_); refine ⟨rfl, rfl, fun K hK => ?_⟩; go_simp; (first | (go_at_call 8; (with_reducible refine Calls.mono (Light_c H _ _ _ _ ?_ ?_) ?_); (focus (first | with_reducible rfl | rfl | simp)); (focus (first | assumption | (simp [maxLen]; done) | (unfold maxLen; omega))); intro e w h; obtain ⟨rfl, hE⟩ := h; replace H := H.step hE; clear hE) | (go_at_call 9; (with_reducible refine Calls.mono (awakeC_spec_c H ) ?_); intro e w h; obtain ⟨rfl, hE⟩ := h; replace H := H.step hE; clear hE) | (go_at_call 10; (with_reducible refine Calls.mono (fits_spec_c H _ _ _ _ _ _ _ _ _ _ _ _ _ _ _ ?_) ?_); (focus (first | with_reducible rfl | rfl | simp)); intro e w h; (try simp only [Tm.eta, Ins.eta] at h); obtain ⟨rfl, hE⟩ := h; replace H := H.step hE; clear hE)); refine hK _ _ ?_; clear hK K; (try simp only [Act.put, List.setIfInBounds_toArray, List.set_cons_succ, List.set_cons_zero])) | ((with_reducible refine wpl_pureX ?_); refine ⟨rfl, rfl, ?_⟩; apply Exists.intro; apply And.intro; (focus (intro w; go_simp; (try with_reducible rfl); done)); (try simp only [Act.put, List.setIfInBounds_toArray, List.set_cons_succ, List.set_cons_zero])) | ((fail_if_success ((with_reducible refine wpl_runx ?_ ?_); (focus exact rfl))); ((with_reducible refine wpl_gcaseE ?_); refine ⟨_, rfl, ?_, ?_⟩) <;> (intro hg; first | (simp only [reduceCtorEq] at hg; done) | contradiction | ((with_reducible have hx := eq_of_beq hg); contradiction) | ((with_reducible have hx := ne_of_beq_false hg); contradiction) | ((with_reducible have hx := bne_iff_ne.1 hg); contradiction) | ((with_reducible have hx := bne_eq_false_iff_eq.1 hg); contradiction) | ((with_reducible have hx := of_decide_eq_true hg); first | contradiction | omega) | ((with_reducible have hx := of_decide_eq_false hg); first | contradiction | omega) | (simp only [Bool.not_eq_true', Bool.not_eq_false', beq_iff_eq, beq_eq_false_iff_ne, bne_iff_ne, ne_eq] at hg; contradiction) | (simp only [hg]))))
    all_goals
      go_ret
      refine ⟨?_, H.ext⟩
      clear H
      go_tidy
      first | rfl | (simp only [Tm.zero, *, Tm.eta, Bool.false_eq_true, reduceIte, Bool.and_self, Bool.true_and, Bool.and_true, Bool.false_and, Bool.and_false, Bool.true_or, Bool.or_true, Bool.false_or, Bool.or_false, Bool.not_true, Bool.not_false, bne]; done) | (simp [Tm.zero, Tm.eta, *]; done) | (simp_all [Tm.zero, Tm.eta]; done) | (simp_all [Tm.zero, Tm.eta]; omega)
theorem lawfits_spec (x : Ins) (A : Option Addr) (c : Nat) (n m : Int) (W : World) (hA : AR A c x.con.args [] W) (_ : wfT x.con) : Calls Try.prog 3 #[.agg #[.int .i64 x.op, .int .i64 x.a, .int .i64 x.b, .string x.name, .int .i64 x.ar, .int .i64 x.con.kind, .string x.con.name, .int .i64 x.con.int, .int .u64 x.con.re, .int .u64 x.con.im, .slice A x.con.args.length c], .int .i64 n, .int .i64 m] W (RetV W (.bool true)) := by
  refine fitsno_spec x A c n m [] W (by simp) hA ?_
  cases h : LightE [x.con] 0 4000
  · exact .inl rfl
  · by_cases g : 300 < x.name.size
    · exact .inr (.inl ⟨rfl, by simp; omega, by simpa using g⟩)
    · exact .inr (.inr ⟨rfl, by simp; omega, by simp; omega⟩)
end Go.Proofs.Ytgopldabdheehaa
