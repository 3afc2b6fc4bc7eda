/- Walks: Kind; the reference's. -/
import Derived.Test.YtdjbbafdepdglaaCtl6
import Derived.Test.YtdjbbafdepdglaaNorm2
import Derived.Test.YtdjbbafdepdglaaOpens
namespace Go.Proofs.Ytdjbbafdepdglaa
open Go.RowKit
set_option linter.unusedVariables false
set_option linter.unusedSimpArgs false
set_option maxRecDepth 20000
set_option maxHeartbeats 4000000
attribute [local irreducible] mayE nodesE depthE plainE renameE varsE EqualE LightE rSameE turnT rowB

def ifElseE (t : Tm) : Bool := match t.args with | a :: _ => a.kind == 5 && (a.name.toList == [45, 62] && (a.args.length : Int) == 2) | [] => false
def kindE (t : Tm) : Int := if mayE t != 0 then 0 else if t.kind == 1 then 1 else if t.kind == 3 || t.kind == 4 then 2 else if kindN (keyS t) (keyN t) == 6 && ifElseE t then 8 else kindN (keyS t) (keyN t)
def rIfElseE (t : Tm) : Bool := match t.args with | a :: _ => rIsE a ⟨#[45, 62]⟩ 2 | [] => false
def kindOfE (t : Tm) : Int := if mayE t != 0 then 0 else if t.kind == 1 then 1 else if !rkeyB t then 2 else if kindR (rkeyS t).toList (rkeyN t) == 6 && rIfElseE t then 8 else kindR (rkeyS t).toList (rkeyN t)

theorem ite_int {c : Prop} [Decidable c] {a b r : Int} (h : (if c then a else b) = r) : (c ∧ a = r) ∨ (¬ c ∧ b = r) := by
  by_cases hc : c
  · exact .inl ⟨hc, by rw [if_pos hc] at h; exact h⟩
  · exact .inr ⟨hc, by rw [if_neg hc] at h; exact h⟩
theorem ownN6 {s : List UInt8} {n : Int} (h : ownN s n = 6) : s = [59] ∧ n = 2 := by
  unfold ownN at h
  iterate 11
    rcases ite_int h with ⟨hc, h⟩ | ⟨_, h⟩
    · first
      | (exfalso; omega)
      | (simp only [Bool.and_eq_true, beq_iff_eq] at hc; exact hc)
  exfalso; omega
theorem ownR6 {s : List UInt8} {n : Int} (h : ownR s n = 6) : s = [59] ∧ n = 2 := by
  unfold ownR at h
  iterate 11
    rcases ite_int h with ⟨hc, h⟩ | ⟨_, h⟩
    · rcases ite_int h with ⟨hd, h⟩ | ⟨_, h⟩
      · first
        | (exfalso; omega)
        | (simp only [beq_iff_eq] at hc hd; exact ⟨hc, hd⟩)
      · exfalso; omega
  exfalso; omega
theorem kindN6 {s : ByteArray} {n : Int} (h : kindN s n = 6) : s.toList = [59] ∧ n = 2 := by
  unfold kindN at h
  rcases ite_int h with ⟨hc, h⟩ | ⟨_, h⟩
  · exact ownN6 h
  iterate 3
    rcases ite_int h with ⟨hc, h⟩ | ⟨_, h⟩
    · exfalso; omega
  exfalso; omega
theorem kindR6 {s : List UInt8} {n : Int} (h : kindR s n = 6) : s = [59] ∧ n = 2 := by
  unfold kindR at h
  rcases ite_int h with ⟨hc, h⟩ | ⟨_, h⟩
  · exact ownR6 h
  iterate 3
    rcases ite_int h with ⟨hc, h⟩ | ⟨_, h⟩
    · exfalso; omega
  exfalso; omega
theorem two_args {t : Tm} (h : mayE t = 0) (hn : keyN t = 2) : ∃ k s n r i p q, t = .mk k s n r i [p, q] := by
  unfold keyN at hn
  cases t with
  | mk k s n r i l =>
    simp only [Tm.args] at hn
    split at hn
    · match l, hn with
      | [p, q], _ => exact ⟨k, s, n, r, i, p, q, rfl⟩
      | [], hn => simp at hn
      | [a], hn => simp at hn
      | a :: b :: d :: l, hn => simp at hn; omega
    · omega
theorem rtwo_args {t : Tm} (hn : rkeyN t = 2) : ∃ k s n r i p q, t = .mk k s n r i [p, q] := by
  unfold rkeyN at hn
  cases t with
  | mk k s n r i l =>
    simp only [Tm.args] at hn
    split at hn
    · match l, hn with
      | [p, q], _ => exact ⟨k, s, n, r, i, p, q, rfl⟩
      | [], hn => simp at hn
      | [a], hn => simp at hn
      | a :: b :: d :: l, hn => simp at hn; omega
    · omega

theorem kind_spec (t : Tm) (At : Option Addr) (ct : Nat) (M : List Nat) (w0 : World) (hM : ∀ b ∈ M, b < w0.heap.size) (ht : AR At ct t.args M w0) : Calls Try.prog 18 #[.agg #[.int .i64 t.kind, .string t.name, .int .i64 t.int, .int .u64 t.re, .int .u64 t.im, .slice At t.args.length ct]] w0 (RetV w0 (.int .i64 (kindE t))) := by
  have H := St.start hM (AR.stab At ct t.args) ht
  clear ht
  by_cases h6 : mayE t = 0 ∧ kindN (keyS t) (keyN t) = 6
  · obtain ⟨k, s, n, r, i, p, q, rfl⟩ := two_args h6.1 (kindN6 h6.2).2
    obtain ⟨hm, h6⟩ := h6
    simp only [Tm.kind, Tm.name, Tm.int, Tm.re, Tm.im, Tm.args] at H ⊢
    obtain ⟨b, o, A1, c1, A2, c2, rfl, H2⟩ := H.open2 (A := At) (c := ct) (p := p) (q := q)
    clear H
    have H := H2
    clear H2
    go_enter Try.func18, Try.ntmps18
    go_wp2_with (first | ((with_reducible refine wpl_runx_d 1 rfl ?_ ?_); (focus exact rfl); refine ⟨_, runs_box H rfl rfl, ?_⟩; clear H; rintro _ w ⟨b1, rfl, hE, H⟩; clear hE) | ((with_reducible refine wpl_runx ?_ ?_); (focus exact rfl); refine ⟨_, runs_load H 0 rfl rfl rfl rfl rfl, ?_⟩; rintro _ _ ⟨rfl, rfl⟩) | ((with_reducible refine wpl_runx ?_ ?_); (focus exact rfl); refine ⟨_, runs_load H 1 rfl rfl rfl rfl rfl, ?_⟩; rintro _ _ ⟨rfl, rfl⟩) | ((with_reducible refine wpl_runx ?_ ?_); (focus exact rfl); refine ⟨_, runs_load H 2 rfl rfl rfl rfl rfl, ?_⟩; rintro _ _ ⟨rfl, rfl⟩) | ((with_reducible refine wpl_runx ?_ ?_); (focus exact rfl); refine ⟨_, runs_load_cell H rfl rfl rfl rfl, ?_⟩; rintro _ _ ⟨rfl, rfl⟩) | ((with_reducible refine wpl_runx ?_ ?_); (focus exact rfl); refine ⟨_, runs_load_cell0 H rfl rfl rfl rfl, ?_⟩; rintro _ _ ⟨rfl, rfl⟩) | ((with_reducible refine wpl_runx ?_ ?_); (focus exact rfl); refine ⟨_, runs_load_obj H rfl rfl rfl rfl, ?_⟩; rintro _ _ ⟨rfl, rfl⟩) | ((with_reducible refine wpl_runx ?_ ?_); (focus exact rfl); refine ⟨_, runs_store H 0 rfl rfl rfl rfl rfl rfl rfl rfl rfl, ?_⟩; clear H; rintro _ w ⟨rfl, hE, H⟩; clear hE) | ((with_reducible refine wpl_runx ?_ ?_); (focus exact rfl); refine ⟨_, runs_store H 1 rfl rfl rfl rfl rfl rfl rfl rfl rfl, ?_⟩; clear H; rintro _ w ⟨rfl, hE, H⟩; clear hE) | ((with_reducible refine wpl_runx ?_ ?_); (focus exact rfl); refine ⟨_, runs_store H 2 rfl rfl rfl rfl rfl rfl rfl rfl rfl, ?_⟩; clear H; rintro _ w ⟨rfl, hE, H⟩; clear hE) | ((with_reducible refine wpl_callX ?_); refine ⟨rfl, rfl, fun K hK => ?_⟩; go_simp; (first | (go_at_call 49; (with_reducible refine Calls.mono (may_c H _ _ _ _ _ _ _ _ _ ?_) ?_); (focus (first | with_reducible rfl | rfl | simp)); intro e w h; (try simp only [Tm.eta] at h); obtain ⟨rfl, hE⟩ := h; replace H := H.step hE; clear hE) | (go_at_call 50; (with_reducible refine Calls.mono (key_spec_c H _ _ _ _ _ _ _ _ _ ?_) ?_); (focus (first | with_reducible rfl | rfl | simp)); intro e w h; (try simp only [Tm.eta] at h); obtain ⟨rfl, hE⟩ := h; replace H := H.step hE; clear hE) | (go_at_call 51; (with_reducible refine Calls.mono (of_spec_c H _ _) ?_); intro e w h; obtain ⟨rfl, hE⟩ := h; replace H := H.step hE; clear hE)); refine hK _ _ ?_; clear hK K; (try simp only [Act.put, List.setIfInBounds_toArray, List.set_cons_succ, List.set_cons_zero])) | ((with_reducible refine wpl_pureX ?_); refine ⟨rfl, rfl, ?_⟩; apply Exists.intro; apply And.intro; (focus (intro w; go_simp; (try with_reducible rfl); done)); (try simp only [Act.put, List.setIfInBounds_toArray, List.set_cons_succ, List.set_cons_zero])) | ((fail_if_success ((with_reducible refine wpl_runx ?_ ?_); (focus exact rfl))); ((with_reducible refine wpl_gcaseE ?_); refine ⟨_, rfl, ?_, ?_⟩) <;> (intro hg; first | (simp only [reduceCtorEq] at hg; done) | contradiction | ((with_reducible have hx := eq_of_beq hg); contradiction) | ((with_reducible have hx := ne_of_beq_false hg); contradiction) | ((with_reducible have hx := bne_iff_ne.1 hg); contradiction) | ((with_reducible have hx := bne_eq_false_iff_eq.1 hg); contradiction) | ((with_reducible have hx := of_decide_eq_true hg); first | contradiction | omega) | ((with_reducible have hx := of_decide_eq_false hg); first | contradiction | omega) | (simp only [Bool.not_eq_true', Bool.not_eq_false', beq_iff_eq, beq_eq_false_iff_ne, bne_iff_ne, ne_eq] at hg; contradiction) | (simp only [hg]))))
    all_goals
      go_ret
      refine ⟨?_, H.ext⟩
      clear H
      go_tidy
      first | rfl | (simp only [kindE, ifElseE, Tm.kind, Tm.args, *, Tm.eta, Bool.false_eq_true, reduceIte, Bool.and_self, Bool.true_and, Bool.and_true, Bool.false_and, Bool.and_false, Bool.true_or, Bool.or_true, Bool.false_or, Bool.or_false, Bool.not_true, Bool.not_false, bne]; done) | (simp [kindE, ifElseE, Tm.kind, Tm.args, Tm.eta, *]; done) | (simp_all [kindE, ifElseE, Tm.kind, Tm.args, Tm.eta]; done) | (simp_all [kindE, ifElseE, Tm.kind, Tm.args, Tm.eta]; omega)
  · have h6' : mayE t = 0 → (kindN (keyS t) (keyN t) == 6) = false := fun h => by simpa using fun e => h6 ⟨h, e⟩
    clear h6
    by_cases hm : mayE t = 0
    · replace h6' := h6' hm
      go_enter Try.func18, Try.ntmps18
      go_wp2_with (first | ((with_reducible refine wpl_runx_d 1 rfl ?_ ?_); (focus exact rfl); refine ⟨_, runs_box H rfl rfl, ?_⟩; clear H; rintro _ w ⟨b1, rfl, hE, H⟩; clear hE) | ((with_reducible refine wpl_runx ?_ ?_); (focus exact rfl); refine ⟨_, runs_load H 0 rfl rfl rfl rfl rfl, ?_⟩; rintro _ _ ⟨rfl, rfl⟩) | ((with_reducible refine wpl_runx ?_ ?_); (focus exact rfl); refine ⟨_, runs_load H 1 rfl rfl rfl rfl rfl, ?_⟩; rintro _ _ ⟨rfl, rfl⟩) | ((with_reducible refine wpl_runx ?_ ?_); (focus exact rfl); refine ⟨_, runs_load H 2 rfl rfl rfl rfl rfl, ?_⟩; rintro _ _ ⟨rfl, rfl⟩) | ((with_reducible refine wpl_runx ?_ ?_); (focus exact rfl); refine ⟨_, runs_load_cell H rfl rfl rfl rfl, ?_⟩; rintro _ _ ⟨rfl, rfl⟩) | ((with_reducible refine wpl_runx ?_ ?_); (focus exact rfl); refine ⟨_, runs_load_cell0 H rfl rfl rfl rfl, ?_⟩; rintro _ _ ⟨rfl, rfl⟩) | ((with_reducible refine wpl_runx ?_ ?_); (focus exact rfl); refine ⟨_, runs_load_obj H rfl rfl rfl rfl, ?_⟩; rintro _ _ ⟨rfl, rfl⟩) | ((with_reducible refine wpl_runx ?_ ?_); (focus exact rfl); refine ⟨_, runs_store H 0 rfl rfl rfl rfl rfl rfl rfl rfl rfl, ?_⟩; clear H; rintro _ w ⟨rfl, hE, H⟩; clear hE) | ((with_reducible refine wpl_runx ?_ ?_); (focus exact rfl); refine ⟨_, runs_store H 1 rfl rfl rfl rfl rfl rfl rfl rfl rfl, ?_⟩; clear H; rintro _ w ⟨rfl, hE, H⟩; clear hE) | ((with_reducible refine wpl_runx ?_ ?_); (focus exact rfl); refine ⟨_, runs_store H 2 rfl rfl rfl rfl rfl rfl rfl rfl rfl, ?_⟩; clear H; rintro _ w ⟨rfl, hE, H⟩; clear hE) | ((with_reducible refine wpl_callX ?_); refine ⟨rfl, rfl, fun K hK => ?_⟩; go_simp; (first | (go_at_call 49; (with_reducible refine Calls.mono (may_c H _ _ _ _ _ _ _ _ _ ?_) ?_); (focus (first | with_reducible rfl | rfl | simp)); intro e w h; (try simp only [Tm.eta] at h); obtain ⟨rfl, hE⟩ := h; replace H := H.step hE; clear hE) | (go_at_call 50; (with_reducible refine Calls.mono (key_spec_c H _ _ _ _ _ _ _ _ _ ?_) ?_); (focus (first | with_reducible rfl | rfl | simp)); intro e w h; (try simp only [Tm.eta] at h); obtain ⟨rfl, hE⟩ := h; replace H := H.step hE; clear hE) | (go_at_call 51; (with_reducible refine Calls.mono (of_spec_c H _ _) ?_); intro e w h; obtain ⟨rfl, hE⟩ := h; replace H := H.step hE; clear hE)); refine hK _ _ ?_; clear hK K; (try simp only [Act.put, List.setIfInBounds_toArray, List.set_cons_succ, List.set_cons_zero])) | ((with_reducible refine wpl_pureX ?_); refine ⟨rfl, rfl, ?_⟩; apply Exists.intro; apply And.intro; (focus (intro w; go_simp; (try with_reducible rfl); done)); (try simp only [Act.put, List.setIfInBounds_toArray, List.set_cons_succ, List.set_cons_zero])) | ((fail_if_success ((with_reducible refine wpl_runx ?_ ?_); (focus exact rfl))); ((with_reducible refine wpl_gcaseE ?_); refine ⟨_, rfl, ?_, ?_⟩) <;> (intro hg; first | (simp only [reduceCtorEq] at hg; done) | contradiction | ((with_reducible have hx := eq_of_beq hg); contradiction) | ((with_reducible have hx := ne_of_beq_false hg); contradiction) | ((with_reducible have hx := bne_iff_ne.1 hg); contradiction) | ((with_reducible have hx := bne_eq_false_iff_eq.1 hg); contradiction) | ((with_reducible have hx := of_decide_eq_true hg); first | contradiction | omega) | ((with_reducible have hx := of_decide_eq_false hg); first | contradiction | omega) | (simp only [Bool.not_eq_true', Bool.not_eq_false', beq_iff_eq, beq_eq_false_iff_ne, bne_iff_ne, ne_eq] at hg; contradiction) | (simp only [hg]))))
      all_goals
        go_ret
        refine ⟨?_, H.ext⟩
        clear H
        go_tidy
        first | rfl | (simp only [kindE, *, Tm.eta, Bool.false_eq_true, reduceIte, Bool.and_self, Bool.true_and, Bool.and_true, Bool.false_and, Bool.and_false, Bool.true_or, Bool.or_true, Bool.false_or, Bool.or_false, Bool.not_true, Bool.not_false, bne]; done) | (simp [kindE, Tm.eta, *]; done) | (simp_all [kindE, Tm.eta]; done) | (simp_all [kindE, Tm.eta]; omega)
    · clear h6'
      have hm' : (mayE t != 0) = true := by simpa using hm
      go_enter Try.func18, Try.ntmps18
      go_wp2_with (first | ((with_reducible refine wpl_runx_d 1 rfl ?_ ?_); (focus exact rfl); refine ⟨_, runs_box H rfl rfl, ?_⟩; clear H; rintro _ w ⟨b1, rfl, hE, H⟩; clear hE) | ((with_reducible refine wpl_runx ?_ ?_); (focus exact rfl); refine ⟨_, runs_load H 0 rfl rfl rfl rfl rfl, ?_⟩; rintro _ _ ⟨rfl, rfl⟩) | ((with_reducible refine wpl_runx ?_ ?_); (focus exact rfl); refine ⟨_, runs_load H 1 rfl rfl rfl rfl rfl, ?_⟩; rintro _ _ ⟨rfl, rfl⟩) | ((with_reducible refine wpl_runx ?_ ?_); (focus exact rfl); refine ⟨_, runs_load H 2 rfl rfl rfl rfl rfl, ?_⟩; rintro _ _ ⟨rfl, rfl⟩) | ((with_reducible refine wpl_runx ?_ ?_); (focus exact rfl); refine ⟨_, runs_load_cell H rfl rfl rfl rfl, ?_⟩; rintro _ _ ⟨rfl, rfl⟩) | ((with_reducible refine wpl_runx ?_ ?_); (focus exact rfl); refine ⟨_, runs_load_cell0 H rfl rfl rfl rfl, ?_⟩; rintro _ _ ⟨rfl, rfl⟩) | ((with_reducible refine wpl_runx ?_ ?_); (focus exact rfl); refine ⟨_, runs_load_obj H rfl rfl rfl rfl, ?_⟩; rintro _ _ ⟨rfl, rfl⟩) | ((with_reducible refine wpl_runx ?_ ?_); (focus exact rfl); refine ⟨_, runs_store H 0 rfl rfl rfl rfl rfl rfl rfl rfl rfl, ?_⟩; clear H; rintro _ w ⟨rfl, hE, H⟩; clear hE) | ((with_reducible refine wpl_runx ?_ ?_); (focus exact rfl); refine ⟨_, runs_store H 1 rfl rfl rfl rfl rfl rfl rfl rfl rfl, ?_⟩; clear H; rintro _ w ⟨rfl, hE, H⟩; clear hE) | ((with_reducible refine wpl_runx ?_ ?_); (focus exact rfl); refine ⟨_, runs_store H 2 rfl rfl rfl rfl rfl rfl rfl rfl rfl, ?_⟩; clear H; rintro _ w ⟨rfl, hE, H⟩; clear hE) | ((with_reducible refine wpl_callX ?_); refine ⟨rfl, rfl, fun K hK => ?_⟩; go_simp; (first | (go_at_call 49; (with_reducible refine Calls.mono (may_c H _ _ _ _ _ _ _ _ _ ?_) ?_); (focus (first | with_reducible rfl | rfl | simp)); intro e w h; (try simp only [Tm.eta] at h); obtain ⟨rfl, hE⟩ := h; replace H := H.step hE; clear hE) | (go_at_call 50; (with_reducible refine Calls.mono (key_spec_c H _ _ _ _ _ _ _ _ _ ?_) ?_); (focus (first | with_reducible rfl | rfl | simp)); intro e w h; (try simp only [Tm.eta] at h); obtain ⟨rfl, hE⟩ := h; replace H := H.step hE; clear hE) | (go_at_call 51; (with_reducible refine Calls.mono (of_spec_c H _ _) ?_); intro e w h; obtain ⟨rfl, hE⟩ := h; replace H := H.step hE; clear hE)); refine hK _ _ ?_; clear hK K; (try simp only [Act.put, List.setIfInBounds_toArray, List.set_cons_succ, List.set_cons_zero])) | ((with_reducible refine wpl_pureX ?_); refine ⟨rfl, rfl, ?_⟩; apply Exists.intro; apply And.intro; (focus (intro w; go_simp; (try with_reducible rfl); done)); (try simp only [Act.put, List.setIfInBounds_toArray, List.set_cons_succ, List.set_cons_zero])) | ((fail_if_success ((with_reducible refine wpl_runx ?_ ?_); (focus exact rfl))); ((with_reducible refine wpl_gcaseE ?_); refine ⟨_, rfl, ?_, ?_⟩) <;> (intro hg; first | (simp only [reduceCtorEq] at hg; done) | contradiction | ((with_reducible have hx := eq_of_beq hg); contradiction) | ((with_reducible have hx := ne_of_beq_false hg); contradiction) | ((with_reducible have hx := bne_iff_ne.1 hg); contradiction) | ((with_reducible have hx := bne_eq_false_iff_eq.1 hg); contradiction) | ((with_reducible have hx := of_decide_eq_true hg); first | contradiction | omega) | ((with_reducible have hx := of_decide_eq_false hg); first | contradiction | omega) | (simp only [Bool.not_eq_true', Bool.not_eq_false', beq_iff_eq, beq_eq_false_iff_ne, bne_iff_ne, ne_eq] at hg; contradiction) | (simp only [hg]))))
      all_goals
        go_ret
        refine ⟨?_, H.ext⟩
        clear H
        go_tidy
        first | rfl | (simp only [kindE, *, Tm.eta, Bool.false_eq_true, reduceIte, Bool.and_self, Bool.true_and, Bool.and_true, Bool.false_and, Bool.and_false, Bool.true_or, Bool.or_true, Bool.false_or, Bool.or_false, Bool.not_true, Bool.not_false, bne]; done) | (simp [kindE, Tm.eta, *]; done) | (simp_all [kindE, Tm.eta]; done) | (simp_all [kindE, Tm.eta]; omega)
theorem kind_spec_c {M X : List Nat} {w1 w0 : World} {L : List Res} {F : List Nat → World → Prop} (H : St M X w1 w0 L F) (kt : Int) (st : ByteArray) (nt rt it : Int) (At : Option Addr) (ct lent : Nat) (lt : List Tm) [xt : HasAR F At ct lt] (et : lent = lt.length)  : Calls Try.prog 18 #[.agg #[.int .i64 kt, .string st, .int .i64 nt, .int .u64 rt, .int .u64 it, .slice At lent ct]] w0 (RetV w0 (.int .i64 (kindE (Tm.mk kt st nt rt it lt)))) := by
  subst et
  exact kind_spec (Tm.mk kt st nt rt it lt) At ct _ _ H.ltAll H.ar
theorem kindOf_spec (t : Tm) (At : Option Addr) (ct : Nat) (M : List Nat) (w0 : World) (hM : ∀ b ∈ M, b < w0.heap.size) (ht : AR At ct t.args M w0) (pre0 : slim t) : Calls Try.prog 21 #[.agg #[.int .i64 t.kind, .string t.name, .int .i64 t.int, .int .u64 t.re, .int .u64 t.im, .slice At t.args.length ct]] w0 (RetV w0 (.int .i64 (kindOfE t))) := by
  have H := St.start hM (AR.stab At ct t.args) ht
  clear ht
  by_cases h6 : kindR (rkeyS t).toList (rkeyN t) = 6
  · obtain ⟨k, s, n, r, i, p, q, rfl⟩ := rtwo_args (kindR6 h6).2
    simp only [Tm.kind, Tm.name, Tm.int, Tm.re, Tm.im, Tm.args] at H ⊢
    obtain ⟨b, o, A1, c1, A2, c2, rfl, H2⟩ := H.open2 (A := At) (c := ct) (p := p) (q := q)
    clear H
    have H := H2
    clear H2
    go_enter Try.func21, Try.ntmps21
    go_wp2_with (first | ((with_reducible refine wpl_runx_d 1 rfl ?_ ?_); (focus exact rfl); refine ⟨_, runs_box H rfl rfl, ?_⟩; clear H; rintro _ w ⟨b1, rfl, hE, H⟩; clear hE) | ((with_reducible refine wpl_runx ?_ ?_); (focus exact rfl); refine ⟨_, runs_load H 0 rfl rfl rfl rfl rfl, ?_⟩; rintro _ _ ⟨rfl, rfl⟩) | ((with_reducible refine wpl_runx ?_ ?_); (focus exact rfl); refine ⟨_, runs_load H 1 rfl rfl rfl rfl rfl, ?_⟩; rintro _ _ ⟨rfl, rfl⟩) | ((with_reducible refine wpl_runx ?_ ?_); (focus exact rfl); refine ⟨_, runs_load H 2 rfl rfl rfl rfl rfl, ?_⟩; rintro _ _ ⟨rfl, rfl⟩) | ((with_reducible refine wpl_runx ?_ ?_); (focus exact rfl); refine ⟨_, runs_load_cell H rfl rfl rfl rfl, ?_⟩; rintro _ _ ⟨rfl, rfl⟩) | ((with_reducible refine wpl_runx ?_ ?_); (focus exact rfl); refine ⟨_, runs_load_cell0 H rfl rfl rfl rfl, ?_⟩; rintro _ _ ⟨rfl, rfl⟩) | ((with_reducible refine wpl_runx ?_ ?_); (focus exact rfl); refine ⟨_, runs_load_obj H rfl rfl rfl rfl, ?_⟩; rintro _ _ ⟨rfl, rfl⟩) | ((with_reducible refine wpl_runx ?_ ?_); (focus exact rfl); refine ⟨_, runs_store H 0 rfl rfl rfl rfl rfl rfl rfl rfl rfl, ?_⟩; clear H; rintro _ w ⟨rfl, hE, H⟩; clear hE) | ((with_reducible refine wpl_runx ?_ ?_); (focus exact rfl); refine ⟨_, runs_store H 1 rfl rfl rfl rfl rfl rfl rfl rfl rfl, ?_⟩; clear H; rintro _ w ⟨rfl, hE, H⟩; clear hE) | ((with_reducible refine wpl_runx ?_ ?_); (focus exact rfl); refine ⟨_, runs_store H 2 rfl rfl rfl rfl rfl rfl rfl rfl rfl, ?_⟩; clear H; rintro _ w ⟨rfl, hE, H⟩; clear hE) | ((with_reducible refine wpl_callX ?_); refine ⟨rfl, rfl, fun K hK => ?_⟩; go_simp; (first | (go_at_call 25; (with_reducible refine Calls.mono (rMay_c H _ _ _ _ _ _ _ _ _ ?_ ?_) ?_); (focus (first | with_reducible rfl | rfl | simp)); (focus ((try simp only [Tm.eta]); (first | assumption | (apply slim_of_slimA; assumption) | exact slimA_plain _ | exact slimA_rename _ | exact slim_plain _ | exact slim_rename _ | exact slimA_var _ | exact slimA_more _ _ | exact slimA_rmore _ _ | exact slimA_expand _ _ | exact slimA_rexpand _ _ | (simp [slim, slimL, slimA, slimAL]; done)))); intro e w h; (try simp only [Tm.eta] at h); obtain ⟨rfl, hE⟩ := h; replace H := H.step hE; clear hE) | (go_at_call 53; (with_reducible refine Calls.mono (rkey_spec_c H _ _ _ _ _ _ _ _ _ ?_) ?_); (focus (first | with_reducible rfl | rfl | simp)); intro e w h; (try simp only [Tm.eta] at h); obtain ⟨rfl, hE⟩ := h; replace H := H.step hE; clear hE) | (go_at_call 54; (with_reducible refine Calls.mono (kindR_spec_c H _ _) ?_); intro e w h; obtain ⟨rfl, hE⟩ := h; replace H := H.step hE; clear hE) | (go_at_call 41; (with_reducible refine Calls.mono (rIs_spec_c H _ _ _ _ _ _ _ _ _ _ _ ?_) ?_); (focus (first | with_reducible rfl | rfl | simp)); intro e w h; (try simp only [Tm.eta] at h); obtain ⟨rfl, hE⟩ := h; replace H := H.step hE; clear hE)); refine hK _ _ ?_; clear hK K; (try simp only [Act.put, List.setIfInBounds_toArray, List.set_cons_succ, List.set_cons_zero])) | ((with_reducible refine wpl_pureX ?_); refine ⟨rfl, rfl, ?_⟩; apply Exists.intro; apply And.intro; (focus (intro w; go_simp; (try with_reducible rfl); done)); (try simp only [Act.put, List.setIfInBounds_toArray, List.set_cons_succ, List.set_cons_zero])) | ((fail_if_success ((with_reducible refine wpl_runx ?_ ?_); (focus exact rfl))); ((with_reducible refine wpl_gcaseE ?_); refine ⟨_, rfl, ?_, ?_⟩) <;> (intro hg; first | (simp only [reduceCtorEq] at hg; done) | contradiction | ((with_reducible have hx := eq_of_beq hg); contradiction) | ((with_reducible have hx := ne_of_beq_false hg); contradiction) | ((with_reducible have hx := bne_iff_ne.1 hg); contradiction) | ((with_reducible have hx := bne_eq_false_iff_eq.1 hg); contradiction) | ((with_reducible have hx := of_decide_eq_true hg); first | contradiction | omega) | ((with_reducible have hx := of_decide_eq_false hg); first | contradiction | omega) | (simp only [Bool.not_eq_true', Bool.not_eq_false', beq_iff_eq, beq_eq_false_iff_ne, bne_iff_ne, ne_eq] at hg; contradiction) | (simp only [hg]))))
    all_goals
      go_ret
      refine ⟨?_, H.ext⟩
      clear H
      go_tidy
      first | rfl | (simp only [kindOfE, rIfElseE, Tm.kind, Tm.args, *, Tm.eta, Bool.false_eq_true, reduceIte, Bool.and_self, Bool.true_and, Bool.and_true, Bool.false_and, Bool.and_false, Bool.true_or, Bool.or_true, Bool.false_or, Bool.or_false, Bool.not_true, Bool.not_false, bne]; done) | (simp [kindOfE, rIfElseE, Tm.kind, Tm.args, Tm.eta, *]; done) | (simp_all [kindOfE, rIfElseE, Tm.kind, Tm.args, Tm.eta]; done) | (simp_all [kindOfE, rIfElseE, Tm.kind, Tm.args, Tm.eta]; omega)
  · replace h6 : (kindR (rkeyS t).toList (rkeyN t) == 6) = false := by simpa using h6
    go_enter Try.func21, Try.ntmps21
    go_wp2_with (first | ((with_reducible refine wpl_runx_d 1 rfl ?_ ?_); (focus exact rfl); refine ⟨_, runs_box H rfl rfl, ?_⟩; clear H; rintro _ w ⟨b1, rfl, hE, H⟩; clear hE) | ((with_reducible refine wpl_runx ?_ ?_); (focus exact rfl); refine ⟨_, runs_load H 0 rfl rfl rfl rfl rfl, ?_⟩; rintro _ _ ⟨rfl, rfl⟩) | ((with_reducible refine wpl_runx ?_ ?_); (focus exact rfl); refine ⟨_, runs_load H 1 rfl rfl rfl rfl rfl, ?_⟩; rintro _ _ ⟨rfl, rfl⟩) | ((with_reducible refine wpl_runx ?_ ?_); (focus exact rfl); refine ⟨_, runs_load H 2 rfl rfl rfl rfl rfl, ?_⟩; rintro _ _ ⟨rfl, rfl⟩) | ((with_reducible refine wpl_runx ?_ ?_); (focus exact rfl); refine ⟨_, runs_load_cell H rfl rfl rfl rfl, ?_⟩; rintro _ _ ⟨rfl, rfl⟩) | ((with_reducible refine wpl_runx ?_ ?_); (focus exact rfl); refine ⟨_, runs_load_cell0 H rfl rfl rfl rfl, ?_⟩; rintro _ _ ⟨rfl, rfl⟩) | ((with_reducible refine wpl_runx ?_ ?_); (focus exact rfl); refine ⟨_, runs_load_obj H rfl rfl rfl rfl, ?_⟩; rintro _ _ ⟨rfl, rfl⟩) | ((with_reducible refine wpl_runx ?_ ?_); (focus exact rfl); refine ⟨_, runs_store H 0 rfl rfl rfl rfl rfl rfl rfl rfl rfl, ?_⟩; clear H; rintro _ w ⟨rfl, hE, H⟩; clear hE) | ((with_reducible refine wpl_runx ?_ ?_); (focus exact rfl); refine ⟨_, runs_store H 1 rfl rfl rfl rfl rfl rfl rfl rfl rfl, ?_⟩; clear H; rintro _ w ⟨rfl, hE, H⟩; clear hE) | ((with_reducible refine wpl_runx ?_ ?_); (focus exact rfl); refine ⟨_, runs_store H 2 rfl rfl rfl rfl rfl rfl rfl rfl rfl, ?_⟩; clear H; rintro _ w ⟨rfl, hE, H⟩; clear hE) | ((with_reducible refine wpl_callX ?_); refine ⟨rfl, rfl, fun K hK => ?_⟩; go_simp; (first | (go_at_call 25; (with_reducible refine Calls.mono (rMay_c H _ _ _ _ _ _ _ _ _ ?_ ?_) ?_); (focus (first | with_reducible rfl | rfl | simp)); (focus ((try simp only [Tm.eta]); (first | assumption | (apply slim_of_slimA; assumption) | exact slimA_plain _ | exact slimA_rename _ | exact slim_plain _ | exact slim_rename _ | exact slimA_var _ | exact slimA_more _ _ | exact slimA_rmore _ _ | exact slimA_expand _ _ | exact slimA_rexpand _ _ | (simp [slim, slimL, slimA, slimAL]; done)))); intro e w h; (try simp only [Tm.eta] at h); obtain ⟨rfl, hE⟩ := h; replace H := H.step hE; clear hE) | (go_at_call 53; (with_reducible refine Calls.mono (rkey_spec_c H _ _ _ _ _ _ _ _ _ ?_) ?_); (focus (first | with_reducible rfl | rfl | simp)); intro e w h; (try simp only [Tm.eta] at h); obtain ⟨rfl, hE⟩ := h; replace H := H.step hE; clear hE) | (go_at_call 54; (with_reducible refine Calls.mono (kindR_spec_c H _ _) ?_); intro e w h; obtain ⟨rfl, hE⟩ := h; replace H := H.step hE; clear hE) | (go_at_call 41; (with_reducible refine Calls.mono (rIs_spec_c H _ _ _ _ _ _ _ _ _ _ _ ?_) ?_); (focus (first | with_reducible rfl | rfl | simp)); intro e w h; (try simp only [Tm.eta] at h); obtain ⟨rfl, hE⟩ := h; replace H := H.step hE; clear hE)); refine hK _ _ ?_; clear hK K; (try simp only [Act.put, List.setIfInBounds_toArray, List.set_cons_succ, List.set_cons_zero])) | ((with_reducible refine wpl_pureX ?_); refine ⟨rfl, rfl, ?_⟩; apply Exists.intro; apply And.intro; (focus (intro w; go_simp; (try with_reducible rfl); done)); (try simp only [Act.put, List.setIfInBounds_toArray, List.set_cons_succ, List.set_cons_zero])) | ((fail_if_success ((with_reducible refine wpl_runx ?_ ?_); (focus exact rfl))); ((with_reducible refine wpl_gcaseE ?_); refine ⟨_, rfl, ?_, ?_⟩) <;> (intro hg; first | (simp only [reduceCtorEq] at hg; done) | contradiction | ((with_reducible have hx := eq_of_beq hg); contradiction) | ((with_reducible have hx := ne_of_beq_false hg); contradiction) | ((with_reducible have hx := bne_iff_ne.1 hg); contradiction) | ((with_reducible have hx := bne_eq_false_iff_eq.1 hg); contradiction) | ((with_reducible have hx := of_decide_eq_true hg); first | contradiction | omega) | ((with_reducible have hx := of_decide_eq_false hg); first | contradiction | omega) | (simp only [Bool.not_eq_true', Bool.not_eq_false', beq_iff_eq, beq_eq_false_iff_ne, bne_iff_ne, ne_eq] at hg; contradiction) | (simp only [hg]))))
    all_goals
      go_ret
      refine ⟨?_, H.ext⟩
      clear H
      go_tidy
      first | rfl | (simp only [kindOfE, *, Tm.eta, Bool.false_eq_true, reduceIte, Bool.and_self, Bool.true_and, Bool.and_true, Bool.false_and, Bool.and_false, Bool.true_or, Bool.or_true, Bool.false_or, Bool.or_false, Bool.not_true, Bool.not_false, bne]; done) | (simp [kindOfE, Tm.eta, *]; done) | (simp_all [kindOfE, Tm.eta]; done) | (simp_all [kindOfE, Tm.eta]; omega)
theorem kindOf_spec_c {M X : List Nat} {w1 w0 : World} {L : List Res} {F : List Nat → World → Prop} (H : St M X w1 w0 L F) (kt : Int) (st : ByteArray) (nt rt it : Int) (At : Option Addr) (ct lent : Nat) (lt : List Tm) [xt : HasAR F At ct lt] (et : lent = lt.length) (pre0 : slim (Tm.mk kt st nt rt it lt)) : Calls Try.prog 21 #[.agg #[.int .i64 kt, .string st, .int .i64 nt, .int .u64 rt, .int .u64 it, .slice At lent ct]] w0 (RetV w0 (.int .i64 (kindOfE (Tm.mk kt st nt rt it lt)))) := by
  subst et
  exact kindOf_spec (Tm.mk kt st nt rt it lt) At ct _ _ H.ltAll H.ar pre0
def rReservedE (s : ByteArray) (n : Int) : Bool := bne (kindR s.toList n) 18 || (s.toList == neckS.toList && (n == 1 || n == 2))
theorem rReserved_spec (s : ByteArray) (n : Int) (M : List Nat) (w0 : World) (hM : ∀ b ∈ M, b < w0.heap.size)  : Calls Try.prog 22 #[.string s, .int .i64 n] w0 (RetV w0 (.bool (rReservedE s n))) := by
  have H := St.start hM (Stab.const True) trivial
  have e : rReservedE s n = (bne (kindR s.toList n) 18 || (s.toList == [58, 45] && (n == 1 || n == 2))) := by unfold rReservedE; rw [neckS_list]
  rw [e]
  clear e
  go_enter Try.func22, Try.ntmps22
  go_wp2_with (first | ((with_reducible refine wpl_runx ?_ ?_); (focus exact rfl); refine ⟨_, runs_load H 0 rfl rfl rfl rfl rfl, ?_⟩; rintro _ _ ⟨rfl, rfl⟩) | ((with_reducible refine wpl_runx ?_ ?_); (focus exact rfl); refine ⟨_, runs_load H 1 rfl rfl rfl rfl rfl, ?_⟩; rintro _ _ ⟨rfl, rfl⟩) | ((with_reducible refine wpl_runx ?_ ?_); (focus exact rfl); refine ⟨_, runs_load H 2 rfl rfl rfl rfl rfl, ?_⟩; rintro _ _ ⟨rfl, rfl⟩) | ((with_reducible refine wpl_runx ?_ ?_); (focus exact rfl); refine ⟨_, runs_load_cell H rfl rfl rfl rfl, ?_⟩; rintro _ _ ⟨rfl, rfl⟩) | ((with_reducible refine wpl_runx ?_ ?_); (focus exact rfl); refine ⟨_, runs_load_cell0 H rfl rfl rfl rfl, ?_⟩; rintro _ _ ⟨rfl, rfl⟩) | ((with_reducible refine wpl_runx ?_ ?_); (focus exact rfl); refine ⟨_, runs_load_obj H rfl rfl rfl rfl, ?_⟩; rintro _ _ ⟨rfl, rfl⟩) | ((with_reducible refine wpl_runx ?_ ?_); (focus exact rfl); refine ⟨_, runs_store H 0 rfl rfl rfl rfl rfl rfl rfl rfl rfl, ?_⟩; clear H; rintro _ w ⟨rfl, hE, H⟩; clear hE) | ((with_reducible refine wpl_runx ?_ ?_); (focus exact rfl); refine ⟨_, runs_store H 1 rfl rfl rfl rfl rfl rfl rfl rfl rfl, ?_⟩; clear H; rintro _ w ⟨rfl, hE, H⟩; clear hE) | ((with_reducible refine wpl_runx ?_ ?_); (focus exact rfl); refine ⟨_, runs_store H 2 rfl rfl rfl rfl rfl rfl rfl rfl rfl, ?_⟩; clear H; rintro _ w ⟨rfl, hE, H⟩; clear hE) | ((with_reducible refine wpl_callX ?_); refine ⟨rfl, rfl, fun K hK => ?_⟩; go_simp; (first | (go_at_call 54; (with_reducible refine Calls.mono (kindR_spec_c H _ _) ?_); intro e w h; obtain ⟨rfl, hE⟩ := h; replace H := H.step hE; clear hE)); refine hK _ _ ?_; clear hK K; (try simp only [Act.put, List.setIfInBounds_toArray, List.set_cons_succ, List.set_cons_zero])) | ((with_reducible refine wpl_pureX ?_); refine ⟨rfl, rfl, ?_⟩; apply Exists.intro; apply And.intro; (focus (intro w; go_simp; (try with_reducible rfl); done)); (try simp only [Act.put, List.setIfInBounds_toArray, List.set_cons_succ, List.set_cons_zero])) | ((fail_if_success ((with_reducible refine wpl_runx ?_ ?_); (focus exact rfl))); ((with_reducible refine wpl_gcaseE ?_); refine ⟨_, rfl, ?_, ?_⟩) <;> (intro hg; first | (simp only [reduceCtorEq] at hg; done) | contradiction | ((with_reducible have hx := eq_of_beq hg); contradiction) | ((with_reducible have hx := ne_of_beq_false hg); contradiction) | ((with_reducible have hx := bne_iff_ne.1 hg); contradiction) | ((with_reducible have hx := bne_eq_false_iff_eq.1 hg); contradiction) | ((with_reducible have hx := of_decide_eq_true hg); first | contradiction | omega) | ((with_reducible have hx := of_decide_eq_false hg); first | contradiction | omega) | (simp only [Bool.not_eq_true', Bool.not_eq_false', beq_iff_eq, beq_eq_false_iff_ne, bne_iff_ne, ne_eq] at hg; contradiction) | (simp only [hg]))))
  all_goals
    go_ret
    refine ⟨?_, H.ext⟩
    clear H
    go_tidy
    first | rfl | (simp only [bne, *, Tm.eta, Bool.false_eq_true, reduceIte, Bool.and_self, Bool.true_and, Bool.and_true, Bool.false_and, Bool.and_false, Bool.true_or, Bool.or_true, Bool.false_or, Bool.or_false, Bool.not_true, Bool.not_false, bne]; done) | (simp [bne, Tm.eta, *]; done) | (simp_all [bne, Tm.eta]; done) | (simp_all [bne, Tm.eta]; omega)
theorem rReserved_spec_c {M X : List Nat} {w1 w0 : World} {L : List Res} {F : List Nat → World → Prop} (H : St M X w1 w0 L F) (s : ByteArray) (n : Int)    : Calls Try.prog 22 #[.string s, .int .i64 n] w0 (RetV w0 (.bool (rReservedE s n))) := by
  exact rReserved_spec s n _ _ H.ltAll 
def rCallableE (t : Tm) : Bool := mayE t == 0 && (t.kind == 2 || t.kind == 5)
theorem rCallable_spec (t : Tm) (At : Option Addr) (ct : Nat) (M : List Nat) (w0 : World) (hM : ∀ b ∈ M, b < w0.heap.size) (ht : AR At ct t.args M w0) (pre0 : slim t) : Calls Try.prog 24 #[.agg #[.int .i64 t.kind, .string t.name, .int .i64 t.int, .int .u64 t.re, .int .u64 t.im, .slice At t.args.length ct]] w0 (RetV w0 (.bool (rCallableE t))) := by
  have H := St.start hM (AR.stab At ct t.args) ht
  clear ht
  go_enter Try.func24, Try.ntmps24
  go_wp2_with (first | ((with_reducible refine wpl_runx_d 1 rfl ?_ ?_); (focus exact rfl); refine ⟨_, runs_box H rfl rfl, ?_⟩; clear H; rintro _ w ⟨b1, rfl, hE, H⟩; clear hE) | ((with_reducible refine wpl_runx ?_ ?_); (focus exact rfl); refine ⟨_, runs_load H 0 rfl rfl rfl rfl rfl, ?_⟩; rintro _ _ ⟨rfl, rfl⟩) | ((with_reducible refine wpl_runx ?_ ?_); (focus exact rfl); refine ⟨_, runs_load H 1 rfl rfl rfl rfl rfl, ?_⟩; rintro _ _ ⟨rfl, rfl⟩) | ((with_reducible refine wpl_runx ?_ ?_); (focus exact rfl); refine ⟨_, runs_load H 2 rfl rfl rfl rfl rfl, ?_⟩; rintro _ _ ⟨rfl, rfl⟩) | ((with_reducible refine wpl_runx ?_ ?_); (focus exact rfl); refine ⟨_, runs_load_cell H rfl rfl rfl rfl, ?_⟩; rintro _ _ ⟨rfl, rfl⟩) | ((with_reducible refine wpl_runx ?_ ?_); (focus exact rfl); refine ⟨_, runs_load_cell0 H rfl rfl rfl rfl, ?_⟩; rintro _ _ ⟨rfl, rfl⟩) | ((with_reducible refine wpl_runx ?_ ?_); (focus exact rfl); refine ⟨_, runs_load_obj H rfl rfl rfl rfl, ?_⟩; rintro _ _ ⟨rfl, rfl⟩) | ((with_reducible refine wpl_runx ?_ ?_); (focus exact rfl); refine ⟨_, runs_store H 0 rfl rfl rfl rfl rfl rfl rfl rfl rfl, ?_⟩; clear H; rintro _ w ⟨rfl, hE, H⟩; clear hE) | ((with_reducible refine wpl_runx ?_ ?_); (focus exact rfl); refine ⟨_, runs_store H 1 rfl rfl rfl rfl rfl rfl rfl rfl rfl, ?_⟩; clear H; rintro _ w ⟨rfl, hE, H⟩; clear hE) | ((with_reducible refine wpl_runx ?_ ?_); (focus exact rfl); refine ⟨_, runs_store H 2 rfl rfl rfl rfl rfl rfl rfl rfl rfl, ?_⟩; clear H; rintro _ w ⟨rfl, hE, H⟩; clear hE) | ((with_reducible refine wpl_callX ?_); refine ⟨rfl, rfl, fun K hK => ?_⟩; go_simp; (first | (go_at_call 25; (with_reducible refine Calls.mono (rMay_c H _ _ _ _ _ _ _ _ _ ?_ ?_) ?_); (focus (first | with_reducible rfl | rfl | simp)); (focus ((try simp only [Tm.eta]); (first | assumption | (apply slim_of_slimA; assumption) | exact slimA_plain _ | exact slimA_rename _ | exact slim_plain _ | exact slim_rename _ | exact slimA_var _ | exact slimA_more _ _ | exact slimA_rmore _ _ | exact slimA_expand _ _ | exact slimA_rexpand _ _ | (simp [slim, slimL, slimA, slimAL]; done)))); intro e w h; (try simp only [Tm.eta] at h); obtain ⟨rfl, hE⟩ := h; replace H := H.step hE; clear hE)); refine hK _ _ ?_; clear hK K; (try simp only [Act.put, List.setIfInBounds_toArray, List.set_cons_succ, List.set_cons_zero])) | ((with_reducible refine wpl_pureX ?_); refine ⟨rfl, rfl, ?_⟩; apply Exists.intro; apply And.intro; (focus (intro w; go_simp; (try with_reducible rfl); done)); (try simp only [Act.put, List.setIfInBounds_toArray, List.set_cons_succ, List.set_cons_zero])) | ((fail_if_success ((with_reducible refine wpl_runx ?_ ?_); (focus exact rfl))); ((with_reducible refine wpl_gcaseE ?_); refine ⟨_, rfl, ?_, ?_⟩) <;> (intro hg; first | (simp only [reduceCtorEq] at hg; done) | contradiction | ((with_reducible have hx := eq_of_beq hg); contradiction) | ((with_reducible have hx := ne_of_beq_false hg); contradiction) | ((with_reducible have hx := bne_iff_ne.1 hg); contradiction) | ((with_reducible have hx := bne_eq_false_iff_eq.1 hg); contradiction) | ((with_reducible have hx := of_decide_eq_true hg); first | contradiction | omega) | ((with_reducible have hx := of_decide_eq_false hg); first | contradiction | omega) | (simp only [Bool.not_eq_true', Bool.not_eq_false', beq_iff_eq, beq_eq_false_iff_ne, bne_iff_ne, ne_eq] at hg; contradiction) | (simp only [hg]))))
  all_goals
    go_ret
    refine ⟨?_, H.ext⟩
    clear H
    go_tidy
    first | rfl | (simp only [rCallableE, *, Tm.eta, Bool.false_eq_true, reduceIte, Bool.and_self, Bool.true_and, Bool.and_true, Bool.false_and, Bool.and_false, Bool.true_or, Bool.or_true, Bool.false_or, Bool.or_false, Bool.not_true, Bool.not_false, bne]; done) | (simp [rCallableE, Tm.eta, *]; done) | (simp_all [rCallableE, Tm.eta]; done) | (simp_all [rCallableE, Tm.eta]; omega)
theorem rCallable_spec_c {M X : List Nat} {w1 w0 : World} {L : List Res} {F : List Nat → World → Prop} (H : St M X w1 w0 L F) (kt : Int) (st : ByteArray) (nt rt it : Int) (At : Option Addr) (ct lent : Nat) (lt : List Tm) [xt : HasAR F At ct lt] (et : lent = lt.length) (pre0 : slim (Tm.mk kt st nt rt it lt)) : Calls Try.prog 24 #[.agg #[.int .i64 kt, .string st, .int .i64 nt, .int .u64 rt, .int .u64 it, .slice At lent ct]] w0 (RetV w0 (.bool (rCallableE (Tm.mk kt st nt rt it lt)))) := by
  subst et
  exact rCallable_spec (Tm.mk kt st nt rt it lt) At ct _ _ H.ltAll H.ar pre0
end Go.Proofs.Ytdjbbafdepdglaa
