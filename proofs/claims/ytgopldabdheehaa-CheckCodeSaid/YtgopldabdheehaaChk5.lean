/- Walks: the walker over code: place. -/
import Derived.Test.YtgopldabdheehaaChk3
namespace Go.Proofs.Ytgopldabdheehaa
open Go.RowKit
set_option linter.unusedVariables false
set_option linter.unusedSimpArgs false
set_option maxRecDepth 20000
set_option maxHeartbeats 8000000
def isU (op : Int) : Bool := op == 5 || op == 6 || op == 7
def isS (op : Int) : Bool := op == 12 || op == 13 || op == 14
def isG (op : Int) : Bool := op == 1 || op == 2 || op == 3 || op == 4
def isB (op : Int) : Bool := op == 8 || op == 9 || op == 10 || op == 11 || op == 15 || op == 16 || op == 17
def WK.turn (s : WK) (x : Ins) : WK :=
  { s with body := s.body || isB x.op,
           unify := if isU x.op then wrap64 (s.unify - 1) else if x.op = 4 then x.ar else s.unify,
           set := if isS x.op then wrap64 (s.set - 1) else if x.op = 11 then x.ar else s.set }
def placeE (s : WK) (x : Ins) : Option WK :=
  if decide (0 < s.unify) = !isU x.op then none else if decide (0 < s.set) = !isS x.op then none else if isG x.op && s.body then none else some (s.turn x)
def un0 (un : Int) (y : Bool) : Prop := decide (0 < un) = y
theorem place_cases (op un se : Int) (bo : Bool) (h : 1 ≤ op ∧ op ≤ 18) :
    ((op == 5) = false ∧ (op == 6) = false ∧ (op == 7) = false ∧ decide (0 < un) = true) ∨
    ((op = 5 ∨ op = 6 ∨ op = 7) ∧ decide (0 < un) = false) ∨
    ((op == 5) = false ∧ (op == 6) = false ∧ (op == 7) = false ∧ (op == 12) = false ∧ (op == 13) = false ∧ (op == 14) = false ∧ decide (0 < un) = false ∧ decide (0 < se) = true) ∨
    ((op = 12 ∨ op = 13 ∨ op = 14) ∧ decide (0 < un) = false ∧ decide (0 < se) = false) ∨
    ((op = 5 ∨ op = 6 ∨ op = 7) ∧ decide (0 < un) = true ∧ decide (0 < se) = true) ∨
    ((op = 1 ∨ op = 2 ∨ op = 3 ∨ op = 4) ∧ decide (0 < un) = false ∧ decide (0 < se) = false ∧ bo = true) ∨
    ((op = 1 ∨ op = 2 ∨ op = 3 ∨ op = 4) ∧ decide (0 < un) = false ∧ decide (0 < se) = false ∧ bo = false) ∨
    ((op = 5 ∨ op = 6 ∨ op = 7) ∧ decide (0 < un) = true ∧ decide (0 < se) = false) ∨
    ((op = 8 ∨ op = 9 ∨ op = 10 ∨ op = 11 ∨ op = 15 ∨ op = 16 ∨ op = 17 ∨ op = 18) ∧ decide (0 < un) = false ∧ decide (0 < se) = false) ∨
    ((op = 12 ∨ op = 13 ∨ op = 14) ∧ decide (0 < un) = false ∧ decide (0 < se) = true) := by
  have e1 : ∀ k : Int, (op == k) = false ↔ op ≠ k := fun k => by rw [beq_eq_false_iff_ne]
  simp only [e1]
  cases hp : decide (0 < un) <;> cases hq : decide (0 < se) <;> cases bo <;> simp only [Bool.false_eq_true, reduceCtorEq, and_true, and_false, or_false, false_or, true_and] <;> omega
inductive RWp (b : Nat) (s : WK) (r : Option WK) (M : List Nat) (w0 : World) : Ending → World → Prop
  | mk {w' : World} (h : St M [b] w0 w' [.obj b (.cells (wkL (r.getD s)).toArray 59 (0, 0))] (fun _ _ => True)) : RWp b s r M w0 (.returned (.bool r.isSome)) w'
theorem wk_ext {s t : WK} (h1 : s.f = t.f) (h2 : s.base = t.base) (h3 : s.unify = t.unify) (h4 : s.set = t.set) (h5 : s.body = t.body) : wkL s = wkL t := by
  cases s; cases t; simp only at h1 h2 h3 h4 h5; subst h1 h2 h3 h4 h5; rfl
theorem place_spec (s : WK) (b : Nat) (x : Ins) (A : Option Addr) (c : Nat) (r : Int) (M : List Nat) (w0 : World) (hM : ∀ b ∈ M, b < w0.heap.size) (hb : w0.heap[b]? = some (wkO s)) (hf : fitsE x r = true) : Calls Try.prog 22 #[.pointer (some ⟨b, 0, none⟩), .agg #[.int .i64 x.op, .int .i64 x.a, .int .i64 x.b, .string x.name, .int .i64 x.ar, .int .i64 x.con.kind, .string x.con.name, .int .i64 x.con.int, .int .u64 x.con.re, .int .u64 x.con.im, .slice A x.con.args.length c]] w0 (RWp b s (placeE s x) M w0) := by
  have H := St.start1 hM (Stab.const True) hb trivial
  clear hb
  have k1 := (fits_ok hf).1
  clear hf
  obtain ⟨op, a, b', name, ar, con⟩ := x
  simp only at k1 ⊢
  have hop : 1 ≤ op ∧ op ≤ 18 := by
    unfold shOk at k1
    simpa using k1
  clear k1
  obtain ⟨f, ba, un, se, bo⟩ := s
  rcases place_cases op un se bo hop with ⟨h5, h6, h7, p1⟩ | ⟨hop, p1⟩ | ⟨h5, h6, h7, h12, h13, h14, p1, p2⟩ | ⟨hop, p1, p2⟩ | ⟨hop, p1, p2⟩ | ⟨hop, p1, p2, rfl⟩ | ⟨hop, p1, p2, rfl⟩ | ⟨hop, p1, p2⟩ | ⟨hop, p1, p2⟩ | ⟨hop, p1, p2⟩
  case' inr.inl => rcases hop with rfl | rfl | rfl
  case' inr.inr.inr.inl => rcases hop with rfl | rfl | rfl
  case' inr.inr.inr.inr.inl => rcases hop with rfl | rfl | rfl
  case' inr.inr.inr.inr.inr.inl => rcases hop with rfl | rfl | rfl | rfl
  case' inr.inr.inr.inr.inr.inr.inl => rcases hop with rfl | rfl | rfl | rfl
  case' inr.inr.inr.inr.inr.inr.inr.inl => rcases hop with rfl | rfl | rfl
  case' inr.inr.inr.inr.inr.inr.inr.inr.inl => rcases hop with rfl | rfl | rfl | rfl | rfl | rfl | rfl | rfl
  case' inr.inr.inr.inr.inr.inr.inr.inr.inr => rcases hop with rfl | rfl | rfl
  all_goals
    go_enter Try.func22, Try.ntmps22
    go_wp2_with (first | ((with_reducible refine wpl_runx_d 3 rfl ?_ ?_); (focus exact rfl); refine ⟨_, runs_box H rfl rfl, ?_⟩; clear H; rintro _ w ⟨b3, rfl, hE, H⟩; clear hE) | ((with_reducible refine wpl_runx ?_ ?_); (focus exact rfl); refine ⟨_, runs_load H 0 rfl rfl rfl rfl rfl, ?_⟩; rintro _ _ ⟨rfl, rfl⟩) | ((with_reducible refine wpl_runx ?_ ?_); (focus exact rfl); refine ⟨_, runs_load_cell H rfl rfl rfl rfl, ?_⟩; rintro _ _ ⟨rfl, rfl⟩) | ((with_reducible refine wpl_runx ?_ ?_); (focus exact rfl); refine ⟨_, runs_load_cell0 H rfl rfl rfl rfl, ?_⟩; rintro _ _ ⟨rfl, rfl⟩) | ((with_reducible refine wpl_runx ?_ ?_); (focus exact rfl); refine ⟨_, runs_load_obj H rfl rfl rfl rfl, ?_⟩; rintro _ _ ⟨rfl, rfl⟩) | ((with_reducible refine wpl_runx ?_ ?_); (focus exact rfl); refine ⟨_, runs_store H 0 rfl rfl rfl rfl rfl rfl rfl rfl rfl, ?_⟩; clear H; rintro _ w ⟨rfl, hE, H⟩; clear hE) | ((with_reducible refine wpl_runx ?_ ?_); (focus exact rfl); refine ⟨_, runs_loadA H 1 rfl rfl rfl rfl (by first | exact wk_unify _ | exact wk_set _ | exact wk_body _), ?_⟩; rintro _ _ ⟨rfl, rfl⟩) | ((with_reducible refine wpl_runx ?_ ?_); (focus exact rfl); refine ⟨_, runs_storeA H 1 rfl rfl rfl rfl rfl rfl (by rw [wk_len]; decide) (by first | exact wk_setU _ _ | exact wk_setS _ _ | exact wk_setB _ _) rfl, ?_⟩; clear H; rintro _ w ⟨rfl, hE, H⟩; clear hE) | ((with_reducible refine wpl_pureX ?_); refine ⟨rfl, rfl, ?_⟩; apply Exists.intro; apply And.intro; (focus (intro w; go_simp; (try with_reducible rfl); done)); (try simp only [Act.put, List.setIfInBounds_toArray, List.set_cons_succ, List.set_cons_zero])) | ((fail_if_success ((with_reducible refine wpl_runx ?_ ?_); (focus exact rfl))); ((with_reducible refine wpl_gcaseE ?_); refine ⟨_, rfl, ?_, ?_⟩) <;> (intro hg; first | (simp only [reduceCtorEq] at hg; done) | contradiction | ((with_reducible have hx := eq_of_beq hg); contradiction) | ((with_reducible have hx := ne_of_beq_false hg); contradiction) | ((with_reducible have hx := bne_iff_ne.1 hg); contradiction) | ((with_reducible have hx := bne_eq_false_iff_eq.1 hg); contradiction) | ((with_reducible have hx := of_decide_eq_true hg); first | contradiction | omega) | ((with_reducible have hx := of_decide_eq_false hg); first | contradiction | omega) | (simp only [Bool.not_eq_true', Bool.not_eq_false', beq_iff_eq, beq_eq_false_iff_ne, bne_iff_ne, ne_eq] at hg; contradiction) | (simp only [hg]))))
  all_goals
    go_ret
    have HH := (H.drop 0 rfl).weaken (G := fun _ _ => True) (fun h => trivial) (Stab.const _)
    simp only [placeE, WK.turn, isU, isS, isG, isB, *, Int.reduceBEq, Bool.or_false, Bool.or_true, Bool.true_or, Bool.false_or, Bool.not_false, Bool.not_true, Bool.or_self, Bool.and_true, Bool.and_false, Bool.true_and, Bool.false_and, reduceIte, Bool.false_eq_true, reduceCtorEq, Int.reduceEq]
    first
    | exact .mk (r := none) HH
    | exact .mk (r := some _) HH
end Go.Proofs.Ytgopldabdheehaa
