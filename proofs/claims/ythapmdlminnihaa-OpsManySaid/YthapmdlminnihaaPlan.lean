/- A region that leaves its order open, walked once: its quiet operations first, as soon as they may come; the others in the one order that is left. -/
import Derived.Test.YthapmdlminnihaaEv
namespace Go.Proofs.Ythapmdlminnihaa
open Go.RowKit
set_option linter.unusedVariables false
set_option linter.unusedSimpArgs false

section
variable {P : Program} {ops : Array Oper} {Q : Exit → Act → World → Prop} {S : World → Prop}

/-- Which operations surely come before number j: told by a list, checked below. -/
def befAt (bef : List (List Nat)) (j : Nat) : List Nat := bef.getD j []
/-- Behind number j a load may still come. -/
def keepAt (bef : List (List Nat)) (loads : List Nat) (j : Nat) : Bool := loads.any fun p => p != j && !(befAt bef j).contains p
/-- The list is right: whoever comes before is waited for. -/
def chkBef (ops : Array Oper) (bef : List (List Nat)) : Bool :=
  (List.range ops.size).all fun j => (befAt bef j).all fun p =>
    ((ops[j]?).map fun o => o.after.toList.any fun e => Region.binds .any e && decide (e.on < j) && (e.on == p || (befAt bef e.on).contains p)).getD false

def ClosedL (ops : Array Oper) (listed : Array Bool) : Prop :=
  ∀ j o, ops[j]? = some o → listed.getD j false = true → ∀ e ∈ o.after, Region.binds .any e = true → listed.getD e.on false = true

theorem bef_listed {bef : List (List Nat)} (hb : chkBef ops bef = true) {listed : Array Bool} (hc : ClosedL ops listed) : ∀ (j : Nat) (o : Oper), ops[j]? = some o →
    (∀ e ∈ o.after, Region.binds .any e = true → listed.getD e.on false = true) → ∀ p ∈ befAt bef j, listed.getD p false = true := by
  intro j
  induction j using Nat.strongRecOn with
  | _ j ih =>
    intro o ho hall p hp
    have hj : j < ops.size := (Array.getElem?_eq_some_iff.1 ho).1
    have h1 := List.all_eq_true.1 hb j (List.mem_range.2 hj)
    have h2 := List.all_eq_true.1 h1 p hp
    rw [ho] at h2
    simp only [Option.map_some, Option.getD_some, List.any_eq_true, Array.mem_toList_iff, Bool.and_eq_true, decide_eq_true_eq, Bool.or_eq_true, beq_iff_eq, List.contains_iff_mem] at h2
    obtain ⟨e, he, ⟨hbd, hlt⟩, h3⟩ := h2
    have hl := hall e he hbd
    rcases h3 with rfl | h3
    · exact hl
    · have hes : e.on < ops.size := Nat.lt_trans hlt hj
      exact ih e.on hlt ops[e.on] (by simp [hes]) (hc e.on _ (by simp [hes]) hl) p h3

/-- What is asked of the world behind an operation: of a quiet one, that S lasts; of another, that S holds if a load may still come. -/
def after (bef : List (List Nat)) (loads quiet : List Nat) (S : World → Prop) (i : Nat) (w w' : World) : Prop :=
  if quiet.contains i = true then S w → S w' else keepAt bef loads i = true → S w'

/-- In whatever order. -/
def wpAnyG (P : Program) (ops : Array Oper) (Q : Exit → Act → World → Prop) (S : World → Prop) (bef : List (List Nat)) (loads quiet : List Nat) : Nat → Array Bool → Act → World → Prop
  | 0, listed, a, w => Region.ready .any ops listed = [] ∧ Q .normal a w
  | fuel + 1, listed, a, w =>
    (Region.ready .any ops listed = [] → Q .normal a w) ∧
    ∀ i ∈ Region.ready .any ops listed, wpOp P ops Q i (fun a' w' => after bef loads quiet S i w w' ∧ wpAnyG P ops Q S bef loads quiet fuel (listed.setIfInBounds i true) a' w') a w

theorem wpAny_of_G {bef : List (List Nat)} {loads quiet : List Nat} : ∀ (fuel : Nat) (listed : Array Bool) (a : Act) (w : World), wpAnyG P ops Q S bef loads quiet fuel listed a w → wpAny P .any ops Q fuel listed a w
  | 0, _, _, _, h => h
  | fuel + 1, _, _, _, h => ⟨h.1, fun i hi => wpOp_mono (fun a' w' h' => wpAny_of_G fuel _ a' w' h'.2) (h.2 i hi)⟩

theorem ready_listed {listed : Array Bool} {j : Nat} (hs : listed.size = ops.size) (h : j ∈ Region.ready .any ops listed) : listed.getD j false = false ∧ j < ops.size := by
  obtain ⟨h1, o, ho, _⟩ := mem_ready.1 h
  have hj : j < ops.size := (Array.getElem?_eq_some_iff.1 ho).1
  have : j < listed.size := by omega
  simp [this] at h1 ⊢
  exact ⟨h1, hj⟩

theorem ClosedL.set {listed : Array Bool} (hc : ClosedL ops listed) {i : Nat} (hi : i ∈ Region.ready .any ops listed) : ClosedL ops (listed.setIfInBounds i true) := by
  intro j o ho hl e he hb
  by_cases hij : i = j
  · subst hij
    obtain ⟨_, o', ho', hall⟩ := mem_ready.1 hi
    rw [ho] at ho'
    cases ho'
    exact getD_set_true (hall e he hb)
  · rw [getD_set_ne false hij] at hl
    exact getD_set_true (hc j o ho hl e he hb)

theorem wpAnyG_first {bef : List (List Nat)} {loads quiet : List Nat} (hb : chkBef ops bef = true) {i : Nat} {oi : Oper} {v : Value} (hi : ops[i]? = some oi) (hsel : ∀ (j : Nat) (o : Oper) cs b, ops[j]? = some o → o.op ≠ .select cs b)
    (hQ : ∀ c a w, Q (.panic c) (a.put oi.dst v) w → Q (.panic c) a w) (hqi : quiet.contains i = true) :
    ∀ (fuel : Nat) (listed : Array Bool) (a : Act) (w : World), ClosedL ops listed → listed.size = ops.size →
      (∀ j oj, ops[j]? = some oj → j ≠ i → listed.getD j true = false → (∀ e ∈ oj.after, Region.binds .any e = true → e.on ≠ i) → oi.apart ops oj = true) →
      i ∈ Region.ready .any ops listed → YieldsIf P ops (fun w => loads.contains i = true → S w) oi v a → (loads.contains i = true → S w) →
      wpAnyG P ops Q S bef loads quiet fuel (listed.setIfInBounds i true) (a.put oi.dst v) w → wpAnyG P ops Q S bef loads quiet (fuel + 1) listed a w := by
  intro fuel
  have hself : ∀ w, after bef loads quiet S i w w := fun w => by unfold after; rw [if_pos hqi]; exact fun h => h
  induction fuel with
  | zero =>
    intro listed a w _ _ _ hr hy hS H
    refine ⟨fun h => (by rw [h] at hr; cases hr), fun j hj => ?_⟩
    by_cases hji : j = i
    · subst hji; exact hy.wpOp hi hS ⟨hself w, H⟩
    · have := ready_mono hj hji
      rw [H.1] at this
      cases this
  | succ fuel ih =>
    intro listed a w hcl hsz hfree hr hy hS H
    refine ⟨fun h => (by rw [h] at hr; cases hr), fun j hj => ?_⟩
    by_cases hji : j = i
    · subst hji; exact hy.wpOp hi hS ⟨hself w, H⟩
    · have h1 := H.2 j (ready_mono hj hji)
      obtain ⟨hjun, oj, hoj, hall⟩ := mem_ready.1 hj
      have hil := (ready_listed hsz hr).1
      have hnot : ∀ e ∈ oj.after, Region.binds .any e = true → e.on ≠ i := fun e he hbd heq => by
        have h1 := hall e he hbd
        rw [heq, hil] at h1
        cases h1
      have hkeep : loads.contains i = true → keepAt bef loads j = true := fun hc => by
        unfold keepAt
        rw [List.any_eq_true]
        refine ⟨i, by simpa using hc, ?_⟩
        have hne : (i != j) = true := by simpa using fun e => hji e.symm
        rw [hne, Bool.true_and]
        cases hq : (befAt bef j).contains i with
        | false => rfl
        | true =>
          have := bef_listed hb hcl j oj hoj hall i (by simpa using hq)
          rw [hil] at this
          cases this
      have h2 := wpOp_putIf (S := fun w => loads.contains i = true → S w) hoj (hfree j oj hoj hji hjun hnot) (fun cs b => hsel i oi cs b hi) (fun cs b => hsel j oj cs b hoj) hQ hy h1
      have hfree' : ∀ k ok, ops[k]? = some ok → k ≠ i → (listed.setIfInBounds j true).getD k true = false →
          (∀ e ∈ ok.after, Region.binds .any e = true → e.on ≠ i) → oi.apart ops ok = true := fun k ok hk hki hun hno => by
        refine hfree k ok hk hki ?_ hno
        by_cases hjk : j = k
        · subst hjk; exact hjun
        · rw [getD_set_ne true hjk] at hun; exact hun
      refine wpOp_mono (fun a' w' h3 => ⟨h3.2.1, ih (listed.setIfInBounds j true) a' w' (hcl.set hj) (by simpa using hsz) hfree' (ready_mono hr (Ne.symm hji)) h3.1 (fun hc => ?_) ?_⟩) h2
      · have h4 := h3.2.1
        unfold after at h4
        split at h4
        · exact h4 (hS hc)
        · exact h4 (hkeep hc)
      · rw [Array.setIfInBounds_comm _ _ hji]
        exact h3.2.2

/-- Is the plan one? Quiet operations may come and touch nobody's temporaries; another comes when it alone is left to come. -/
def chkPlan (ops : Array Oper) (quiet : List Nat) : List Nat → Array Bool → Bool
  | [], listed => (Region.ready .any ops listed).isEmpty
  | i :: rest, listed =>
    (if quiet.contains i then Region.free .any ops listed i && (Region.ready .any ops listed).contains i else Region.ready .any ops listed == [i]) && chkPlan ops quiet rest (listed.setIfInBounds i true)

/-- The walk along the plan. -/
def wpPlan (P : Program) (ops : Array Oper) (Q : Exit → Act → World → Prop) (S : World → Prop) (bef : List (List Nat)) (loads quiet : List Nat) : List Nat → Act → World → Prop
  | [], a, w => Q .normal a w
  | i :: rest, a, w =>
    if quiet.contains i then ∃ o v, ops[i]? = some o ∧ YieldsIf P ops (fun w => loads.contains i = true → S w) o v a ∧ (loads.contains i = true → S w) ∧ wpPlan P ops Q S bef loads quiet rest (a.put o.dst v) w
    else wpOp P ops Q i (fun a' w' => (keepAt bef loads i = true → S w') ∧ wpPlan P ops Q S bef loads quiet rest a' w') a w

theorem wpAnyG_of_plan {bef : List (List Nat)} {loads quiet : List Nat} (hb : chkBef ops bef = true) (hsel : Region.noSelect ops = true)
    (hQ : ∀ d v c a w, Q (.panic c) (Act.put a d v) w → Q (.panic c) a w) : ∀ (plan : List Nat) (listed : Array Bool) (a : Act) (w : World), ClosedL ops listed → listed.size = ops.size →
      chkPlan ops quiet plan listed = true → wpPlan P ops Q S bef loads quiet plan a w → wpAnyG P ops Q S bef loads quiet plan.length listed a w
  | [], listed, a, w, _, _, hc, h => ⟨by simpa [chkPlan] using hc, h⟩
  | i :: rest, listed, a, w, hcl, hsz, hc, h => by
    unfold chkPlan at hc
    unfold wpPlan at h
    rw [Bool.and_eq_true] at hc
    obtain ⟨hc1, hc2⟩ := hc
    by_cases hq : quiet.contains i = true
    · rw [if_pos hq] at hc1 h
      rw [Bool.and_eq_true] at hc1
      obtain ⟨o, v, ho, hy, hS, hr⟩ := h
      have hri : i ∈ Region.ready .any ops listed := by simpa using hc1.2
      exact wpAnyG_first hb ho (Region.noSelect_spec hsel) (fun c a w => hQ o.dst v c a w) hq _ listed a w hcl hsz (Region.free_spec ho hc1.1) hri hy hS
        (wpAnyG_of_plan hb hsel hQ rest _ _ w (hcl.set hri) (by simpa using hsz) hc2 hr)
    · rw [if_neg hq] at hc1 h
      have hri : Region.ready .any ops listed = [i] := by simpa using hc1
      have hm : i ∈ Region.ready .any ops listed := by rw [hri]; simp
      refine ⟨fun h0 => (by rw [hri] at h0; cases h0), fun j hj => ?_⟩
      rw [hri] at hj
      obtain rfl := List.mem_singleton.1 hj
      refine wpOp_mono (fun a' w' h3 => ⟨?_, wpAnyG_of_plan hb hsel hQ rest _ _ w' (hcl.set hm) (by simpa using hsz) hc2 h3.2⟩) h
      unfold after
      rw [if_neg hq]
      exact h3.1

/-- All that is asked of a plan by the operations alone. -/
def planOk (ops : Array Oper) (bef : List (List Nat)) (quiet plan : List Nat) : Bool :=
  chkBef ops bef && Region.noSelect ops && chkPlan ops quiet plan (Array.replicate ops.size false) && plan.length == ops.size

theorem wp_region_plan {S : World → World → Prop} {id : Nat} {a : Act} {w : World} (bef : List (List Nat)) (loads quiet plan : List Nat) (hm : P.follows .mixedOrders = true) (hc : planOk ops bef quiet plan = true)
    (hQ : ∀ d v c a w, Q (.panic c) (Act.put a d v) w → Q (.panic c) a w) (h : wpPlan P ops Q (S w.drew) bef loads quiet plan a w.drew) : (Code.region id ops true).wp P Q a w := by
  unfold planOk at hc
  simp only [Bool.and_eq_true, beq_iff_eq] at hc
  obtain ⟨⟨⟨h1, h2⟩, h3⟩, h4⟩ := hc
  have hcl : ClosedL ops (Array.replicate ops.size false) := fun j o _ hl => by
    exfalso
    by_cases hj : j < ops.size <;> simp [hj] at hl
  have := wpAnyG_of_plan (S := S w.drew) (quiet := quiet) (loads := loads) h1 h2 hQ plan _ a w.drew hcl (by simp) h3 h
  rw [h4] at this
  exact wp_region_any hm (wpAny_of_G _ _ _ _ this)
end

/-! ### The steps along a plan -/
/-- The n-th, reckoned out. -/
def nthC {α : Type} : List α → Nat → Option α
  | [], _ => none
  | x :: _, 0 => some x
  | _ :: l, n + 1 => nthC l n
section
variable {P : Program} {ops : Array Oper} {Q : Exit → Act → World → Prop} {S : World → Prop} {bef : List (List Nat)} {loads quiet rest : List Nat} {i : Nat} {o : Oper} {a : Act} {w : World} {v : Value}

theorem nthC_spec {α : Type} : ∀ (l : List α) (n : Nat) {x : α}, nthC l n = some x → l.toArray[n]? = some x
  | [], _, _, h => by cases h
  | _ :: _, 0, _, h => by simpa [nthC] using h
  | _ :: l, n + 1, _, h => by simpa using nthC_spec l n h

/-- A quiet operation that looks into no memory. -/
theorem plan_pure (ho : nthC ops.toList i = some o) (hq : quiet.contains i = true) (hl : loads.contains i = false) (hg : Region.wanted o (yielded ops a.tmps) = true)
    (hv : ∀ w, (execOp a.eval o).run P w = .ok (.value v) w) (k : wpPlan P ops Q S bef loads quiet rest (a.put o.dst v) w) : wpPlan P ops Q S bef loads quiet (i :: rest) a w := by
  have ho := nthC_spec _ _ ho
  unfold wpPlan
  rw [if_pos hq]
  exact ⟨o, v, ho, .inl ⟨hg, fun w _ => hv w⟩, fun h => absurd h (by rw [hl]; simp), k⟩

/-- An operation that its guard leaves out. -/
theorem plan_skip (ho : nthC ops.toList i = some o) (hq : quiet.contains i = true) (hS : loads.contains i = true → S w) (hg : Region.wanted o (yielded ops a.tmps) = false)
    (k : wpPlan P ops Q S bef loads quiet rest (a.put o.dst undef) w) : wpPlan P ops Q S bef loads quiet (i :: rest) a w := by
  have ho := nthC_spec _ _ ho
  unfold wpPlan
  rw [if_pos hq]
  exact ⟨o, undef, ho, .inr ⟨hg, rfl⟩, hS, k⟩

/-- One that is not quiet, left out by its guard. -/
theorem plan_skip' (ho : nthC ops.toList i = some o) (hq : quiet.contains i = false) (hS : keepAt bef loads i = true → S w) (hg : Region.wanted o (yielded ops a.tmps) = false)
    (k : wpPlan P ops Q S bef loads quiet rest (a.put o.dst undef) w) : wpPlan P ops Q S bef loads quiet (i :: rest) a w := by
  have ho : ops[i]? = some o := nthC_spec _ _ ho
  unfold wpPlan
  rw [hq]
  simp only [Bool.false_eq_true, if_false, wpOp, ho, hg]
  exact ⟨hS, k⟩

/-- A load. -/
theorem plan_load (ho : nthC ops.toList i = some o) (hq : quiet.contains i = true) (hl : loads.contains i = true) (hg : Region.wanted o (yielded ops a.tmps) = true) (hS : S w)
    (hv : ∀ w, S w → (execOp a.eval o).run P w = .ok (.value v) w) (k : wpPlan P ops Q S bef loads quiet rest (a.put o.dst v) w) : wpPlan P ops Q S bef loads quiet (i :: rest) a w := by
  have ho := nthC_spec _ _ ho
  unfold wpPlan
  rw [if_pos hq]
  exact ⟨o, v, ho, .inl ⟨hg, fun w h => hv w (h hl)⟩, fun _ => hS, k⟩

/-- Any other. -/
theorem plan_op (ho : nthC ops.toList i = some o) (hq : quiet.contains i = false) (hg : Region.wanted o (yielded ops a.tmps) = true)
    (h : ∀ K : Act → World → Prop, (∀ a' w', (keepAt bef loads i = true → S w') → wpPlan P ops Q S bef loads quiet rest a' w' → K a' w') → o.wp P a w K Q) : wpPlan P ops Q S bef loads quiet (i :: rest) a w := by
  have ho : ops[i]? = some o := nthC_spec _ _ ho
  unfold wpPlan
  rw [hq]
  simp only [Bool.false_eq_true, if_false, wpOp, ho, hg, if_true]
  exact .inl (h _ fun a' w' h1 h2 => ⟨h1, h2⟩)

theorem plan_run (ho : nthC ops.toList i = some o) (hq : quiet.contains i = false) (hg : Region.wanted o (yielded ops a.tmps) = true) {R : Value → World → Prop} (hr : Runs P a.eval o w R)
    (k : ∀ v w', R v w' → (keepAt bef loads i = true → S w') ∧ wpPlan P ops Q S bef loads quiet rest (a.put o.dst v) w') : wpPlan P ops Q S bef loads quiet (i :: rest) a w :=
  plan_op ho hq hg fun _ hK => hr.wp fun v w' hR => hK _ _ (k v w' hR).1 (k v w' hR).2

/-- The same, the law to be named when the operation stands written out. -/
theorem plan_step (ho : nthC ops.toList i = some o) (hq : quiet.contains i = false) (hg : Region.wanted o (yielded ops a.tmps) = true)
    (h : ∃ R : Value → World → Prop, Runs P a.eval o w R ∧ ∀ v w', R v w' → (keepAt bef loads i = true → S w') ∧ wpPlan P ops Q S bef loads quiet rest (a.put o.dst v) w') : wpPlan P ops Q S bef loads quiet (i :: rest) a w :=
  let ⟨_, hr, k⟩ := h; plan_run ho hq hg hr k

theorem plan_nil (h : Q .normal a w) : wpPlan P ops Q S bef loads quiet [] a w := h

/-- The beginning of a walk along a plan, in the state of a walk. -/
theorem wp_region_st {M X : List Nat} {w0 : World} {L : List Res} {F : List Nat → World → Prop} {id : Nat} (H : St M X w0 w L F) (Y : List Nat) (bef : List (List Nat)) (loads quiet plan : List Nat) (hm : P.follows .mixedOrders = true)
    (hc : planOk ops bef quiet plan = true) (hQ : ∀ d v c a w, Q (.panic c) (Act.put a d v) w → Q (.panic c) a w)
    (h : ∀ W, St M X w0 W L F → wpPlan P ops Q (Ext Y W) bef loads quiet plan a W) : (Code.region id ops true).wp P Q a w :=
  wp_region_plan (S := fun W => Ext Y W) bef loads quiet plan hm hc hQ (h _ H.drew)

/-- A load out of a block of the call's own. -/
theorem plan_load_open {M X Y : List Nat} {w0 W : World} {L : List Res} {F : List Nat → World → Prop} (H : St M X w0 W L F) (hS : Ext Y W w) (k : Nat) {b : Nat} {cs : List Value} {ty : TypeId} (hk : L[k]? = some (.obj b (.cells cs.toArray ty (0, 0))))
    (hY : b ∉ Y) (ho : nthC ops.toList i = some o) (hq : quiet.contains i = true) (hl : loads.contains i = true) (hg : Region.wanted o (yielded ops a.tmps) = true) {T : TypeId} {x : Operand} {off : Nat}
    (hop : o.op = .load T x) (hx : a.eval x = .pointer (some ⟨b, off, none⟩)) {agg : Bool} {n : Nat} (hT : tyShape P T = some (agg, n)) (hv : pickC cs off n agg = some v)
    (h : wpPlan P ops Q (Ext Y W) bef loads quiet rest (a.put o.dst v) w) : wpPlan P ops Q (Ext Y W) bef loads quiet (i :: rest) a w :=
  plan_load ho hq hl hg hS (fun w' hS' => run_load_in ((hS'.block b (Array.getElem?_eq_some_iff.1 (H.get hk)).1 hY).trans (H.get hk)) hop hx hT hv) h

/-- A load of cells that are known from the region's begin. -/
theorem plan_load_at {W : World} {Y : List Nat} (hS : Ext Y W w) {b off : Nat} {cs : List Value} (hb : b < W.heap.size) (hY : b ∉ Y) (hc : ∀ j v, cs[j]? = some v → W.cell? ⟨b, off + j, none⟩ = some v)
    (ho : nthC ops.toList i = some o) (hq : quiet.contains i = true) (hl : loads.contains i = true) (hg : Region.wanted o (yielded ops a.tmps) = true) {T : TypeId} {x : Operand}
    (hop : o.op = .load T x) (hx : a.eval x = .pointer (some ⟨b, off, none⟩)) {agg : Bool} {n : Nat} (hT : tyShape P T = some (agg, n)) (hv : pickC cs 0 n agg = some v)
    (h : wpPlan P ops Q (Ext Y W) bef loads quiet rest (a.put o.dst v) w) : wpPlan P ops Q (Ext Y W) bef loads quiet (i :: rest) a w :=
  plan_load ho hq hl hg hS (fun w' hS' => run_load_at (d := 0) hop hx hT (fun j v hj => (cell_same (hS'.block b hb hY) _).trans (hc j v hj)) hv) h
end
end Go.Proofs.Ythapmdlminnihaa
