/- Regions where two operations may come either way round: both are walked. -/
import Derived.Test.YthapmdlminnihaaPlan
namespace Go.Proofs.Ythapmdlminnihaa
open Go.RowKit
set_option linter.unusedVariables false
set_option linter.unusedSimpArgs false

/-- A block that is younger may change. -/
theorem Ext.late {W w w' : World} {b : Nat} (h : Ext [] W w) (k : Ext [b] w w') (hb : W.heap.size ≤ b) : Ext [] W w' :=
  ⟨k.os.trans h.os, k.tape.trans h.tape, k.output.trans h.output, Nat.le_trans h.size k.size, fun c hc hx => (k.block c (Nat.lt_of_lt_of_le hc h.size) (by simp; omega)).trans (h.block c hc hx)⟩

/-- A variable that is made at its zero value: its block is new. -/
theorem runs_allocN {P : Program} {ev : Operand → Value} {o : Oper} {w : World} {M X : List Nat} {w0 : World} {L : List Res} {F : List Nat → World → Prop} (H : St M X w0 w L F) {T : TypeId} (ho : o.op = .alloc T) {z : Value} (hz : tyZero P T = some z) {cs : List Value} (hc : cellsC z = some cs) :
    Runs P ev o w fun u w' => ∃ b, u = .pointer (some ⟨b, 0, none⟩) ∧ w.heap.size ≤ b ∧ Ext [] w w' ∧ St M X w0 w' (.obj b (.cells cs.toArray T (0, 0)) :: L) F := by
  have hc := cellsC_spec hc
  refine ⟨.value (.pointer (some ⟨w.heap.size, 0, none⟩)), _, .pointer (some ⟨w.heap.size, 0, none⟩), ?_, rfl, _, rfl, Nat.le_refl _, Ext.new _ _, H.new _⟩
  · cases hi : P.info? T with
    | none => simp [tyZero, hi] at hz
    | some i =>
      have hz' : i.zero = some z := by simpa [tyZero, hi] using hz
      unfold execOp
      simp [ho, Instr.alloc, zeroValue, typeInfo, hi, hz', newVar, newRow, newObj, hc, Sem.run, program]

section
variable {P : Program} {ops : Array Oper} {Q : Exit → Act → World → Prop} {S : World → Prop}

/-- Quiet operations first; then what k asks of what has come. -/
def chkPre (ops : Array Oper) (quiet : List Nat) (k : Array Bool → Bool) : List Nat → Array Bool → Bool
  | [], listed => k listed
  | i :: rest, listed => quiet.contains i && (Region.free .any ops listed i && (Region.ready .any ops listed).contains i) && chkPre ops quiet k rest (listed.setIfInBounds i true)

/-- At the normal exit C, at others Q. -/
def endQ (C : Act → World → Prop) (Q : Exit → Act → World → Prop) : Exit → Act → World → Prop
  | .normal, a, w => C a w
  | e, a, w => Q e a w

theorem wpAnyG_of_pre {bef : List (List Nat)} {loads quiet : List Nat} (hb : chkBef ops bef = true) (hsel : Region.noSelect ops = true)
    (hQ : ∀ d v c a w, Q (.panic c) (Act.put a d v) w → Q (.panic c) a w) {C : Act → World → Prop} {n : Nat} {k : Array Bool → Bool}
    (base : ∀ listed a w, ClosedL ops listed → listed.size = ops.size → k listed = true → C a w → wpAnyG P ops Q S bef loads quiet n listed a w) : ∀ (pre : List Nat) (listed : Array Bool) (a : Act) (w : World), ClosedL ops listed → listed.size = ops.size →
      chkPre ops quiet k pre listed = true → wpPlan P ops (endQ C Q) S bef loads quiet pre a w → wpAnyG P ops Q S bef loads quiet (pre.length + n) listed a w
  | [], listed, a, w, hcl, hsz, hc, h => by
    rw [List.length_nil, Nat.zero_add]
    exact base listed a w hcl hsz hc h
  | i :: rest, listed, a, w, hcl, hsz, hc, h => by
    unfold chkPre at hc
    unfold wpPlan at h
    simp only [Bool.and_eq_true] at hc
    obtain ⟨⟨hq, hc1⟩, hc2⟩ := hc
    rw [if_pos hq] at h
    obtain ⟨o, v, ho, hy, hS, hr⟩ := h
    have hri : i ∈ Region.ready .any ops listed := by simpa using hc1.2
    rw [List.length_cons, show rest.length + 1 + n = rest.length + n + 1 by omega]
    exact wpAnyG_first hb ho (Region.noSelect_spec hsel) (fun c a w => hQ o.dst v c a w) hq _ listed a w hcl hsz (Region.free_spec ho hc1.1) hri hy hS
      (wpAnyG_of_pre hb hsel hQ base rest _ _ w (hcl.set hri) (by simpa using hsz) hc2 hr)

def chkFork (ops : Array Oper) (quiet : List Nat) (i j : Nat) (p q : List Nat) (listed : Array Bool) : Bool :=
  !quiet.contains i && !quiet.contains j && Region.ready .any ops listed == [i, j] && chkPlan ops quiet p (listed.setIfInBounds i true) && chkPlan ops quiet q (listed.setIfInBounds j true) && p.length == q.length

theorem wpAnyG_of_fork {bef : List (List Nat)} {loads quiet : List Nat} (hb : chkBef ops bef = true) (hsel : Region.noSelect ops = true)
    (hQ : ∀ d v c a w, Q (.panic c) (Act.put a d v) w → Q (.panic c) a w) {i j : Nat} {p q : List Nat} (listed : Array Bool) (a : Act) (w : World) (hcl : ClosedL ops listed) (hsz : listed.size = ops.size)
    (hc : chkFork ops quiet i j p q listed = true) (h : wpPlan P ops Q S bef loads quiet (i :: p) a w ∧ wpPlan P ops Q S bef loads quiet (j :: q) a w) : wpAnyG P ops Q S bef loads quiet (p.length + 1) listed a w := by
  unfold chkFork at hc
  simp only [Bool.and_eq_true, Bool.not_eq_true', beq_iff_eq] at hc
  obtain ⟨⟨⟨⟨⟨hqi, hqj⟩, hr⟩, hp⟩, hq⟩, hlen⟩ := hc
  have key : ∀ (x : Nat) (r : List Nat), quiet.contains x = false → x ∈ Region.ready .any ops listed → chkPlan ops quiet r (listed.setIfInBounds x true) = true → r.length = p.length → wpPlan P ops Q S bef loads quiet (x :: r) a w →
      wpOp P ops Q x (fun a' w' => after bef loads quiet S x w w' ∧ wpAnyG P ops Q S bef loads quiet p.length (listed.setIfInBounds x true) a' w') a w := by
    intro x r hqx hrx hck hl hw
    unfold wpPlan at hw
    rw [if_neg (by rw [hqx]; simp)] at hw
    refine wpOp_mono (fun a' w' h3 => ⟨?_, ?_⟩) hw
    · unfold after
      rw [if_neg (by rw [hqx]; simp)]
      exact h3.1
    · rw [← hl]
      exact wpAnyG_of_plan hb hsel hQ r _ _ w' (hcl.set hrx) (by simpa using hsz) hck h3.2
  refine ⟨fun h0 => (by rw [hr] at h0; cases h0), fun x hx => ?_⟩
  have hx' := hx
  rw [hr] at hx'
  rcases List.mem_cons.1 hx' with rfl | hx'
  · exact key x p hqi hx hp rfl h.1
  · obtain rfl := List.mem_singleton.1 hx'
    exact key x q hqj hx hq hlen.symm h.2

/-- All that is asked of such a plan by the operations alone. -/
def forkOk (ops : Array Oper) (bef : List (List Nat)) (quiet pre : List Nat) (i j : Nat) (p q : List Nat) : Bool :=
  chkBef ops bef && Region.noSelect ops && chkPre ops quiet (chkFork ops quiet i j p q) pre (Array.replicate ops.size false) && pre.length + (p.length + 1) == ops.size

theorem wp_region_fork {S : World → World → Prop} {id : Nat} {a : Act} {w : World} (bef : List (List Nat)) (loads quiet pre : List Nat) (i j : Nat) (p q : List Nat) (hm : P.follows .mixedOrders = true) (hc : forkOk ops bef quiet pre i j p q = true)
    (hQ : ∀ d v c a w, Q (.panic c) (Act.put a d v) w → Q (.panic c) a w)
    (h : wpPlan P ops (endQ (fun a' w' => wpPlan P ops Q (S w.drew) bef loads quiet (i :: p) a' w' ∧ wpPlan P ops Q (S w.drew) bef loads quiet (j :: q) a' w') Q) (S w.drew) bef loads quiet pre a w.drew) : (Code.region id ops true).wp P Q a w := by
  unfold forkOk at hc
  simp only [Bool.and_eq_true, beq_iff_eq] at hc
  obtain ⟨⟨⟨h1, h2⟩, h3⟩, h4⟩ := hc
  have hcl : ClosedL ops (Array.replicate ops.size false) := fun j o _ hl => by
    exfalso
    by_cases hj : j < ops.size <;> simp [hj] at hl
  have := wpAnyG_of_pre (S := S w.drew) (quiet := quiet) (loads := loads) h1 h2 hQ (fun listed a w hcl hsz hk hC => wpAnyG_of_fork h1 h2 hQ listed a w hcl hsz hk hC) pre _ a w.drew hcl (by simp) h3 h
  rw [h4] at this
  exact wp_region_any hm (wpAny_of_G _ _ _ _ this)

/-- The same, in the state of a walk. -/
theorem wp_region_fork_st {M X : List Nat} {w0 w : World} {a : Act} {L : List Res} {F : List Nat → World → Prop} {id : Nat} (H : St M X w0 w L F) (Y : List Nat) (bef : List (List Nat)) (loads quiet pre : List Nat) (i j : Nat) (p q : List Nat) (hm : P.follows .mixedOrders = true)
    (hc : forkOk ops bef quiet pre i j p q = true) (hQ : ∀ d v c a w, Q (.panic c) (Act.put a d v) w → Q (.panic c) a w)
    (h : ∀ W, St M X w0 W L F → wpPlan P ops (endQ (fun a' w' => wpPlan P ops Q (Ext Y W) bef loads quiet (i :: p) a' w' ∧ wpPlan P ops Q (Ext Y W) bef loads quiet (j :: q) a' w') Q) (Ext Y W) bef loads quiet pre a W) : (Code.region id ops true).wp P Q a w :=
  wp_region_fork (S := fun W => Ext Y W) bef loads quiet pre i j p q hm hc hQ (h _ H.drew)
end
end Go.Proofs.Ythapmdlminnihaa
