/- Plans that part: where several effects may come next, each of them. -/
import Derived.Test.YthapmdlminnihaaFB
import Derived.Test.YthapmdlminnihaaPlan2
namespace Go.Proofs.Ythapmdlminnihaa
open Go.RowKit
set_option linter.unusedVariables false
set_option linter.unusedSimpArgs false

inductive PT where
  | nil
  | step (i : Nat) (rest : PT)
  | two (i : Nat) (p : PT) (j : Nat) (q : PT)
  | three (i : Nat) (p : PT) (j : Nat) (q : PT) (k : Nat) (r : PT)

section
variable {P : Program} {ops : Array Oper} {Q : Exit → Act → World → Prop} {S : World → Prop}

def chkT (ops : Array Oper) (quiet : List Nat) : PT → Nat → Array Bool → Bool
  | .nil, n, listed => n == 0 && (Region.ready .any ops listed).isEmpty
  | .step _ _, 0, _ => false
  | .step i rest, n + 1, listed => (if quiet.contains i then Region.free .any ops listed i && (Region.ready .any ops listed).contains i else Region.ready .any ops listed == [i]) && chkT ops quiet rest n (listed.setIfInBounds i true)
  | .two _ _ _ _, 0, _ => false
  | .two i p j q, n + 1, listed => !quiet.contains i && !quiet.contains j && Region.ready .any ops listed == [i, j] && chkT ops quiet p n (listed.setIfInBounds i true) && chkT ops quiet q n (listed.setIfInBounds j true)
  | .three _ _ _ _ _ _, 0, _ => false
  | .three i p j q k r, n + 1, listed => !quiet.contains i && !quiet.contains j && !quiet.contains k && Region.ready .any ops listed == [i, j, k] && chkT ops quiet p n (listed.setIfInBounds i true) && chkT ops quiet q n (listed.setIfInBounds j true) && chkT ops quiet r n (listed.setIfInBounds k true)

/-- The walk along the plan. -/
def wpT (P : Program) (ops : Array Oper) (Q : Exit → Act → World → Prop) (S : World → Prop) (bef : List (List Nat)) (loads quiet : List Nat) : PT → Act → World → Prop
  | .nil, a, w => Q .normal a w
  | .step i rest, a, w =>
    if quiet.contains i then ∃ o v, ops[i]? = some o ∧ YieldsIf P ops (fun w => loads.contains i = true → S w) o v a ∧ (loads.contains i = true → S w) ∧ wpT P ops Q S bef loads quiet rest (a.put o.dst v) w
    else wpOp P ops Q i (fun a' w' => (keepAt bef loads i = true → S w') ∧ wpT P ops Q S bef loads quiet rest a' w') a w
  | .two i p j q, a, w =>
    wpOp P ops Q i (fun a' w' => (keepAt bef loads i = true → S w') ∧ wpT P ops Q S bef loads quiet p a' w') a w ∧
    wpOp P ops Q j (fun a' w' => (keepAt bef loads j = true → S w') ∧ wpT P ops Q S bef loads quiet q a' w') a w
  | .three i p j q k r, a, w =>
    wpOp P ops Q i (fun a' w' => (keepAt bef loads i = true → S w') ∧ wpT P ops Q S bef loads quiet p a' w') a w ∧
    wpOp P ops Q j (fun a' w' => (keepAt bef loads j = true → S w') ∧ wpT P ops Q S bef loads quiet q a' w') a w ∧
    wpOp P ops Q k (fun a' w' => (keepAt bef loads k = true → S w') ∧ wpT P ops Q S bef loads quiet r a' w') a w

theorem wpAnyG_of_T {bef : List (List Nat)} {loads quiet : List Nat} (hb : chkBef ops bef = true) (hsel : Region.noSelect ops = true)
    (hQ : ∀ d v c a w, Q (.panic c) (Act.put a d v) w → Q (.panic c) a w) : ∀ (plan : PT) (n : Nat) (listed : Array Bool) (a : Act) (w : World), ClosedL ops listed → listed.size = ops.size →
      chkT ops quiet plan n listed = true → wpT P ops Q S bef loads quiet plan a w → wpAnyG P ops Q S bef loads quiet n listed a w
  | .nil, n, listed, a, w, _, _, hc, h => by
    unfold chkT at hc
    rw [Bool.and_eq_true] at hc
    obtain ⟨hn, hc⟩ := hc
    have hn : n = 0 := by simpa using hn
    subst hn
    exact ⟨by simpa using hc, h⟩
  | .step i rest, 0, listed, a, w, _, _, hc, h => by simp [chkT] at hc
  | .step i rest, n + 1, listed, a, w, hcl, hsz, hc, h => by
    unfold chkT at hc
    unfold wpT at h
    rw [Bool.and_eq_true] at hc
    obtain ⟨hc1, hc2⟩ := hc
    by_cases hq : quiet.contains i = true
    · rw [if_pos hq] at hc1 h
      rw [Bool.and_eq_true] at hc1
      obtain ⟨o, v, ho, hy, hS, hr⟩ := h
      have hri : i ∈ Region.ready .any ops listed := by simpa using hc1.2
      exact wpAnyG_first hb ho (Region.noSelect_spec hsel) (fun c a w => hQ o.dst v c a w) hq _ listed a w hcl hsz (Region.free_spec ho hc1.1) hri hy hS
        (wpAnyG_of_T hb hsel hQ rest n _ _ w (hcl.set hri) (by simpa using hsz) hc2 hr)
    · rw [if_neg hq] at hc1 h
      have hri : Region.ready .any ops listed = [i] := by simpa using hc1
      have hm : i ∈ Region.ready .any ops listed := by rw [hri]; simp
      refine ⟨fun h0 => (by rw [hri] at h0; cases h0), fun j hj => ?_⟩
      rw [hri] at hj
      obtain rfl := List.mem_singleton.1 hj
      refine wpOp_mono (fun a' w' h3 => ⟨?_, wpAnyG_of_T hb hsel hQ rest n _ _ w' (hcl.set hm) (by simpa using hsz) hc2 h3.2⟩) h
      unfold after
      rw [if_neg hq]
      exact h3.1
  | .two i p j q, 0, listed, a, w, _, _, hc, h => by simp [chkT] at hc
  | .two i p j q, n + 1, listed, a, w, hcl, hsz, hc, h => by
    unfold chkT at hc
    unfold wpT at h
    simp only [Bool.and_eq_true, Bool.not_eq_true', beq_iff_eq] at hc
    obtain ⟨⟨⟨⟨hqi, hqj⟩, hri⟩, hci⟩, hcj⟩ := hc
    have hmi : i ∈ Region.ready .any ops listed := by rw [hri]; simp
    have hmj : j ∈ Region.ready .any ops listed := by rw [hri]; simp
    refine ⟨fun h0 => (by rw [hri] at h0; cases h0), fun x hx => ?_⟩
    rw [hri] at hx
    rcases List.mem_cons.1 hx with rfl | hx
    · refine wpOp_mono (fun a' w' h3 => ⟨?_, wpAnyG_of_T hb hsel hQ p n _ _ w' (hcl.set hmi) (by simpa using hsz) hci h3.2⟩) h.1
      unfold after
      rw [hqi]
      exact h3.1
    · obtain rfl := List.mem_singleton.1 hx
      refine wpOp_mono (fun a' w' h3 => ⟨?_, wpAnyG_of_T hb hsel hQ q n _ _ w' (hcl.set hmj) (by simpa using hsz) hcj h3.2⟩) h.2
      unfold after
      rw [hqj]
      exact h3.1
  | .three i p j q k r, 0, listed, a, w, _, _, hc, h => by simp [chkT] at hc
  | .three i p j q k r, n + 1, listed, a, w, hcl, hsz, hc, h => by
    unfold chkT at hc
    unfold wpT at h
    simp only [Bool.and_eq_true, Bool.not_eq_true', beq_iff_eq] at hc
    obtain ⟨⟨⟨⟨⟨⟨hqi, hqj⟩, hqk⟩, hri⟩, hci⟩, hcj⟩, hck⟩ := hc
    have hmi : i ∈ Region.ready .any ops listed := by rw [hri]; simp
    have hmj : j ∈ Region.ready .any ops listed := by rw [hri]; simp
    have hmk : k ∈ Region.ready .any ops listed := by rw [hri]; simp
    refine ⟨fun h0 => (by rw [hri] at h0; cases h0), fun x hx => ?_⟩
    rw [hri] at hx
    rcases List.mem_cons.1 hx with rfl | hx
    · refine wpOp_mono (fun a' w' h3 => ⟨?_, wpAnyG_of_T hb hsel hQ p n _ _ w' (hcl.set hmi) (by simpa using hsz) hci h3.2⟩) h.1
      unfold after
      rw [hqi]
      exact h3.1
    rcases List.mem_cons.1 hx with rfl | hx
    · refine wpOp_mono (fun a' w' h3 => ⟨?_, wpAnyG_of_T hb hsel hQ q n _ _ w' (hcl.set hmj) (by simpa using hsz) hcj h3.2⟩) h.2.1
      unfold after
      rw [hqj]
      exact h3.1
    · obtain rfl := List.mem_singleton.1 hx
      refine wpOp_mono (fun a' w' h3 => ⟨?_, wpAnyG_of_T hb hsel hQ r n _ _ w' (hcl.set hmk) (by simpa using hsz) hck h3.2⟩) h.2.2
      unfold after
      rw [hqk]
      exact h3.1

/-- All that is asked of a plan by the operations alone. -/
def planTOk (ops : Array Oper) (bef : List (List Nat)) (quiet : List Nat) (plan : PT) : Bool :=
  chkBef ops bef && Region.noSelect ops && chkT ops quiet plan ops.size (Array.replicate ops.size false)

theorem wp_region_T {S : World → World → Prop} {id : Nat} {a : Act} {w : World} (bef : List (List Nat)) (loads quiet : List Nat) (plan : PT) (hm : P.follows .mixedOrders = true) (hc : planTOk ops bef quiet plan = true)
    (hQ : ∀ d v c a w, Q (.panic c) (Act.put a d v) w → Q (.panic c) a w) (h : wpT P ops Q (S w.drew) bef loads quiet plan a w.drew) : (Code.region id ops true).wp P Q a w := by
  unfold planTOk at hc
  simp only [Bool.and_eq_true] at hc
  obtain ⟨⟨h1, h2⟩, h3⟩ := hc
  have hcl : ClosedL ops (Array.replicate ops.size false) := fun j o _ hl => by
    exfalso
    by_cases hj : j < ops.size <;> simp [hj] at hl
  exact wp_region_any hm (wpAny_of_G _ _ _ _ (wpAnyG_of_T (S := S w.drew) (quiet := quiet) (loads := loads) h1 h2 hQ plan _ _ a w.drew hcl (by simp) h3 h))

theorem wp_region_Ts {M X : List Nat} {w0 w : World} {a : Act} {L : List Res} {F : List Nat → World → Prop} (id : Nat) (H : St M X w0 w L F) (Y : List Nat) (bef : List (List Nat)) (loads quiet : List Nat) (plan : PT) (hm : P.follows .mixedOrders = true)
    (hc : planTOk ops bef quiet plan = true) (hQ : ∀ d v c a w, Q (.panic c) (Act.put a d v) w → Q (.panic c) a w)
    (h : ∀ W, St M X w0 W L F → wpT P ops Q (Ext Y W) bef loads quiet plan a W) : (Code.region id ops true).wp P Q a w :=
  wp_region_T (S := fun W => Ext Y W) bef loads quiet plan hm hc hQ (h _ H.drew)
end

section
variable {P : Program} {ops : Array Oper} {Q : Exit → Act → World → Prop} {S : World → Prop} {bef : List (List Nat)} {loads quiet : List Nat} {rest p q r : PT} {i j k : Nat} {o : Oper} {a : Act} {w : World} {v : Value}

/-- What the guard looks at, if it has one. -/
def guardT (ops : Array Oper) (i : Nat) (a : Act) : Option Bool :=
  match nthC ops.toList i with
  | none => none
  | some o => guardC ops o a
theorem T_gcase (c : Bool) (hc : guardT ops i a = some c) (ht : c = true → wpT P ops Q S bef loads quiet (.step i rest) a w) (hf : c = false → wpT P ops Q S bef loads quiet (.step i rest) a w) : wpT P ops Q S bef loads quiet (.step i rest) a w := by
  cases c
  · exact hf rfl
  · exact ht rfl

theorem T_pure (ho : nthC ops.toList i = some o) (hq : quiet.contains i = true) (hl : loads.contains i = false) (hg : Region.wanted o (yielded ops a.tmps) = true)
    (hv : ∀ w, (execOp a.eval o).run P w = .ok (.value v) w) (k : wpT P ops Q S bef loads quiet rest (a.put o.dst v) w) : wpT P ops Q S bef loads quiet (.step i rest) a w := by
  have ho := nthC_spec _ _ ho
  unfold wpT
  rw [if_pos hq]
  exact ⟨o, v, ho, .inl ⟨hg, fun w _ => hv w⟩, fun h => absurd h (by rw [hl]; simp), k⟩

theorem T_pureE (ho : nthC ops.toList i = some o) (hq : quiet.contains i = true) (hl : loads.contains i = false) (hg : wantC ops o a = true)
    (h : ∃ v, (∀ w, (execOp a.eval o).run P w = .ok (.value v) w) ∧ wpT P ops Q S bef loads quiet rest (a.put o.dst v) w) : wpT P ops Q S bef loads quiet (.step i rest) a w :=
  let ⟨_, hv, k⟩ := h; T_pure ho hq hl (wantC_ok hg) hv k

theorem T_skip (ho : nthC ops.toList i = some o) (hq : quiet.contains i = true) (hS : loads.contains i = true → S w) (hg : Region.wanted o (yielded ops a.tmps) = false)
    (k : wpT P ops Q S bef loads quiet rest (a.put o.dst undef) w) : wpT P ops Q S bef loads quiet (.step i rest) a w := by
  have ho := nthC_spec _ _ ho
  unfold wpT
  rw [if_pos hq]
  exact ⟨o, undef, ho, .inr ⟨hg, rfl⟩, hS, k⟩

theorem T_skip' (ho : nthC ops.toList i = some o) (hq : quiet.contains i = false) (hS : keepAt bef loads i = true → S w) (hg : Region.wanted o (yielded ops a.tmps) = false)
    (k : wpT P ops Q S bef loads quiet rest (a.put o.dst undef) w) : wpT P ops Q S bef loads quiet (.step i rest) a w := by
  have ho : ops[i]? = some o := nthC_spec _ _ ho
  unfold wpT
  rw [hq]
  simp only [Bool.false_eq_true, if_false, wpOp, ho, hg]
  exact ⟨hS, k⟩

theorem T_load (ho : nthC ops.toList i = some o) (hq : quiet.contains i = true) (hl : loads.contains i = true) (hg : Region.wanted o (yielded ops a.tmps) = true) (hS : S w)
    (hv : ∀ w, S w → (execOp a.eval o).run P w = .ok (.value v) w) (k : wpT P ops Q S bef loads quiet rest (a.put o.dst v) w) : wpT P ops Q S bef loads quiet (.step i rest) a w := by
  have ho := nthC_spec _ _ ho
  unfold wpT
  rw [if_pos hq]
  exact ⟨o, v, ho, .inl ⟨hg, fun w h => hv w (h hl)⟩, fun _ => hS, k⟩

theorem T_op (ho : nthC ops.toList i = some o) (hq : quiet.contains i = false) (hg : Region.wanted o (yielded ops a.tmps) = true)
    (h : ∀ K : Act → World → Prop, (∀ a' w', (keepAt bef loads i = true → S w') → wpT P ops Q S bef loads quiet rest a' w' → K a' w') → o.wp P a w K Q) : wpT P ops Q S bef loads quiet (.step i rest) a w := by
  have ho : ops[i]? = some o := nthC_spec _ _ ho
  unfold wpT
  rw [hq]
  simp only [Bool.false_eq_true, if_false, wpOp, ho, hg, if_true]
  exact .inl (h _ fun a' w' h1 h2 => ⟨h1, h2⟩)

theorem T_step (ho : nthC ops.toList i = some o) (hq : quiet.contains i = false) (hg : Region.wanted o (yielded ops a.tmps) = true)
    (h : ∃ R : Value → World → Prop, Runs P a.eval o w R ∧ ∀ v w', R v w' → (keepAt bef loads i = true → S w') ∧ wpT P ops Q S bef loads quiet rest (a.put o.dst v) w') : wpT P ops Q S bef loads quiet (.step i rest) a w :=
  let ⟨_, hr, k⟩ := h; T_op ho hq hg fun _ hK => hr.wp fun v w' hR => hK _ _ (k v w' hR).1 (k v w' hR).2

theorem T_nil (h : Q .normal a w) : wpT P ops Q S bef loads quiet .nil a w := h
theorem T_two (hi : quiet.contains i = false) (hj : quiet.contains j = false) (h1 : wpT P ops Q S bef loads quiet (.step i p) a w) (h2 : wpT P ops Q S bef loads quiet (.step j q) a w) : wpT P ops Q S bef loads quiet (.two i p j q) a w := by
  unfold wpT at h1 h2
  rw [hi] at h1
  rw [hj] at h2
  exact ⟨h1, h2⟩
theorem T_three (hi : quiet.contains i = false) (hj : quiet.contains j = false) (hk : quiet.contains k = false) (h1 : wpT P ops Q S bef loads quiet (.step i p) a w) (h2 : wpT P ops Q S bef loads quiet (.step j q) a w) (h3 : wpT P ops Q S bef loads quiet (.step k r) a w) : wpT P ops Q S bef loads quiet (.three i p j q k r) a w := by
  unfold wpT at h1 h2 h3
  rw [hi] at h1
  rw [hj] at h2
  rw [hk] at h3
  exact ⟨h1, h2, h3⟩

/-- A load out of a block of the call's own. -/
theorem T_load_open {M X Y : List Nat} {w0 W : World} {L : List Res} {F : List Nat → World → Prop} (H : St M X w0 W L F) (hS : Ext Y W w) (n : Nat) {b : Nat} {cs : List Value} {ty : TypeId} (hk : L[n]? = some (.obj b (.cells cs.toArray ty (0, 0))))
    (hY : b ∉ Y) (ho : nthC ops.toList i = some o) (hq : quiet.contains i = true) (hl : loads.contains i = true) (hg : Region.wanted o (yielded ops a.tmps) = true) {T : TypeId} {x : Operand} {off : Nat}
    (hop : o.op = .load T x) (hx : a.eval x = .pointer (some ⟨b, off, none⟩)) {agg : Bool} {m : Nat} (hT : tyShape P T = some (agg, m)) (hv : pickC cs off m agg = some v)
    (h : wpT P ops Q (Ext Y W) bef loads quiet rest (a.put o.dst v) w) : wpT P ops Q (Ext Y W) bef loads quiet (.step i rest) a w :=
  T_load ho hq hl hg hS (fun w' hS' => run_load_in ((hS'.block b (Array.getElem?_eq_some_iff.1 (H.get hk)).1 hY).trans (H.get hk)) hop hx hT hv) h

/-- A load of cells that are known as a fact from the region's begin on. -/
theorem T_load_cell {M X Y : List Nat} {w0 W : World} {L : List Res} {F : List Nat → World → Prop} (H : St M X w0 W L F) (hS : Ext Y W w) {b c d : Nat} {cs : List Value} (hY : b ∉ Y)
    (ho : nthC ops.toList i = some o) (hq : quiet.contains i = true) (hl : loads.contains i = true) (hg : Region.wanted o (yielded ops a.tmps) = true) {T : TypeId} {x : Operand}
    (hop : o.op = .load T x) (hx : a.eval x = .pointer (some ⟨b, c + d, none⟩)) [hf : HasCell F b c cs] {agg : Bool} {m : Nat} (hT : tyShape P T = some (agg, m)) (hv : pickC cs d m agg = some v)
    (h : wpT P ops Q (Ext Y W) bef loads quiet rest (a.put o.dst v) w) : wpT P ops Q (Ext Y W) bef loads quiet (.step i rest) a w :=
  T_load ho hq hl hg hS (fun w' hS' => run_load_at (d := d) hop hx hT (fun j u hj => (cell_same (hS'.block b (hf.get _ _ H.fact).2.1 hY) _).trans ((hf.get _ _ H.fact).2.2 j u hj)) hv) h
theorem T_load_cell0 {M X Y : List Nat} {w0 W : World} {L : List Res} {F : List Nat → World → Prop} (H : St M X w0 W L F) (hS : Ext Y W w) {b c : Nat} {cs : List Value} (hY : b ∉ Y)
    (ho : nthC ops.toList i = some o) (hq : quiet.contains i = true) (hl : loads.contains i = true) (hg : Region.wanted o (yielded ops a.tmps) = true) {T : TypeId} {x : Operand}
    (hop : o.op = .load T x) (hx : a.eval x = .pointer (some ⟨b, c, none⟩)) [hf : HasCell F b c cs] {agg : Bool} {m : Nat} (hT : tyShape P T = some (agg, m)) (hv : pickC cs 0 m agg = some v)
    (h : wpT P ops Q (Ext Y W) bef loads quiet rest (a.put o.dst v) w) : wpT P ops Q (Ext Y W) bef loads quiet (.step i rest) a w :=
  T_load_cell (d := 0) H hS hY ho hq hl hg hop hx hT hv h
theorem T_load_obj {M X Y : List Nat} {w0 W : World} {L : List Res} {F : List Nat → World → Prop} (H : St M X w0 W L F) (hS : Ext Y W w) {b off : Nat} {cs : List Value} (hY : b ∉ Y)
    (ho : nthC ops.toList i = some o) (hq : quiet.contains i = true) (hl : loads.contains i = true) (hg : Region.wanted o (yielded ops a.tmps) = true) {T : TypeId} {x : Operand}
    (hop : o.op = .load T x) (hx : a.eval x = .pointer (some ⟨b, off, none⟩)) [hf : HasCell F b 0 cs] {agg : Bool} {m : Nat} (hT : tyShape P T = some (agg, m)) (hv : pickC cs off m agg = some v)
    (h : wpT P ops Q (Ext Y W) bef loads quiet rest (a.put o.dst v) w) : wpT P ops Q (Ext Y W) bef loads quiet (.step i rest) a w :=
  T_load_cell (d := off) (c := 0) H hS hY ho hq hl hg hop (by rw [Nat.zero_add]; exact hx) hT hv h
/-! The same, so that nothing is unfolded where it does not fit. -/
theorem T_gcaseE (h : ∃ c, guardT ops i a = some c ∧ (c = true → wpT P ops Q S bef loads quiet (.step i rest) a w) ∧ (c = false → wpT P ops Q S bef loads quiet (.step i rest) a w)) : wpT P ops Q S bef loads quiet (.step i rest) a w :=
  let ⟨c, hc, ht, hf⟩ := h; T_gcase c hc ht hf
theorem T_pureX (h : ∃ o, nthC ops.toList i = some o ∧ quiet.contains i = true ∧ loads.contains i = false ∧ wantC ops o a = true ∧ ∃ v, (∀ w, (execOp a.eval o).run P w = .ok (.value v) w) ∧ wpT P ops Q S bef loads quiet rest (a.put o.dst v) w) :
    wpT P ops Q S bef loads quiet (.step i rest) a w :=
  let ⟨_, ho, hq, hl, hg, h⟩ := h; T_pureE ho hq hl hg h
theorem T_skipX (h : ∃ o, nthC ops.toList i = some o ∧ quiet.contains i = true ∧ Region.wanted o (yielded ops a.tmps) = false ∧ (loads.contains i = true → S w) ∧ wpT P ops Q S bef loads quiet rest (a.put o.dst undef) w) : wpT P ops Q S bef loads quiet (.step i rest) a w :=
  let ⟨_, ho, hq, hg, hS, k⟩ := h; T_skip ho hq hS hg k
theorem T_skipX' (h : ∃ o, nthC ops.toList i = some o ∧ quiet.contains i = false ∧ Region.wanted o (yielded ops a.tmps) = false ∧ (keepAt bef loads i = true → S w) ∧ wpT P ops Q S bef loads quiet rest (a.put o.dst undef) w) : wpT P ops Q S bef loads quiet (.step i rest) a w :=
  let ⟨_, ho, hq, hg, hS, k⟩ := h; T_skip' ho hq hS hg k
theorem T_opX (h : ∃ o, nthC ops.toList i = some o ∧ quiet.contains i = false ∧ Region.wanted o (yielded ops a.tmps) = true ∧ ∀ K : Act → World → Prop, (∀ a' w', (keepAt bef loads i = true → S w') → wpT P ops Q S bef loads quiet rest a' w' → K a' w') → o.wp P a w K Q) :
    wpT P ops Q S bef loads quiet (.step i rest) a w :=
  let ⟨_, ho, hq, hg, h⟩ := h; T_op ho hq hg h
theorem T_stepX (h : ∃ o, nthC ops.toList i = some o ∧ quiet.contains i = false ∧ Region.wanted o (yielded ops a.tmps) = true ∧ ∃ R : Value → World → Prop, Runs P a.eval o w R ∧ ∀ v w', R v w' → (keepAt bef loads i = true → S w') ∧ wpT P ops Q S bef loads quiet rest (a.put o.dst v) w') :
    wpT P ops Q S bef loads quiet (.step i rest) a w :=
  let ⟨_, ho, hq, hg, h⟩ := h; T_step ho hq hg h
theorem T_twoX (h : quiet.contains i = false ∧ quiet.contains j = false ∧ wpT P ops Q S bef loads quiet (.step i p) a w ∧ wpT P ops Q S bef loads quiet (.step j q) a w) : wpT P ops Q S bef loads quiet (.two i p j q) a w :=
  T_two h.1 h.2.1 h.2.2.1 h.2.2.2
theorem T_threeX (h : quiet.contains i = false ∧ quiet.contains j = false ∧ quiet.contains k = false ∧ wpT P ops Q S bef loads quiet (.step i p) a w ∧ wpT P ops Q S bef loads quiet (.step j q) a w ∧ wpT P ops Q S bef loads quiet (.step k r) a w) : wpT P ops Q S bef loads quiet (.three i p j q k r) a w :=
  T_three h.1 h.2.1 h.2.2.1 h.2.2.2.1 h.2.2.2.2.1 h.2.2.2.2.2
theorem T_load_openX {M X Y : List Nat} {w0 W : World} {L : List Res} {F : List Nat → World → Prop} (H : St M X w0 W L F) (hS : Ext Y W w) (n : Nat)
    (h : ∃ b cs ty, L[n]? = some (.obj b (.cells (List.toArray cs) ty (0, 0))) ∧ ∃ o, nthC ops.toList i = some o ∧ quiet.contains i = true ∧ loads.contains i = true ∧ wantC ops o a = true ∧ ∃ T x off, o.op = .load T x ∧ evC a x = .pointer (some ⟨b, off, none⟩) ∧
      ∃ agg m v, tyShape P T = some (agg, m) ∧ pickC cs off m agg = some v ∧ b ∉ Y ∧ wpT P ops Q (Ext Y W) bef loads quiet rest (a.put o.dst v) w) : wpT P ops Q (Ext Y W) bef loads quiet (.step i rest) a w := by
  obtain ⟨b, cs, ty, hk, o, ho, hq, hl, hg, T, x, off, hop, hx, agg, m, v, hT, hv, hY, h⟩ := h
  rw [evC_eq] at hx
  exact T_load_open H hS n hk hY ho hq hl (wantC_ok hg) hop hx hT hv h
theorem T_load_cellX {M X Y : List Nat} {w0 W : World} {L : List Res} {F : List Nat → World → Prop} (H : St M X w0 W L F) (hS : Ext Y W w)
    (h : ∃ o, nthC ops.toList i = some o ∧ quiet.contains i = true ∧ loads.contains i = true ∧ wantC ops o a = true ∧ ∃ T x b c d, o.op = .load T x ∧ evC a x = .pointer (some ⟨b, c + d, none⟩) ∧
      ∃ cs, HasCell F b c cs ∧ ∃ agg m v, tyShape P T = some (agg, m) ∧ pickC cs d m agg = some v ∧ b ∉ Y ∧ wpT P ops Q (Ext Y W) bef loads quiet rest (a.put o.dst v) w) : wpT P ops Q (Ext Y W) bef loads quiet (.step i rest) a w := by
  obtain ⟨o, ho, hq, hl, hg, T, x, b, c, d, hop, hx, cs, hf, agg, m, v, hT, hv, hY, h⟩ := h
  rw [evC_eq] at hx
  exact T_load_cell H hS hY ho hq hl (wantC_ok hg) hop hx (hf := hf) hT hv h
theorem T_load_cell0X {M X Y : List Nat} {w0 W : World} {L : List Res} {F : List Nat → World → Prop} (H : St M X w0 W L F) (hS : Ext Y W w)
    (h : ∃ o, nthC ops.toList i = some o ∧ quiet.contains i = true ∧ loads.contains i = true ∧ wantC ops o a = true ∧ ∃ T x b c, o.op = .load T x ∧ evC a x = .pointer (some ⟨b, c, none⟩) ∧
      ∃ cs, HasCell F b c cs ∧ ∃ agg m v, tyShape P T = some (agg, m) ∧ pickC cs 0 m agg = some v ∧ b ∉ Y ∧ wpT P ops Q (Ext Y W) bef loads quiet rest (a.put o.dst v) w) : wpT P ops Q (Ext Y W) bef loads quiet (.step i rest) a w := by
  obtain ⟨o, ho, hq, hl, hg, T, x, b, c, hop, hx, cs, hf, agg, m, v, hT, hv, hY, h⟩ := h
  rw [evC_eq] at hx
  exact T_load_cell0 H hS hY ho hq hl (wantC_ok hg) hop hx (hf := hf) hT hv h
theorem T_load_objX {M X Y : List Nat} {w0 W : World} {L : List Res} {F : List Nat → World → Prop} (H : St M X w0 W L F) (hS : Ext Y W w)
    (h : ∃ o, nthC ops.toList i = some o ∧ quiet.contains i = true ∧ loads.contains i = true ∧ wantC ops o a = true ∧ ∃ T x b off, o.op = .load T x ∧ evC a x = .pointer (some ⟨b, off, none⟩) ∧
      ∃ cs, HasCell F b 0 cs ∧ ∃ agg m v, tyShape P T = some (agg, m) ∧ pickC cs off m agg = some v ∧ b ∉ Y ∧ wpT P ops Q (Ext Y W) bef loads quiet rest (a.put o.dst v) w) : wpT P ops Q (Ext Y W) bef loads quiet (.step i rest) a w := by
  obtain ⟨o, ho, hq, hl, hg, T, x, b, c, hop, hx, cs, hf, agg, m, v, hT, hv, hY, h⟩ := h
  rw [evC_eq] at hx
  exact T_load_obj H hS hY ho hq hl (wantC_ok hg) hop hx (hf := hf) hT hv h
end
/-! ### The end of a function -/
section
variable {P : Program} {fn : Func} {R : Ending → World → Prop} {a : Act} {M X : List Nat} {w0 w : World} {L : List Res} {F : List Nat → World → Prop}
/-- A result that lies in memory and one that does not. -/
theorem ret_ct (H : St M X w0 w L F) (k : Nat) {b : Nat} {cs : List Value} {ty : TypeId} (hk : L[k]? = some (.obj b (.cells cs.toArray ty (0, 0))))
    {p q : Tmp} {T : TypeId} (hr : fn.results = #[.cell p T, .tmp q]) {off : Nat} (hp : a.tmps.getD p undef = .pointer (some ⟨b, off, none⟩)) {agg : Bool} {n : Nat} (hT : tyShape P T = some (agg, n)) {v : Value} (hv : pickC cs off n agg = some v)
    {u : Value} (hu : a.tmps.getD q undef = u) (hd : a.defers = []) (hR : R (.returned (.tuple #[v, u])) w) : bodyPost P fn R .ret a w := by
  have h := run_loadVar_cells (off := 0) (o := off) hT (cells_open (H.get hk)) hv
  rw [Nat.zero_add] at h
  have hp' : a.tmps[p]?.getD undef = .pointer (some ⟨b, off, none⟩) := by rw [← Array.getD_eq_getD_getElem?]; exact hp
  have hu' : a.tmps[q]?.getD undef = u := by rw [← Array.getD_eq_getD_getElem?]; exact hu
  exact bodyPost_ret (v := .tuple #[v, u]) (by simp [results, hr, hp', hu', asAddr, h, Sem.run_bind]) hd hR
/-- One that does not, one that does, one that does not. -/
theorem ret_tct (H : St M X w0 w L F) (k : Nat) {b : Nat} {cs : List Value} {ty : TypeId} (hk : L[k]? = some (.obj b (.cells cs.toArray ty (0, 0))))
    {p q r : Tmp} {T : TypeId} (hr : fn.results = #[.tmp r, .cell p T, .tmp q]) {off : Nat} (hp : a.tmps.getD p undef = .pointer (some ⟨b, off, none⟩)) {agg : Bool} {n : Nat} (hT : tyShape P T = some (agg, n)) {v : Value} (hv : pickC cs off n agg = some v)
    {u x : Value} (hu : a.tmps.getD q undef = u) (hx : a.tmps.getD r undef = x) (hd : a.defers = []) (hR : R (.returned (.tuple #[x, v, u])) w) : bodyPost P fn R .ret a w := by
  have h := run_loadVar_cells (off := 0) (o := off) hT (cells_open (H.get hk)) hv
  rw [Nat.zero_add] at h
  have hp' : a.tmps[p]?.getD undef = .pointer (some ⟨b, off, none⟩) := by rw [← Array.getD_eq_getD_getElem?]; exact hp
  have hu' : a.tmps[q]?.getD undef = u := by rw [← Array.getD_eq_getD_getElem?]; exact hu
  have hx' : a.tmps[r]?.getD undef = x := by rw [← Array.getD_eq_getD_getElem?]; exact hx
  exact bodyPost_ret (v := .tuple #[x, v, u]) (by simp [results, hr, hp', hu', hx', asAddr, h, Sem.run_bind]) hd hR
/-- Two that do, one that does not. -/
theorem ret_cct (H : St M X w0 w L F) (k k' : Nat) {b b' : Nat} {cs cs' : List Value} {ty ty' : TypeId} (hk : L[k]? = some (.obj b (.cells cs.toArray ty (0, 0)))) (hk' : L[k']? = some (.obj b' (.cells cs'.toArray ty' (0, 0))))
    {p p' q : Tmp} {T T' : TypeId} (hr : fn.results = #[.cell p T, .cell p' T', .tmp q]) {off off' : Nat} (hp : a.tmps.getD p undef = .pointer (some ⟨b, off, none⟩)) (hp' : a.tmps.getD p' undef = .pointer (some ⟨b', off', none⟩))
    {agg agg' : Bool} {n n' : Nat} (hT : tyShape P T = some (agg, n)) (hT' : tyShape P T' = some (agg', n')) {v v' : Value} (hv : pickC cs off n agg = some v) (hv' : pickC cs' off' n' agg' = some v')
    {u : Value} (hu : a.tmps.getD q undef = u) (hd : a.defers = []) (hR : R (.returned (.tuple #[v, v', u])) w) : bodyPost P fn R .ret a w := by
  have h := run_loadVar_cells (off := 0) (o := off) hT (cells_open (H.get hk)) hv
  have h' := run_loadVar_cells (off := 0) (o := off') hT' (cells_open (H.get hk')) hv'
  rw [Nat.zero_add] at h h'
  have e : a.tmps[p]?.getD undef = .pointer (some ⟨b, off, none⟩) := by rw [← Array.getD_eq_getD_getElem?]; exact hp
  have e' : a.tmps[p']?.getD undef = .pointer (some ⟨b', off', none⟩) := by rw [← Array.getD_eq_getD_getElem?]; exact hp'
  have hu' : a.tmps[q]?.getD undef = u := by rw [← Array.getD_eq_getD_getElem?]; exact hu
  exact bodyPost_ret (v := .tuple #[v, v', u]) (by simp [results, hr, e, e', hu', asAddr, h, h', Sem.run_bind]) hd hR
end
end Go.Proofs.Ythapmdlminnihaa
