/- The operations that touch memory, one law each over the state of a walk; regions that leave their order open, by a plan. -/
import Derived.Test.YthapmdlminnihaaCore
namespace Go.Proofs.Ythapmdlminnihaa
open Go.RowKit
set_option linter.unusedVariables false
set_option linter.unusedSimpArgs false

/-- What is put into the temporary. -/
def nextVal : Next → Option Value
  | .value v => some v
  | .skip => some undef
  | _ => none

/-- The operation runs to its end, and of what it answers and of the world behind it R holds. -/
def Runs (P : Program) (ev : Operand → Value) (o : Oper) (w : World) (R : Value → World → Prop) : Prop :=
  ∃ n w' v, (execOp ev o).run P w = .ok n w' ∧ nextVal n = some v ∧ R v w'

section
variable {P : Program} {ops : Array Oper} {Q : Exit → Act → World → Prop} {rest : List Oper} {o : Oper} {a : Act} {w : World}

theorem Runs.wp {R : Value → World → Prop} (h : Runs P a.eval o w R) {K : Act → World → Prop} (k : ∀ v w', R v w' → K (a.put o.dst v) w') : o.wp P a w K Q := by
  obtain ⟨n, w', v, h1, h2, h3⟩ := h
  unfold Oper.wp
  rw [h1]
  cases n <;> simp only [nextVal, reduceCtorEq, Option.some.injEq] at h2
  · subst h2; exact k _ _ h3
  · subst h2; exact k _ _ h3

/-- A list's entry, by its structure alone. -/
def nthV : List Value → Nat → Value
  | [], _ => undef
  | v :: _, 0 => v
  | _ :: l, n + 1 => nthV l n
/-- What the operand holds: reckoned by the list's structure, so that a large frame costs little. -/
def evC (a : Act) : Operand → Value
  | .tmp t => match a.tmps with | ⟨l⟩ => nthV l t
  | .const v => v
  | .global g => .pointer (some ⟨g, 0, none⟩)
  | .func f => .func (.func f) #[] #[]
theorem nthV_eq : ∀ (l : List Value) (n : Nat), nthV l n = l.getD n undef
  | [], _ => by simp [nthV]
  | _ :: _, 0 => by simp [nthV]
  | _ :: l, n + 1 => by simpa [nthV] using nthV_eq l n
theorem evC_eq (a : Act) : evC a = a.eval := by
  funext x
  cases x with
  | tmp t =>
    obtain ⟨⟨l⟩, d⟩ := a
    simp [evC, Act.eval, nthV_eq]
  | _ => rfl
def nthO : List Oper → Nat → Option Oper
  | [], _ => none
  | v :: _, 0 => some v
  | _ :: l, n + 1 => nthO l n
theorem nthO_eq : ∀ (l : List Oper) (n : Nat), nthO l n = l[n]?
  | [], _ => by simp [nthO]
  | _ :: _, 0 => by simp [nthO]
  | _ :: l, n + 1 => by simpa [nthO] using nthO_eq l n
/-- Does the guard let it in. -/
def wantC (ops : Array Oper) (o : Oper) (a : Act) : Bool :=
  match o.guard with
  | none => true
  | some (j, b) => match ops with
    | ⟨l⟩ => match nthO l j with
      | none => false
      | some q => match q.dst with
        | none => false
        | some d => match a.tmps with
          | ⟨ts⟩ => match nthV ts d with
            | .bool c => match b, c with
              | true, true => true
              | false, false => true
              | _, _ => false
            | _ => false
theorem wantC_ok {ops : Array Oper} {o : Oper} {a : Act} (h : wantC ops o a = true) : Region.wanted o (yielded ops a.tmps) = true := by
  unfold wantC at h
  unfold Region.wanted
  cases hg : o.guard with
  | none => rfl
  | some g =>
    obtain ⟨j, b⟩ := g
    obtain ⟨l⟩ := ops
    obtain ⟨⟨ts⟩, ds⟩ := a
    simp only [hg, nthO_eq] at h
    cases hq : l[j]? with
    | none => simp [hq] at h
    | some q =>
      cases hd : q.dst with
      | none => simp [hq, hd] at h
      | some d =>
        simp only [hq, hd, nthV_eq] at h
        have e : ts.getD d undef = (ts[d]?).getD undef := by simp
        rw [e] at h
        simp only [yielded, List.getElem?_toArray, hq, Option.bind_some, hd]
        cases ht : ts[d]? with
        | none => simp [ht, undef] at h
        | some v => cases v <;> simp_all <;> (revert h; cases b <;> rename_i c <;> cases c <;> simp)

theorem wpl_run (hg : wantC ops o a = true) {R : Value → World → Prop} (h : Runs P (evC a) o w R) (k : ∀ v w', R v w' → wpList P ops Q rest (a.put o.dst v) w') : wpList P ops Q (o :: rest) a w :=
  wpList_step fun K hK => by rw [if_pos (wantC_ok hg)]; rw [evC_eq] at h; exact h.wp fun v w' hR => hK _ _ (k v w' hR)
end

/-- The same, for the operation that fills temporary d alone. -/
theorem wpl_run_d {P : Program} {ops : Array Oper} {Q : Exit → Act → World → Prop} {rest : List Oper} {o : Oper} {a : Act} {w : World} (d : Nat) (hd : o.dst = some d) (hg : wantC ops o a = true) {R : Value → World → Prop} (h : Runs P (evC a) o w R)
    (k : ∀ v w', R v w' → wpList P ops Q rest (a.put o.dst v) w') : wpList P ops Q (o :: rest) a w := wpl_run hg h k

/-- The same in two steps: the guard first, then the operation with what follows (so that nothing is unfolded where it does not fit). -/
theorem wpl_runx {P : Program} {ops : Array Oper} {Q : Exit → Act → World → Prop} {rest : List Oper} {o : Oper} {a : Act} {w : World} (hg : wantC ops o a = true)
    (h : ∃ R : Value → World → Prop, Runs P (evC a) o w R ∧ ∀ v w', R v w' → wpList P ops Q rest (a.put o.dst v) w') : wpList P ops Q (o :: rest) a w := by
  obtain ⟨R, h1, h2⟩ := h
  exact wpl_run hg h1 h2
theorem wpl_runx_d {P : Program} {ops : Array Oper} {Q : Exit → Act → World → Prop} {rest : List Oper} {o : Oper} {a : Act} {w : World} (d : Nat) (hd : o.dst = some d) (hg : wantC ops o a = true)
    (h : ∃ R : Value → World → Prop, Runs P (evC a) o w R ∧ ∀ v w', R v w' → wpList P ops Q rest (a.put o.dst v) w') : wpList P ops Q (o :: rest) a w := wpl_runx hg h

/-! ### Lists that are reckoned out: each of these comes to its end by unfolding alone, the answer written out -/
def takeC {α β : Type} : Nat → List α → (List α → Option β) → Option β
  | 0, _, k => k []
  | _ + 1, [], _ => none
  | n + 1, x :: l, k => takeC n l fun l' => k (x :: l')
def dropC {α β : Type} : Nat → List α → (List α → Option β) → Option β
  | 0, l, k => k l
  | _ + 1, [], _ => none
  | n + 1, _ :: l, k => dropC n l k
def setC {α β : Type} : List α → Nat → α → (List α → Option β) → Option β
  | [], _, _, _ => none
  | _ :: l, 0, a, k => k (a :: l)
  | x :: l, n + 1, a, k => setC l n a fun l' => k (x :: l')
def appC {α β : Type} : List α → List α → (List α → Option β) → Option β
  | [], ys, k => k ys
  | x :: xs, ys, k => appC xs ys fun l => k (x :: l)
/-- A row of values laid over another, from a place on. -/
def layC {α β : Type} : List α → Nat → List α → (List α → Option β) → Option β
  | cs, 0, [], k => k cs
  | _ :: cs, 0, v :: vs, k => layC cs 0 vs fun l => k (v :: l)
  | c :: cs, n + 1, vs, k => layC cs n vs fun l => k (c :: l)
  | [], _, _, _ => none
def cellsC : Value → Option (List Value)
  | .agg ⟨l⟩ => some l
  | .bool b => some [.bool b]
  | .int k n => some [.int k n]
  | .float k b => some [.float k b]
  | .complex k r i => some [.complex k r i]
  | .string s => some [.string s]
  | .pointer a => some [.pointer a]
  | .slice a l c => some [.slice a l c]
  | .map r => some [.map r]
  | .chan r => some [.chan r]
  | .func f a c => some [.func f a c]
  | .nilFunc => some [.nilFunc]
  | .iface t v => some [.iface t v]
  | .nilIface => some [.nilIface]
  | .tuple vs => some [.tuple vs]
def catC : List Value → (List Value → Option (List Value)) → Option (List Value)
  | [], k => k []
  | v :: vs, k => (cellsC v).bind fun l => catC vs fun r => appC l r k

theorem takeC_spec {α β : Type} : ∀ (n : Nat) (l : List α) (k : List α → Option β) {r : β}, takeC n l k = some r → n ≤ l.length ∧ k (l.take n) = some r
  | 0, _, _, _, h => ⟨Nat.zero_le _, by simpa [takeC] using h⟩
  | _ + 1, [], _, _, h => by simp [takeC] at h
  | n + 1, x :: l, k, _, h => by
    have := takeC_spec n l _ h
    exact ⟨by simpa using this.1, by simpa using this.2⟩
theorem dropC_spec {α β : Type} : ∀ (n : Nat) (l : List α) (k : List α → Option β) {r : β}, dropC n l k = some r → n ≤ l.length ∧ k (l.drop n) = some r
  | 0, _, _, _, h => ⟨Nat.zero_le _, by simpa [dropC] using h⟩
  | _ + 1, [], _, _, h => by simp [dropC] at h
  | n + 1, x :: l, k, _, h => by
    have := dropC_spec n l k h
    exact ⟨by simpa using this.1, by simpa using this.2⟩
theorem setC_spec {α β : Type} : ∀ (l : List α) (n : Nat) (a : α) (k : List α → Option β) {r : β}, setC l n a k = some r → k (l.set n a) = some r
  | [], _, _, _, _, h => by simp [setC] at h
  | _ :: _, 0, _, _, _, h => by simpa [setC] using h
  | x :: l, n + 1, a, k, _, h => by simpa using setC_spec l n a _ h
theorem appC_spec {α β : Type} : ∀ (l m : List α) (k : List α → Option β) {r : β}, appC l m k = some r → k (l ++ m) = some r
  | [], _, _, _, h => by simpa [appC] using h
  | x :: l, m, k, _, h => by simpa using appC_spec l m _ h
theorem layC_spec {α β : Type} : ∀ (cs : List α) (off : Nat) (vs : List α) (k : List α → Option β) {r : β}, layC cs off vs k = some r → off + vs.length ≤ cs.length ∧ k (cs.take off ++ vs ++ cs.drop (off + vs.length)) = some r
  | cs, 0, [], k, r, h => by
    have h : k cs = some r := by cases cs <;> exact h
    simp [h]
  | c :: cs, 0, v :: vs, k, r, h => by
    have h : layC cs 0 vs (fun l => k (v :: l)) = some r := h
    have := layC_spec cs 0 vs _ h
    refine ⟨by simpa using this.1, ?_⟩
    have h2 := this.2
    simp only [List.take_zero, List.nil_append, Nat.zero_add] at h2
    simpa using h2
  | c :: cs, n + 1, vs, k, r, h => by
    have h : layC cs n vs (fun l => k (c :: l)) = some r := by cases vs <;> exact h
    have := layC_spec cs n vs _ h
    refine ⟨by simp only [List.length_cons]; omega, ?_⟩
    have h2 := this.2
    rw [show n + 1 + vs.length = n + vs.length + 1 by omega]
    simpa using h2
  | [], 0, v :: vs, k, _, h => by cases h
  | [], n + 1, vs, k, _, h => by cases vs <;> cases h
theorem cellsC_spec {v : Value} {l : List Value} (h : cellsC v = some l) : v.cells = l.toArray := by
  cases v <;> first | (simp only [cellsC, Option.some.injEq] at h; subst h; rfl) | skip
theorem catC_spec : ∀ (vs : List Value) (k : List Value → Option (List Value)) {r : List Value}, catC vs k = some r → k (vs.flatMap (·.cells.toList)) = some r
  | [], _, _, h => by simpa [catC] using h
  | v :: vs, k, _, h => by
    unfold catC at h
    cases hc : cellsC v with
    | none => rw [hc] at h; cases h
    | some l =>
      rw [hc] at h
      have := appC_spec _ _ _ (catC_spec vs _ h)
      simp only [List.flatMap_cons, cellsC_spec hc]
      exact this

/-! ### Types -/
/-- Of a type: does it lie in cells of its own (a struct, an array); how many cells. -/
def tyShape (P : Program) (T : TypeId) : Option (Bool × Nat) :=
  match P.underlying T, P.info? T with
  | some (.struct _), some i => some (true, i.size)
  | some (.array _ _), some i => some (true, i.size)
  | some _, some i => some (false, i.size)
  | _, _ => none
/-- A type's zero value. -/
def tyZero (P : Program) (T : TypeId) : Option Value := (P.info? T).bind (·.zero)

theorem run_isAgg {P : Program} {T : TypeId} {b : Bool} {n : Nat} (h : tyShape P T = some (b, n)) (w : World) : (isAgg T).run P w = .ok b w ∧ (sizeOf T).run P w = .ok n w := by
  unfold tyShape at h
  cases hu : P.underlying T with
  | none => simp [hu] at h
  | some d =>
    cases hi : P.info? T with
    | none => cases d <;> simp [hu, hi] at h
    | some i =>
      have h2 : (sizeOf T).run P w = .ok i.size w := by simp [sizeOf, typeInfo, hi, program, Sem.run]
      have h1 : (isAgg T).run P w = .ok (match d with | .struct _ => true | .array _ _ => true | _ => false) w := by
        unfold isAgg
        rw [Sem.run_bind, run_underlying hu]
        cases d <;> rfl
      cases d <;> simp [hu, hi] at h <;> obtain ⟨rfl, rfl⟩ := h <;> exact ⟨h1, h2⟩

/-- What is read of a row of cells. -/
def pickC (cs : List Value) (off n : Nat) : Bool → Option Value
  | true => dropC off cs fun l => takeC n l fun l' => some (.agg ⟨l'⟩)
  | false => dropC off cs fun | v :: _ => some v | [] => none
theorem pickC_true {cs : List Value} {off n : Nat} {v : Value} (h : pickC cs off n true = some v) : off + n ≤ cs.length ∧ v = .agg ((cs.drop off).take n).toArray := by
  obtain ⟨h1, h2⟩ := dropC_spec _ _ _ h
  obtain ⟨h3, h4⟩ := takeC_spec _ _ _ h2
  exact ⟨by simp at h3; omega, (Option.some.inj h4).symm⟩
theorem pickC_false {cs : List Value} {off n : Nat} {v : Value} (h : pickC cs off n false = some v) : cs[off]? = some v := by
  obtain ⟨h1, h2⟩ := dropC_spec _ _ _ h
  have e := List.getElem?_drop (xs := cs) (i := off) (j := 0)
  rw [Nat.add_zero] at e
  rw [← e]
  cases hd : cs.drop off with
  | nil => rw [hd] at h2; cases h2
  | cons x l => rw [hd] at h2; simpa using h2

theorem add_off (b off j : Nat) : (⟨b, off, none⟩ : Addr).add j = ⟨b, off + j, none⟩ := by unfold Addr.add; split <;> simp_all

theorem run_loadVar_cells {P : Program} {T : TypeId} {agg : Bool} {n : Nat} (hT : tyShape P T = some (agg, n)) {w : World} {b off o : Nat} {cs : List Value}
    (h : ∀ j v, cs[j]? = some v → w.cell? ⟨b, off + j, none⟩ = some v) {v : Value} (hv : pickC cs o n agg = some v) : (loadVar T ⟨b, off + o, none⟩).run P w = .ok v w := by
  obtain ⟨h1, h2⟩ := run_isAgg hT w
  unfold loadVar
  rw [Sem.run_bind, h1]
  cases agg with
  | true =>
    obtain ⟨h3, h4⟩ := pickC_true hv
    have hl := run_loadCells_list (P := P) w ⟨b, off + o, none⟩ ((cs.drop o).take n) (fun j v hj => by
      rw [add_off, Nat.add_assoc]
      rw [List.getElem?_take] at hj
      split at hj
      · rw [List.getElem?_drop] at hj; exact h _ v hj
      · cases hj)
    rw [List.length_take, List.length_drop, Nat.min_eq_left (by omega)] at hl
    simp only [Result.andThen_ok, if_true, Sem.run_bind, h2, hl, h4]
    rfl
  | false =>
    have := h o v (pickC_false hv)
    simp [load, Sem.run, this]

/-- A load of cells that are known, o places behind the first. -/
theorem run_load_at {P : Program} {ev : Operand → Value} {o : Oper} {w : World} {T : TypeId} {x : Operand} {agg : Bool} {n b off d : Nat} {cs : List Value} {v : Value} (ho : o.op = .load T x)
    (hx : ev x = .pointer (some ⟨b, off + d, none⟩)) (hT : tyShape P T = some (agg, n))
    (h : ∀ j v, cs[j]? = some v → w.cell? ⟨b, off + j, none⟩ = some v) (hv : pickC cs d n agg = some v) : (execOp ev o).run P w = .ok (.value v) w := by
  have := run_loadVar_cells hT h hv
  unfold execOp
  simp [ho, Instr.loadAt, Instr.sureAddr, hx, this]

theorem cells_open {w : World} {b : Nat} {cs : List Value} {ty : TypeId} (hb : w.heap[b]? = some (.cells cs.toArray ty (0, 0))) :
    ∀ j v, cs[j]? = some v → w.cell? ⟨b, 0 + j, none⟩ = some v := by
  intro j v hj
  rw [Nat.zero_add, cell_of_row w b j _ ty (0, 0) hb]
  simpa using hj

section
variable {P : Program} {ev : Operand → Value} {o : Oper} {M X : List Nat} {w0 w : World} {L : List Res} {F : List Nat → World → Prop}

/-- A load out of a block of the call's own. -/
theorem run_load_in {b : Nat} {cs : List Value} {ty : TypeId} (hb : w.heap[b]? = some (.cells cs.toArray ty (0, 0))) {T : TypeId} {x : Operand} {off : Nat}
    (ho : o.op = .load T x) (hx : ev x = .pointer (some ⟨b, off, none⟩)) {agg : Bool} {n : Nat} (hT : tyShape P T = some (agg, n)) {v : Value} (hv : pickC cs off n agg = some v) :
    (execOp ev o).run P w = .ok (.value v) w :=
  run_load_at (off := 0) (d := off) ho (by rw [Nat.zero_add]; exact hx) hT (cells_open hb) hv

theorem runs_load (H : St M X w0 w L F) (k : Nat) {b : Nat} {cs : List Value} {ty : TypeId} (hk : L[k]? = some (.obj b (.cells cs.toArray ty (0, 0)))) {T : TypeId} {x : Operand} {off : Nat}
    (ho : o.op = .load T x) (hx : ev x = .pointer (some ⟨b, off, none⟩)) {agg : Bool} {n : Nat} (hT : tyShape P T = some (agg, n)) {v : Value} (hv : pickC cs off n agg = some v) :
    Runs P ev o w fun u w' => u = v ∧ w = w' := ⟨_, _, _, run_load_in (H.get hk) ho hx hT hv, rfl, rfl, rfl⟩

/-- A load of cells that are known. -/
theorem runs_load_at {T : TypeId} {x : Operand} {agg : Bool} {n b off : Nat} {cs : List Value} {v : Value} (ho : o.op = .load T x)
    (hx : ev x = .pointer (some ⟨b, off, none⟩)) (hT : tyShape P T = some (agg, n))
    (h : ∀ j v, cs[j]? = some v → w.cell? ⟨b, off + j, none⟩ = some v) (hv : pickC cs 0 n agg = some v) : Runs P ev o w fun u w' => u = v ∧ w = w' :=
  ⟨_, _, _, run_load_at (d := 0) ho hx hT h hv, rfl, rfl, rfl⟩

/-- A variable that is made with its value. -/
theorem runs_box (H : St M X w0 w L F) {T : TypeId} {x : Operand} (ho : o.op = .box T x) {cs : List Value} (hc : cellsC (ev x) = some cs) :
    Runs P ev o w fun u w' => ∃ b, u = .pointer (some ⟨b, 0, none⟩) ∧ Ext [] w w' ∧ St M X w0 w' (.obj b (.cells cs.toArray T (0, 0)) :: L) F := by
  have hc := cellsC_spec hc
  refine ⟨.value (.pointer (some ⟨w.heap.size, 0, none⟩)), _, .pointer (some ⟨w.heap.size, 0, none⟩), ?_, rfl, _, rfl, Ext.new _ _, H.new _⟩
  · unfold execOp
    simp [ho, Instr.box, newVar, newRow, newObj, hc, Sem.run]

/-- A variable that is made at its zero value. -/
theorem runs_alloc (H : St M X w0 w L F) {T : TypeId} (ho : o.op = .alloc T) {z : Value} (hz : tyZero P T = some z) {cs : List Value} (hc : cellsC z = some cs) :
    Runs P ev o w fun u w' => ∃ b, u = .pointer (some ⟨b, 0, none⟩) ∧ Ext [] w w' ∧ St M X w0 w' (.obj b (.cells cs.toArray T (0, 0)) :: L) F := by
  have hc := cellsC_spec hc
  refine ⟨.value (.pointer (some ⟨w.heap.size, 0, none⟩)), _, .pointer (some ⟨w.heap.size, 0, none⟩), ?_, rfl, _, rfl, Ext.new _ _, H.new _⟩
  · cases hi : P.info? T with
    | none => simp [tyZero, hi] at hz
    | some i =>
      have hz' : i.zero = some z := by simpa [tyZero, hi] using hz
      unfold execOp
      simp [ho, Instr.alloc, zeroValue, typeInfo, hi, hz', newVar, newRow, newObj, hc, Sem.run, program]

/-- A store into a block of the call's own. -/
theorem runs_store (H : St M X w0 w L F) (k : Nat) {b : Nat} {cs : List Value} {ty : TypeId} (hk : L[k]? = some (.obj b (.cells cs.toArray ty (0, 0)))) {T : TypeId} {x y : Operand} {off : Nat}
    (ho : o.op = .store T x y) (hx : ev x = .pointer (some ⟨b, off, none⟩)) {vs : List Value} (hc : cellsC (ev y) = some vs) {agg : Bool} {n : Nat} (hT : tyShape P T = some (agg, n)) (hn : vs.length = n)
    (h1 : vs.all Value.oneCell' = true) {cs' : List Value} (hcs : layC cs off vs some = some cs') {L' : List Res} (hL : setC L k (.obj b (.cells cs'.toArray ty (0, 0))) some = some L') :
    Runs P ev o w fun u w' => u = undef ∧ Ext [b] w w' ∧ St M X w0 w' L' F := by
  have hL := setC_spec _ _ _ _ hL
  obtain rfl := Option.some.inj hL
  have hcs := layC_spec _ _ _ _ hcs
  obtain ⟨hn', hcs⟩ := hcs
  have hcs := Option.some.inj hcs
  have hc := cellsC_spec hc
  subst hn
  have h1 : ∀ u ∈ vs, u.oneCell' = true := by simpa using h1
  have hb := H.get hk
  have hbl : b < w.heap.size := (Array.getElem?_eq_some_iff.1 hb).1
  have hst := run_storeCells_at P b off ty vs 0 cs.toArray w hb (by simpa using hn') h1
  simp only [Nat.add_zero] at hst
  obtain ⟨_, h2⟩ := run_isAgg hT w
  have hE : Ext [b] w (w.setRow b cs'.toArray) := ⟨rfl, rfl, rfl, by simp [World.setRow], fun c hc hx => by
    have hne : c ≠ b := fun e => hx (by simp [e])
    simp only [World.setRow, Array.getElem?_modify]
    rw [if_neg (by omega)]⟩
  refine ⟨.skip, w.setRow b cs'.toArray, undef, ?_, rfl, rfl, hE, ?_⟩
  · unfold execOp
    simp only [ho, Instr.storeAt, Instr.sureAddr, hx, storeVar, hc, Sem.run_bind, Sem.run_pure, Result.andThen_ok, h2, List.size_toArray, ne_eq, not_true_eq_false, if_false, List.toList_toArray, hst]
    rw [← hcs]
  · exact H.swap hk hE (setRow_heap w b _ _ ty _ hb) (by simp [Res.ids]) (fun c hc => .inl hc)

theorem foldl_set (cs : List Value) : ∀ (vs : List Value) (off j : Nat) (A B : List Value), A.length = off + j → vs.length ≤ B.length →
    ((vs.zipIdx j).foldl (fun (acc : Array Value) (x : Value × Nat) => acc.setIfInBounds (off + x.2) x.1) (A ++ B).toArray) = (A ++ vs ++ B.drop vs.length).toArray
  | [], _, _, A, B, _, _ => by simp
  | v :: vs, off, j, A, b :: B, hA, hB => by
    simp only [List.zipIdx_cons, List.foldl_cons]
    have e : (A ++ b :: B).toArray.setIfInBounds (off + j) v = ((A ++ [v]) ++ B).toArray := by
      simp only [List.setIfInBounds_toArray, List.append_assoc, List.singleton_append]
      rw [← hA, List.set_append_right _ _ (Nat.le_refl _)]
      simp
    rw [e, foldl_set cs vs off (j + 1) (A ++ [v]) B (by simp [hA]; omega) (by simpa using hB)]
    simp

theorem fill_list (sz : Nat) : ∀ (vs : List Value) (i : Nat) (A B : List Value), A.length = i * sz → B.length = vs.length * sz → (∀ v ∈ vs, v.cells.size = sz) →
    Instr.fill (fun i => some (i * sz, sz)) (A ++ B).toArray ((vs.zipIdx i).map fun x => (x.2, x.1)) = some (A ++ vs.flatMap (·.cells.toList)).toArray
  | [], i, A, B, _, hB, _ => by
    have : B = [] := List.eq_nil_of_length_eq_zero (by simpa using hB)
    simp [Instr.fill, this]
  | v :: vs, i, A, B, hA, hB, h => by
    have hv : v.cells.size = sz := h v (by simp)
    have hB' : sz ≤ B.length := by rw [hB, List.length_cons, Nat.succ_mul]; omega
    simp only [List.zipIdx_cons, List.map_cons, Instr.fill]
    rw [if_neg (by simp [hv, hA]; omega)]
    have e := foldl_set [] v.cells.toList (i * sz) 0 A B (by simp [hA]) (by simpa [hv] using hB')
    have e2 : v.cells.zipIdx.foldl (fun cs x => cs.setIfInBounds (i * sz + x.2) x.1) (A ++ B).toArray = (A ++ v.cells.toList ++ B.drop sz).toArray := by
      rw [← Array.foldl_toList, Array.toList_zipIdx, e]
      simp [hv]
    show Instr.fill _ (v.cells.zipIdx.foldl (fun cs x => cs.setIfInBounds (i * sz + x.2) x.1) (A ++ B).toArray) _ = _
    rw [e2, fill_list sz vs (i + 1) (A ++ v.cells.toList) (B.drop sz) (by simp [hA, hv, Nat.succ_mul]) (by simp [hB, Nat.succ_mul]) (fun u hu => h u (by simp [hu]))]
    simp

/-- The parts of a slice literal, in order. -/
def partsC (ev : Operand → Value) : List (Nat × Operand) → Nat → (List Value → Option (List Value)) → Option (List Value)
  | [], _, k => k []
  | (j, x) :: ps, i, k => match Nat.beq j i with
    | true => partsC ev ps (i + 1) fun l => k (ev x :: l)
    | false => none
theorem partsC_spec (ev : Operand → Value) : ∀ (ps : List (Nat × Operand)) (i : Nat) (k : List Value → Option (List Value)) {r : List Value}, partsC ev ps i k = some r →
    ∃ vs : List Value, (ps.map fun x => (x.1, ev x.2)) = (vs.zipIdx i).map (fun x => (x.2, x.1)) ∧ k vs = some r
  | [], _, _, _, h => ⟨[], rfl, h⟩
  | (j, x) :: ps, i, k, _, h => by
    unfold partsC at h
    cases hj : Nat.beq j i with
    | false => rw [hj] at h; cases h
    | true =>
      rw [hj] at h
      have hji : j = i := Nat.eq_of_beq_eq_true hj
      obtain ⟨vs, h1, h2⟩ := partsC_spec ev ps (i + 1) _ h
      exact ⟨ev x :: vs, by simp [h1, hji], h2⟩

/-- A slice literal: its elements' cells, one behind the other. -/
theorem runs_buildSlice (H : St M X w0 w L F) {T : TypeId} {n : Nat} {ps : Array (Nat × Operand)} (ho : o.op = .buildSlice T n ps) {E : TypeId} {agg : Bool} {sz : Nat} {z : Value}
    (hT : P.underlying T = some (.slice E)) (hE : tyShape P E = some (agg, sz)) (hz : tyZero P E = some z) {vs : List Value} (hps : partsC ev ps.toList 0 some = some vs)
    (hn : vs.length = n) (hsz : Nat.blt 0 (n * sz) = true) (hlt : Nat.ble (n * sz) 16777216 = true) (hvs : vs.all (fun v => v.cells.size == sz) = true) {cs : List Value} (hcs : catC vs some = some cs) :
    Runs P ev o w fun u w' => ∃ b, u = .slice (some ⟨b, 0, none⟩) n n ∧ Ext [] w w' ∧ St M X w0 w' (.obj b (.cells cs.toArray E (0, 0)) :: L) F := by
  have hcs := Option.some.inj (catC_spec _ _ hcs)
  have hsz : 0 < n * sz := by simpa using hsz
  have hlt : n * sz ≤ 2 ^ 24 := by simpa using hlt
  obtain ⟨vs', hps, hvv⟩ := partsC_spec _ _ _ _ hps
  obtain rfl : vs = vs' := (Option.some.inj hvv).symm
  have hvs : ∀ v ∈ vs, v.cells.size = sz := by simpa using hvs
  have hps : (ps.map fun (i, x) => (i, ev x)).toList = (vs.zipIdx 0).map fun x => (x.2, x.1) := by rw [← hps]; simp
  refine ⟨.value (.slice (some ⟨w.heap.size, 0, none⟩) n n), _, .slice (some ⟨w.heap.size, 0, none⟩) n n, ?_, rfl, _, rfl, Ext.new _ _, H.new _⟩
  obtain ⟨_, h2⟩ := run_isAgg hE w
  have hfill := fill_list sz vs 0 [] ((Array.range (n * sz)).map (z.cells[· % z.cells.size]!)).toList (by simp) (by simp [hn]) hvs
  simp only [List.nil_append, Array.toArray_toList, hcs] at hfill
  cases hi : P.info? E with
  | none => simp [tyZero, hi] at hz
  | some i =>
    have hz' : i.zero = some z := by simpa [tyZero, hi] using hz
    unfold execOp
    simp only [ho, Instr.buildSlice, Sem.run_bind, run_underlying hT, Result.andThen_ok, h2, zeroValue, typeInfo, program]
    rw [if_neg (by omega), if_neg (by omega), hps]
    simp [Sem.run, hi, hz', hfill, newRow, newObj]

/-- append onto a row of the call's own: the elements lie in known cells. -/
theorem runs_append (H : St M X w0 w L F) (k : Nat) {v : Value} {n sz : Nat} {xs : List Value} {E : TypeId} (hk : L[k]? = some (.row v n xs E sz)) {T : TypeId} {s x : Operand}
    (ho : o.op = .call { callee := .builtin .append, args := #[s, x], argTypes := #[T, T] }) (hs : ev s = v) {c d m cc : Nat} (hx : ev x = .slice (some ⟨c, d, none⟩) m cc) (hT : P.underlying T = some (.slice E))
    {z : Value} {bytes : Nat} (hi : (P.info? E).map (fun i => (i.zero, i.size, i.bytes)) = some (some z, sz, bytes)) (hz : z.cells.size = sz) (hsz : 0 < sz)
    {news : List Value} (hl : news.length = m * sz) (hnews : ∀ j u, news[j]? = some u → w.cell? ⟨c, d + j, none⟩ = some u) (h1 : news.all Value.oneCell' = true)
    (hm : 0 < m) (h63 : n + m ≤ maxLen) (hbytes : (n + m) * bytes ≤ 140737488355328) {f : Res → List Res} (hL : ∀ r, setC L k r some = some (f r)) :
    Runs P ev o w fun u w' => ∃ g cap, u = .slice (some ⟨g, 0, none⟩) (n + m) cap ∧ Ext v.ownBlock.toList w w' ∧ St M X w0 w' (f (.row (.slice (some ⟨g, 0, none⟩) (n + m) cap) (n + m) (xs ++ news) E sz)) F := by
  obtain ⟨i0, hi0, hz0, hz1, hz2⟩ := info_parts hi
  have hf : ∀ r, L.set k r = f r := fun r => Option.some.inj (setC_spec _ _ _ _ (hL r))
  obtain ⟨g, cap, w', hr, hown, hg, hat, hlt⟩ := run_append_lies (P := P) w T o.type 0 E i0 z sz bytes hT hi0 hz0 hz1 hz2 hz hsz v n xs (H.getRow hk) ⟨c, d, none⟩ m cc news hl
    (fun j u hu => by rw [add_off]; exact hnews j u hu) (by simpa using h1) hm h63 hbytes (Nat.zero_le _) w.heap.size rfl
  refine ⟨.value (.slice (some ⟨g, 0, none⟩) (n + m) cap), w', _, ?_, rfl, g, cap, rfl, Ext.grown hg, ?_⟩
  · unfold execOp
    simp only [ho, resolve, invoke, builtin, Sem.run_bind, Sem.run_pure, Result.andThen_ok, List.map_toArray, List.map_cons, List.map_nil, hs, hx, hr]
  · rw [← hf]
    refine H.swap hk (Ext.grown hg) hown (by simp [Res.ids, Value.ownBlock]) fun b hb => ?_
    simp only [Res.ids, Value.ownBlock, Option.toList_some, List.mem_singleton] at hb
    subst hb
    rcases hat with hat | hat
    · exact .inl (by simp [Res.ids, hat])
    · exact .inr (by omega)

/-- append of a literal's elements, which lie in a block of the call's own. -/
theorem runs_append1 (H : St M X w0 w L F) (k : Nat) {v : Value} {n sz : Nat} {xs : List Value} {E : TypeId} (hk : L[k]? = some (.row v n xs E sz)) {T : TypeId} {s x : Operand}
    (ho : o.op = .call { callee := .builtin .append, args := #[s, x], argTypes := #[T, T] }) (hs : ev s = v) {c m cc : Nat} (hx : ev x = .slice (some ⟨c, 0, none⟩) m cc) (hT : P.underlying T = some (.slice E))
    {z : Value} {bytes : Nat} (hi : (P.info? E).map (fun i => (i.zero, i.size, i.bytes)) = some (some z, sz, bytes)) (hz : z.cells.size = sz) (hsz : 0 < sz)
    (j : Nat) {news : List Value} {E' : TypeId} (hj : L[j]? = some (.obj c (.cells news.toArray E' (0, 0)))) (hl : news.length = m * sz) (h1 : news.all Value.oneCell' = true)
    (hm : 0 < m) (h63 : n + m ≤ maxLen) (hbytes : (n + m) * bytes ≤ 140737488355328) {f : Res → List Res} (hL : ∀ r, setC L k r some = some (f r)) :
    Runs P ev o w fun u w' => ∃ g cap, u = .slice (some ⟨g, 0, none⟩) (n + m) cap ∧ Ext v.ownBlock.toList w w' ∧ St M X w0 w' (f (.row (.slice (some ⟨g, 0, none⟩) (n + m) cap) (n + m) (xs ++ news) E sz)) F :=
  runs_append H k hk ho hs hx hT hi hz hsz hl (cells_open (H.get hj)) h1 hm h63 hbytes hL

def eraseC {α β : Type} : List α → Nat → (List α → Option β) → Option β
  | [], _, _ => none
  | _ :: l, 0, k => k l
  | x :: l, n + 1, k => eraseC l n fun l' => k (x :: l')
theorem eraseC_spec {α β : Type} : ∀ (l : List α) (n : Nat) (k : List α → Option β) {r : β}, eraseC l n k = some r → n < l.length ∧ k (l.eraseIdx n) = some r
  | [], _, _, _, h => by simp [eraseC] at h
  | _ :: _, 0, _, _, h => ⟨by simp, by simpa [eraseC] using h⟩
  | x :: l, n + 1, k, _, h => by
    have := eraseC_spec l n _ h
    exact ⟨by simpa using this.1, by simpa using this.2⟩

/-- A block that nobody needs any more is forgotten. -/
theorem St.drop (H : St M X w0 w L F) (k : Nat) {L' : List Res} (hL : eraseC L k some = some L') : St M X w0 w L' F := by
  obtain ⟨hk, hL⟩ := eraseC_spec _ _ _ hL
  obtain rfl := Option.some.inj hL
  have hsub : ∀ b, b ∈ idsOf (L.eraseIdx k) → b ∈ idsOf L := by
    intro b hb
    simp only [idsOf, List.mem_flatMap] at hb ⊢
    obtain ⟨r, hr, hb⟩ := hb
    exact ⟨r, List.mem_of_mem_eraseIdx hr, hb⟩
  refine ⟨H.ext, fun r hr => H.holds r (List.mem_of_mem_eraseIdx hr), ?_, fun b hb => H.own b (hsub b hb), H.low, H.stab.sub _ _ _ (fun b hb => ?_) H.fact, H.stab⟩
  · have hnd := H.nodup
    rw [List.eraseIdx_eq_take_drop_succ]
    have hL : L = L.take k ++ L[k] :: L.drop (k + 1) := by simp
    rw [hL] at hnd
    generalize L.take k = A at hnd ⊢
    generalize L.drop (k + 1) = B at hnd ⊢
    simp only [idsOf, List.flatMap_append, List.flatMap_cons] at hnd ⊢
    exact List.Nodup.sublist (by simp) hnd
  · rcases List.mem_append.1 hb with hb | hb
    · exact List.mem_append_left _ (hsub b hb)
    · exact List.mem_append_right _ hb

/-- What is known, of the blocks that the caller keeps away from. -/
theorem St.out (H : St M X w0 w L F) : F M w := H.stab.sub _ _ _ (fun b hb => List.mem_append_right _ hb) H.fact
end

/-! ### Results -/
theorem run_results_cell {P : Program} {fn : Func} {p : Tmp} {T : TypeId} (hr : fn.results = #[.cell p T]) {tmps : Array Value} {w : World} {b off : Nat} {cs : List Value} {ty : TypeId} (hb : w.heap[b]? = some (.cells cs.toArray ty (0, 0)))
    (hp : tmps.getD p undef = .pointer (some ⟨b, off, none⟩)) {agg : Bool} {n : Nat} (hT : tyShape P T = some (agg, n)) {v : Value} (hv : pickC cs off n agg = some v) : (results fn tmps).run P w = .ok v w := by
  have h := run_loadVar_cells (off := 0) (o := off) hT (cells_open hb) hv
  rw [Nat.zero_add] at h
  have hp' : tmps[p]?.getD undef = .pointer (some ⟨b, off, none⟩) := by rw [← Array.getD_eq_getD_getElem?]; exact hp
  simp [results, hr, hp', asAddr, h, Sem.run_bind]

theorem ret_cell {P : Program} {fn : Func} {R : Ending → World → Prop} {a : Act} {M X : List Nat} {w0 w : World} {L : List Res} {F : List Nat → World → Prop} (H : St M X w0 w L F) (k : Nat) {b : Nat} {cs : List Value} {ty : TypeId} (hk : L[k]? = some (.obj b (.cells cs.toArray ty (0, 0))))
    {p : Tmp} {T : TypeId} (hr : fn.results = #[.cell p T]) {off : Nat} (hp : a.tmps.getD p undef = .pointer (some ⟨b, off, none⟩)) {agg : Bool} {n : Nat} (hT : tyShape P T = some (agg, n)) {v : Value} (hv : pickC cs off n agg = some v)
    (hd : a.defers = []) (hR : R (.returned v) w) : bodyPost P fn R .ret a w ∧ bodyPost P fn R .normal a w :=
  have h := run_results_cell hr (H.get hk) hp hT hv
  ⟨⟨hd, v, h, hR⟩, ⟨hd, v, h, hR⟩⟩
end Go.Proofs.Ythapmdlminnihaa
