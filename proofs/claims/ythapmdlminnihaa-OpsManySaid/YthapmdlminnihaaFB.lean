/- The base where no terms occur: what lasts in memory, found by its address; guards, calls, operations without arithmetic. -/
import Derived.Test.YthapmdlminnihaaPlan2
namespace Go.Proofs.Ythapmdlminnihaa
open Go.RowKit
set_option linter.unusedVariables false
set_option linter.unusedSimpArgs false
set_option maxRecDepth 20000
set_option maxHeartbeats 1000000

theorem stab_of_to {F : List Nat → World → Prop} (h : ∀ M M' w w', (∀ b, b ∉ M → b < w.heap.size → b ∉ M' ∧ b < w'.heap.size ∧ w'.heap[b]? = w.heap[b]?) → F M w → F M' w') : Stab F :=
  ⟨fun M w w' e => h M M w w' fun b h1 h2 => ⟨h1, Nat.lt_of_lt_of_le h2 e.size, e.block b h2 h1⟩,
   fun M M' w s => h M M' w w fun b h1 h2 => ⟨fun h => h1 (s b h), h2, rfl⟩,
   fun M w b hb => h M (b :: M) w w fun c h1 h2 => ⟨fun h => by rcases List.mem_cons.1 h with rfl | h; exact absurd h2 (Nat.not_lt.2 hb); exact h1 h, h2, rfl⟩⟩


/-- Two neighbours, the other way round. -/
theorem St.perm {M X : List Nat} {w0 w : World} {L L' : List Res} {F : List Nat → World → Prop} (H : St M X w0 w L F) (hp : L.Perm L') : St M X w0 w L' F := by
  have hi : (idsOf L).Perm (idsOf L') := hp.flatMap_right _
  refine ⟨H.ext, fun r hr => H.holds r (hp.mem_iff.2 hr), hi.nodup_iff.1 H.nodup, fun b hb => H.own b (hi.mem_iff.2 hb), H.low, H.stab.sub _ _ _ (fun b hb => ?_) H.fact, H.stab⟩
  rcases List.mem_append.1 hb with hb | hb
  · exact List.mem_append_left _ (hi.mem_iff.2 hb)
  · exact List.mem_append_right _ hb

/-! ### Slices of values of one cell each -/
def VR (A : Option Addr) (cap : Nat) (l : List Value) (M : List Nat) (w : World) : Prop :=
  l.length ≤ cap ∧ (l = [] ∨ ∃ b o, A = some ⟨b, o, none⟩ ∧ b ∉ M ∧ b < w.heap.size ∧ ∀ (j : Nat) (v : Value), l[j]? = some v → w.cell? ⟨b, o + j, none⟩ = some v)
theorem VR.stab (A : Option Addr) (cap : Nat) (l : List Value) : Stab (VR A cap l) := stab_of_to fun M M' w w' H h => ⟨h.1, h.2.imp id fun ⟨b, o, e, hm, hb, hc⟩ =>
  let ⟨k1, k2, k3⟩ := H b hm hb
  ⟨b, o, e, k1, k2, fun j v hj => (cell_same k3 _).trans (hc j v hj)⟩⟩
theorem VR.nil (A : Option Addr) (cap : Nat) (M : List Nat) (w : World) : VR A cap [] M w := ⟨Nat.zero_le _, .inl rfl⟩
theorem VR.at {A : Option Addr} {cap : Nat} {l : List Value} {M : List Nat} {w : World} (h : VR A cap l M w) (j : Nat) (hj : j < l.length) :
    ∃ b o, A = some ⟨b, o, none⟩ ∧ ∀ k v, [l[j]][k]? = some v → w.cell? ⟨b, o + j + k, none⟩ = some v := by
  rcases h.2 with rfl | ⟨b, o, e, _, _, hc⟩
  · simp at hj
  · refine ⟨b, o, e, fun k v hk => ?_⟩
    cases k with
    | zero => exact hc j v (by simpa [List.getElem?_eq_getElem hj] using hk)
    | succ k => simp at hk

/-- An own row of values, let go. -/
theorem St.sealV {M : List Nat} {w0 w : World} {L : List Res} {F : List Nat → World → Prop} (H : St M [] w0 w L F) (k : Nat) {v : Value} {n : Nat} {xs : List Value} {ty : TypeId} (hk : L[k]? = some (.row v n xs ty 1)) :
    ∃ A cap, v = .slice A xs.length cap ∧ St M [] w0 w (L.eraseIdx k) fun M w => F M w ∧ VR A cap xs M w := by
  have hown := H.getRow hk
  have hlen : n = xs.length := by have := hown.1; omega
  subst hlen
  rcases hown.2 with ⟨rfl, h0⟩ | ⟨g, cap, cur, rfl, hb, hg, hn, _, hs, ht⟩
  · have : xs = [] := List.eq_nil_of_length_eq_zero h0
    subst this
    exact ⟨none, 0, rfl, H.seal0 k hk (VR.stab _ _ _) (fun _ _ _ => VR.nil _ _ _ _) (H.notM hk)⟩
  · refine ⟨some ⟨g, 0, none⟩, cap, rfl, H.seal0 k hk (VR.stab _ _ _) (fun _ hF hni => ?_) (H.notM hk)⟩
    have hgl : g < w.heap.size := (Array.getElem?_eq_some_iff.1 hg).1
    refine ⟨hn, .inr ⟨g, 0, rfl, hni g (by simp [Res.ids, Value.ownBlock]), hgl, fun j v hj => ?_⟩⟩
    rw [Nat.zero_add, cell_of_row w g j cur ty (0, 0) hg]
    have hj' : j < xs.length * 1 := by rw [Nat.mul_one]; exact (List.getElem?_eq_some_iff.1 hj).1
    rw [← ht, List.getElem?_take, if_pos hj'] at hj
    simpa using hj

theorem St.rowVal0 {M X : List Nat} {w0 w : World} {L : List Res} {F : List Nat → World → Prop} (H : St M X w0 w L F) {k : Nat} {v : Value} {n : Nat} {xs : List Value} {ty sz : Nat} (hk : L[k]? = some (.row v n xs ty sz)) : ∃ a c, v = .slice a n c := by
  rcases (H.getRow hk).2 with ⟨rfl, h0⟩ | ⟨g, cap, cur, rfl, _⟩
  · subst h0; exact ⟨_, _, rfl⟩
  · exact ⟨_, _, rfl⟩


/-- Cells in a row that stay. -/
def CellF (b a : Nat) (cs : List Value) (M : List Nat) (w : World) : Prop := b ∉ M ∧ b < w.heap.size ∧ ∀ (j : Nat) (v : Value), cs[j]? = some v → w.cell? ⟨b, a + j, none⟩ = some v
theorem CellF.stab (b a : Nat) (cs : List Value) : Stab (CellF b a cs) := stab_of_to fun M M' w w' H h =>
  let ⟨k1, k2, k3⟩ := H b h.1 h.2.1
  ⟨k1, k2, fun j v hj => (cell_same k3 _).trans (h.2.2 j v hj)⟩


def ObjF (b : Nat) (o : Obj) (M : List Nat) (w : World) : Prop := w.heap[b]? = some o ∧ b ∉ M
theorem ObjF.stab (b : Nat) (o : Obj) : Stab (ObjF b o) := stab_of_to fun M M' w w' H h => by
  have hl : b < w.heap.size := (Array.getElem?_eq_some_iff.1 h.1).1
  obtain ⟨k1, k2, k3⟩ := H b h.2 hl
  exact ⟨k3.trans h.1, k1⟩

theorem St.sealObj {M : List Nat} {w0 w : World} {L : List Res} {F : List Nat → World → Prop} (H : St M [] w0 w L F) (k : Nat) {b : Nat} {o : Obj} (hk : L[k]? = some (.obj b o)) : St M [] w0 w (L.eraseIdx k) fun M w => F M w ∧ ObjF b o M w :=
  H.seal0 k hk (ObjF.stab b o) (fun h _ hn => ⟨h, hn b (by simp [Res.ids])⟩) (H.notM hk)

class HasVR (F : List Nat → World → Prop) (A : Option Addr) (c : Nat) (l : outParam (List Value)) : Prop where
  get : ∀ M w, F M w → VR A c l M w
instance (priority := low) HasVR.nil {F : List Nat → World → Prop} {c : Nat} : HasVR F none c [] := ⟨fun M w _ => VR.nil _ _ _ _⟩
instance HasVR.left {F G : List Nat → World → Prop} {A : Option Addr} {c : Nat} {l : List Value} [h : HasVR F A c l] : HasVR (fun M w => F M w ∧ G M w) A c l := ⟨fun M w k => h.get M w k.1⟩
instance HasVR.right {F G : List Nat → World → Prop} {A : Option Addr} {c : Nat} {l : List Value} [h : HasVR G A c l] : HasVR (fun M w => F M w ∧ G M w) A c l := ⟨fun M w k => h.get M w k.2⟩
instance (priority := high) HasVR.here {A : Option Addr} {c : Nat} {l : List Value} : HasVR (VR A c l) A c l := ⟨fun M w h => h⟩

/-- Known cells of a block, from a place on. -/
class HasCell (F : List Nat → World → Prop) (b : Nat) (a : outParam Nat) (cs : outParam (List Value)) : Prop where
  get : ∀ M w, F M w → CellF b a cs M w
instance HasCell.left {F G : List Nat → World → Prop} {b a : Nat} {cs : List Value} [h : HasCell F b a cs] : HasCell (fun M w => F M w ∧ G M w) b a cs := ⟨fun M w k => h.get M w k.1⟩
instance HasCell.right {F G : List Nat → World → Prop} {b a : Nat} {cs : List Value} [h : HasCell G b a cs] : HasCell (fun M w => F M w ∧ G M w) b a cs := ⟨fun M w k => h.get M w k.2⟩
instance (priority := high) HasCell.here {b a : Nat} {cs : List Value} : HasCell (CellF b a cs) b a cs := ⟨fun M w h => h⟩


section
variable {M X : List Nat} {w0 w : World} {L : List Res} {F : List Nat → World → Prop}
theorem St.vr (H : St M X w0 w L F) {A : Option Addr} {c : Nat} {l : List Value} [h : HasVR F A c l] : VR A c l (idsOf L ++ M) w := h.get _ _ H.fact
theorem St.vrO (H : St M X w0 w L F) {A : Option Addr} {c : Nat} {l : List Value} [h : HasVR F A c l] : VR A c l M w := h.get _ _ H.out

/-- A load of cells that are known as a fact; d: how far behind the first. -/
theorem runs_load_cell {P : Program} {ev : Operand → Value} {o : Oper} (H : St M X w0 w L F) {T : TypeId} {x : Operand} {agg : Bool} {n b a d : Nat} {cs : List Value} {v : Value} (ho : o.op = .load T x)
    (hx : ev x = .pointer (some ⟨b, a + d, none⟩)) [h : HasCell F b a cs] (hT : tyShape P T = some (agg, n)) (hv : pickC cs d n agg = some v) : Runs P ev o w fun u w' => u = v ∧ w = w' :=
  ⟨_, _, _, run_load_at ho hx hT (h.get _ _ H.fact).2.2 hv, rfl, rfl, rfl⟩
theorem runs_load_cell0 {P : Program} {ev : Operand → Value} {o : Oper} (H : St M X w0 w L F) {T : TypeId} {x : Operand} {agg : Bool} {n b a : Nat} {cs : List Value} {v : Value} (ho : o.op = .load T x)
    (hx : ev x = .pointer (some ⟨b, a, none⟩)) [h : HasCell F b a cs] (hT : tyShape P T = some (agg, n)) (hv : pickC cs 0 n agg = some v) : Runs P ev o w fun u w' => u = v ∧ w = w' :=
  runs_load_cell (d := 0) H ho hx hT hv
theorem runs_load_obj {P : Program} {ev : Operand → Value} {o : Oper} (H : St M X w0 w L F) {T : TypeId} {x : Operand} {agg : Bool} {n b off : Nat} {cs : List Value} {v : Value} (ho : o.op = .load T x)
    (hx : ev x = .pointer (some ⟨b, off, none⟩)) [h : HasCell F b 0 cs] (hT : tyShape P T = some (agg, n)) (hv : pickC cs off n agg = some v) : Runs P ev o w fun u w' => u = v ∧ w = w' :=
  runs_load_cell (d := off) (a := 0) H ho (by rw [Nat.zero_add]; exact hx) hT hv
end
instance HasCell.obj {b : Nat} {cs : List Value} {ty : TypeId} : HasCell (ObjF b (.cells cs.toArray ty (0, 0))) b 0 cs :=
  ⟨fun M w h => ⟨h.2, (Array.getElem?_eq_some_iff.1 h.1).1, cells_open h.1⟩⟩

/-- A literal of values, let go. -/
theorem VR.ofObj {b : Nat} {l : List Value} {ty : TypeId} {M : List Nat} {w : World} (h : ObjF b (.cells l.toArray ty (0, 0)) M w) : VR (some ⟨b, 0, none⟩) l.length l M w :=
  ⟨Nat.le_refl _, .inr ⟨b, 0, rfl, h.2, (Array.getElem?_eq_some_iff.1 h.1).1, cells_open h.1⟩⟩


/-! ### A guard that is not decided -/
/-- What the guard looks at, if it has one. -/
def guardC (ops : Array Oper) (o : Oper) (a : Act) : Option Bool :=
  match o.guard with
  | none => none
  | some (j, _) => match ops with
    | ⟨l⟩ => match nthO l j with
      | none => none
      | some q => match q.dst with
        | none => none
        | some d => match a.tmps with
          | ⟨ts⟩ => match nthV ts d with
            | .bool c => some c
            | _ => none
theorem wpl_gcase {P : Program} {ops : Array Oper} {Q : Exit → Act → World → Prop} {rest : List Oper} {o : Oper} {a : Act} {w : World} (c : Bool) (hc : guardC ops o a = some c)
    (ht : c = true → wpList P ops Q (o :: rest) a w) (hf : c = false → wpList P ops Q (o :: rest) a w) : wpList P ops Q (o :: rest) a w := by
  cases c
  · exact hf rfl
  · exact ht rfl

theorem wpl_gcaseE {P : Program} {ops : Array Oper} {Q : Exit → Act → World → Prop} {rest : List Oper} {o : Oper} {a : Act} {w : World}
    (h : ∃ c, guardC ops o a = some c ∧ (c = true → wpList P ops Q (o :: rest) a w) ∧ (c = false → wpList P ops Q (o :: rest) a w)) : wpList P ops Q (o :: rest) a w :=
  let ⟨c, hc, ht, hf⟩ := h; wpl_gcase c hc ht hf

def isCallOp : Op → Bool
  | .call _ => true
  | _ => false
/-- A call. -/
theorem wpl_callX {P : Program} {ops : Array Oper} {Q : Exit → Act → World → Prop} {rest : List Oper} {o : Oper} {a : Act} {w : World}
    (h : isCallOp o.op = true ∧ wantC ops o a = true ∧ ∀ K : Act → World → Prop, (∀ a' w', wpList P ops Q rest a' w' → K a' w') → o.wp P a w K Q) : wpList P ops Q (o :: rest) a w :=
  wpList_step fun K hK => by rw [if_pos (wantC_ok h.2.1)]; exact h.2.2 K hK
/-- Operations without arithmetic. -/
def plainOp : Op → Bool
  | .binOp .eql _ _ _ _ => true
  | .binOp .neq _ _ _ _ => true
  | .binOp .lss _ _ _ _ => true
  | .binOp .leq _ _ _ _ => true
  | .binOp .gtr _ _ _ _ => true
  | .binOp .geq _ _ _ _ => true
  | .binOp _ _ _ _ _ => false
  | .convert .. => false
  | .slice .. => false
  | .call .. => false
  | .load .. => false
  | .store .. => false
  | _ => true
/-- An operation that looks into no memory. -/
theorem wpl_pureX {P : Program} {ops : Array Oper} {Q : Exit → Act → World → Prop} {rest : List Oper} {o : Oper} {a : Act} {w : World}
    (h : plainOp o.op = true ∧ wantC ops o a = true ∧ ∃ v, (∀ w, (execOp a.eval o).run P w = .ok (.value v) w) ∧ wpList P ops Q rest (a.put o.dst v) w) : wpList P ops Q (o :: rest) a w :=
  let ⟨_, hg, v, hv, k⟩ := h
  wpl_runx hg ⟨fun u w' => u = v ∧ w = w', ⟨_, _, _, by rw [evC_eq]; exact hv w, rfl, rfl, rfl⟩, fun _ _ ⟨e1, e2⟩ => by subst e1; subst e2; exact k⟩


def RetV (w : World) (v : Value) (e : Ending) (w' : World) : Prop := e = .returned v ∧ Ext [] w w'


end Go.Proofs.Ythapmdlminnihaa
