/- Facts found by what they are about; a guard that is open; slices of terms as answers. -/
import Derived.Test.YtgopldabdheehaaTItems
namespace Go.Proofs.Ytgopldabdheehaa
open Go.RowKit
set_option linter.unusedVariables false
set_option linter.unusedSimpArgs false
set_option maxRecDepth 20000
set_option maxHeartbeats 1000000

/-! ### A fact of the state, found by its address -/
class HasAR (F : List Nat → World → Prop) (A : Option Addr) (c : Nat) (l : outParam (List Tm)) : Prop where
  get : ∀ M w, F M w → AR A c l M w
instance (priority := low) HasAR.nil {F : List Nat → World → Prop} {c : Nat} : HasAR F none c [] := ⟨fun M w _ => AR.nil _ _ _ _⟩
instance HasAR.left {F G : List Nat → World → Prop} {A : Option Addr} {c : Nat} {l : List Tm} [h : HasAR F A c l] : HasAR (fun M w => F M w ∧ G M w) A c l := ⟨fun M w k => h.get M w k.1⟩
instance HasAR.right {F G : List Nat → World → Prop} {A : Option Addr} {c : Nat} {l : List Tm} [h : HasAR G A c l] : HasAR (fun M w => F M w ∧ G M w) A c l := ⟨fun M w k => h.get M w k.2⟩
instance (priority := high) HasAR.here {A : Option Addr} {c : Nat} {l : List Tm} : HasAR (AR A c l) A c l := ⟨fun M w h => h⟩

class HasVR (F : List Nat → World → Prop) (A : Option Addr) (c : Nat) (l : outParam (List Value)) : Prop where
  get : ∀ M w, F M w → VR A c l M w
instance (priority := low) HasVR.nil {F : List Nat → World → Prop} {c : Nat} : HasVR F none c [] := ⟨fun M w _ => VR.nil _ _ _ _⟩
instance HasVR.left {F G : List Nat → World → Prop} {A : Option Addr} {c : Nat} {l : List Value} [h : HasVR F A c l] : HasVR (fun M w => F M w ∧ G M w) A c l := ⟨fun M w k => h.get M w k.1⟩
instance HasVR.right {F G : List Nat → World → Prop} {A : Option Addr} {c : Nat} {l : List Value} [h : HasVR G A c l] : HasVR (fun M w => F M w ∧ G M w) A c l := ⟨fun M w k => h.get M w k.2⟩
instance (priority := high) HasVR.here {A : Option Addr} {c : Nat} {l : List Value} : HasVR (VR A c l) A c l := ⟨fun M w h => h⟩

/-- Known cells of a block, from a place on. -/
class HasCell (F : List Nat → World → Prop) (b : Nat) (a : outParam Nat) (cs : outParam (List Value)) : Prop where
  get : ∀ M w, F M w → CellF b a cs M w
instance HasCell.left {F G : List Nat → World → Prop} {b a : Nat} {cs : List Value} [h : HasCell F b a cs] : HasCell (fun M w => F M w ∧ G M w) b a cs := ⟨fun M w k => h.get M w k.1⟩
instance HasCell.right {F G : List Nat → World → Prop} {b a : Nat} {cs : List Value} [h : HasCell G b a cs] : HasCell (fun M w => F M w ∧ G M w) b a cs := ⟨fun M w k => h.get M w k.2⟩
instance (priority := high) HasCell.here {b a : Nat} {cs : List Value} : HasCell (CellF b a cs) b a cs := ⟨fun M w h => h⟩

section
variable {M X : List Nat} {w0 w : World} {L : List Res} {F : List Nat → World → Prop}
theorem St.ar (H : St M X w0 w L F) {A : Option Addr} {c : Nat} {l : List Tm} [h : HasAR F A c l] : AR A c l (idsOf L ++ M) w := h.get _ _ H.fact
theorem St.ar0 (H : St M X w0 w L F) {A : Option Addr} {c : Nat} {l : List Tm} [h : HasAR F A c l] : AR A c l [] w := (AR.stab _ _ _).sub _ [] _ (fun _ h => by cases h) (h.get _ _ H.fact)
theorem St.vr (H : St M X w0 w L F) {A : Option Addr} {c : Nat} {l : List Value} [h : HasVR F A c l] : VR A c l (idsOf L ++ M) w := h.get _ _ H.fact
theorem St.arO (H : St M X w0 w L F) {A : Option Addr} {c : Nat} {l : List Tm} [h : HasAR F A c l] : AR A c l M w := h.get _ _ H.out
theorem St.vrO (H : St M X w0 w L F) {A : Option Addr} {c : Nat} {l : List Value} [h : HasVR F A c l] : VR A c l M w := h.get _ _ H.out

/-- A load of cells that are known as a fact; d: how far behind the first. -/
theorem runs_load_cell {P : Program} {ev : Operand → Value} {o : Oper} (H : St M X w0 w L F) {T : TypeId} {x : Operand} {agg : Bool} {n b a d : Nat} {cs : List Value} {v : Value} (ho : o.op = .load T x)
    (hx : ev x = .pointer (some ⟨b, a + d, none⟩)) [h : HasCell F b a cs] (hT : tyShape P T = some (agg, n)) (hv : pickC cs d n agg = some v) : Runs P ev o w fun u w' => u = v ∧ w = w' :=
  ⟨_, _, _, run_load_at ho hx hT (h.get _ _ H.fact).2.2 hv, rfl, rfl, rfl⟩
theorem runs_load_cell0 {P : Program} {ev : Operand → Value} {o : Oper} (H : St M X w0 w L F) {T : TypeId} {x : Operand} {agg : Bool} {n b a : Nat} {cs : List Value} {v : Value} (ho : o.op = .load T x)
    (hx : ev x = .pointer (some ⟨b, a, none⟩)) [h : HasCell F b a cs] (hT : tyShape P T = some (agg, n)) (hv : pickC cs 0 n agg = some v) : Runs P ev o w fun u w' => u = v ∧ w = w' :=
  runs_load_cell (d := 0) H ho hx hT hv
theorem runs_load_obj {P : Program} {ev : Operand → Value} {o : Oper} (H : St M X w0 w L F) {T : TypeId} {x : Operand} {agg : Bool} {n b off : Nat} {cs : List Value} {v : Value} (ho : o.op = .load T x)
    (hx : ev x = .pointer (some ⟨b, off, none⟩)) [h : HasCell F b 0 cs] (hT : tyShape P T = some (agg, n)) (hv : pickC cs off n agg = some v) : Runs P ev o w fun u w' => u = v ∧ w = w' :=
  runs_load_cell (d := off) (a := 0) H ho (by rw [Nat.zero_add]; exact hx) hT hv
end
instance HasCell.obj {b : Nat} {cs : List Value} {ty : TypeId} : HasCell (ObjF b (.cells cs.toArray ty (0, 0))) b 0 cs :=
  ⟨fun M w h => ⟨h.2, (Array.getElem?_eq_some_iff.1 h.1).1, cells_open h.1⟩⟩

/-- A literal of values, let go. -/
theorem VR.ofObj {b : Nat} {l : List Value} {ty : TypeId} {M : List Nat} {w : World} (h : ObjF b (.cells l.toArray ty (0, 0)) M w) : VR (some ⟨b, 0, none⟩) l.length l M w :=
  ⟨Nat.le_refl _, .inr ⟨b, 0, rfl, h.2, (Array.getElem?_eq_some_iff.1 h.1).1, cells_open h.1⟩⟩

/-! ### A guard that is not decided -/
/-- What the guard looks at, if it has one. -/
def guardC (ops : Array Oper) (o : Oper) (a : Act) : Option Bool :=
  match o.guard with
  | none => none
  | some (j, _) => match ops with
    | ⟨l⟩ => match nthO l j with
      | none => none
      | some q => match q.dst with
        | none => none
        | some d => match a.tmps with
          | ⟨ts⟩ => match nthV ts d with
            | .bool c => some c
            | _ => none
theorem wpl_gcase {P : Program} {ops : Array Oper} {Q : Exit → Act → World → Prop} {rest : List Oper} {o : Oper} {a : Act} {w : World} (c : Bool) (hc : guardC ops o a = some c)
    (ht : c = true → wpList P ops Q (o :: rest) a w) (hf : c = false → wpList P ops Q (o :: rest) a w) : wpList P ops Q (o :: rest) a w := by
  cases c
  · exact hf rfl
  · exact ht rfl

theorem wpl_gcaseE {P : Program} {ops : Array Oper} {Q : Exit → Act → World → Prop} {rest : List Oper} {o : Oper} {a : Act} {w : World}
    (h : ∃ c, guardC ops o a = some c ∧ (c = true → wpList P ops Q (o :: rest) a w) ∧ (c = false → wpList P ops Q (o :: rest) a w)) : wpList P ops Q (o :: rest) a w :=
  let ⟨c, hc, ht, hf⟩ := h; wpl_gcase c hc ht hf

def isCallOp : Op → Bool
  | .call _ => true
  | _ => false
/-- A call. -/
theorem wpl_callX {P : Program} {ops : Array Oper} {Q : Exit → Act → World → Prop} {rest : List Oper} {o : Oper} {a : Act} {w : World}
    (h : isCallOp o.op = true ∧ wantC ops o a = true ∧ ∀ K : Act → World → Prop, (∀ a' w', wpList P ops Q rest a' w' → K a' w') → o.wp P a w K Q) : wpList P ops Q (o :: rest) a w :=
  wpList_step fun K hK => by rw [if_pos (wantC_ok h.2.1)]; exact h.2.2 K hK
/-- Operations without arithmetic. -/
def plainOp : Op → Bool
  | .binOp .eql _ _ _ _ => true
  | .binOp .neq _ _ _ _ => true
  | .binOp .lss _ _ _ _ => true
  | .binOp .leq _ _ _ _ => true
  | .binOp .gtr _ _ _ _ => true
  | .binOp .geq _ _ _ _ => true
  | .binOp _ _ _ _ _ => false
  | .convert .. => false
  | .slice .. => false
  | .call .. => false
  | .load .. => false
  | .store .. => false
  | _ => true
/-- An operation that looks into no memory. -/
theorem wpl_pureX {P : Program} {ops : Array Oper} {Q : Exit → Act → World → Prop} {rest : List Oper} {o : Oper} {a : Act} {w : World}
    (h : plainOp o.op = true ∧ wantC ops o a = true ∧ ∃ v, (∀ w, (execOp a.eval o).run P w = .ok (.value v) w) ∧ wpList P ops Q rest (a.put o.dst v) w) : wpList P ops Q (o :: rest) a w :=
  let ⟨_, hg, v, hv, k⟩ := h
  wpl_runx hg ⟨fun u w' => u = v ∧ w = w', ⟨_, _, _, by rw [evC_eq]; exact hv w, rfl, rfl, rfl⟩, fun _ _ ⟨e1, e2⟩ => by subst e1; subst e2; exact k⟩

/-! ### Answers -/
def RetTB (M : List Nat) (w : World) (p : Tm × Bool) (e : Ending) (w' : World) : Prop :=
  ∃ A c, e = .returned (.tuple #[.agg #[.int .i64 p.1.kind, .string p.1.name, .int .i64 p.1.int, .int .u64 p.1.re, .int .u64 p.1.im, .slice A p.1.args.length c], .bool p.2]) ∧ AR A c p.1.args M w' ∧ Ext [] w w'
def RetL (M : List Nat) (w : World) (l : List Tm) (e : Ending) (w' : World) : Prop :=
  ∃ A c, e = .returned (.slice A l.length c) ∧ AR A c l M w' ∧ Ext [] w w'

theorem TsR.consC {M : List Nat} {w : World} {k : Int} {s : ByteArray} {n r i : Int} {A : Option Addr} {c len : Nat} {a : List Tm} {rest : List Value} {l : List Tm} (ha : AR A c a M w) (hl : len = a.length) (h : TsR rest l M w) :
    TsR (.int .i64 k :: .string s :: .int .i64 n :: .int .u64 r :: .int .u64 i :: .slice A len c :: rest) (.mk k s n r i a :: l) M w := by
  subst hl
  exact ⟨[.int .i64 k, .string s, .int .i64 n, .int .u64 r, .int .u64 i, .slice A a.length c], rest, rfl, rfl, by unfold TR; exact ⟨A, c, rfl, ha.1, ha.2⟩, h⟩

/-- The cells of terms, what they say found by their addresses. -/
class HasTs (F : List Nat → World → Prop) (xs : List Value) (l : outParam (List Tm)) : Prop where
  get : ∀ M w, F M w → TsR xs l M w
instance HasTs.nil {F : List Nat → World → Prop} : HasTs F [] [] := ⟨fun M w _ => TsR.nil _ _⟩
class LenIs (n : Nat) (l : List Tm) : Prop where
  eq : n = l.length
instance LenIs.here {l : List Tm} : LenIs l.length l := ⟨rfl⟩
instance LenIs.nil : LenIs 0 [] := ⟨rfl⟩
instance LenIs.one {a : Tm} : LenIs 1 [a] := ⟨rfl⟩
instance LenIs.two {a b : Tm} : LenIs 2 [a, b] := ⟨rfl⟩
instance LenIs.three {a b c : Tm} : LenIs 3 [a, b, c] := ⟨rfl⟩
instance LenIs.four {a b c d : Tm} : LenIs 4 [a, b, c, d] := ⟨rfl⟩
instance (priority := high) HasTs.consT {F : List Nat → World → Prop} {t : Tm} {A : Option Addr} {c : Nat} {rest : List Value} {l : List Tm} [h1 : HasAR F A c t.args] [h2 : HasTs F rest l] :
    HasTs F (.int .i64 t.kind :: .string t.name :: .int .i64 t.int :: .int .u64 t.re :: .int .u64 t.im :: .slice A t.args.length c :: rest) (t :: l) := ⟨fun M w h => TsR.cons (h1.get M w h) (h2.get M w h)⟩
instance HasTs.cons {F : List Nat → World → Prop} {k : Int} {s : ByteArray} {n r i : Int} {A : Option Addr} {c len : Nat} {a : List Tm} {rest : List Value} {l : List Tm} [h1 : HasAR F A c a] [h3 : LenIs len a] [h2 : HasTs F rest l] :
    HasTs F (.int .i64 k :: .string s :: .int .i64 n :: .int .u64 r :: .int .u64 i :: .slice A len c :: rest) (.mk k s n r i a :: l) := ⟨fun M w h => TsR.consC (h1.get M w h) h3.eq (h2.get M w h)⟩

/-- A literal of terms, let go. -/
theorem St.sealLitC {M : List Nat} {w0 w : World} {L : List Res} {F : List Nat → World → Prop} {b : Nat} {xs : List Value} {ty : TypeId} (H : St M [] w0 w (.obj b (.cells xs.toArray ty (0, 0)) :: L) F) {l : List Tm} [h : HasTs F xs l] :
    St M [] w0 w L fun M w => F M w ∧ AR (some ⟨b, 0, none⟩) l.length l M w := H.sealLit 0 rfl h.get rfl
end Go.Proofs.Ytgopldabdheehaa
