/- Code: instructions, how they lie in memory, and what fits. -/
import Derived.Test.YtgopldabdheehaaStd
import Derived.Test.YtgopldabdheehaaPlan3
namespace Go.Proofs.Ytgopldabdheehaa
open Go.RowKit
set_option linter.unusedVariables false
set_option linter.unusedSimpArgs false
set_option maxRecDepth 20000
set_option maxHeartbeats 4000000

/-- An instruction. -/
structure Ins where
  op : Int
  a : Int
  b : Int
  name : ByteArray
  ar : Int
  con : Tm
theorem Ins.eta (x : Ins) : Ins.mk x.op x.a x.b x.name x.ar x.con = x := rfl
def cellsI (x : Ins) (A : Option Addr) (c : Nat) : List Value := [.int .i64 x.op, .int .i64 x.a, .int .i64 x.b, .string x.name, .int .i64 x.ar, .int .i64 x.con.kind, .string x.con.name, .int .i64 x.con.int, .int .u64 x.con.re, .int .u64 x.con.im, .slice A x.con.args.length c]
/-- A slice of instructions. -/
def IR (A : Option Addr) (cap : Nat) (l : List Ins) (M : List Nat) (w : World) : Prop :=
  l.length ≤ cap ∧ ∀ (j : Nat) (x : Ins), l[j]? = some x → ∃ b o A' c', A = some ⟨b, o, none⟩ ∧ CellF b (o + j * 11) (cellsI x A' c') M w ∧ AR A' c' x.con.args M w
theorem IR.stab (A : Option Addr) (cap : Nat) (l : List Ins) : Stab (IR A cap l) :=
  (Stab.const _).and (Stab.all fun _ => Stab.all fun _ => Stab.imp (Stab.ex fun _ => Stab.ex fun _ => Stab.ex fun _ => Stab.ex fun _ => (Stab.const _).and ((CellF.stab _ _ _).and (AR.stab _ _ _))))
theorem IR.nil (A : Option Addr) (cap : Nat) (M : List Nat) (w : World) : IR A cap [] M w := ⟨Nat.zero_le _, fun j x h => by simp at h⟩
class HasIR (F : List Nat → World → Prop) (A : Option Addr) (c : Nat) (l : outParam (List Ins)) : Prop where
  get : ∀ M w, F M w → IR A c l M w
instance (priority := low) HasIR.nil {F : List Nat → World → Prop} {c : Nat} : HasIR F none c [] := ⟨fun M w _ => IR.nil _ _ _ _⟩
instance HasIR.left {F G : List Nat → World → Prop} {A : Option Addr} {c : Nat} {l : List Ins} [h : HasIR F A c l] : HasIR (fun M w => F M w ∧ G M w) A c l := ⟨fun M w k => h.get M w k.1⟩
instance HasIR.right {F G : List Nat → World → Prop} {A : Option Addr} {c : Nat} {l : List Ins} [h : HasIR G A c l] : HasIR (fun M w => F M w ∧ G M w) A c l := ⟨fun M w k => h.get M w k.2⟩
instance (priority := high) HasIR.here {A : Option Addr} {c : Nat} {l : List Ins} : HasIR (IR A c l) A c l := ⟨fun M w h => h⟩
theorem St.ir {M X : List Nat} {w0 w : World} {L : List Res} {F : List Nat → World → Prop} (H : St M X w0 w L F) {A : Option Addr} {c : Nat} {l : List Ins} [h : HasIR F A c l] : IR A c l (idsOf L ++ M) w := h.get _ _ H.fact

/-! ### What fits -/
def shA (op : Int) : Bool := op == 1 || op == 2 || op == 8 || op == 9 || op == 3 || op == 10 || op == 4 || op == 11 || op == 5 || op == 6 || op == 12 || op == 13
def shB (op : Int) : Bool := op == 1 || op == 2 || op == 8 || op == 9
def shF (op : Int) : Bool := op == 4 || op == 11
def shK (op : Int) : Bool := op == 3 || op == 10 || op == 7 || op == 14
def shOk (op : Int) : Bool := decide (1 ≤ op) && decide (op ≤ 18)
def belowE (n m : Int) : Bool := decide (0 ≤ n) && decide (n < m)
def withinE (n a b : Int) : Bool := decide (a ≤ n) && decide (n ≤ b)
def constE (t : Tm) : Bool := mayE t == 0 && (t.kind == 2 || t.kind == 3 || t.kind == 4)
def longE (s : ByteArray) : Bool := decide ((200 : Int) < (s.size : Int))
def fitsE (x : Ins) (r : Int) : Bool :=
  shOk x.op && (!shA x.op || belowE x.a r) && (!shB x.op || belowE x.b r) && (!shK x.op || constE x.con) && (!shF x.op || (!longE x.name && withinE x.ar 1 20)) && (!(x.op == 15) || (!longE x.name && withinE x.ar 0 20))
/-- An operation is one of the eighteen, or none. -/
theorem op_cases (op : Int) : op = 1 ∨ op = 2 ∨ op = 3 ∨ op = 4 ∨ op = 5 ∨ op = 6 ∨ op = 7 ∨ op = 8 ∨ op = 9 ∨ op = 10 ∨ op = 11 ∨ op = 12 ∨ op = 13 ∨ op = 14 ∨ op = 15 ∨ op = 16 ∨ op = 17 ∨ op = 18 ∨ (op < 1 ∨ 18 < op) := by omega
theorem op_other {op : Int} (h : op < 1 ∨ 18 < op) : (op == 1) = false ∧ (op == 2) = false ∧ (op == 3) = false ∧ (op == 4) = false ∧ (op == 5) = false ∧ (op == 6) = false ∧ (op == 7) = false ∧ (op == 8) = false ∧ (op == 9) = false ∧ (op == 10) = false ∧ (op == 11) = false ∧ (op == 12) = false ∧ (op == 13) = false ∧ (op == 14) = false ∧ (op == 15) = false ∧ (op == 16) = false ∧ (op == 17) = false ∧ (op == 18) = false := by
  refine ⟨?_, ?_, ?_, ?_, ?_, ?_, ?_, ?_, ?_, ?_, ?_, ?_, ?_, ?_, ?_, ?_, ?_, ?_⟩ <;> (rw [beq_eq_false_iff_ne]; omega)
theorem sh_cases (op : Int) : shOk op = false ∨ (shOk op = true ∧ shA op = true ∧ shB op = true ∧ shF op = false ∧ shK op = false ∧ (op == 15) = false) ∨ (shOk op = true ∧ shA op = true ∧ shB op = false ∧ shF op = false ∧ shK op = true ∧ (op == 15) = false) ∨ (shOk op = true ∧ shA op = true ∧ shB op = false ∧ shF op = true ∧ shK op = false ∧ (op == 15) = false) ∨ (shOk op = true ∧ shA op = true ∧ shB op = false ∧ shF op = false ∧ shK op = false ∧ (op == 15) = false) ∨ (shOk op = true ∧ shA op = false ∧ shB op = false ∧ shF op = false ∧ shK op = true ∧ (op == 15) = false) ∨ (shOk op = true ∧ shA op = false ∧ shB op = false ∧ shF op = false ∧ shK op = false ∧ (op == 15) = true) ∨ (shOk op = true ∧ shA op = false ∧ shB op = false ∧ shF op = false ∧ shK op = false ∧ (op == 15) = false) := by
  rcases op_cases op with rfl | rfl | rfl | rfl | rfl | rfl | rfl | rfl | rfl | rfl | rfl | rfl | rfl | rfl | rfl | rfl | rfl | rfl | h
  rotate_right
  · left
    unfold shOk
    rcases h with h | h <;> (simp; omega)
  all_goals decide
theorem b2 (b : Bool) : b = false ∨ b = true := by cases b <;> simp
theorem fits_cases (x : Ins) (r : Int) : shOk x.op = false ∨
    (shOk x.op = true ∧ shA x.op = true ∧ shB x.op = true ∧ shF x.op = false ∧ shK x.op = false ∧ (x.op == 15) = false ∧ (belowE x.a r = false ∨ (belowE x.a r = true ∧ (belowE x.b r = false ∨ belowE x.b r = true)))) ∨
    (shOk x.op = true ∧ shA x.op = true ∧ shB x.op = false ∧ shF x.op = false ∧ shK x.op = true ∧ (x.op == 15) = false ∧ (belowE x.a r = false ∨ (belowE x.a r = true ∧ (constE x.con = false ∨ constE x.con = true)))) ∨
    (shOk x.op = true ∧ shA x.op = true ∧ shB x.op = false ∧ shF x.op = true ∧ shK x.op = false ∧ (x.op == 15) = false ∧ (belowE x.a r = false ∨ (belowE x.a r = true ∧ (decide ((200 : Int) < (x.name.size : Int)) = true ∨ (decide ((200 : Int) < (x.name.size : Int)) = false ∧ (withinE x.ar 1 20 = false ∨ withinE x.ar 1 20 = true)))))) ∨
    (shOk x.op = true ∧ shA x.op = true ∧ shB x.op = false ∧ shF x.op = false ∧ shK x.op = false ∧ (x.op == 15) = false ∧ (belowE x.a r = false ∨ belowE x.a r = true)) ∨
    (shOk x.op = true ∧ shA x.op = false ∧ shB x.op = false ∧ shF x.op = false ∧ shK x.op = true ∧ (x.op == 15) = false ∧ (constE x.con = false ∨ constE x.con = true)) ∨
    (shOk x.op = true ∧ shA x.op = false ∧ shB x.op = false ∧ shF x.op = false ∧ shK x.op = false ∧ (x.op == 15) = true ∧ (decide ((200 : Int) < (x.name.size : Int)) = true ∨ (decide ((200 : Int) < (x.name.size : Int)) = false ∧ (withinE x.ar 0 20 = false ∨ withinE x.ar 0 20 = true)))) ∨
    (shOk x.op = true ∧ shA x.op = false ∧ shB x.op = false ∧ shF x.op = false ∧ shK x.op = false ∧ (x.op == 15) = false) := by
  have e1 := b2 (belowE x.a r)
  have e2 := b2 (belowE x.b r)
  have e3 := b2 (constE x.con)
  have e4 := b2 (decide ((200 : Int) < (x.name.size : Int)))
  have e5 := b2 (withinE x.ar 1 20)
  have e6 := b2 (withinE x.ar 0 20)
  rcases sh_cases x.op with h | ⟨h1, h2, h3, h4, h5, h6⟩ | ⟨h1, h2, h3, h4, h5, h6⟩ | ⟨h1, h2, h3, h4, h5, h6⟩ | ⟨h1, h2, h3, h4, h5, h6⟩ | ⟨h1, h2, h3, h4, h5, h6⟩ | ⟨h1, h2, h3, h4, h5, h6⟩ | ⟨h1, h2, h3, h4, h5, h6⟩
  · exact .inl h
  · refine .inr (.inl ⟨h1, h2, h3, h4, h5, h6, ?_⟩)
    rcases e1 with e | e
    · exact .inl e
    · exact .inr ⟨e, e2⟩
  · refine .inr (.inr (.inl ⟨h1, h2, h3, h4, h5, h6, ?_⟩))
    rcases e1 with e | e
    · exact .inl e
    · exact .inr ⟨e, e3⟩
  · refine .inr (.inr (.inr (.inl ⟨h1, h2, h3, h4, h5, h6, ?_⟩)))
    rcases e1 with e | e
    · exact .inl e
    · rcases e4 with f | f
      · exact .inr ⟨e, .inr ⟨f, e5⟩⟩
      · exact .inr ⟨e, .inl f⟩
  · exact .inr (.inr (.inr (.inr (.inl ⟨h1, h2, h3, h4, h5, h6, e1⟩))))
  · exact .inr (.inr (.inr (.inr (.inr (.inl ⟨h1, h2, h3, h4, h5, h6, e3⟩)))))
  · refine .inr (.inr (.inr (.inr (.inr (.inr (.inl ⟨h1, h2, h3, h4, h5, h6, ?_⟩))))))
    rcases e4 with f | f
    · exact .inr ⟨f, e6⟩
    · exact .inl f
  · exact .inr (.inr (.inr (.inr (.inr (.inr (.inr ⟨h1, h2, h3, h4, h5, h6⟩))))))
attribute [irreducible] fitsE
end Go.Proofs.Ytgopldabdheehaa
