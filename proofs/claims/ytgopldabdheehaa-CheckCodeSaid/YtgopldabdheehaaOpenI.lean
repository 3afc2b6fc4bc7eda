/- Instructions and code that a statement is handed, read. -/
import Derived.Test.YtgopldabdheehaaOpen
import Derived.Test.YtgopldabdheehaaChk0
namespace Go.Proofs.Ytgopldabdheehaa
open Go.RowKit Go.ChangeShapes Go.WideShapes Go.ChangeAt
set_option linter.unusedVariables false
set_option linter.unusedSimpArgs false
set_option maxRecDepth 100000
theorem Try.cof27 : Try.prog.cellsOf 27 = 11 := by kernel_rfl
theorem Try.cof34 : Try.prog.cellsOf 34 = 4 := by kernel_rfl
theorem Try.cof32 : Try.prog.cellsOf 32 = 1 := by kernel_rfl
section
variable {H : Type} {enc : TypeId × Value → H} {w : World} {sp : Nat → Bool} {held : Bool}
theorem trod_instr (fuel : Nat) (cs : List Value) (x : DataW H × List MemPlace) (h : DataW.trod enc Try.prog w 0 sp held fuel 27 cs = some x) : ∃ (y : Ins) (A : Option Addr) (c : Nat), cs = cellsI y A c ∧ AR A c y.con.args [] w ∧ wfT y.con := by
  obtain ⟨xs, n, rfl, rfl, hlen, hxs, hf⟩ := DataW.trod_struct Try.underlying27 h
  rw [Try.cof27] at hlen
  have hxs : xs.length = 6 := hxs
  obtain ⟨c0, c1, c2, c3, c4, c5, c6, c7, c8, c9, c10, rfl⟩ : ∃ c0 c1 c2 c3 c4 c5 c6 c7 c8 c9 c10, cs = [c0, c1, c2, c3, c4, c5, c6, c7, c8, c9, c10] := by
    match cs, hlen with
    | [c0, c1, c2, c3, c4, c5, c6, c7, c8, c9, c10], _ => exact ⟨c0, c1, c2, c3, c4, c5, c6, c7, c8, c9, c10, rfl⟩
  have g0 : DataW.trod enc Try.prog w 0 sp held n 3 (([c0, c1, c2, c3, c4, c5, c6, c7, c8, c9, c10].drop 0).take (Try.prog.cellsOf 3)) = xs[0]? := hf 0 _ rfl
  have g1 : DataW.trod enc Try.prog w 0 sp held n 3 (([c0, c1, c2, c3, c4, c5, c6, c7, c8, c9, c10].drop 1).take (Try.prog.cellsOf 3)) = xs[1]? := hf 1 _ rfl
  have g2 : DataW.trod enc Try.prog w 0 sp held n 3 (([c0, c1, c2, c3, c4, c5, c6, c7, c8, c9, c10].drop 2).take (Try.prog.cellsOf 3)) = xs[2]? := hf 2 _ rfl
  have g3 : DataW.trod enc Try.prog w 0 sp held n 9 (([c0, c1, c2, c3, c4, c5, c6, c7, c8, c9, c10].drop 3).take (Try.prog.cellsOf 9)) = xs[3]? := hf 3 _ rfl
  have g4 : DataW.trod enc Try.prog w 0 sp held n 3 (([c0, c1, c2, c3, c4, c5, c6, c7, c8, c9, c10].drop 4).take (Try.prog.cellsOf 3)) = xs[4]? := hf 4 _ rfl
  have g5 : DataW.trod enc Try.prog w 0 sp held n 25 (([c0, c1, c2, c3, c4, c5, c6, c7, c8, c9, c10].drop 5).take (Try.prog.cellsOf 25)) = xs[5]? := hf 5 _ rfl
  rw [List.getElem?_eq_getElem (by omega)] at g0 g1 g2 g3 g4 g5
  simp only [Try.cof3] at g0 g1 g2 g4
  simp only [Try.cof9] at g3
  simp only [Try.cof25] at g5
  obtain ⟨k, e0, _, _⟩ := DataW.trod_int Try.underlying3 g0
  obtain ⟨a, e1, _, _⟩ := DataW.trod_int Try.underlying3 g1
  obtain ⟨b, e2, _, _⟩ := DataW.trod_int Try.underlying3 g2
  obtain ⟨s, e3, _, _⟩ := DataW.trod_string Try.underlying9 g3
  obtain ⟨m, e4, _, _⟩ := DataW.trod_int Try.underlying3 g4
  obtain ⟨t, e5, ht, hw⟩ := trod_term _ _ _ g5
  cases t with
  | mk k' s' n' r' i' l' =>
    unfold TR at ht
    obtain ⟨A, c, e, hc, hr⟩ := ht
    simp at e0 e1 e2 e3 e4 e
    obtain ⟨rfl, rfl, rfl, rfl, rfl, rfl⟩ := e
    subst e0; subst e1; subst e2; subst e3; subst e4
    exact ⟨⟨k, a, b, s, m, .mk k' s' n' r' i' l'⟩, A, c, rfl, ⟨hc, hr⟩, hw⟩
/-- An instruction that is handed. -/
theorem open_instr {r : Reach} {b0 : Nat} {v : Value} {d : DataW H} {ps : List MemPlace} (hv : Value.okWide Try.prog w r b0 27 v) (h : DataW.Trod enc Try.prog w 0 sp held 27 v d ps) :
    ∃ (x : Ins) (A : Option Addr) (c : Nat), v = .agg #[.int .i64 x.op, .int .i64 x.a, .int .i64 x.b, .string x.name, .int .i64 x.ar, .int .i64 x.con.kind, .string x.con.name, .int .i64 x.con.int, .int .u64 x.con.re, .int .u64 x.con.im, .slice A x.con.args.length c] ∧ AR A c x.con.args [] w ∧ wfT x.con := by
  obtain ⟨cs, rfl, _⟩ := okWide_struct Try.underlying27 hv
  obtain ⟨fuel, hf⟩ := h
  obtain ⟨x, A, c, e, ha, hw⟩ := trod_instr fuel _ _ hf
  simp only [Value.cells] at e
  obtain ⟨cs⟩ := cs
  simp only at e
  subst e
  exact ⟨x, A, c, rfl, ha, hw⟩
end
end Go.Proofs.Ytgopldabdheehaa
