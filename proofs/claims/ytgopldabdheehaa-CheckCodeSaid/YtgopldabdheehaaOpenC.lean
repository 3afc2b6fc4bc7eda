/- Code that a statement is handed, read. -/
import Derived.Test.YtgopldabdheehaaOpenI
namespace Go.Proofs.Ytgopldabdheehaa
open Go.RowKit Go.ChangeShapes Go.WideShapes Go.ChangeAt
set_option linter.unusedVariables false
set_option linter.unusedSimpArgs false
set_option maxRecDepth 100000
section
variable {H : Type} {enc : TypeId × Value → H} {w : World} {sp : Nat → Bool} {held : Bool}
theorem trod_instrs {fuel : Nat} {cs : List Value} {x : DataW H × List MemPlace} (h : DataW.trod enc Try.prog w 0 sp held fuel 32 cs = some x) : ∃ A c l, cs = [.slice A l.length c] ∧ IR A c l [] w ∧ l.length ≤ maxLen ∧ ∀ y ∈ l, wfT y.con := by
  rcases DataW.trod_slice Try.underlying32 h with ⟨rfl, _⟩ | ⟨a, len, cap, elems, rest, n, rfl, rfl, _, _, hlc, hcm, hel, hi, _, _⟩
  · exact ⟨none, 0, [], rfl, IR.nil _ _ _ _, Nat.zero_le _, by simp⟩
  · rw [Try.cof27] at hi
    have key : ∀ i, i < len → ∃ (y : Ins) (A : Option Addr) (c : Nat), w.cells? 0 (a.add (i * 11)) 11 = some (cellsI y A c) ∧ AR A c y.con.args [] w ∧ wfT y.con := by
      intro i hl
      have := hi i hl
      rw [List.getElem?_eq_getElem (by omega)] at this
      obtain ⟨cs', h1, h2⟩ := Option.bind_eq_some_iff.1 this
      obtain ⟨y, A, c, rfl, h4, h5⟩ := trod_instr n cs' _ h2
      exact ⟨y, A, c, h1, h4, h5⟩
    refine ⟨some a, cap, (List.range len).map (fun i => if h : i < len then (key i h).choose else ⟨0, 0, 0, ⟨#[]⟩, 0, Tm.zero⟩), by simp, ⟨by simpa using hlc, ?_⟩, by simp; omega, ?_⟩
    · intro j y hy
      have hj : j < len := by
        have := (List.getElem?_eq_some_iff.1 hy).1
        simpa using this
      rw [List.getElem?_map, List.getElem?_range hj] at hy
      simp only [Option.map_some, Option.some.injEq, dif_pos hj] at hy
      subst hy
      obtain ⟨A, c, h1, h2, _⟩ := (key j hj).choose_spec
      have hr := (cells_read h1).2
      have h0 : ∀ k v, (cellsI (key j hj).choose A c)[k]? = some v → w.cell? ((a.add (j * 11)).add k) = some v := hr
      have ha0 := cell_lt (h0 0 _ rfl)
      have hspot : a.spot = none := by
        by_cases hj0 : j = 0
        · subst hj0; simpa [Addr.add] using ha0.1
        · obtain ⟨y0, A0, c0, g1, _, _⟩ := key 0 (by omega)
          have := (cells_read g1).2 0 _ rfl
          simpa [Addr.add] using (cell_lt this).1
      have hblk : ((a.add (j * 11)).add 0).block = a.block := by unfold Addr.add; split <;> split <;> rfl
      rw [hblk] at ha0
      obtain ⟨ab, ao, asp⟩ := a
      simp only at hspot
      subst hspot
      refine ⟨ab, ao, A, c, rfl, ⟨by simp, ha0.2, fun k v hv => ?_⟩, h2⟩
      have := h0 k v hv
      rw [add_off, add_off] at this
      exact this
    · intro y hy
      simp only [List.mem_map, List.mem_range] at hy
      obtain ⟨i, hi', rfl⟩ := hy
      simp only [dif_pos hi']
      obtain ⟨_, _, _, _, h⟩ := (key i hi').choose_spec
      exact h
/-- Code that is handed. -/
theorem open_code {r : Reach} {b0 : Nat} {v : Value} {d : DataW H} {ps : List MemPlace} (hv : Value.okWide Try.prog w r b0 34 v) (h : DataW.Trod enc Try.prog w 0 sp held 34 v d ps) :
    ∃ (m : ByteArray) (a r : Int) (A : Option Addr) (c : Nat) (l : List Ins), v = .agg #[.string m, .int .i64 a, .int .i64 r, .slice A l.length c] ∧ IR A c l [] w ∧ l.length ≤ maxLen ∧ ∀ y ∈ l, wfT y.con := by
  obtain ⟨cs, rfl, _⟩ := okWide_struct Try.underlying34 hv
  obtain ⟨fuel, hf⟩ := h
  obtain ⟨xs, n, rfl, _, hlen, hxs, hf⟩ := DataW.trod_struct Try.underlying34 hf
  rw [Try.cof34] at hlen
  have hxs : xs.length = 4 := hxs
  obtain ⟨cs⟩ := cs
  simp only [Value.cells] at hlen hf
  obtain ⟨c0, c1, c2, c3, rfl⟩ : ∃ c0 c1 c2 c3, cs = [c0, c1, c2, c3] := by
    match cs, hlen with
    | [c0, c1, c2, c3], _ => exact ⟨c0, c1, c2, c3, rfl⟩
  have g0 : DataW.trod enc Try.prog w 0 sp held n 9 (([c0, c1, c2, c3].drop 0).take (Try.prog.cellsOf 9)) = xs[0]? := hf 0 _ rfl
  have g1 : DataW.trod enc Try.prog w 0 sp held n 3 (([c0, c1, c2, c3].drop 1).take (Try.prog.cellsOf 3)) = xs[1]? := hf 1 _ rfl
  have g2 : DataW.trod enc Try.prog w 0 sp held n 3 (([c0, c1, c2, c3].drop 2).take (Try.prog.cellsOf 3)) = xs[2]? := hf 2 _ rfl
  have g3 : DataW.trod enc Try.prog w 0 sp held n 32 (([c0, c1, c2, c3].drop 3).take (Try.prog.cellsOf 32)) = xs[3]? := hf 3 _ rfl
  rw [List.getElem?_eq_getElem (by omega)] at g0 g1 g2 g3
  simp only [Try.cof9] at g0
  simp only [Try.cof3] at g1 g2
  simp only [Try.cof32] at g3
  obtain ⟨m, e0, _, _⟩ := DataW.trod_string Try.underlying9 g0
  obtain ⟨a, e1, _, _⟩ := DataW.trod_int Try.underlying3 g1
  obtain ⟨r', e2, _, _⟩ := DataW.trod_int Try.underlying3 g2
  obtain ⟨A, c, l, e3, hi, hl, hw⟩ := trod_instrs g3
  simp at e0 e1 e2 e3
  subst e0; subst e1; subst e2; subst e3
  exact ⟨m, a, r', A, c, l, rfl, hi, hl, hw⟩
end
end Go.Proofs.Ytgopldabdheehaa
