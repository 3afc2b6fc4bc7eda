/- Operators that a statement is handed, read. -/
import Derived.Test.YthapmdlminnihaaChecked
import Derived.Test.YthapmdlminnihaaOpB
import Derived.WalkKit
import Derived.ProofKit
import Derived.OpenShut
import Derived.ShutString
import Derived.ChangeOld
import Derived.Below
import Derived.SizedLaws
import Derived.Deep.Slices
namespace Go.Proofs.Ythapmdlminnihaa
open Go.RowKit Go.ChangeShapes Go.WideShapes Go.ChangeAt
set_option linter.unusedVariables false
set_option linter.unusedSimpArgs false
set_option maxRecDepth 100000
theorem Try.cof3 : Try.prog.cellsOf 3 = 1 := by kernel_rfl
theorem Try.cof9 : Try.prog.cellsOf 9 = 1 := by kernel_rfl
theorem Try.cof32 : Try.prog.cellsOf 32 = 3 := by kernel_rfl
theorem Try.cof22 : Try.prog.cellsOf 22 = 1 := by kernel_rfl
/-- Cells that are read in a row. -/
theorem cells_read {w : World} {a : Addr} {n : Nat} {cs : List Value} (h : w.cells? 0 a n = some cs) :
    cs.length = n ∧ (∀ k v, cs[k]? = some v → w.cell? (a.add k) = some v) := by
  unfold World.cells? at h
  rw [if_pos (Nat.zero_le _)] at h
  have hl := mapM_some_length h
  rw [List.length_range] at hl
  refine ⟨hl, fun k v hv => ?_⟩
  have hk : k < n := by rw [← hl]; exact (List.getElem?_eq_some_iff.1 hv).1
  have := mapM_some_get h k k (by simp [hk])
  rw [this, hv]
theorem cell_lt {w : World} {a : Addr} {v : Value} (h : w.cell? a = some v) : a.spot = none ∧ a.block < w.heap.size := by
  unfold World.cell? at h
  split at h
  · rename_i c _ _ hb
    split at h
    · cases h
    · rename_i hs
      exact ⟨by simpa using hs, (Array.getElem?_eq_some_iff.1 hb).1⟩
  · cases h
section
variable {H : Type} {enc : TypeId × Value → H} {w : World} {sp : Nat → Bool} {held : Bool}
theorem trod_op (fuel : Nat) (cs : List Value) (x : DataW H × List MemPlace) (h : DataW.trod enc Try.prog w 0 sp held fuel 32 cs = some x) : ∃ y : OpT, cs = oc y := by
  obtain ⟨xs, n, rfl, rfl, hlen, hxs, hf⟩ := DataW.trod_struct Try.underlying32 h
  rw [Try.cof32] at hlen
  have hxs : xs.length = 3 := hxs
  obtain ⟨c0, c1, c2, rfl⟩ : ∃ c0 c1 c2, cs = [c0, c1, c2] := by
    match cs, hlen with
    | [c0, c1, c2], _ => exact ⟨c0, c1, c2, rfl⟩
  have g0 : DataW.trod enc Try.prog w 0 sp held n 9 (([c0, c1, c2].drop 0).take (Try.prog.cellsOf 9)) = xs[0]? := hf 0 _ rfl
  have g1 : DataW.trod enc Try.prog w 0 sp held n 3 (([c0, c1, c2].drop 1).take (Try.prog.cellsOf 3)) = xs[1]? := hf 1 _ rfl
  have g2 : DataW.trod enc Try.prog w 0 sp held n 3 (([c0, c1, c2].drop 2).take (Try.prog.cellsOf 3)) = xs[2]? := hf 2 _ rfl
  rw [List.getElem?_eq_getElem (by omega)] at g0 g1 g2
  simp only [Try.cof3] at g1 g2
  simp only [Try.cof9] at g0
  obtain ⟨s, e0, _, _⟩ := DataW.trod_string Try.underlying9 g0
  obtain ⟨a, e1, _, _⟩ := DataW.trod_int Try.underlying3 g1
  obtain ⟨b, e2, _, _⟩ := DataW.trod_int Try.underlying3 g2
  simp at e0 e1 e2
  subst e0; subst e1; subst e2
  exact ⟨⟨s, a, b⟩, rfl⟩
/-- An operator that is handed. -/
theorem open_op {r : Reach} {b0 : Nat} {v : Value} {d : DataW H} {ps : List MemPlace} (hv : Value.okWide Try.prog w r b0 32 v) (h : DataW.Trod enc Try.prog w 0 sp held 32 v d ps) :
    ∃ x : OpT, v = .agg #[.string x.name, .int .i64 x.ty, .int .i64 x.pr] := by
  obtain ⟨cs, rfl, _⟩ := okWide_struct Try.underlying32 hv
  obtain ⟨fuel, hf⟩ := h
  obtain ⟨x, e⟩ := trod_op fuel _ _ hf
  simp only [Value.cells] at e
  obtain ⟨cs⟩ := cs
  simp only at e
  subst e
  exact ⟨x, rfl⟩
theorem opsL_block {l : List OpT} {b o : Nat} {w : World} (h : ∀ j x, l[j]? = some x → ∀ q v, (oc x)[q]? = some v → w.cell? ⟨b, o + j * 3 + q, none⟩ = some v) : ∀ j v, (opsL l)[j]? = some v → w.cell? ⟨b, o + j, none⟩ = some v := by
  intro j v hj
  have hjl := (List.getElem?_eq_some_iff.1 hj).1
  rw [opsL_len] at hjl
  obtain ⟨x, hx⟩ : ∃ x, l[j / 3]? = some x := ⟨_, List.getElem?_eq_getElem (by omega)⟩
  have h3 : j % 3 < (oc x).length := Nat.mod_lt _ (by decide)
  have hr := opsL_rc l (j / 3) hx (j % 3) _ (List.getElem?_eq_getElem h3)
  have e : j / 3 * 3 + j % 3 = j := by omega
  rw [e, hj] at hr
  have := h _ _ hx (j % 3) _ (List.getElem?_eq_getElem h3)
  rw [Nat.add_assoc, e] at this
  rw [this, hr]
/-- A slice of operators that is handed. -/
theorem open_ops {r : Reach} {b0 : Nat} {v : Value} {d : DataW H} {ps : List MemPlace} (hv : Value.okWide Try.prog w r b0 22 v) (h : DataW.Trod enc Try.prog w 0 sp held 22 v d ps) :
    ∃ A c l, v = .slice A l.length c ∧ OR A c l [] w ∧ l.length ≤ maxLen := by
  obtain ⟨A, len, cap, rfl⟩ := okWide_slice Try.underlying22 hv
  obtain ⟨fuel, hf⟩ := h
  rcases DataW.trod_slice Try.underlying22 hf with ⟨e, _⟩ | ⟨a, len', cap', elems, rest, n, rfl, e, _, _, hlc, hcm, hel, hi, _, _⟩
  · simp [Value.cells] at e
    obtain ⟨rfl, rfl, rfl⟩ := e
    exact ⟨none, 0, [], rfl, OR.nil _ _ _ _, Nat.zero_le _⟩
  · simp [Value.cells] at e
    obtain ⟨rfl, rfl, rfl⟩ := e
    rw [Try.cof32] at hi
    have key : ∀ i, i < len → ∃ y : OpT, w.cells? 0 (a.add (i * 3)) 3 = some (oc y) := by
      intro i hl
      have := hi i hl
      rw [List.getElem?_eq_getElem (by omega)] at this
      obtain ⟨cs', h1, h2⟩ := Option.bind_eq_some_iff.1 this
      obtain ⟨y, rfl⟩ := trod_op n cs' _ h2
      exact ⟨y, h1⟩
    refine ⟨some a, cap, (List.range len).map (fun i => if h : i < len then (key i h).choose else ⟨⟨#[]⟩, 0, 0⟩), by simp, ⟨by simpa using hlc, ?_⟩, by simp; omega⟩
    by_cases h0 : len = 0
    · subst h0; left; rfl
    · right
      obtain ⟨y0, g0⟩ := key 0 (by omega)
      have ha0 := cell_lt ((cells_read g0).2 0 _ rfl)
      have hspot : a.spot = none := by simpa [Addr.add] using ha0.1
      have hblk : ((a.add (0 * 3)).add 0).block = a.block := by unfold Addr.add; split <;> simp
      rw [hblk] at ha0
      obtain ⟨ab, ao, asp⟩ := a
      simp only at hspot
      subst hspot
      refine ⟨ab, ao, rfl, by simp, ha0.2, opsL_block fun j x hx q v hq => ?_⟩
      have hj : j < len := by
        have := (List.getElem?_eq_some_iff.1 hx).1
        simpa using this
      rw [List.getElem?_map, List.getElem?_range hj] at hx
      simp only [Option.map_some, Option.some.injEq, dif_pos hj] at hx
      subst hx
      have := (cells_read (key j hj).choose_spec).2 q v hq
      rw [add_off, add_off] at this
      exact this
end
end Go.Proofs.Ythapmdlminnihaa
