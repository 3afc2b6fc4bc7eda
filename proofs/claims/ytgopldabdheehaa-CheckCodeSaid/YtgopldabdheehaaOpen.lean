/- Terms that a statement is handed, read as trees. -/
import Derived.Test.YtgopldabdheehaaChecked
import Derived.Test.YtgopldabdheehaaRep
import Derived.WalkKit
import Derived.ProofKit
import Derived.OpenShut
import Derived.ShutString
import Derived.ChangeOld
import Derived.Below
import Derived.SizedLaws
import Derived.Deep.Slices
namespace Go.Proofs.Ytgopldabdheehaa
open Go.RowKit Go.ChangeShapes Go.WideShapes Go.ChangeAt
set_option linter.unusedVariables false
set_option linter.unusedSimpArgs false
set_option maxRecDepth 100000

theorem Try.cof25 : Try.prog.cellsOf 25 = 6 := by kernel_rfl
theorem Try.cof3 : Try.prog.cellsOf 3 = 1 := by kernel_rfl
theorem Try.cof2 : Try.prog.cellsOf 2 = 1 := by kernel_rfl
theorem Try.cof22 : Try.prog.cellsOf 22 = 1 := by kernel_rfl
theorem Try.cof9 : Try.prog.cellsOf 9 = 1 := by kernel_rfl
theorem Try.cof23 : Try.prog.cellsOf 23 = 1 := by kernel_rfl

theorem rowR_of {M : List Nat} {w : World} {A : Option Addr} (f : Nat → Tm) : ∀ (m i : Nat),
    (∀ j, i ≤ j → j < i + m → ∃ b o cs, A = some ⟨b, o, none⟩ ∧ b ∉ M ∧ b < w.heap.size ∧ cs.length = 6 ∧ (∀ k v, cs[k]? = some v → w.cell? ⟨b, o + (j * 6 + k), none⟩ = some v) ∧ TR M w cs (f j)) →
    RowR M w A i ((List.range' i m).map f)
  | 0, _, _ => by simp only [List.range'_zero, List.map_nil]; unfold RowR; trivial
  | m + 1, i, h => by
    rw [List.range'_succ, List.map_cons]
    unfold RowR
    exact ⟨h i (Nat.le_refl _) (by omega), rowR_of f m (i + 1) fun j h1 h2 => h j (by omega) (by omega)⟩

/-- Cells that are read in a row. -/
theorem cells_read {w : World} {a : Addr} {n : Nat} {cs : List Value} (h : w.cells? 0 a n = some cs) :
    cs.length = n ∧ (∀ k v, cs[k]? = some v → w.cell? (a.add k) = some v) := by
  unfold World.cells? at h
  rw [if_pos (Nat.zero_le _)] at h
  have hl := mapM_some_length h
  rw [List.length_range] at hl
  refine ⟨hl, fun k v hv => ?_⟩
  have hk : k < n := by rw [← hl]; exact (List.getElem?_eq_some_iff.1 hv).1
  have := mapM_some_get h k k (by simp [hk])
  rw [this, hv]
theorem cell_lt {w : World} {a : Addr} {v : Value} (h : w.cell? a = some v) : a.spot = none ∧ a.block < w.heap.size := by
  unfold World.cell? at h
  split at h
  · rename_i c _ _ hb
    split at h
    · cases h
    · rename_i hs
      exact ⟨by simpa using hs, (Array.getElem?_eq_some_iff.1 hb).1⟩
  · cases h

mutual
/-- What the reading tells of each node. -/
def wfT : Tm → Prop
  | .mk k s n r i l => (Lit.int .i64 k).wf = true ∧ s.size ≤ maxLen ∧ (Lit.int .i64 n).wf = true ∧ (Lit.int .u64 r).wf = true ∧ (Lit.int .u64 i).wf = true ∧ l.length ≤ maxLen ∧ wfL l
def wfL : List Tm → Prop
  | [] => True
  | t :: ts => wfT t ∧ wfL ts
end
theorem wfL_iff : ∀ {l : List Tm}, wfL l ↔ ∀ t ∈ l, wfT t
  | [] => by simp [wfL]
  | t :: ts => by simp [wfL, wfL_iff (l := ts)]

section
variable {H : Type} {enc : TypeId × Value → H} {w : World} {sp : Nat → Bool} {held : Bool}

/-- A slice of terms, its elements' reading told. -/
theorem trod_slice_of {fuel : Nat} {cs : List Value} {x : DataW H × List MemPlace} (IH : ∀ n, n < fuel → ∀ cs x, DataW.trod enc Try.prog w 0 sp held n 25 cs = some x → ∃ t : Tm, cs.length = 6 ∧ TR [] w cs t ∧ wfT t)
    (h : DataW.trod enc Try.prog w 0 sp held fuel 23 cs = some x) : ∃ A c l, cs = [.slice A l.length c] ∧ AR A c l [] w ∧ l.length ≤ maxLen ∧ wfL l := by
  rcases DataW.trod_slice Try.underlying23 h with ⟨rfl, _⟩ | ⟨a, len, cap, elems, rest, n, rfl, rfl, _, _, hlc, hcm, hel, hi, _, _⟩
  · exact ⟨none, 0, [], rfl, AR.nil _ _ _ _, Nat.zero_le _, by unfold wfL; trivial⟩
  · rw [Try.cof25] at hi
    have key : ∀ i, i < len → ∃ cs' t, w.cells? 0 (a.add (i * 6)) 6 = some cs' ∧ cs'.length = 6 ∧ TR [] w cs' t ∧ wfT t := by
      intro i hl
      have := hi i hl
      rw [List.getElem?_eq_getElem (by omega)] at this
      obtain ⟨cs', h1, h2⟩ := Option.bind_eq_some_iff.1 this
      obtain ⟨t, h3, h4, h5⟩ := IH n (Nat.lt_succ_self _) cs' _ h2
      exact ⟨cs', t, h1, h3, h4, h5⟩
    refine ⟨some a, cap, (List.range' 0 len).map (fun i => if h : i < len then (key i h).choose_spec.choose else Tm.zero), by simp, ⟨by simpa using hlc, ?_⟩, by simp; omega, ?_⟩
    · refine rowR_of _ len 0 fun j _ hj => ?_
      have hj : j < len := by omega
      obtain ⟨h1, h2, h3, _⟩ := (key j hj).choose_spec.choose_spec
      have hr := (cells_read h1).2
      have h0 : ∀ k, k < 6 → ∃ v, w.cell? ((a.add (j * 6)).add k) = some v := fun k hk => by
        have hk' : k < (key j hj).choose.length := by omega
        exact ⟨_, hr k _ (List.getElem?_eq_getElem hk')⟩
      obtain ⟨v0, hv0⟩ := h0 0 (by omega)
      have ha0 := cell_lt hv0
      -- the address has no spot
      have hspot : a.spot = none := by
        by_cases hj0 : j = 0
        · subst hj0; simpa [Addr.add] using ha0.1
        · obtain ⟨cs0, t0, g1, g2, _, _⟩ := key 0 (by omega)
          have := (cells_read g1).2 0 cs0[0] (List.getElem?_eq_getElem (by omega))
          simpa [Addr.add] using (cell_lt this).1
      have hblk : ((a.add (j * 6)).add 0).block = a.block := by unfold Addr.add; split <;> split <;> rfl
      rw [hblk] at ha0
      obtain ⟨ab, ao, asp⟩ := a
      simp only at hspot
      subst hspot
      refine ⟨ab, ao, _, rfl, by simp, ha0.2, h2, fun k v hv => ?_, ?_⟩
      · have := hr k v hv
        rw [add_off, add_off, Nat.add_assoc] at this
        exact this
      · simp only [dif_pos hj]; exact h3
    · rw [wfL_iff]
      intro t ht
      simp only [List.mem_map, List.mem_range'_1] at ht
      obtain ⟨i, ⟨_, hi'⟩, rfl⟩ := ht
      have hi' : i < len := by omega
      simp only [dif_pos hi']
      exact (key i hi').choose_spec.choose_spec.2.2.2

theorem trod_term : ∀ (fuel : Nat) (cs : List Value) (x : DataW H × List MemPlace), DataW.trod enc Try.prog w 0 sp held fuel 25 cs = some x → ∃ t : Tm, cs.length = 6 ∧ TR [] w cs t ∧ wfT t := by
  intro fuel
  induction fuel using Nat.strongRecOn with | _ fuel IH
  intro cs x h
  obtain ⟨xs, n, rfl, rfl, hlen, hxs, hf⟩ := DataW.trod_struct Try.underlying25 h
  rw [Try.cof25] at hlen
  have hxs : xs.length = 6 := hxs
  obtain ⟨c0, c1, c2, c3, c4, c5, rfl⟩ : ∃ c0 c1 c2 c3 c4 c5, cs = [c0, c1, c2, c3, c4, c5] := by
    match cs, hlen with
    | [c0, c1, c2, c3, c4, c5], _ => exact ⟨c0, c1, c2, c3, c4, c5, rfl⟩
  have g0 : DataW.trod enc Try.prog w 0 sp held n 3 (([c0, c1, c2, c3, c4, c5].drop 0).take (Try.prog.cellsOf 3)) = xs[0]? := hf 0 _ rfl
  have g1 : DataW.trod enc Try.prog w 0 sp held n 9 (([c0, c1, c2, c3, c4, c5].drop 1).take (Try.prog.cellsOf 9)) = xs[1]? := hf 1 _ rfl
  have g2 : DataW.trod enc Try.prog w 0 sp held n 2 (([c0, c1, c2, c3, c4, c5].drop 2).take (Try.prog.cellsOf 2)) = xs[2]? := hf 2 _ rfl
  have g3 : DataW.trod enc Try.prog w 0 sp held n 22 (([c0, c1, c2, c3, c4, c5].drop 3).take (Try.prog.cellsOf 22)) = xs[3]? := hf 3 _ rfl
  have g4 : DataW.trod enc Try.prog w 0 sp held n 22 (([c0, c1, c2, c3, c4, c5].drop 4).take (Try.prog.cellsOf 22)) = xs[4]? := hf 4 _ rfl
  have g5 : DataW.trod enc Try.prog w 0 sp held n 23 (([c0, c1, c2, c3, c4, c5].drop 5).take (Try.prog.cellsOf 23)) = xs[5]? := hf 5 _ rfl
  rw [List.getElem?_eq_getElem (by omega)] at g0 g1 g2 g3 g4 g5
  simp only [Try.cof3] at g0
  simp only [Try.cof9] at g1
  simp only [Try.cof2] at g2
  simp only [Try.cof22] at g3 g4
  simp only [Try.cof23] at g5
  obtain ⟨k, e0, _, w0⟩ := DataW.trod_int Try.underlying3 g0
  obtain ⟨s, e1, _, w1⟩ := DataW.trod_string Try.underlying9 g1
  obtain ⟨m, e2, _, w2⟩ := DataW.trod_int Try.underlying2 g2
  obtain ⟨r, e3, _, w3⟩ := DataW.trod_int Try.underlying22 g3
  obtain ⟨i, e4, _, w4⟩ := DataW.trod_int Try.underlying22 g4
  obtain ⟨A, c, l, e5, ar, hl, hw⟩ := trod_slice_of (fun q hq => IH q (by omega)) g5
  simp at e0 e1 e2 e3 e4 e5
  subst e0; subst e1; subst e2; subst e3; subst e4; subst e5
  exact ⟨.mk k s m r i l, rfl, by unfold TR; exact ⟨A, c, rfl, ar.1, ar.2⟩, by unfold wfT; exact ⟨w0, w1, w2, w3, w4, hl, hw⟩⟩

/-- A slice of terms that is handed. -/
theorem open_terms {r : Reach} {b0 : Nat} {v : Value} {d : DataW H} {ps : List MemPlace} (hv : Value.okWide Try.prog w r b0 23 v) (h : DataW.Trod enc Try.prog w 0 sp held 23 v d ps) :
    ∃ A c l, v = .slice A l.length c ∧ AR A c l [] w ∧ l.length ≤ maxLen ∧ wfL l := by
  obtain ⟨A, len, cap, rfl⟩ := okWide_slice Try.underlying23 hv
  obtain ⟨fuel, hf⟩ := h
  obtain ⟨A', c, l, e, ar, hl, hw⟩ := trod_slice_of (fun q _ => trod_term q) hf
  simp [Value.cells] at e
  obtain ⟨rfl, rfl, rfl⟩ := e
  exact ⟨_, _, l, rfl, ar, hl, hw⟩

/-- A term that is handed. -/
theorem open_term {r : Reach} {b0 : Nat} {v : Value} {d : DataW H} {ps : List MemPlace} (hv : Value.okWide Try.prog w r b0 25 v) (h : DataW.Trod enc Try.prog w 0 sp held 25 v d ps) :
    ∃ t A c, v = .agg #[.int .i64 t.kind, .string t.name, .int .i64 t.int, .int .u64 t.re, .int .u64 t.im, .slice A t.args.length c] ∧ AR A c t.args [] w ∧ wfT t := by
  obtain ⟨cs, rfl, _⟩ := okWide_struct Try.underlying25 hv
  obtain ⟨fuel, hf⟩ := h
  obtain ⟨t, _, ht, hw⟩ := trod_term fuel _ _ hf
  cases t with
  | mk k s n r i l =>
    unfold TR at ht
    obtain ⟨A, c, e, hc, hr⟩ := ht
    simp only [Value.cells] at e
    obtain ⟨cs⟩ := cs
    simp only at e
    subst e
    exact ⟨.mk k s n r i l, A, c, rfl, ⟨hc, hr⟩, hw⟩
end
end Go.Proofs.Ytgopldabdheehaa
