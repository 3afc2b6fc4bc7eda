/- Own rows of terms, changed in place. -/
import Derived.Test.YthapmdlminnihaaPlan3
namespace Go.Proofs.Ythapmdlminnihaa
open Go.RowKit
set_option linter.unusedVariables false
set_option linter.unusedSimpArgs false
set_option maxRecDepth 20000
set_option maxHeartbeats 4000000

/-- Cells of a row of values, from a place on. -/
def RC (xs : List Value) (off : Nat) (cs : List Value) : Prop := ∀ (q : Nat) (v : Value), cs[q]? = some v → xs[off + q]? = some v
def layL (xs : List Value) (off : Nat) (vs : List Value) : List Value := xs.take off ++ vs ++ xs.drop (off + vs.length)
theorem layL_len {xs : List Value} {off : Nat} {vs : List Value} (h : off + vs.length ≤ xs.length) : (layL xs off vs).length = xs.length := by
  unfold layL
  simp only [List.length_append, List.length_take, List.length_drop]
  omega
section
variable {P : Program} {ev : Operand → Value} {o : Oper} {M X : List Nat} {w0 w : World} {L : List Res} {F : List Nat → World → Prop}
theorem St.rowBlock (H : St M X w0 w L F) (k : Nat) {g n cap : Nat} {xs : List Value} {ty sz : Nat} (hk : L[k]? = some (.row (.slice (some ⟨g, 0, none⟩) n cap) n xs ty sz)) :
    xs.length = n * sz ∧ ∃ cur : Array Value, w.heap[g]? = some (.cells cur ty (0, 0)) ∧ n ≤ cap ∧ cap ≤ maxLen ∧ cur.size = cap * sz ∧ cur.toList.take (n * sz) = xs := by
  refine ⟨(H.getRow hk).1, ?_⟩
  rcases (H.getRow hk).2 with ⟨e, _⟩ | ⟨g', cap', cur, e, _, hg, hc, hm, hs, ht⟩
  · cases e
  · simp only [Value.slice.injEq, Option.some.injEq, Addr.mk.injEq, and_true, true_and] at e
    obtain ⟨rfl, rfl⟩ := e
    exact ⟨cur, hg, hc, hm, hs, ht⟩
/-- A load out of an own row. -/
theorem runs_loadRow (H : St M X w0 w L F) (k : Nat) {g n cap : Nat} {xs : List Value} {ty sz : Nat} (hk : L[k]? = some (.row (.slice (some ⟨g, 0, none⟩) n cap) n xs ty sz)) {T : TypeId} {x : Operand} {off : Nat}
    (ho : o.op = .load T x) (hx : ev x = .pointer (some ⟨g, off, none⟩)) {agg : Bool} {m : Nat} (hT : tyShape P T = some (agg, m)) {cs : List Value} (hc : RC xs off cs) {v : Value} (hv : pickC cs 0 m agg = some v) : Runs P ev o w fun u w' => u = v ∧ w = w' := by
  obtain ⟨_, cur, hg, hc', hm, hs, ht⟩ := H.rowBlock k hk
  refine runs_load_at ho hx hT (fun j v hj => ?_) hv
  rw [cell_of_row w g (off + j) cur ty (0, 0) hg]
  have h1 := hc j v hj
  rw [← ht, List.getElem?_take] at h1
  split at h1
  · simpa using h1
  · cases h1
/-- A store into an own row. -/
theorem runs_storeRow (H : St M X w0 w L F) (k : Nat) {g n cap : Nat} {xs : List Value} {ty sz : Nat} (hk : L[k]? = some (.row (.slice (some ⟨g, 0, none⟩) n cap) n xs ty sz)) {T : TypeId} {x y : Operand} {off : Nat}
    (ho : o.op = .store T x y) (hx : ev x = .pointer (some ⟨g, off, none⟩)) {vs : List Value} (hc : cellsC (ev y) = some vs) {agg : Bool} {m : Nat} (hT : tyShape P T = some (agg, m)) (hn : vs.length = m)
    (h1 : vs.all Value.oneCell' = true) (hoff : off + m ≤ n * sz) {f : Res → List Res} (hL : ∀ r, setC L k r some = some (f r)) :
    Runs P ev o w fun u w' => u = undef ∧ Ext [g] w w' ∧ St M X w0 w' (f (.row (.slice (some ⟨g, 0, none⟩) n cap) n (layL xs off vs) ty sz)) F := by
  have hf : ∀ r, L.set k r = f r := fun r => Option.some.inj (setC_spec _ _ _ _ (hL r))
  obtain ⟨hxl, cur, hg, hc', hm, hs, ht⟩ := H.rowBlock k hk
  have hc := cellsC_spec hc
  subst hn
  have h1 : ∀ u ∈ vs, u.oneCell' = true := by simpa using h1
  have hle : off + vs.length ≤ cur.size := by rw [hs]; exact Nat.le_trans hoff (Nat.mul_le_mul_right _ hc')
  have hst := run_storeCells_at P g off ty vs 0 cur w hg (by simpa using hle) h1
  simp only [Nat.add_zero] at hst
  obtain ⟨_, h2⟩ := run_isAgg hT w
  have hE : Ext [g] w (w.setRow g (cur.toList.take off ++ vs ++ cur.toList.drop (off + vs.length)).toArray) := ⟨rfl, rfl, rfl, by simp [World.setRow], fun c hc hx => by
    have hne : c ≠ g := fun e => hx (by simp [e])
    simp only [World.setRow, Array.getElem?_modify]
    rw [if_neg (by omega)]⟩
  refine ⟨.skip, w.setRow g (cur.toList.take off ++ vs ++ cur.toList.drop (off + vs.length)).toArray, undef, ?_, rfl, rfl, hE, ?_⟩
  · unfold execOp
    simp only [ho, Instr.storeAt, Instr.sureAddr, hx, storeVar, hc, Sem.run_bind, Sem.run_pure, Result.andThen_ok, h2, List.size_toArray, ne_eq, not_true_eq_false, if_false, List.toList_toArray, hst]
  · rw [← hf]
    have hown := (H.getRow hk)
    refine H.swap hk (by simpa [Res.ids, Value.ownBlock] using hE) ?_ (by simp [Res.ids, Value.ownBlock]) (fun c hc => .inl hc)
    refine ⟨by rw [layL_len (by omega)]; exact hxl, .inr ⟨g, cap, _, rfl, Nat.zero_le _, setRow_heap w g cur _ ty _ hg, hc', hm, ?_, ?_⟩⟩
    · rw [← hs]
      simp only [List.size_toArray, List.length_append, List.length_take, List.length_drop, Array.length_toList]
      omega
    · simp only [List.toList_toArray]
      unfold layL
      rw [← ht, List.take_append, List.take_append, List.take_take, Nat.min_eq_right (by omega), List.length_append, List.length_take, Array.length_toList, Nat.min_eq_left (by omega)]
      rw [List.take_of_length_le (l := vs) (by omega), List.take_take, Nat.min_eq_left (by omega), List.drop_take]
end
section
variable {P : Program} {ops : Array Oper} {Q : Exit → Act → World → Prop} {bef : List (List Nat)} {loads quiet : List Nat} {i : Nat} {rest : PT} {a : Act} {w : World}
/-- A load out of an own row, in a region that leaves its order open. -/
theorem T_load_rowX {M X Y : List Nat} {w0 W : World} {L : List Res} {F : List Nat → World → Prop} (H : St M X w0 W L F) (hS : Ext Y W w) (k : Nat) {g n cap : Nat} {xs : List Value} {ty sz : Nat} (hk : L[k]? = some (.row (.slice (some ⟨g, 0, none⟩) n cap) n xs ty sz)) {off : Nat} {cs : List Value} (hc : RC xs off cs)
    (h : ∃ o, nthC ops.toList i = some o ∧ quiet.contains i = true ∧ loads.contains i = true ∧ wantC ops o a = true ∧ ∃ T x, o.op = .load T x ∧ ∃ off', evC a x = .pointer (some ⟨g, off', none⟩) ∧ off' = off ∧
      ∃ agg m v, tyShape P T = some (agg, m) ∧ pickC cs 0 m agg = some v ∧ g ∉ Y ∧ wpT P ops Q (Ext Y W) bef loads quiet rest (a.put o.dst v) w) : wpT P ops Q (Ext Y W) bef loads quiet (.step i rest) a w := by
  obtain ⟨o, ho, hq, hl, hg, T, x, hop, off', hx, rfl, agg, m, v, hT, hv, hY, h⟩ := h
  rw [evC_eq] at hx
  obtain ⟨_, cur, hb, hc', hm, hs, ht⟩ := H.rowBlock k hk
  refine T_load ho hq hl (wantC_ok hg) hS (fun w' hS' => run_load_at (d := 0) hop (by rw [Nat.add_zero]; exact hx) hT (fun j u hj => ?_) hv) h
  refine (cell_same (hS'.block g (Array.getElem?_eq_some_iff.1 hb).1 hY) _).trans ?_
  rw [cell_of_row W g (off' + j) cur ty (0, 0) hb]
  have h1 := hc j u hj
  rw [← ht, List.getElem?_take] at h1
  split at h1
  · simpa using h1
  · cases h1
end
theorem St.rowSome {M X : List Nat} {w0 w : World} {L : List Res} {F : List Nat → World → Prop} (H : St M X w0 w L F) (k : Nat) {va : Option Addr} {n cap : Nat} {xs : List Value} {ty sz : Nat} (hk : L[k]? = some (.row (.slice va n cap) n xs ty sz)) (hn : 0 < n) : ∃ g, va = some ⟨g, 0, none⟩ := by
  rcases (H.getRow hk).2 with ⟨e, h⟩ | ⟨g', cap', cur, e, _⟩
  · exfalso
    first
      | omega
      | (simp at e; omega)
  · simp only [Value.slice.injEq] at e
    exact ⟨g', e.1⟩
end Go.Proofs.Ythapmdlminnihaa
