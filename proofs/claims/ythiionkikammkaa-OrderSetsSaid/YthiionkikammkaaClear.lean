/- The end of an own row of terms, cleared. -/
import Derived.Test.YthiionkikammkaaSRow
namespace Go.Proofs.Ythiionkikammkaa
open Go.RowKit
set_option linter.unusedVariables false
set_option linter.unusedSimpArgs false
set_option linter.unnecessarySimpa false
set_option maxRecDepth 20000
set_option maxHeartbeats 1000000

theorem zeroCells_len (z : Array Value) (n : Nat) : (Builtin.zeroCells z n).toList.length = n * z.size := by
  unfold Builtin.zeroCells
  simp
theorem zeroCells_one {z : Array Value} (hz : 0 < z.size) (h : ∀ v ∈ z, v.oneCell' = true) (n : Nat) : ∀ v ∈ (Builtin.zeroCells z n).toList, v.oneCell' = true := by
  intro v hv
  unfold Builtin.zeroCells at hv
  simp only [Array.mem_toList_iff, Array.mem_map] at hv
  obtain ⟨i, _, rfl⟩ := hv
  have hi : i % z.size < z.size := Nat.mod_lt _ hz
  rw [getElem!_pos z _ hi]
  exact h _ (Array.getElem_mem hi)
section
variable {P : Program} {ev : Operand → Value} {o : Oper} {M X : List Nat} {w0 w : World} {L : List Res} {F : List Nat → World → Prop}
theorem runs_clearRow (H : St M X w0 w L F) (k : Nat) {g n cap : Nat} {xs : List Value} {ty : TypeId} (hk : L[k]? = some (.row (.slice (some ⟨g, 0, none⟩) n cap) n xs ty 6)) {T : TypeId} {s : Operand} {off m c : Nat}
    (ho : o.op = .call { callee := .builtin .clear, args := #[s], argTypes := #[T] }) (hs : ev s = .slice (some ⟨g, off, none⟩) m c) (hT : P.underlying T = some (.slice ty))
    {z : Value} {bytes : Nat} (hi : (P.info? ty).map (fun i => (i.zero, i.size, i.bytes)) = some (some z, 6, bytes)) (hz : z.cells.size = 6) (h1 : ∀ v ∈ z.cells, v.oneCell' = true)
    (hm : 0 < m) (hoff : off + m * 6 ≤ n * 6) {f : Res → List Res} (hL : ∀ r, setC L k r some = some (f r)) :
    Runs P ev o w fun u w' => u = .tuple #[] ∧ Ext [g] w w' ∧ St M X w0 w' (f (.row (.slice (some ⟨g, 0, none⟩) n cap) n (layL xs off (Builtin.zeroCells z.cells m).toList) ty 6)) F := by
  obtain ⟨i0, hi0, hz0, hz1, hz2⟩ := info_parts hi
  have hf : ∀ r, L.set k r = f r := fun r => Option.some.inj (setC_spec _ _ _ _ (hL r))
  obtain ⟨hxl, cur, hg, hc', hmx, hsz, ht⟩ := H.rowBlock k hk
  obtain ⟨vs, hvs⟩ : ∃ vs, (Builtin.zeroCells z.cells m).toList = vs := ⟨_, rfl⟩
  have hvl : vs.length = m * 6 := by rw [← hvs, zeroCells_len, hz]
  have hv1 : ∀ u ∈ vs, u.oneCell' = true := by rw [← hvs]; exact zeroCells_one (by rw [hz]; decide) h1 m
  have hle : off + vs.length ≤ cur.size := by rw [hsz, hvl]; exact Nat.le_trans hoff (Nat.mul_le_mul_right _ hc')
  have hst := run_storeCells_at P g off ty vs 0 cur w hg (by simpa using hle) hv1
  simp only [Nat.add_zero] at hst
  have hE : Ext [g] w (w.setRow g (cur.toList.take off ++ vs ++ cur.toList.drop (off + vs.length)).toArray) := ⟨rfl, rfl, rfl, by simp [World.setRow], fun c hc hx => by
    have hne : c ≠ g := fun e => hx (by simp [e])
    simp only [World.setRow, Array.getElem?_modify]
    rw [if_neg (by omega)]⟩
  rw [hvs]
  have hzv : (zeroValue ty).run P w = .ok z w := by
    unfold zeroValue
    simp only [Sem.run_bind, run_typeInfo _ hi0, Result.andThen_ok, hz0, Sem.run_pure]
  refine ⟨.value (.tuple #[]), w.setRow g (cur.toList.take off ++ vs ++ cur.toList.drop (off + vs.length)).toArray, .tuple #[], ?_, rfl, rfl, hE, ?_⟩
  · unfold execOp
    cases m with
    | zero => omega
    | succ m =>
      simp only [ho, resolve, invoke, builtin, Sem.run_bind, Sem.run_pure, Result.andThen_ok, List.map_toArray, List.map_cons, List.map_nil, hs, Builtin.clear_, run_underlying hT, hzv, hvs, hst, List.getElem?_toArray, List.getElem?_cons_zero]
  · rw [← hf]
    have hown := (H.getRow hk)
    refine H.swap hk (by simpa [Res.ids, Value.ownBlock] using hE) ?_ (by simp [Res.ids, Value.ownBlock]) (fun c hc => .inl hc)
    refine ⟨by rw [layL_len (by omega)]; exact hxl, .inr ⟨g, cap, _, rfl, Nat.zero_le _, setRow_heap w g cur _ ty _ hg, hc', hmx, ?_, ?_⟩⟩
    · rw [← hsz]
      simp only [List.size_toArray, List.length_append, List.length_take, List.length_drop, Array.length_toList]
      omega
    · simp only [List.toList_toArray]
      unfold layL
      rw [← ht, List.take_append, List.take_append, List.take_take, Nat.min_eq_right (by omega), List.length_append, List.length_take, Array.length_toList, Nat.min_eq_left (by omega)]
      rw [List.take_of_length_le (l := vs) (by omega), List.take_take, Nat.min_eq_left (by omega), List.drop_take]
end
/-- The first terms of an own row are an own row, too. -/
theorem St.shorter {M X : List Nat} {w0 w : World} {F : List Nat → World → Prop} {va : Option Addr} {n m cap : Nat} {xs : List Value} {ty sz : Nat} (H : St M X w0 w [.row (.slice va n cap) n xs ty sz] F) (h : m ≤ n) : St M X w0 w [.row (.slice va m cap) m (xs.take (m * sz)) ty sz] F := by
  have hr := H.getRow (k := 0) rfl
  have hlen : (xs.take (m * sz)).length = m * sz := by
    rw [List.length_take, hr.1, Nat.min_eq_left (Nat.mul_le_mul_right _ h)]
  refine H.swap (k := 0) (r := .row (.slice va n cap) n xs ty sz) (r' := .row (.slice va m cap) m (xs.take (m * sz)) ty sz) rfl (Ext.refl _ _) ⟨hlen, ?_⟩ ?_ (fun b hb => .inl (by cases va <;> simpa [Res.ids, Value.ownBlock] using hb))
  · rcases hr.2 with ⟨e, h2⟩ | ⟨g', cap', cur, e, h3, h4, h5, h6, h7, h8⟩
    · simp only [Value.slice.injEq] at e
      obtain ⟨rfl, rfl, rfl⟩ := e
      obtain rfl : m = 0 := by omega
      exact .inl ⟨rfl, by first | exact h2 | simp⟩
    · simp only [Value.slice.injEq] at e
      obtain ⟨rfl, _, rfl⟩ := e
      exact .inr ⟨g', cap, cur, rfl, h3, h4, by omega, h6, h7, by rw [← h8, List.take_take, Nat.min_eq_left (Nat.mul_le_mul_right _ h)]⟩
  · cases va <;> simp [Res.ids, Value.ownBlock]
theorem TsR.take {xs : List Value} {l : List Tm} {M : List Nat} {w : World} (h : TsR xs l M w) (m : Nat) : TsR (xs.take (m * 6)) (l.take m) M w := by
  have key : ∀ (l : List Tm) (xs : List Value) (m : Nat), CellsL 6 (TR M w) xs l → CellsL 6 (TR M w) (xs.take (m * 6)) (l.take m) := by
    intro l
    induction l with
    | nil =>
      intro xs m h
      have : xs = [] := h
      subst this
      simp [CellsL]
    | cons a l ih =>
      intro xs m h
      obtain ⟨cs, rest, rfl, hl, he, hr⟩ := h
      cases m with
      | zero => simp [CellsL]
      | succ m =>
        refine ⟨cs, rest.take (m * 6), ?_, hl, he, ih rest m hr⟩
        rw [Nat.succ_mul, List.take_append, List.take_of_length_le (by omega), show m * 6 + 6 - cs.length = m * 6 by omega]
  exact key l xs m h
end Go.Proofs.Ythiionkikammkaa
