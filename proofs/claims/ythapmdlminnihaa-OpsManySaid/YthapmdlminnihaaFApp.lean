/- append of any slice of flat values, also an empty one; an empty literal as a row. -/
import Derived.Test.YthapmdlminnihaaFRow
import Derived.Deep.Upon
import Derived.Laws.OwnMore
namespace Go.Proofs.Ythapmdlminnihaa
open Go.RowKit
set_option linter.unusedVariables false
set_option linter.unusedSimpArgs false
set_option maxRecDepth 20000
set_option maxHeartbeats 4000000
section
variable {P : Program} {ev : Operand → Value} {o : Oper} {w : World} {M X : List Nat} {w0 : World} {L : List Res} {F : List Nat → World → Prop}
theorem runs_appendV (H : St M X w0 w L F) (k : Nat) {v : Value} {n sz : Nat} {xs : List Value} {E : TypeId} (hk : L[k]? = some (.row v n xs E sz)) {T : TypeId} {s x : Operand}
    (ho : o.op = .call { callee := .builtin .append, args := #[s, x], argTypes := #[T, T] }) (hs : ev s = v) {A : Option Addr} {c m : Nat} (hx : ev x = .slice A m c) {news : List Value} (hl : news.length = m * sz) (hsrc : m = 0 ∨ ∃ b d, A = some ⟨b, d, none⟩ ∧ ∀ j u, news[j]? = some u → w.cell? ⟨b, d + j, none⟩ = some u)
    (h1 : news.all Value.oneCell' = true) (hT : P.underlying T = some (.slice E))
    {z : Value} {bytes : Nat} (hi : (P.info? E).map (fun i => (i.zero, i.size, i.bytes)) = some (some z, sz, bytes)) (hz : z.cells.size = sz) (hsz : 0 < sz)
    (h63 : n + m ≤ maxLen) (hbytes : (n + m) * bytes ≤ 140737488355328) {f : Res → List Res} (hL : ∀ r, setC L k r some = some (f r)) :
    Runs P ev o w fun u w' => ∃ A' cap, u = .slice A' (n + m) cap ∧ Ext v.ownBlock.toList w w' ∧ St M X w0 w' (f (.row (.slice A' (n + m) cap) (n + m) (xs ++ news) E sz)) F := by
  by_cases h0 : m = 0
  · subst h0
    have hn0 : news = [] := List.eq_nil_of_length_eq_zero (by simpa using hl)
    subst hn0
    obtain ⟨i0, hi0, hz0, hz1, hz2⟩ := info_parts hi
    have hf : ∀ r, L.set k r = f r := fun r => Option.some.inj (setC_spec _ _ _ _ (hL r))
    have hsrc : Src P i0.size T (ev x) 0 [] w := by
      rw [hx]
      cases A with
      | none => exact Src.ofNil w hT c
      | some a => exact Src.ofSlice w hT a 0 c [] (by simp) (fun j u h => by simp at h) (fun u h => by cases h)
    have hself : L.set k (.row v n xs E sz) = L := by
      apply List.ext_getElem?
      intro j
      rw [List.getElem?_set]
      split
      · next e => subst e; rw [hk]; split <;> simp_all
      · rfl
    rcases (H.getRow hk).2 with ⟨rfl, rfl⟩ | ⟨g, cap, cur, rfl, _, _, hnc, _⟩
    · have hr := run_append_nothing (P := P) w T T o.type E i0 hT hi0 none 0 0 (Nat.le_refl _) (ev x) hsrc
      refine ⟨.value (.slice none 0 0), w, _, ?_, rfl, none, 0, rfl, Ext.refl _ _, ?_⟩
      · unfold execOp
        simp only [ho, resolve, invoke, builtin, Sem.run_bind, Sem.run_pure, Result.andThen_ok, List.map_toArray, List.map_cons, List.map_nil, hs, hr]
      · rw [← hf, List.append_nil]
        refine (?_ : St M X w0 w (L.set k (.row (.slice none 0 0) 0 xs E sz)) _)
        rw [hself]
        exact H
    · have hr := run_append_nothing (P := P) w T T o.type E i0 hT hi0 (some ⟨g, 0, none⟩) n cap hnc (ev x) hsrc
      refine ⟨.value (.slice (some ⟨g, 0, none⟩) n cap), w, _, ?_, rfl, some ⟨g, 0, none⟩, cap, rfl, Ext.refl _ _, ?_⟩
      · unfold execOp
        simp only [ho, resolve, invoke, builtin, Sem.run_bind, Sem.run_pure, Result.andThen_ok, List.map_toArray, List.map_cons, List.map_nil, hs, hr]
      · rw [← hf, List.append_nil]
        refine (?_ : St M X w0 w (L.set k (.row (.slice (some ⟨g, 0, none⟩) n cap) n xs E sz)) _)
        rw [hself]
        exact H
  · rcases hsrc with h | ⟨b, d, rfl, hc⟩
    · exact absurd h h0
    · obtain ⟨n', w', u, hr, hn, g, cap, hu, hE, H'⟩ := runs_append H k hk ho hs hx hT hi hz hsz hl hc h1 (by omega) h63 hbytes hL
      exact ⟨n', w', u, hr, hn, some ⟨g, 0, none⟩, cap, hu, hE, H'⟩
/-- A slice literal without elements. -/
theorem runs_buildEmpty (H : St M X w0 w L F) {T : TypeId} (ho : o.op = .buildSlice T 0 #[]) {E : TypeId} {agg : Bool} {sz : Nat} (hT : P.underlying T = some (.slice E)) (hE : tyShape P E = some (agg, sz)) :
    Runs P ev o w fun u w' => ∃ b, u = .slice (some ⟨b, 0, none⟩) 0 0 ∧ Ext [] w w' ∧ St M X w0 w' (.obj b (.cells #[] E (0, 0)) :: L) F := by
  refine ⟨.value (.slice (some ⟨w.heap.size, 0, none⟩) 0 0), _, .slice (some ⟨w.heap.size, 0, none⟩) 0 0, ?_, rfl, _, rfl, Ext.new _ _, H.new _⟩
  obtain ⟨_, h2⟩ := run_isAgg hE w
  unfold execOp
  simp only [ho, Instr.buildSlice, Sem.run_bind, run_underlying hT, Result.andThen_ok, h2]
  simp [Sem.run, Instr.fill, newRow, newObj]
  have e : Array.range 0 = #[] := by simp [Array.range]
  rw [e]; simp
/-- An empty literal is an empty row. -/
theorem St.emptyRow (H : St M X w0 w L F) (k : Nat) {b : Nat} {ty : TypeId} (hk : L[k]? = some (.obj b (.cells #[] ty (0, 0)))) (sz : Nat) {f : Res → List Res} (hL : ∀ r, setC L k r some = some (f r)) :
    St M X w0 w (f (.row (.slice (some ⟨b, 0, none⟩) 0 0) 0 [] ty sz)) F := by
  rw [← Option.some.inj (setC_spec _ _ _ _ (hL _))]
  have hb := H.get hk
  refine H.swap hk (Ext.refl _ _) ⟨by simp, .inr ⟨b, 0, #[], rfl, Nat.zero_le _, hb, Nat.le_refl _, Nat.zero_le _, by simp, by simp⟩⟩ (by simp [Res.ids, Value.ownBlock]) (fun c hc => .inl (by simpa [Res.ids, Value.ownBlock] using hc))
end
end Go.Proofs.Ythapmdlminnihaa
