/- Pure: what holds of all operators of a table. -/
import Derived.Test.YthapmdlminnihaaOpQ
namespace Go.Proofs.Ythapmdlminnihaa
open Go.RowKit
set_option linter.unusedVariables false
set_option linter.unusedSimpArgs false
set_option maxRecDepth 20000
set_option maxHeartbeats 4000000
def goodO (l : List OpT) : Prop := ∀ x ∈ l, (1 ≤ x.ty ∧ x.ty ≤ 5) ∧ 1 ≤ x.pr ∧ x.pr ≤ 1200
theorem new_good : goodO newL := by
  rw [newL_eq]
  unfold goodO newC
  simp
attribute [local irreducible] infE placeE mayO cmpO newL
theorem put_mem {l : List OpT} {o x : OpT} (h : x ∈ (putO l o).2) : x ∈ l ∨ (x = o ∧ o.pr ≠ 0) := by
  rw [put_eq] at h
  cases hf : fullO l o with
  | true => rw [hf] at h; exact .inl (by simpa using h)
  | false =>
    rw [hf] at h
    have h : x ∈ lowE l o.name (infE o.ty) ++ ((insO o).toList ++ tlE l o.name (infE o.ty)) := by simpa using h
    have h3 := split3 l o.name (infE o.ty)
    rcases List.mem_append.1 h with h | h
    · exact .inl (by rw [← h3]; exact List.mem_append_left _ h)
    · rcases List.mem_append.1 h with h | h
      · right
        unfold insO at h
        by_cases q : o.pr = 0 <;> simp [q] at h
        exact ⟨h, q⟩
      · exact .inl (by rw [← h3]; exact List.mem_append_right _ (List.mem_append_right _ h))
theorem set_mem {l : List OpT} {o x : OpT} (h : x ∈ (setO l o).2) : x ∈ l ∨ (x = o ∧ mayO o = true ∧ o.pr ≠ 0) := by
  unfold setO at h
  by_cases q : mayO o = true
  · rw [if_pos q] at h
    rcases put_mem h with h | ⟨h1, h2⟩
    · exact .inl h
    · exact .inr ⟨h1, q, h2⟩
  · rw [if_neg q] at h; exact .inl h
theorem set_good {l : List OpT} (h : goodO l) (o : OpT) : goodO (setO l o).2 := by
  intro x hx
  rcases set_mem hx with hx | ⟨rfl, h1, h2⟩
  · exact h x hx
  · have := may_ty h1
    have := may_pr h1
    exact ⟨by omega, by omega, by omega⟩
theorem find_self {l : List OpT} (hs : SortO l) {x : OpT} (hx : x ∈ l) : findO l x.name (infE x.ty) = some x := by
  obtain ⟨A, B, rfl⟩ := List.append_of_mem hx
  obtain ⟨h1, h2, h3⟩ := sort_app.1 hs
  obtain ⟨h4, h5⟩ := List.pairwise_cons.1 h2
  have := (parts (A := A) (B := B) (m := some x) (s := x.name) (b := infE x.ty) (fun a ha => h3 a ha x (by simp)) (fun y hy => by cases hy; exact ⟨rfl, rfl⟩) (fun a ha => by rw [kcmp_neg]; have := h4 a ha; omega)).2.1
  simpa using this
theorem find_mem {l : List OpT} {s : ByteArray} {b : Bool} {x : OpT} (h : findO l s b = some x) : x ∈ l := by
  have h3 := split3 l s b
  rw [h] at h3
  rw [← h3]
  simp
theorem kcmp_def (s : ByteArray) (b : Bool) (s' : ByteArray) (b' : Bool) : kcmp s b s' b' = orI (cmpS s s') (cmpI (placeE b) (placeE b')) := by unfold kcmp; rfl
/-- Two neighbours. -/
theorem next_to {l : List OpT} (hs : SortO l) (hg : goodO l) {q : Nat} {p x : OpT} (hp : l[q]? = some p) (hx : l[q + 1]? = some x) :
    (Op.bytesLess p.name.toList x.name.toList = true ∧ (p.name.toList == x.name.toList) = false) ∨ (Op.bytesLess p.name.toList x.name.toList = false ∧ (p.name.toList == x.name.toList) = true ∧ frontE p.ty = true ∧ frontE x.ty = false) := by
  obtain ⟨h1, e1⟩ := List.getElem?_eq_some_iff.1 hp
  obtain ⟨h2, e2⟩ := List.getElem?_eq_some_iff.1 hx
  have hk := List.pairwise_iff_getElem.1 hs q (q + 1) h1 h2 (by omega)
  rw [e1, e2, kcmp_def] at hk
  unfold orI at hk
  by_cases z : cmpS p.name x.name = 0
  · rw [if_pos z] at hk
    have z2 := cmpS_zero.1 z
    refine .inr ⟨?_, z2, ?_⟩
    · have e : p.name.toList = x.name.toList := by simpa using z2
      rw [e]; exact bl_irr _
    · have gp := (hg p (List.mem_of_getElem? hp)).1
      have gx := (hg x (List.mem_of_getElem? hx)).1
      rw [inf_front gp, inf_front gx, cmpI_def] at hk
      revert hk
      cases frontE p.ty <;> cases frontE x.ty <;> simp [placeE]
  · rw [if_neg z] at hk
    left
    have hd := cmpS_def p.name x.name
    have n : (p.name.toList == x.name.toList) = false := by
      cases q2 : (p.name.toList == x.name.toList) with
      | false => rfl
      | true => exact absurd (cmpS_zero.2 q2) z
    refine ⟨?_, n⟩
    cases q2 : Op.bytesLess p.name.toList x.name.toList with
    | true => rfl
    | false => rw [q2, n] at hd; simp at hd; omega
theorem gotE (o : Option OpT) : ∃ (y : OpT) (ok : Bool), gotV o = .tuple #[.agg #[.string y.name, .int .i64 y.ty, .int .i64 y.pr], .bool ok] ∧ ok = o.isSome ∧ ∀ z, o = some z → y = z := by
  cases o with
  | none => exact ⟨⟨⟨#[]⟩, 0, 0⟩, false, rfl, rfl, fun z h => by cases h⟩
  | some z => exact ⟨z, true, rfl, rfl, fun z h => by cases h; rfl⟩
end Go.Proofs.Ythapmdlminnihaa
