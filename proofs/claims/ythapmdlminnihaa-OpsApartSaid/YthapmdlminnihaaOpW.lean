/- Pure: one operator makes no difference to others. -/
import Derived.Test.YthapmdlminnihaaOpV
namespace Go.Proofs.Ythapmdlminnihaa
open Go.RowKit
set_option linter.unusedVariables false
set_option linter.unusedSimpArgs false
set_option maxRecDepth 20000
set_option maxHeartbeats 4000000
theorem may_like {o x : OpT} (h : mayO o = true) (hn : x.name = o.name) (ht : 1 ≤ x.ty ∧ x.ty ≤ 5) (hp : 0 ≤ x.pr ∧ x.pr ≤ 1200) : mayO x = true := by
  unfold mayO at h ⊢
  rw [hn]
  simp only [Bool.and_eq_true, Bool.not_eq_true', Bool.or_eq_false_iff, decide_eq_false_iff_not] at h ⊢
  exact ⟨⟨⟨⟨⟨⟨by omega, by omega⟩, ⟨by omega, by omega⟩⟩, h.1.1.1.2⟩, h.1.1.2⟩, h.1.2⟩, h.2⟩
attribute [local irreducible] infE placeE mayO cmpO newL
def mineE (s : ByteArray) (f : Bool) (x : OpT) : Bool := (x.name.toList == s.toList) && (frontE x.ty == f)
theorem mine_iff {o x : OpT} (ho : 1 ≤ o.ty ∧ o.ty ≤ 5) (hx : 1 ≤ x.ty ∧ x.ty ≤ 5) : mineE o.name (frontE o.ty) x = true ↔ x.name = o.name ∧ infE x.ty = infE o.ty := by
  unfold mineE
  rw [Bool.and_eq_true, name_eq, inf_front ho, inf_front hx]
  cases frontE o.ty <;> cases frontE x.ty <;> simp
theorem key_ne {x : OpT} {s : ByteArray} {b : Bool} (h : kcmp x.name (infE x.ty) s b ≠ 0) : ¬ (x.name = s ∧ infE x.ty = b) := fun e => h (kcmp_zero.2 e)
theorem set_form {l : List OpT} {o : OpT} (h : (setO l o).1 = 0) : (setO l o).2 = lowE l o.name (infE o.ty) ++ ((insO o).toList ++ tlE l o.name (infE o.ty)) := by
  obtain ⟨h1, h2⟩ := set_code h
  unfold setO
  rw [if_pos h1, put_eq, if_neg (by rw [h2]; decide)]
theorem filter_parts {A B : List OpT} {m : Option OpT} {p : OpT → Bool} (hA : ∀ a ∈ A, p a = false) (hm : ∀ x, m = some x → p x = true) (hB : ∀ a ∈ B, p a = false) : (A ++ (m.toList ++ B)).filter (fun x => !(p x)) = A ++ B := by
  rw [List.filter_append, List.filter_append, List.filter_eq_self.2 (fun a ha => by rw [hA a ha]; rfl), (List.filter_eq_self (l := B)).2 (fun a ha => by rw [hB a ha]; rfl)]
  cases m with
  | none => simp
  | some x => simp [hm x rfl]
theorem filter_mine {A B : List OpT} {m : Option OpT} {p : OpT → Bool} (hA : ∀ a ∈ A, p a = false) (hm : ∀ x, m = some x → p x = true) (hB : ∀ a ∈ B, p a = false) : (A ++ (m.toList ++ B)).filter p = m.toList := by
  rw [List.filter_append, List.filter_append, List.filter_eq_nil_iff.2 (fun a ha => by rw [hA a ha]; decide), (List.filter_eq_nil_iff (l := B)).2 (fun a ha => by rw [hB a ha]; decide)]
  cases m with
  | none => simp
  | some x => simp [hm x rfl]
theorem low_no {l : List OpT} {o : OpT} (hg : goodO l) (h : (setO l o).1 = 0) : ∀ a ∈ lowE l o.name (infE o.ty), mineE o.name (frontE o.ty) a = false := by
  intro a ha
  have hm := may_ty (set_code h).1
  have hl : a ∈ l := by rw [← split3 l o.name (infE o.ty)]; exact List.mem_append_left _ ha
  have := low_lt l o.name (infE o.ty) a ha
  cases q : mineE o.name (frontE o.ty) a with
  | false => rfl
  | true => exact absurd ((mine_iff hm (hg a hl).1).1 q) (key_ne (by omega))
theorem tl_no {l : List OpT} {o : OpT} (hs : SortO l) (hg : goodO l) (h : (setO l o).1 = 0) : ∀ a ∈ tlE l o.name (infE o.ty), mineE o.name (frontE o.ty) a = false := by
  intro a ha
  have hm := may_ty (set_code h).1
  have hl : a ∈ l := by rw [← split3 l o.name (infE o.ty)]; exact List.mem_append_right _ (List.mem_append_right _ ha)
  have := tl_gt hs o.name (infE o.ty) a ha
  cases q : mineE o.name (frontE o.ty) a with
  | false => rfl
  | true => exact absurd ((mine_iff hm (hg a hl).1).1 q) (key_ne (by omega))
theorem find_mine {l : List OpT} {o : OpT} (hg : goodO l) (h : (setO l o).1 = 0) : ∀ x, findO l o.name (infE o.ty) = some x → mineE o.name (frontE o.ty) x = true := by
  intro x hx
  have hm := may_ty (set_code h).1
  obtain ⟨h1, h2, _⟩ := find_key hx
  exact (mine_iff hm (hg x (find_mem hx)).1).2 ⟨h1, h2⟩
theorem ins_mine {l : List OpT} {o : OpT} (h : (setO l o).1 = 0) : ∀ x, insO o = some x → mineE o.name (frontE o.ty) x = true := by
  intro x hx
  unfold insO at hx
  split at hx
  · cases hx
  · cases hx
    have hm := may_ty (set_code h).1
    exact (mine_iff hm hm).2 ⟨rfl, rfl⟩
theorem rest_now {l : List OpT} {o : OpT} (hs : SortO l) (hg : goodO l) (h : (setO l o).1 = 0) : (setO l o).2.filter (fun x => !(mineE o.name (frontE o.ty) x)) = l.filter (fun x => !(mineE o.name (frontE o.ty) x)) := by
  rw [set_form h, filter_parts (low_no hg h) (ins_mine h) (tl_no hs hg h)]
  have := filter_parts (low_no hg h) (find_mine hg h) (tl_no hs hg h)
  rw [split3] at this
  exact this.symm
theorem now_mine {l : List OpT} {o : OpT} (hs : SortO l) (hg : goodO l) (h : (setO l o).1 = 0) : (setO l o).2.filter (mineE o.name (frontE o.ty)) = (insO o).toList := by
  rw [set_form h, filter_mine (low_no hg h) (ins_mine h) (tl_no hs hg h)]
theorem mine_is {l : List OpT} {o : OpT} (hs : SortO l) (hg : goodO l) (h : (setO l o).1 = 0) {x : OpT} (hx : x ∈ (setO l o).2) (hm : mineE o.name (frontE o.ty) x = true) : x = o := by
  have : x ∈ (setO l o).2.filter (mineE o.name (frontE o.ty)) := List.mem_filter.2 ⟨hx, hm⟩
  rw [now_mine hs hg h] at this
  unfold insO at this
  split at this
  · cases this
  · simpa using this
theorem back_one {l : List OpT} {o : OpT} (hs : SortO l) (hg : goodO l) (h : (setO l o).1 = 0) (hlen : l.length ≤ 100) {x : OpT} (hx : x ∈ l) (hm : mineE o.name (frontE o.ty) x = true) : setO (setO l o).2 x = (0, l) := by
  obtain ⟨ho, hf⟩ := set_code h
  have hgx := hg x hx
  obtain ⟨k1, k2⟩ := (mine_iff (may_ty ho) hgx.1).1 hm
  have hmx : mayO x = true := may_like ho k1 hgx.1 ⟨by omega, hgx.2.2⟩
  have hself := find_self hs hx
  obtain ⟨p1, p2, p3⟩ := put_parts hs o x.name (infE x.ty) k1.symm k2.symm hf
  have e : (setO l o).2 = (putO l o).2 := by unfold setO; rw [if_pos ho]
  have h3 := split3 l x.name (infE x.ty)
  have hfull : fullO (putO l o).2 x = false := by
    unfold fullO
    rw [p2]
    unfold insO
    by_cases q : o.pr = 0
    · have hl2 : (putO l o).2.length < 100 := by
        have e2 := set_form h
        rw [e, ← k1, ← k2] at e2
        rw [e2]
        have := congrArg List.length h3
        rw [hself] at this
        unfold insO
        simp [q] at this ⊢
        omega
      have : decide (100 ≤ (putO l o).2.length) = false := by simp; omega
      rw [this, Bool.and_false]
    · simp [q]
  have hi : insO x = some x := by unfold insO; rw [if_neg (by omega)]
  rw [e]
  unfold setO
  rw [if_pos hmx, put_eq, if_neg (by rw [hfull]; decide), p1, p3, hi]
  rw [hself] at h3
  rw [h3]
theorem back_none {l : List OpT} {o : OpT} (hs : SortO l) (hg : goodO l) (h : (setO l o).1 = 0) (hn : ∀ x ∈ l, mineE o.name (frontE o.ty) x = false) : setO (setO l o).2 ⟨o.name, o.ty, 0⟩ = (0, l) := by
  obtain ⟨ho, hf⟩ := set_code h
  have hmo : mayO ⟨o.name, o.ty, 0⟩ = true := may_like (x := ⟨o.name, o.ty, 0⟩) ho rfl (show 1 ≤ o.ty ∧ o.ty ≤ 5 from may_ty ho) ⟨Int.le_refl 0, show (0 : Int) ≤ 1200 by decide⟩
  have hnone : findO l o.name (infE o.ty) = none := by
    cases q : findO l o.name (infE o.ty) with
    | none => rfl
    | some x =>
      have := find_mine hg h x q
      rw [hn x (find_mem q)] at this
      cases this
  obtain ⟨p1, p2, p3⟩ := put_parts hs o o.name (infE o.ty) rfl rfl hf
  have e : (setO l o).2 = (putO l o).2 := by unfold setO; rw [if_pos ho]
  have h3 := split3 l o.name (infE o.ty)
  rw [hnone] at h3
  have hi : insO ⟨o.name, o.ty, 0⟩ = none := rfl
  rw [e]
  unfold setO
  rw [if_pos hmo, put_eq, if_neg (by unfold fullO; simp)]
  show ((0 : Int), lowE (putO l o).2 o.name (infE o.ty) ++ ((insO ⟨o.name, o.ty, 0⟩).toList ++ tlE (putO l o).2 o.name (infE o.ty))) = (0, l)
  rw [p1, p3, hi, h3]
end Go.Proofs.Ythapmdlminnihaa
