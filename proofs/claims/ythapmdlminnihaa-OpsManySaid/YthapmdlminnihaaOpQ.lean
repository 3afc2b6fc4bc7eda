/- Pure: a table parted at a name; what putting does to it. -/
import Derived.Test.YthapmdlminnihaaOpC
namespace Go.Proofs.Ythapmdlminnihaa
open Go.RowKit
set_option linter.unusedVariables false
set_option linter.unusedSimpArgs false
set_option maxRecDepth 20000
set_option maxHeartbeats 4000000
theorem inf_front {k : Int} (h : 1 ≤ k ∧ k ≤ 5) : infE k = !frontE k := by
  have : k = 1 ∨ k = 2 ∨ k = 3 ∨ k = 4 ∨ k = 5 := by omega
  rcases this with rfl | rfl | rfl | rfl | rfl <;> decide
attribute [local irreducible] infE placeE mayO cmpO newL
def tlE (l : List OpT) (s : ByteArray) (b : Bool) : List OpT := match findO l s b with
  | some _ => (hiE l s b).tail
  | none => hiE l s b
theorem find_key {l : List OpT} {s : ByteArray} {b : Bool} {x : OpT} (h : findO l s b = some x) : x.name = s ∧ infE x.ty = b ∧ ∃ r, hiE l s b = x :: r := by
  unfold findO at h
  cases hh : hiE l s b with
  | nil => rw [hh] at h; cases h
  | cons y r =>
    rw [hh] at h
    have h : (if cmpO y s b = 0 then some y else none) = some x := h
    split at h
    · rename_i q
      cases h
      rw [cmpO_k] at q
      have := kcmp_zero.1 q
      exact ⟨this.1, this.2, r, rfl⟩
    · cases h
theorem split3 (l : List OpT) (s : ByteArray) (b : Bool) : lowE l s b ++ ((findO l s b).toList ++ tlE l s b) = l := by
  unfold tlE
  cases h : findO l s b with
  | none => simpa using low_hi l s b
  | some x =>
    obtain ⟨_, _, r, hr⟩ := find_key h
    have := low_hi l s b
    rw [hr] at this ⊢
    simpa using this
theorem tl_gt {l : List OpT} (hs : SortO l) (s : ByteArray) (b : Bool) : ∀ a ∈ tlE l s b, 0 < kcmp a.name (infE a.ty) s b := by
  intro a ha
  unfold tlE at ha
  cases h : findO l s b with
  | none =>
    rw [h] at ha
    have ha : a ∈ hiE l s b := ha
    unfold findO at h
    cases hh : hiE l s b with
    | nil => rw [hh] at ha; cases ha
    | cons y r =>
      rw [hh] at h
      have h : (if cmpO y s b = 0 then some y else none) = none := h
      have q : ¬ cmpO y s b = 0 := fun e => by rw [if_pos e] at h; cases h
      rw [cmpO_k] at q
      have h0 := hi_ge hs s b y (by rw [hh]; simp)
      rw [hh] at ha
      rcases List.mem_cons.1 ha with rfl | ha
      · omega
      · exact hi_tail hs hh a ha
  | some x =>
    rw [h] at ha
    obtain ⟨_, _, r, hr⟩ := find_key h
    have ha : a ∈ (hiE l s b).tail := ha
    rw [hr] at ha
    exact hi_tail hs hr a ha
def insO (o : OpT) : Option OpT := if o.pr = 0 then none else some o
def fullO (l : List OpT) (o : OpT) : Bool := (findO l o.name (infE o.ty)).isNone && !(o.pr == 0) && decide (100 ≤ l.length)
theorem put_eq (l : List OpT) (o : OpT) : putO l o = if fullO l o then (8, l) else (0, lowE l o.name (infE o.ty) ++ ((insO o).toList ++ tlE l o.name (infE o.ty))) := by
  have h3 := split3 l o.name (infE o.ty)
  unfold putO fullO insO
  unfold tlE at h3 ⊢
  cases h : findO l o.name (infE o.ty) with
  | none =>
    rw [h] at h3
    by_cases q : o.pr = 0
    · simp [q] at h3 ⊢; exact h3.symm
    · by_cases q2 : 100 ≤ l.length <;> simp [q, q2]
  | some x =>
    by_cases q : o.pr = 0 <;> simp [q]
theorem parts {A B : List OpT} {m : Option OpT} {s : ByteArray} {b : Bool} (hA : ∀ a ∈ A, kcmp a.name (infE a.ty) s b < 0) (hm : ∀ x, m = some x → x.name = s ∧ infE x.ty = b) (hB : ∀ a ∈ B, 0 < kcmp a.name (infE a.ty) s b) :
    lowE (A ++ (m.toList ++ B)) s b = A ∧ findO (A ++ (m.toList ++ B)) s b = m ∧ tlE (A ++ (m.toList ++ B)) s b = B := by
  have hge : ∀ a ∈ m.toList ++ B, ¬ cmpO a s b < 0 := by
    intro a ha
    rw [cmpO_k]
    rcases List.mem_append.1 ha with ha | ha
    · have : m = some a := by cases m <;> simp_all
      have := kcmp_zero.2 (hm a this)
      omega
    · have := hB a ha
      omega
  have hlo : lowE (A ++ (m.toList ++ B)) s b = A := by
    unfold lowE
    rw [List.takeWhile_append_of_pos (fun a ha => by rw [cmpO_k]; simpa using hA a ha)]
    cases hq : m.toList ++ B with
    | nil => simp
    | cons y r => rw [List.takeWhile_cons, if_neg (by have := hge y (by rw [hq]; simp); simpa using this), List.append_nil]
  have hhi : hiE (A ++ (m.toList ++ B)) s b = m.toList ++ B := by
    have := low_hi (A ++ (m.toList ++ B)) s b
    rw [hlo] at this
    exact List.append_cancel_left this
  have hf : findO (A ++ (m.toList ++ B)) s b = m := by
    unfold findO
    rw [hhi]
    cases m with
    | none =>
      cases B with
      | nil => rfl
      | cons y r =>
        have := hB y (by simp)
        simp only [Option.toList_none, List.nil_append]
        rw [if_neg (by rw [cmpO_k]; omega)]
    | some x =>
      have := kcmp_zero.2 (hm x rfl)
      simp only [Option.toList_some, List.singleton_append]
      rw [if_pos (by rw [cmpO_k]; exact this)]
  refine ⟨hlo, hf, ?_⟩
  unfold tlE
  rw [hf, hhi]
  cases m <;> simp
theorem put_parts {l : List OpT} (hs : SortO l) (o : OpT) (s : ByteArray) (b : Bool) (h1 : o.name = s) (h2 : infE o.ty = b) (hf : fullO l o = false) :
    lowE (putO l o).2 s b = lowE l s b ∧ findO (putO l o).2 s b = insO o ∧ tlE (putO l o).2 s b = tlE l s b := by
  subst h1 h2
  rw [put_eq, if_neg (by rw [hf]; decide)]
  refine parts (low_lt l _ _) (fun x hx => ?_) (tl_gt hs _ _)
  unfold insO at hx
  split at hx
  · cases hx
  · cases hx; exact ⟨rfl, rfl⟩
/-- Put over: of two of one name the last counts. -/
theorem put_over {l : List OpT} (hs : SortO l) (a o : OpT) (h1 : a.name = o.name) (h2 : infE a.ty = infE o.ty) (ha : fullO l a = false) (ho : fullO l o = false) (hao : fullO (putO l a).2 o = false) : putO (putO l a).2 o = putO l o := by
  obtain ⟨p1, p2, p3⟩ := put_parts hs a o.name (infE o.ty) h1 h2 ha
  rw [put_eq (putO l a).2 o, put_eq l o, if_neg (by rw [hao]; decide), if_neg (by rw [ho]; decide), p1, p3]
theorem full_self {l : List OpT} (hs : SortO l) (o : OpT) (h : fullO l o = false) : fullO (putO l o).2 o = false := by
  obtain ⟨_, p2, _⟩ := put_parts hs o _ _ rfl rfl h
  unfold fullO
  rw [p2]
  unfold insO
  by_cases q : o.pr = 0 <;> simp [q]
theorem put_twice {l : List OpT} (hs : SortO l) (o : OpT) : putO (putO l o).2 o = putO l o := by
  cases h : fullO l o with
  | true =>
    have e : putO l o = (8, l) := by rw [put_eq, if_pos h]
    rw [e]; exact e
  | false => exact put_over hs o o rfl rfl h h (full_self hs o h)
theorem set_twice {l : List OpT} (hs : SortO l) (o : OpT) : setO (setO l o).2 o = setO l o := by
  unfold setO
  by_cases h : mayO o = true
  · rw [if_pos h, if_pos h]; exact put_twice hs o
  · rw [if_neg h, if_neg h]
theorem set_code {l : List OpT} {o : OpT} (h : (setO l o).1 = 0) : mayO o = true ∧ fullO l o = false := by
  unfold setO at h
  by_cases q : mayO o = true
  · refine ⟨q, ?_⟩
    rw [if_pos q, put_eq] at h
    cases hf : fullO l o with
    | false => rfl
    | true => rw [hf] at h; simp at h
  · rw [if_neg q] at h; simp at h
theorem set_ok {l : List OpT} {o : OpT} (h : mayO o = true) (hf : fullO l o = false) : (setO l o).1 = 0 := by
  unfold setO
  rw [if_pos h, put_eq, if_neg (by rw [hf]; decide)]
theorem set_no {l : List OpT} {o : OpT} (h : (setO l o).1 ≠ 0) : (setO l o).2 = l := by
  unfold setO at h ⊢
  by_cases q : mayO o = true
  · rw [if_pos q, put_eq] at h ⊢
    cases hf : fullO l o with
    | false => rw [hf] at h; simp at h
    | true => simp
  · rw [if_neg q]
theorem may_ty {o : OpT} (h : mayO o = true) : 1 ≤ o.ty ∧ o.ty ≤ 5 := by
  unfold mayO at h
  simp only [Bool.and_eq_true, Bool.not_eq_true', Bool.or_eq_false_iff, decide_eq_false_iff_not] at h
  omega
theorem may_pr {o : OpT} (h : mayO o = true) : 0 ≤ o.pr ∧ o.pr ≤ 1200 := by
  unfold mayO at h
  simp only [Bool.and_eq_true, Bool.not_eq_true', Bool.or_eq_false_iff, decide_eq_false_iff_not] at h
  omega
theorem not_full {l : List OpT} {o : OpT} (h : l.length < 100) : fullO l o = false := by
  unfold fullO
  have : decide (100 ≤ l.length) = false := by simp; omega
  rw [this, Bool.and_false]
end Go.Proofs.Ythapmdlminnihaa
