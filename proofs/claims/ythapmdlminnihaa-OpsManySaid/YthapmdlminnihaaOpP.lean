/- Pure: a table of operators, in order; what it becomes when one is put in. -/
import Derived.Test.YthapmdlminnihaaOrdF
namespace Go.Proofs.Ythapmdlminnihaa
open Go.RowKit
set_option linter.unusedVariables false
set_option linter.unusedSimpArgs false
set_option maxRecDepth 20000
set_option maxHeartbeats 4000000

def kcmp (s : ByteArray) (b : Bool) (s' : ByteArray) (b' : Bool) : Int := orI (cmpS s s') (cmpI (placeE b) (placeE b'))
theorem cmpO_k (a : OpT) (s : ByteArray) (b : Bool) : cmpO a s b = kcmp a.name (infE a.ty) s b := rfl
theorem kcmp_R (s : ByteArray) (b : Bool) (s' : ByteArray) (b' : Bool) : R3 (kcmp s b s' b') := or_R3 (cmpS_R _ _) (cmpI_R _ _)
theorem kcmp_neg (s : ByteArray) (b : Bool) (s' : ByteArray) (b' : Bool) : kcmp s' b' s b = - kcmp s b s' b' := or_neg (cmpS_neg _ _) (fun _ => cmpI_neg _ _)
theorem kcmp_T (s : ByteArray) (b : Bool) (s' : ByteArray) (b' : Bool) (s'' : ByteArray) (b'' : Bool) : T3 (kcmp s b s' b') (kcmp s' b' s'' b'') (kcmp s b s'' b'') := or_T3 (cmpS_T _ _ _) (fun _ _ => cmpI_T _ _ _) (cmpS_R _ _) (cmpS_R _ _) (cmpS_R _ _)
theorem name_eq {s s' : ByteArray} : (s.toList == s'.toList) = true ↔ s = s' := by
  constructor
  · intro h
    have h : s.toList = s'.toList := by simpa using h
    rw [ByteArray.toList_eq, ByteArray.toList_eq] at h
    cases s; cases s'
    congr 1
    exact Array.toList_inj.1 h
  · rintro rfl; simp
theorem placeE_inj {b b' : Bool} : placeE b = placeE b' ↔ b = b' := by cases b <;> cases b' <;> simp [placeE]
theorem kcmp_zero {s : ByteArray} {b : Bool} {s' : ByteArray} {b' : Bool} : kcmp s b s' b' = 0 ↔ s = s' ∧ b = b' := by
  unfold kcmp
  rw [or_zero, cmpS_zero, cmpI_zero, name_eq, placeE_inj]
theorem kcmp_lt {s : ByteArray} {b : Bool} {s' : ByteArray} {b' : Bool} {s'' : ByteArray} {b'' : Bool} (h : kcmp s b s' b' < 0) (h' : kcmp s' b' s'' b'' ≤ 0) : kcmp s b s'' b'' < 0 := by
  have t := kcmp_T s b s' b' s'' b'' (by omega) h'
  have : ¬ kcmp s b s'' b'' = 0 := fun e => by have := (t.2.1 e).1; omega
  omega
theorem kcmp_lt2 {s : ByteArray} {b : Bool} {s' : ByteArray} {b' : Bool} {s'' : ByteArray} {b'' : Bool} (h : kcmp s b s' b' ≤ 0) (h' : kcmp s' b' s'' b'' < 0) : kcmp s b s'' b'' < 0 := by
  have t := kcmp_T s b s' b' s'' b'' h (by omega)
  have : ¬ kcmp s b s'' b'' = 0 := fun e => by have := (t.2.1 e).2; omega
  omega
attribute [irreducible] kcmp

/-- In order, each name once in front and once between. -/
def SortO (l : List OpT) : Prop := l.Pairwise fun a b => kcmp a.name (infE a.ty) b.name (infE b.ty) < 0
def lowE (l : List OpT) (s : ByteArray) (b : Bool) : List OpT := l.takeWhile fun a => decide (cmpO a s b < 0)
def hiE (l : List OpT) (s : ByteArray) (b : Bool) : List OpT := l.dropWhile fun a => decide (cmpO a s b < 0)
theorem low_hi (l : List OpT) (s : ByteArray) (b : Bool) : lowE l s b ++ hiE l s b = l := List.takeWhile_append_dropWhile
theorem low_lt (l : List OpT) (s : ByteArray) (b : Bool) : ∀ a ∈ lowE l s b, kcmp a.name (infE a.ty) s b < 0 := by
  induction l with
  | nil => intro a h; simp [lowE] at h
  | cons x l ih =>
    intro a h
    unfold lowE at h
    rw [List.takeWhile_cons] at h
    split at h
    · rename_i q
      rcases List.mem_cons.1 h with rfl | h
      · have q := of_decide_eq_true q
        rwa [cmpO_k] at q
      · exact ih a h
    · cases h
theorem hi_ge {l : List OpT} (hs : SortO l) (s : ByteArray) (b : Bool) : ∀ a ∈ hiE l s b, 0 ≤ kcmp a.name (infE a.ty) s b := by
  induction l with
  | nil => intro a h; simp [hiE] at h
  | cons x l ih =>
    intro a h
    unfold SortO at hs
    rw [List.pairwise_cons] at hs
    unfold hiE at h
    rw [List.dropWhile_cons] at h
    split at h
    · exact ih hs.2 a h
    · rename_i q
      have q : 0 ≤ kcmp x.name (infE x.ty) s b := by
        have q : ¬ cmpO x s b < 0 := fun e => q (decide_eq_true e)
        rw [cmpO_k] at q
        omega
      rcases List.mem_cons.1 h with rfl | h
      · exact q
      · have h1 := hs.1 a h
        apply Classical.byContradiction
        intro h2
        have := kcmp_lt h1 (show kcmp a.name (infE a.ty) s b ≤ 0 by omega)
        omega
theorem low_len (l : List OpT) (s : ByteArray) (b : Bool) : (lowE l s b).length ≤ l.length := by
  have := congrArg List.length (low_hi l s b)
  rw [List.length_append] at this
  omega
theorem low_at {l : List OpT} {s : ByteArray} {b : Bool} : ∀ i a, i < (lowE l s b).length → l[i]? = some a → cmpO a s b < 0 := by
  intro i a hi ha
  rw [← low_hi l s b, List.getElem?_append_left hi] at ha
  rw [cmpO_k]
  exact low_lt l s b a (List.mem_of_getElem? ha)
theorem hi_at {l : List OpT} (hs : SortO l) {s : ByteArray} {b : Bool} : ∀ i a, (lowE l s b).length ≤ i → l[i]? = some a → 0 ≤ cmpO a s b := by
  intro i a hi ha
  rw [← low_hi l s b, List.getElem?_append_right hi] at ha
  rw [cmpO_k]
  exact hi_ge hs s b a (List.mem_of_getElem? ha)
/-- The operator of that name, if there is one. -/
def findO (l : List OpT) (s : ByteArray) (b : Bool) : Option OpT := match hiE l s b with
  | [] => none
  | x :: _ => if cmpO x s b = 0 then some x else none
/-- One put in: what is told, and the table then. -/
def putO (l : List OpT) (o : OpT) : Int × List OpT :=
  if (findO l o.name (infE o.ty)).isSome then
    if o.pr = 0 then (0, lowE l o.name (infE o.ty) ++ (hiE l o.name (infE o.ty)).tail) else (0, lowE l o.name (infE o.ty) ++ o :: (hiE l o.name (infE o.ty)).tail)
  else if o.pr = 0 then (0, l) else if 100 ≤ l.length then (8, l) else (0, lowE l o.name (infE o.ty) ++ o :: hiE l o.name (infE o.ty))
def setO (l : List OpT) (o : OpT) : Int × List OpT := if mayO o then putO l o else (1, l)

theorem sort_app {A B : List OpT} : SortO (A ++ B) ↔ SortO A ∧ SortO B ∧ ∀ a ∈ A, ∀ b ∈ B, kcmp a.name (infE a.ty) b.name (infE b.ty) < 0 := List.pairwise_append
theorem hi_tail {l : List OpT} (hs : SortO l) {s : ByteArray} {b : Bool} {x : OpT} {r : List OpT} (h : hiE l s b = x :: r) : ∀ a ∈ r, 0 < kcmp a.name (infE a.ty) s b := by
  intro a ha
  have h0 := hi_ge hs s b x (by rw [h]; simp)
  have hs2 := hs
  rw [← low_hi l s b, h] at hs2
  have h1 := (List.pairwise_cons.1 (sort_app.1 hs2).2.1).1 a ha
  have h2 : kcmp s b x.name (infE x.ty) ≤ 0 := by rw [kcmp_neg]; omega
  have := kcmp_lt2 h2 h1
  rw [kcmp_neg] at this
  omega
theorem put_sort {l : List OpT} (hs : SortO l) (o : OpT) : SortO (putO l o).2 := by
  have hs2 := hs
  rw [← low_hi l o.name (infE o.ty)] at hs2
  obtain ⟨h1, h2, h3⟩ := sort_app.1 hs2
  have hl := low_lt l o.name (infE o.ty)
  have ins : ∀ r : List OpT, (∀ a ∈ r, a ∈ hiE l o.name (infE o.ty)) → SortO r → (∀ a ∈ r, 0 < kcmp a.name (infE a.ty) o.name (infE o.ty)) → SortO (lowE l o.name (infE o.ty) ++ o :: r) := by
    intro r hr hsr hgt
    refine sort_app.2 ⟨h1, List.pairwise_cons.2 ⟨fun a ha => by rw [kcmp_neg]; have := hgt a ha; omega, hsr⟩, fun a ha b hb => ?_⟩
    rcases List.mem_cons.1 hb with rfl | hb
    · exact hl a ha
    · exact h3 a ha b (hr b hb)
  unfold putO
  cases hh : hiE l o.name (infE o.ty) with
  | nil =>
    have hf : findO l o.name (infE o.ty) = none := by unfold findO; rw [hh]
    rw [hf, if_neg (by simp)]
    split
    · exact hs
    · split
      · exact hs
      · exact ins [] (by simp) List.Pairwise.nil (by simp)
  | cons x r =>
    have htl := hi_tail hs hh
    rw [hh] at h2 h3 ins
    obtain ⟨h4, h5⟩ := List.pairwise_cons.1 h2
    have hge := hi_ge hs o.name (infE o.ty)
    by_cases q : cmpO x o.name (infE o.ty) = 0
    · have hf : findO l o.name (infE o.ty) = some x := by unfold findO; rw [hh]; simp [q]
      rw [hf, if_pos (by simp)]
      split
      · exact sort_app.2 ⟨h1, h5, fun a ha b hb => h3 a ha b (by simp only [List.tail_cons] at hb; simp [hb])⟩
      · exact ins r (fun a ha => by simp [ha]) h5 htl
    · have hf : findO l o.name (infE o.ty) = none := by unfold findO; rw [hh]; simp [q]
      rw [hf, if_neg (by simp)]
      split
      · exact hs
      · split
        · exact hs
        · refine ins (x :: r) (fun a ha => ha) h2 (fun a ha => ?_)
          rcases List.mem_cons.1 ha with rfl | ha
          · have := hge a (by rw [hh]; simp)
            rw [cmpO_k] at q
            omega
          · exact htl a ha
theorem put_len {l : List OpT} (o : OpT) (h : l.length ≤ 100) : (putO l o).2.length ≤ 100 := by
  have e := congrArg List.length (low_hi l o.name (infE o.ty))
  rw [List.length_append] at e
  unfold putO
  split
  · rename_i hf
    have : 0 < (hiE l o.name (infE o.ty)).length := by
      unfold findO at hf
      cases hh : hiE l o.name (infE o.ty) with
      | nil => rw [hh] at hf; simp at hf
      | cons x r => simp
    split
    · simp only [List.length_append, List.length_tail]; omega
    · simp only [List.length_append, List.length_tail, List.length_cons]; omega
  · split
    · exact h
    · split
      · exact h
      · simp only [List.length_append, List.length_cons]; omega
theorem set_sort {l : List OpT} (hs : SortO l) (o : OpT) : SortO (setO l o).2 := by unfold setO; split; exact put_sort hs o; exact hs
theorem set_len {l : List OpT} (o : OpT) (h : l.length ≤ 100) : (setO l o).2.length ≤ 100 := by unfold setO; split; exact put_len o h; exact h
end Go.Proofs.Ythapmdlminnihaa
