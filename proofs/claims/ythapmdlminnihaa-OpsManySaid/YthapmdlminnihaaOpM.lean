/- Pure: a table to which many operators are added. -/
import Derived.Test.YthapmdlminnihaaOpV
import Derived.Laws.BytesArg
namespace Go.Proofs.Ythapmdlminnihaa
open Go.RowKit
set_option linter.unusedVariables false
set_option linter.unusedSimpArgs false
set_option maxRecDepth 20000
set_option maxHeartbeats 4000000
def nmM (k : Nat) : ByteArray := strOfNums [97, 97 + ((k / 26 : Nat) : Int), 97 + ((k % 26 : Nat) : Int)]
def opM (k : Nat) : OpT := ⟨nmM k, 1, 5⟩
def tabM : Nat → List OpT
  | 0 => newL
  | k + 1 => (setO (tabM k) (opM k)).2
theorem nmM_list (k : Nat) : (nmM k).toList = [97, UInt8.ofNat (97 + k / 26), UInt8.ofNat (97 + k % 26)] := by
  rw [ByteArray.toList_eq]
  unfold nmM
  rw [strOfNums_data]
  simp only [List.map_cons, List.map_nil]
  have e1 : (97 + ((k / 26 : Nat) : Int)).toNat = 97 + k / 26 := by omega
  have e2 : (97 + ((k % 26 : Nat) : Int)).toNat = 97 + k % 26 := by omega
  rw [e1, e2]
  rfl
theorem nmM_inj {j k : Nat} (hj : j < 100) (hk : k < 100) (h : nmM j = nmM k) : j = k := by
  have h : (nmM j).toList = (nmM k).toList := by rw [h]
  rw [nmM_list, nmM_list] at h
  simp only [List.cons.injEq, true_and, and_true] at h
  have h1 := congrArg UInt8.toNat h.1
  have h2 := congrArg UInt8.toNat h.2
  rw [UInt8.toNat_ofNat', UInt8.toNat_ofNat'] at h1 h2
  omega
theorem nmM_new {k : Nat} : ∀ x ∈ newL, x.name ≠ nmM k := by
  intro x hx h
  have h0 : ∀ x ∈ newC, (x.name.data.toList.head? == some 97) = false := by
    unfold newC
    intro x hx
    simp only [List.mem_cons, List.not_mem_nil, or_false] at hx
    rcases hx with h | h | h | h | h | h | h | h | h | h | h | h | h | h | h | h | h | h | h | h | h | h | h | h | h | h | h | h | h | h <;> (subst h; rfl)
  rw [newL_eq] at hx
  have := h0 x hx
  rw [h, ← ByteArray.toList_eq, nmM_list] at this
  simp at this
theorem opM_may (k : Nat) : mayO (opM k) = true := by
  have hs : (nmM k).size = 3 := by unfold nmM; rw [strOfNums_size]; rfl
  unfold mayO opM
  simp only [nmM_list, hs]
  simp
theorem opM_inf (k : Nat) : infE (opM k).ty = true := rfl
theorem is_may : mayO ⟨⟨#[105, 115]⟩, 3, 9⟩ = true := by
  unfold mayO
  simp only [ByteArray.toList_eq]
  rfl
theorem mod_may : mayO ⟨⟨#[109, 111, 100]⟩, 1, 0⟩ = true := by
  unfold mayO
  simp only [ByteArray.toList_eq]
  rfl
theorem is_inf : infE 3 = true := rfl
theorem mod_inf : infE 1 = true := rfl
attribute [local irreducible] infE placeE mayO cmpO newL
theorem put_keep {l : List OpT} {o x : OpT} (hx : x ∈ l) (h : ¬ (x.name = o.name ∧ infE x.ty = infE o.ty)) : x ∈ (putO l o).2 := by
  rw [put_eq]
  cases hf : fullO l o with
  | true => simpa using hx
  | false =>
    have h3 := split3 l o.name (infE o.ty)
    rw [← h3] at hx
    rw [if_neg (by decide)]
    rcases List.mem_append.1 hx with hx | hx
    · exact List.mem_append_left _ hx
    · rcases List.mem_append.1 hx with hx | hx
      · have : findO l o.name (infE o.ty) = some x := by simpa using hx
        obtain ⟨h1, h2, _⟩ := find_key this
        exact absurd ⟨h1, h2⟩ h
      · exact List.mem_append_right _ (List.mem_append_right _ hx)
theorem find_no {l : List OpT} {s : ByteArray} {b : Bool} (h : ∀ x ∈ l, x.name ≠ s) : findO l s b = none := by
  cases q : findO l s b with
  | none => rfl
  | some x => exact absurd (find_key q).1 (h x (find_mem q))
theorem set_may {l : List OpT} {o : OpT} (h : mayO o = true) : setO l o = putO l o := by unfold setO; rw [if_pos h]
theorem tabM_mem : ∀ k x, x ∈ tabM k → x ∈ newL ∨ ∃ j, j < k ∧ x = opM j
  | 0, x, h => .inl h
  | k + 1, x, h => by
    rcases set_mem h with h | ⟨h, _⟩
    · rcases tabM_mem k x h with h | ⟨j, hj, h⟩
      · exact .inl h
      · exact .inr ⟨j, by omega, h⟩
    · exact .inr ⟨k, by omega, h⟩
theorem tabM_find {k : Nat} (hk : k < 100) : findO (tabM k) (nmM k) true = none := find_no fun x hx e => by
  rcases tabM_mem k x hx with h | ⟨j, hj, rfl⟩
  · exact nmM_new x h e
  · have := nmM_inj (j := j) (k := k) (by omega) hk e
    omega
theorem set_M {k : Nat} (hk : k < 100) : setO (tabM k) (opM k) = if 100 ≤ (tabM k).length then (8, tabM k) else (0, lowE (tabM k) (nmM k) true ++ opM k :: hiE (tabM k) (nmM k) true) := by
  rw [set_may (opM_may k)]
  have hf := tabM_find hk
  unfold putO
  rw [opM_inf]
  show (if (findO (tabM k) (nmM k) true).isSome = true then _ else _) = _
  rw [hf, if_neg (by decide), if_neg (by show ¬ (5 : Int) = 0; decide)]
  rfl
theorem tabM_len : ∀ k, k ≤ 100 → (tabM k).length = min (30 + k) 100
  | 0, _ => new_length
  | k + 1, h => by
    have ih := tabM_len k (by omega)
    have e := set_M (k := k) (by omega)
    show (setO (tabM k) (opM k)).2.length = _
    rw [e]
    by_cases q : 100 ≤ (tabM k).length
    · rw [if_pos q]
      show (tabM k).length = _
      omega
    · rw [if_neg q]
      have h2 := congrArg List.length (low_hi (tabM k) (nmM k) true)
      rw [List.length_append] at h2
      show (lowE (tabM k) (nmM k) true ++ opM k :: hiE (tabM k) (nmM k) true).length = _
      rw [List.length_append, List.length_cons]
      omega
theorem tabM_code {k : Nat} (hk : k < 100) : (setO (tabM k) (opM k)).1 = if 30 + k < 100 then 0 else 8 := by
  rw [set_M hk]
  have := tabM_len k (by omega)
  by_cases q : 30 + k < 100
  · rw [if_pos q, if_neg (by omega)]
  · rw [if_neg q, if_pos (by omega)]
theorem tabM_sort : ∀ k, SortO (tabM k)
  | 0 => new_sort
  | k + 1 => set_sort (tabM_sort k) _
theorem tabM_keep : ∀ k x, x ∈ newL → x ∈ tabM k
  | 0, x, h => h
  | k + 1, x, h => by
    show x ∈ (setO (tabM k) (opM k)).2
    rw [set_may (opM_may k)]
    exact put_keep (tabM_keep k x h) fun e => nmM_new x h e.1
theorem new_mod : findO newL ⟨#[109, 111, 100]⟩ true = some ⟨⟨#[109, 111, 100]⟩, 3, 400⟩ := by rw [newL_eq, find2]; kernel_rfl
/-- One that is there, set anew. -/
theorem set_there {l : List OpT} (hs : SortO l) {o x : OpT} (ho : mayO o = true) (hx : x ∈ l) (h1 : x.name = o.name) (h2 : infE x.ty = infE o.ty) :
    (setO l o).1 = 0 ∧ findO (setO l o).2 o.name (infE o.ty) = insO o ∧ (setO l o).2.length + 1 = l.length + (insO o).toList.length := by
  have hf := find_self hs hx
  rw [h1, h2] at hf
  have hfull : fullO l o = false := by unfold fullO; rw [hf]; rfl
  rw [set_may ho]
  refine ⟨by rw [put_eq, hfull]; rfl, (put_parts hs o _ _ rfl rfl hfull).2.1, ?_⟩
  have h3 := congrArg List.length (split3 l o.name (infE o.ty))
  rw [hf] at h3
  rw [put_eq, hfull, if_neg (by decide)]
  simp only [List.length_append, Option.toList_some, List.length_cons, List.length_nil] at h3 ⊢
  omega
theorem many_end (n : Nat) (hn : n ≤ 100) :
    (setO (tabM n) ⟨⟨#[105, 115]⟩, 3, 9⟩).1 = 0 ∧ findO (setO (tabM n) ⟨⟨#[105, 115]⟩, 3, 9⟩).2 ⟨#[105, 115]⟩ true = some ⟨⟨#[105, 115]⟩, 3, 9⟩ ∧
    (setO (setO (tabM n) ⟨⟨#[105, 115]⟩, 3, 9⟩).2 ⟨⟨#[109, 111, 100]⟩, 1, 0⟩).1 = 0 ∧ findO (setO (setO (tabM n) ⟨⟨#[105, 115]⟩, 3, 9⟩).2 ⟨⟨#[109, 111, 100]⟩, 1, 0⟩).2 ⟨#[109, 111, 100]⟩ true = none ∧
    (setO (setO (tabM n) ⟨⟨#[105, 115]⟩, 3, 9⟩).2 ⟨⟨#[109, 111, 100]⟩, 1, 0⟩).2.length + 1 = min (30 + n) 100 := by
  have m1 := tabM_keep n _ (find_mem new_is)
  have m2 := tabM_keep n _ (find_mem new_mod)
  have ss := set_sort (tabM_sort n) ⟨⟨#[105, 115]⟩, 3, 9⟩
  obtain ⟨a1, a2, a3⟩ := set_there (tabM_sort n) (o := ⟨⟨#[105, 115]⟩, 3, 9⟩) is_may m1 rfl (by rw [is_inf]; exact mod_inf)
  have m3 : ⟨⟨#[109, 111, 100]⟩, 3, 400⟩ ∈ (setO (tabM n) ⟨⟨#[105, 115]⟩, 3, 9⟩).2 := by
    rw [set_may is_may]
    refine put_keep m2 fun e => ?_
    have e := congrArg ByteArray.size e.1
    revert e
    decide
  obtain ⟨b1, b2, b3⟩ := set_there ss (o := ⟨⟨#[109, 111, 100]⟩, 1, 0⟩) mod_may m3 rfl (by rw [mod_inf]; exact is_inf)
  rw [is_inf] at a2
  rw [mod_inf] at b2
  refine ⟨a1, a2, b1, b2, ?_⟩
  have := tabM_len n hn
  have i1 : (insO ⟨⟨#[105, 115]⟩, 3, 9⟩).toList.length = 1 := rfl
  have i2 : (insO ⟨⟨#[109, 111, 100]⟩, 1, 0⟩).toList.length = 0 := rfl
  omega
end Go.Proofs.Ythapmdlminnihaa
