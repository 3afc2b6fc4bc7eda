/- Insertion, as a function of rows of terms. -/
import Derived.Test.YthiionkikammkaaOrd0
namespace Go.Proofs.Ythiionkikammkaa
set_option linter.unusedVariables false
set_option linter.unusedSimpArgs false
set_option maxRecDepth 20000
set_option maxHeartbeats 1000000

/-- Into a row that is told from its end on. -/
def insR (x : Tm) : List Tm → List Tm
  | [] => [x]
  | y :: ys => if ordE x y < 0 then y :: insR x ys else x :: y :: ys
def sortR (l : List Tm) : List Tm := l.foldl (fun r x => insR x r) []
/-- A row whose part from a to b is sorted. -/
def segS (d : List Tm) (a b : Nat) : List Tm := d.take a ++ (sortR ((d.drop a).take (b - a))).reverse ++ d.drop b
theorem insR_len (x : Tm) : ∀ l : List Tm, (insR x l).length = l.length + 1
  | [] => rfl
  | y :: ys => by unfold insR; split <;> simp [insR_len x ys]
theorem insR_mem {x y : Tm} : ∀ {l : List Tm}, y ∈ insR x l ↔ y = x ∨ y ∈ l
  | [] => by simp [insR]
  | z :: zs => by
    unfold insR
    split
    · simp only [List.mem_cons, insR_mem (l := zs)]
      constructor
      · rintro (h | h | h) <;> simp [h]
      · rintro (h | h | h) <;> simp [h]
    · simp
theorem sortR_snoc (l : List Tm) (x : Tm) : sortR (l ++ [x]) = insR x (sortR l) := by unfold sortR; rw [List.foldl_append]; rfl
theorem sortR_len (l : List Tm) : (sortR l).length = l.length := by
  have key : ∀ (l r : List Tm), (l.foldl (fun r x => insR x r) r).length = r.length + l.length := by
    intro l
    induction l with
    | nil => intro r; rfl
    | cons a l ih => intro r; rw [List.foldl_cons, ih, insR_len, List.length_cons]; omega
  have := key l []
  simpa [sortR] using this
theorem sortR_mem {y : Tm} (l : List Tm) : y ∈ sortR l ↔ y ∈ l := by
  have key : ∀ (l r : List Tm), y ∈ l.foldl (fun r x => insR x r) r ↔ y ∈ r ∨ y ∈ l := by
    intro l
    induction l with
    | nil => intro r; simp
    | cons a l ih =>
      intro r
      rw [List.foldl_cons, ih, insR_mem, List.mem_cons]
      constructor
      · rintro ((h | h) | h) <;> simp [h]
      · rintro (h | h | h) <;> simp [h]
  have := key l []
  simpa [sortR] using this
theorem segS_len {d : List Tm} {a b : Nat} (h : a ≤ b) (hb : b ≤ d.length) : (segS d a b).length = d.length := by
  unfold segS
  simp only [List.length_append, List.length_reverse, sortR_len, List.length_take, List.length_drop]
  omega
theorem segS_mem {d : List Tm} {a b : Nat} {y : Tm} (h : y ∈ segS d a b) : y ∈ d := by
  unfold segS at h
  rcases List.mem_append.1 h with h | h
  · rcases List.mem_append.1 h with h | h
    · exact List.mem_of_mem_take h
    · rw [List.mem_reverse, sortR_mem] at h
      exact List.mem_of_mem_drop (List.mem_of_mem_take h)
  · exact List.mem_of_mem_drop h
theorem segS_zero (d : List Tm) (a : Nat) : segS d a a = d := by unfold segS; simp [sortR]
theorem segS_one (d : List Tm) (a : Nat) : segS d a (a + 1) = d := by
  unfold segS
  rw [show a + 1 - a = 1 by omega]
  by_cases h : a < d.length
  · have : sortR (List.take 1 (d.drop a)) = [d[a]] := by
      rw [List.drop_eq_getElem_cons h]
      rfl
    rw [this]
    simp only [List.reverse_singleton, List.append_assoc, List.singleton_append]
    rw [← List.drop_eq_getElem_cons h, List.take_append_drop]
  · rw [List.drop_eq_nil_of_le (by omega), List.drop_eq_nil_of_le (by omega), List.take_of_length_le (by omega)]
    simp [sortR]
theorem segS_split {d : List Tm} {a i : Nat} (ha : a ≤ i) (hi : i < d.length) : segS d a i = d.take a ++ (sortR ((d.drop a).take (i - a))).reverse ++ d[i] :: d.drop (i + 1) := by
  unfold segS
  rw [List.drop_eq_getElem_cons hi]
theorem segS_succ {d : List Tm} {a i : Nat} (ha : a ≤ i) (hi : i < d.length) : segS d a (i + 1) = d.take a ++ (insR d[i] (sortR ((d.drop a).take (i - a)))).reverse ++ d.drop (i + 1) := by
  unfold segS
  have e : (d.drop a).take (i + 1 - a) = (d.drop a).take (i - a) ++ [d[i]] := by
    rw [show i + 1 - a = (i - a) + 1 by omega, List.take_succ_eq_append_getElem (by simp; omega)]
    congr 2
    simp only [List.getElem_drop]
    congr 1
    omega
  rw [e, sortR_snoc]
theorem swap_set {P : List Tm} {t x : Tm} {B : List Tm} : ((P ++ t :: x :: B).set (P.length + 1) t).set P.length x = P ++ x :: t :: B := by
  rw [List.set_append_right _ _ (by omega), show P.length + 1 - P.length = 1 by omega, List.set_append_right _ _ (Nat.le_refl _), Nat.sub_self]
  rfl
end Go.Proofs.Ythiionkikammkaa
