/- TermDeep's terms. -/
import Derived.Test.YtdjbbafdepdglaaTm
namespace Go.Proofs.Ytdjbbafdepdglaa
open Go.RowKit
set_option linter.unusedVariables false
set_option linter.unusedSimpArgs false

theorem red64 (a : Int) (n : Nat) (h0 : 0 < n) (h1 : n ≤ 1000) : ∃ m : Nat, m < n ∧ wrap64 ((IntKind.u64.wrap a).tmod n) = m := by
  have hx := wrap_u64_nonneg a
  generalize IntKind.u64.wrap a = x at hx ⊢
  rw [Int.tmod_eq_emod_of_nonneg hx]
  have hy := Int.emod_nonneg x (b := (n : Int)) (by omega)
  have hz := Int.emod_lt_of_pos x (b := (n : Int)) (by omega)
  generalize x % (n : Int) = y at hy hz
  exact ⟨y.toNat, by omega, by unfold wrap64; omega⟩

/-- The atom a; it under j fs. -/
def atA : Tm := .mk 2 ⟨#[97]⟩ 0 0 0 []
def upF (t : Tm) : Nat → Tm
  | 0 => t
  | j + 1 => .mk 5 ⟨#[102]⟩ 0 0 0 [upF t j]
theorem oneF (s : ByteArray) (l : List Tm) (hs : s.size ≤ 200) (h0 : l ≠ []) : oneE (.mk 5 s 0 0 0 l) = if 20 < l.length then 3 else 0 := by
  have h0' : l.length ≠ 0 := by simpa using h0
  simp only [oneE]
  rw [if_neg (by decide), if_neg (by decide), if_pos trivial, if_neg h0', if_neg (by omega)]
theorem upF_ok (t : Tm) (h : okT t) (j : Nat) : okT (upF t j) := by
  induction j with
  | zero => exact h
  | succ j ih =>
    unfold upF okT
    exact ⟨by rw [oneF _ _ (by decide) (by simp)]; simp, fun _ => by unfold okL; exact ⟨ih, by unfold okL; trivial⟩⟩
theorem upF_n (t : Tm) (j : Nat) : nT (upF t j) = nT t + j := by
  induction j with
  | zero => rfl
  | succ j ih => rw [upF, nT, if_pos rfl, nL, nL, ih]; omega
theorem upF_h (t : Tm) (j : Nat) : hT (upF t j) = hT t + j := by
  induction j with
  | zero => rfl
  | succ j ih => rw [upF, hT, if_pos rfl, hL, hL, ih]; omega
theorem atA_ok : okT atA := by unfold atA okT; exact ⟨by decide, fun h => by simp at h⟩
theorem atA_n : nT atA = 1 := by unfold atA nT; simp
theorem atA_h : hT atA = 1 := by unfold atA hT; simp
theorem may_upA (m : Nat) (hm : m < 5) : (mayE (upF atA (497 + m)) == 0) = decide ((m : Int) ≤ 2) := by
  rw [Bool.eq_iff_iff]
  simp only [beq_iff_eq, decide_eq_true_eq]
  rw [mayE_ok, upF_n, upF_h, atA_n, atA_h]
  exact ⟨fun h => by omega, fun h => ⟨upF_ok _ atA_ok _, by omega, by omega⟩⟩
theorem slim_upA (j : Nat) : slim (upF atA j) := slim_of_ok _ (upF_ok _ atA_ok _)

def geG : Tm := .mk 5 ⟨#[103]⟩ 0 0 0 [atA, atA, atA, atA]
def haH : Tm := .mk 5 ⟨#[104]⟩ 0 0 0 (List.replicate 20 geG)
def baF : Tm := .mk 5 ⟨#[102]⟩ 0 0 0 (List.replicate 19 haH)
theorem okL_rep (t : Tm) (h : okT t) (n : Nat) : okL (List.replicate n t) := by
  induction n with
  | zero => unfold okL; trivial
  | succ n ih => rw [List.replicate_succ]; unfold okL; exact ⟨h, ih⟩
theorem nL_rep (t : Tm) (n : Nat) : nL (List.replicate n t) = n * nT t := by
  induction n with
  | zero => simp [nL]
  | succ n ih => rw [List.replicate_succ, nL, ih, Nat.succ_mul]; omega
theorem geG_ok : okT geG := by
  unfold geG okT
  exact ⟨by rw [oneF _ _ (by decide) (by simp)]; simp, fun _ => okL_rep atA atA_ok 4⟩
theorem haH_ok : okT haH := by
  unfold haH okT
  exact ⟨by rw [oneF _ _ (by decide) (by simp)]; simp, fun _ => okL_rep geG geG_ok 20⟩
theorem baF_ok : okT baF := by
  unfold baF okT
  exact ⟨by rw [oneF _ _ (by decide) (by simp)]; simp, fun _ => okL_rep haH haH_ok 19⟩
theorem slim_baF (j : Nat) : slim (upF baF j) := slim_of_ok _ (upF_ok _ baF_ok _)
/-- May it be, just if it has nodes. -/
theorem may_nodes (t : Tm) : (mayE t == 0) = decide (nodesE t > 0) := by
  rw [Bool.eq_iff_iff]
  simp only [beq_iff_eq, decide_eq_true_eq]
  constructor
  · intro h; rw [nodesE_ok h]; have := nT_pos t; omega
  · intro h
    apply Classical.byContradiction
    intro hn
    rw [nodesE_err hn] at h
    omega
theorem hL_rep (t : Tm) (n : Nat) : hL (List.replicate n t) ≤ hT t := by
  induction n with
  | zero => simp [hL]
  | succ n ih => rw [List.replicate_succ, hL]; omega
theorem may_wide (m : Nat) (hm : m < 5) : (mayE (.mk 5 ⟨#[102]⟩ 0 0 0 (List.replicate (18 + m) atA)) == 0) = decide ((m : Int) ≤ 2) := by
  rw [Bool.eq_iff_iff]
  simp only [beq_iff_eq, decide_eq_true_eq]
  rw [mayE_ok]
  have h1 : okT (.mk 5 ⟨#[102]⟩ 0 0 0 (List.replicate (18 + m) atA)) ↔ m ≤ 2 := by
    unfold okT
    rw [oneF _ _ (by decide) (by simp), List.length_replicate]
    constructor
    · intro h
      apply Classical.byContradiction
      intro hn
      rw [if_pos (by omega)] at h
      exact absurd h.1 (by decide)
    · intro h
      rw [if_neg (by omega)]
      exact ⟨rfl, fun _ => okL_rep atA atA_ok _⟩
  have h2 : nT (.mk 5 ⟨#[102]⟩ 0 0 0 (List.replicate (18 + m) atA)) ≤ 2000 := by
    rw [nT, if_pos rfl, nL_rep, atA_n]; omega
  have h3 : hT (.mk 5 ⟨#[102]⟩ 0 0 0 (List.replicate (18 + m) atA)) ≤ 500 := by
    have := hL_rep atA (18 + m)
    rw [atA_h] at this
    rw [hT, if_pos rfl]; omega
  rw [h1]
  exact ⟨fun h => by omega, fun h => ⟨by omega, h2, h3⟩⟩
end Go.Proofs.Ytdjbbafdepdglaa
