/- Kinds of terms: laws of trees for ControlOne. -/
import Derived.Test.YtdjbbafdepdglaaLCtl2
namespace Go.Proofs.Ytdjbbafdepdglaa
open Go.RowKit
set_option linter.unusedVariables false
set_option linter.unusedSimpArgs false
set_option maxRecDepth 20000
set_option maxHeartbeats 8000000

def xT : Tm := .mk 2 ⟨#[120]⟩ 0 0 0 []
theorem xT_ok : okT xT := by unfold xT okT; exact ⟨by decide, fun h => by simp at h⟩
theorem may_xs (s : ByteArray) (m : Nat) (hs : s.size ≤ 200) (h0 : m ≠ 0) (h20 : m ≤ 20) : mayE (.mk 5 s 0 0 0 (List.replicate m xT)) = 0 := by
  refine mayE_ok.2 ⟨?_, ?_, ?_⟩
  · unfold okT
    refine ⟨?_, fun _ => okL_rep _ xT_ok m⟩
    rw [oneF s _ hs (by intro h; have := congrArg List.length h; simp at this; omega)]
    rw [if_neg (by simp; omega)]
  · unfold nT; rw [if_pos rfl, nL_rep]; unfold xT nT; simp; omega
  · unfold hT; rw [if_pos rfl]; have := hL_rep xT m; unfold xT hT at this; simp at this; unfold xT; omega
theorem kind_xs (s : ByteArray) (m : Nat) (hs : s.size ≤ 200) (h0 : m ≠ 0) (h20 : m ≤ 20) : kindE (.mk 5 s 0 0 0 (List.replicate m xT)) = kindN s m := by
  have hm := may_xs s m hs h0 h20
  have hi : ifElseE (.mk 5 s 0 0 0 (List.replicate m xT)) = false := by
    unfold ifElseE
    obtain ⟨j, rfl⟩ : ∃ j, m = j + 1 := ⟨m - 1, by omega⟩
    simp [List.replicate_succ, Tm.args, xT, Tm.kind]
  unfold kindE
  simp [hm, Tm.kind, hi, keyS, keyN, keyB, Tm.name, Tm.args]
theorem ownN_rng (s : List UInt8) (n : Int) : 0 ≤ ownN s n ∧ ownN s n ≤ 18 ∧ ownN s n ≠ 8 ∧ ownN s n ≠ 1 ∧ ownN s n ≠ 2 := by
  obtain ⟨r, h⟩ : ∃ r, ownN s n = r := ⟨_, rfl⟩
  rw [h]
  unfold ownN at h
  iterate 11
    rcases ite_int h with ⟨hc, h⟩ | ⟨_, h⟩
    · omega
  omega
theorem kindN_rng (s : ByteArray) (n : Int) : 3 ≤ kindN s n ∧ kindN s n ≤ 18 ∧ kindN s n ≠ 8 := by
  have h0 := ownN_rng s.toList n
  obtain ⟨r, h⟩ : ∃ r, kindN s n = r := ⟨_, rfl⟩
  rw [h]
  unfold kindN at h
  rcases ite_int h with ⟨hc, h⟩ | ⟨_, h⟩
  · simp only [bne_iff_ne, ne_eq] at hc
    omega
  iterate 3
    rcases ite_int h with ⟨hc, h⟩ | ⟨_, h⟩
    · omega
  omega
theorem one_of_may {t : Tm} (hm : mayE t = 0) : oneE t = 0 := by
  obtain ⟨a, _, _⟩ := mayE_ok.1 hm
  cases t with | mk k s n r i l => unfold okT at a; exact a.1
theorem kinds_of_one {t : Tm} (h1 : oneE t = 0) : t.kind = 1 ∨ t.kind = 2 ∨ t.kind = 3 ∨ t.kind = 4 ∨ t.kind = 5 := by
  cases t with
  | mk k s n r i l =>
    simp only [Tm.kind]
    unfold oneE at h1
    by_cases a : k = 1
    · exact .inl a
    by_cases b : k = 2
    · exact .inr (.inl b)
    by_cases c : k = 3
    · exact .inr (.inr (.inl c))
    by_cases d : k = 4
    · exact .inr (.inr (.inr (.inl d)))
    by_cases e : k = 5
    · exact .inr (.inr (.inr (.inr e)))
    simp [a, b, c, d, e] at h1
theorem name_of_one {t : Tm} (h1 : oneE t = 0) (hk : t.kind = 2 ∨ t.kind = 5) : t.name.size ≤ 200 := by
  cases t with
  | mk k s n r i l =>
    simp only [Tm.kind, Tm.name] at hk ⊢
    unfold oneE at h1
    rcases hk with rfl | rfl
    · simp at h1; exact h1
    · simp only [Int.reduceEq, if_false, if_true] at h1
      split at h1
      · simp at h1
      · split at h1
        · simp at h1
        · omega
theorem args_of_one {t : Tm} (h1 : oneE t = 0) (hk : t.kind = 5) : t.args.length ≠ 0 ∧ t.args.length ≤ 20 := by
  cases t with
  | mk k s n r i l =>
    simp only [Tm.kind, Tm.args] at hk ⊢
    unfold oneE at h1
    subst hk
    simp only [Int.reduceEq, if_false, if_true] at h1
    split at h1
    · simp at h1
    · split at h1
      · simp at h1
      · split at h1
        · simp at h1
        · omega
/-- What the kind of a term that may be is. -/
theorem kindE_cases {t : Tm} (hm : mayE t = 0) : (t.kind = 1 ∧ kindE t = 1) ∨ ((t.kind = 3 ∨ t.kind = 4) ∧ kindE t = 2) ∨ (t.kind = 2 ∧ kindE t = kindN t.name 0) ∨
    (t.kind = 5 ∧ (kindE t = kindN t.name t.args.length ∨ kindN t.name t.args.length = 6 ∧ kindE t = 8)) := by
  rcases kinds_of_one (one_of_may hm) with hk | hk | hk | hk | hk
  · exact .inl ⟨hk, by unfold kindE; simp [hm, hk]⟩
  · refine .inr (.inr (.inl ⟨hk, ?_⟩))
    have h6 : kindN t.name 0 ≠ 6 := fun h => by have := (kindN6 h).2; simp at this
    unfold kindE
    simp [hm, hk, keyS, keyN, keyB, h6]
  · exact .inr (.inl ⟨.inl hk, by unfold kindE; simp [hm, hk]⟩)
  · exact .inr (.inl ⟨.inr hk, by unfold kindE; simp [hm, hk]⟩)
  · refine .inr (.inr (.inr ⟨hk, ?_⟩))
    have e : kindE t = if kindN t.name t.args.length = 6 ∧ ifElseE t = true then 8 else kindN t.name t.args.length := by
      unfold kindE
      simp [hm, hk, keyS, keyN, keyB]
    rw [e]
    split
    · rename_i h; exact .inr ⟨h.1, rfl⟩
    · exact .inl rfl
end Go.Proofs.Ytdjbbafdepdglaa
