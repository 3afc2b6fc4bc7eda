/- Of lists and their items: laws of trees. -/
import Derived.Test.YthiionkikammkaaTItems
import Derived.Test.YthiionkikammkaaSames0
import Derived.Test.YthiionkikammkaaLight
import Derived.Test.YthiionkikammkaaEqual
namespace Go.Proofs.Ythiionkikammkaa
open Go.RowKit
set_option linter.unusedVariables false
set_option linter.unusedSimpArgs false

mutual
theorem light_slimA : ∀ (t : Tm) (d q : Int), 0 ≤ lightE t d q → slimA t
  | .mk k s n r i l, d, q, h => by
    unfold lightE at h
    split at h
    · omega
    · unfold slimA
      exact ⟨by omega, lightL_slimA l _ _ h⟩
theorem lightL_slimA : ∀ (l : List Tm) (d q : Int), 0 ≤ lightL l d q → slimAL l
  | [], _, _, _ => trivial
  | t :: ts, d, q, h => by
    unfold lightL at h
    split at h
    · omega
    · exact ⟨light_slimA t d q (by omega), lightL_slimA ts _ _ h⟩
end
theorem Light_slimA : ∀ (l : List Tm) (i : Nat) (q : Int), LightE l i q = true → ∀ t ∈ l, slimA t
  | a :: l, i, q, h, t, ht => by
    unfold LightE at h
    split at h
    · cases h
    · rcases List.mem_cons.1 ht with rfl | ht
      · exact light_slimA t 1 q (by omega)
      · exact Light_slimA l _ _ h t ht

mutual
theorem like_refl : ∀ t : Tm, likeE t t = true
  | .mk k s n r i l => by
    unfold likeE
    rw [if_neg (by simp)]
    split
    · simp
    · split
      · simp
      · split
        · simp
        · simp [likeL_refl l]
theorem likeL_refl : ∀ l : List Tm, likeL l l = true
  | [] => rfl
  | t :: ts => by unfold likeL; rw [like_refl t, likeL_refl ts]; rfl
end

mutual
theorem plain_ok : ∀ t : Tm, okT t → okT (turnT varT t) ∧ nT (turnT varT t) = nT t ∧ hT (turnT varT t) = hT t
  | .mk k s n r i l, h => by
    unfold okT at h
    have ho := h.1
    by_cases h1 : k = 1
    · subst h1
      have e : turnT varT (.mk 1 s n r i l) = varT n := by simp [turnT]
      have hn : 0 ≤ n := by simp [oneE] at ho; omega
      rw [e]
      exact ⟨(varT_ok hn).1, by rw [(varT_ok hn).2.1]; simp [nT], by rw [(varT_ok hn).2.2]; simp [hT]⟩
    by_cases h2 : k = 2
    · subst h2
      have e : turnT varT (.mk 2 s n r i l) = .mk 2 s 0 0 0 [] := by simp [turnT]
      rw [e]
      simp only [oneE] at ho
      refine ⟨by unfold okT; exact ⟨by simpa [oneE] using ho, fun h => by simp at h⟩, by simp [nT], by simp [hT]⟩
    by_cases h3 : k = 3
    · subst h3
      have e : turnT varT (.mk 3 s n r i l) = .mk 3 ⟨#[]⟩ n 0 0 [] := by simp [turnT]
      rw [e]
      refine ⟨by unfold okT; exact ⟨by simp [oneE], fun h => by simp at h⟩, by simp [nT], by simp [hT]⟩
    by_cases h4 : k = 4
    · subst h4
      have e : turnT varT (.mk 4 s n r i l) = .mk 4 ⟨#[]⟩ 0 r i [] := by simp [turnT]
      rw [e]
      refine ⟨by unfold okT; exact ⟨by simp [oneE], fun h => by simp at h⟩, by simp [nT], by simp [hT]⟩
    by_cases h5 : k = 5
    · subst h5
      have e : turnT varT (.mk 5 s n r i l) = .mk 5 s 0 0 0 (turnL varT l) := by simp [turnT]
      rw [e]
      obtain ⟨k1, k2, k3⟩ := plain_okL l (h.2 rfl)
      have hlen : (turnL varT l).length = l.length := by rw [turnL_map, List.length_map]
      have ho' : oneE (.mk 5 s 0 0 0 (turnL varT l)) = 0 := by
        simp only [oneE, hlen] at ho ⊢
        exact ho
      exact ⟨by unfold okT; exact ⟨ho', fun _ => k1⟩, by rw [nT, nT, if_pos rfl, if_pos rfl, k2], by rw [hT, hT, if_pos rfl, if_pos rfl, k3]⟩
    · simp [oneE, h1, h2, h3, h4, h5] at ho
theorem plain_okL : ∀ l : List Tm, okL l → okL (turnL varT l) ∧ nL (turnL varT l) = nL l ∧ hL (turnL varT l) = hL l
  | [], _ => by simp [turnL, okL, nL, hL]
  | t :: ts, h => by
    unfold okL at h
    obtain ⟨a1, a2, a3⟩ := plain_ok t h.1
    obtain ⟨b1, b2, b3⟩ := plain_okL ts h.2
    simp only [turnL]
    exact ⟨by unfold okL; exact ⟨a1, b1⟩, by rw [nL, nL, a2, b2], by rw [hL, hL, a3, b3]⟩
end
theorem may_plainT {t : Tm} (h : mayE t = 0) : mayE (turnT varT t) = 0 := by
  obtain ⟨a, b, c⟩ := mayE_ok.1 h
  obtain ⟨k1, k2, k3⟩ := plain_ok t a
  exact mayE_ok.2 ⟨k1, by omega, by omega⟩
theorem plain_plain {t : Tm} (h : mayE t = 0) : plainE (turnT varT t) = turnT varT t := by
  unfold plainE
  rw [if_pos (may_plainT h), turn_turn varT varT t (mayE_ok.1 h).1]
theorem Same_plain {t : Tm} (h : mayE t = 0) : SameE (turnT varT t) t = true := by
  rw [SameE_iff]
  refine ⟨may_plainT h, h, ?_⟩
  rw [plain_plain h]
  unfold plainE
  rw [if_pos h]
/-- A plain term equals itself. -/
theorem Equal_plain (t : Tm) : EqualE (plainE t) (plainE t) = true := by
  by_cases h : mayE t = 0
  · have e : plainE t = turnT varT t := by unfold plainE; rw [if_pos h]
    rw [e]
    have hk : rSameE (turnT varT t) (turnT varT t) = true := by
      unfold rSameE
      rw [may_plainT h, like_refl]
      rfl
    unfold EqualE
    split
    · rename_i h0
      have hok := (mayE_ok.1 (may_plainT h)).1
      have hk0 : (turnT varT t).kind = 0 := by rcases h0 with h0 | h0 <;> exact h0
      generalize turnT varT t = u at hok hk0
      cases u with
      | mk k s n r i l =>
        simp only [Tm.kind] at hk0
        subst hk0
        unfold okT at hok
        have := hok.1
        simp [oneE] at this
    · exact hk
  · have e : plainE t = Tm.zero := by unfold plainE; rw [if_neg h]
    rw [e]
    simp [EqualE, Tm.zero, Tm.kind, Tm.name, Tm.int, Tm.re, Tm.im, Tm.args]

def nilT : Tm := .mk 2 ⟨#[91, 93]⟩ 0 0 0 []
/-- What a list of such items takes. -/
def sumN : List Tm → Nat
  | [] => 0
  | t :: ts => nT t + 1 + sumN ts
theorem sumN_snoc (t : Tm) : ∀ l : List Tm, sumN (l ++ [t]) = sumN l + nT t + 1
  | [] => by simp [sumN]
  | a :: l => by rw [List.cons_append, sumN, sumN, sumN_snoc t l]; omega
theorem consE_ok : ∀ l : List Tm, (∀ t ∈ l, okT t ∧ hT t ≤ 400) → okT (consE l nilT) ∧ nT (consE l nilT) = 1 + sumN l ∧ hT (consE l nilT) ≤ l.length + 400
  | [], _ => ⟨by unfold consE nilT okT; exact ⟨by decide, fun h => by simp at h⟩, by simp [consE, nilT, nT, sumN], by simp [consE, nilT, hT]⟩
  | t :: ts, h => by
    obtain ⟨a, b, c⟩ := consE_ok ts fun u hu => h u (by simp [hu])
    obtain ⟨h1, h2⟩ := h t (by simp)
    have e : consE (t :: ts) nilT = .mk 5 ⟨#[46]⟩ 0 0 0 [t, consE ts nilT] := rfl
    rw [e]
    refine ⟨by
      unfold okT
      refine ⟨?_, fun _ => by unfold okL; exact ⟨h1, by unfold okL; exact ⟨a, trivial⟩⟩⟩
      simp only [oneE]
      rw [if_neg (by decide), if_neg (by decide), if_pos trivial, if_neg (by simp), if_neg (by decide), if_neg (by simp)], ?_, ?_⟩
    · rw [nT, if_pos rfl, nL, nL, nL, b, sumN]; omega
    · rw [hT, if_pos rfl, hL, hL, hL, List.length_cons]; omega
theorem turn_cons : ∀ l : List Tm, turnT varT (consE l nilT) = consE (l.map (turnT varT)) nilT
  | [] => by simp [consE, nilT, turnT]
  | t :: ts => by
    show turnT varT (.mk 5 ⟨#[46]⟩ 0 0 0 [t, consE ts nilT]) = _
    simp only [turnT, turnL]
    rw [turn_cons ts]
    rfl
theorem items_cons : ∀ l : List Tm, itemsL (consE l nilT) = some l
  | [] => by unfold consE nilT itemsL; simp
  | t :: ts => by
    show itemsL (.mk 5 ⟨#[46]⟩ 0 0 0 [t, consE ts nilT]) = _
    rw [itemsL, if_neg (by simp)]
    simp [items_cons ts]
/-- A list of items that may be: what it is, and its items. -/
theorem list_items {l : List Tm} (hl : l.length ≤ 40) (h : ∀ t ∈ l, mayE t = 0 ∧ hT t ≤ 400) (hn : 1 + sumN l ≤ 2000) : itemsE (listE l nilT) = some (l.map (turnT varT)) := by
  obtain ⟨a, b, c⟩ := consE_ok l fun t ht => ⟨(mayE_ok.1 (h t ht).1).1, (h t ht).2⟩
  have hm : mayE (consE l nilT) = 0 := mayE_ok.2 ⟨a, by omega, by omega⟩
  unfold listE itemsE
  rw [if_neg (by omega)]
  have e : plainE (consE l nilT) = turnT varT (consE l nilT) := by unfold plainE; rw [if_pos hm]
  rw [e, plain_plain hm, turn_cons, items_cons]
end Go.Proofs.Ythiionkikammkaa
