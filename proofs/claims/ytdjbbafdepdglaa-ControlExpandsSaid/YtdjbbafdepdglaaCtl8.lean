/- Kinds of names: the program's and the reference's are the same. -/
import Derived.Test.YtdjbbafdepdglaaCtl7
namespace Go.Proofs.Ytdjbbafdepdglaa
open Go.RowKit
set_option linter.unusedVariables false
set_option linter.unusedSimpArgs false
set_option maxRecDepth 20000
set_option maxHeartbeats 4000000

def hasL (l : List ByteArray) (u : List UInt8) : Bool := l.any fun x => u == x.data.toList
def inL (k : Int) (u : List UInt8) (n : Int) : Bool := decide (0 ≤ n) && (decide (n < 4) && hasL (rowB k n.toNat) u)
theorem inRows_L (k : Int) (s : ByteArray) (n : Int) : inRows k s n = inL k s.toList n := by
  unfold inRows inL hasS hasL
  simp only [ByteArray.toList_eq]
theorem own_eq (s : List UInt8) (n : Int) : ownN s n = ownR s n := by
  by_cases h1 : s = [33]
  · subst h1; simp [ownN, ownR]
  by_cases h2 : s = [116, 114, 117, 101]
  · subst h2; simp [ownN, ownR]
  by_cases h3 : s = [44]
  · subst h3; simp [ownN, ownR]
  by_cases h4 : s = [59]
  · subst h4; simp [ownN, ownR]
  by_cases h5 : s = [45, 62]
  · subst h5; simp [ownN, ownR]
  by_cases h6 : s = [92, 43]
  · subst h6; simp [ownN, ownR]
  by_cases h7 : s = [99, 97, 108, 108]
  · subst h7; simp [ownN, ownR]
  by_cases h8 : s = [99, 97, 116, 99, 104]
  · subst h8; simp [ownN, ownR]
  by_cases h9 : s = [102, 105, 110, 100, 97, 108, 108]
  · subst h9; simp [ownN, ownR]
  by_cases h10 : s = [98, 101, 116, 119, 101, 101, 110]
  · subst h10; simp [ownN, ownR]
  by_cases h11 : s = [101, 110, 103, 105, 110, 101, 95, 121, 105, 101, 108, 100]
  · subst h11; simp [ownN, ownR]
  simp [ownN, ownR, h1, h2, h3, h4, h5, h6, h7, h8, h9, h10, h11]

def namesL : List (List UInt8) := [[111, 110, 99, 101], [105, 103, 110, 111, 114, 101], [102, 111, 114, 97, 108, 108], [92, 61], [115, 101, 116, 117, 112, 95, 99, 97, 108, 108, 95, 99, 108, 101, 97, 110, 117, 112], [110, 108], [119, 114, 105, 116, 101], [97, 115, 115, 101, 114, 116, 122], [97, 115, 115, 101, 114, 116, 97], [114, 101, 116, 114, 97, 99, 116], [101, 110, 103, 105, 110, 101, 95, 102, 101, 116, 99, 104], [101, 110, 103, 105, 110, 101, 95, 100, 101, 115, 116, 114, 111, 121], [101, 110, 103, 105, 110, 101, 95, 115, 101, 108, 102], [110, 98, 95, 115, 101, 116, 118, 97, 108], [110, 98, 95, 103, 101, 116, 118, 97, 108], [98, 95, 115, 101, 116, 118, 97, 108], [98, 95, 103, 101, 116, 118, 97, 108], [101, 110, 103, 105, 110, 101, 95, 110, 101, 120, 116], [101, 110, 103, 105, 110, 101, 95, 112, 111, 115, 116], [115, 101, 116, 97, 114, 103], [101, 110, 103, 105, 110, 101, 95, 99, 114, 101, 97, 116, 101], [61], [61, 61], [92, 61, 61], [64, 60], [64, 62], [64, 61, 60], [64, 62, 61], [105, 115], [61, 58, 61], [61, 92, 61], [60], [62], [61, 60], [62, 61], [61, 46, 46], [99, 111, 112, 121, 95, 116, 101, 114, 109], [97, 116, 111, 109, 95, 108, 101, 110, 103, 116, 104], [109, 115, 111, 114, 116], [115, 111, 114, 116], [108, 101, 110, 103, 116, 104], [102, 117, 110, 99, 116, 111, 114], [97, 114, 103], [97, 112, 112, 101, 110, 100], [118, 97, 114], [110, 111, 110, 118, 97, 114], [97, 116, 111, 109], [105, 110, 116, 101, 103, 101, 114], [99, 111, 109, 112, 108, 101, 120], [97, 116, 111, 109, 105, 99], [99, 111, 109, 112, 111, 117, 110, 100], [99, 97, 108, 108, 97, 98, 108, 101], [105, 115, 95, 108, 105, 115, 116], [116, 104, 114, 111, 119], [102, 97, 105, 108]]
def sameN (u : List UInt8) (n : Int) : Bool := derivedN u n == inL 15 u n && (builtinN u n == inL 16 u n && hostN u n == inL 17 u n)
theorem names_small : (namesL.all fun u => sameN u 0 && (sameN u 1 && (sameN u 2 && sameN u 3))) = true := by kernel_rfl
def farN (u : List UInt8) : Bool := !(derivedN u 7 || (builtinN u 7 || hostN u 7))
theorem inL_far (k : Int) (u : List UInt8) (n : Int) (h : ¬ (0 ≤ n ∧ n < 4)) : inL k u n = false := by
  unfold inL
  by_cases h0 : 0 ≤ n
  · have : ¬ n < 4 := fun h4 => h ⟨h0, h4⟩
    simp [this]
  · simp [h0]
theorem derived_far (u : List UInt8) (n : Int) (h : ¬ (0 ≤ n ∧ n < 4)) : derivedN u n = false ∧ builtinN u n = false ∧ hostN u n = false := by
  have h0 : ¬ n = 0 := by omega
  have h1 : ¬ n = 1 := by omega
  have h2 : ¬ n = 2 := by omega
  have h3 : ¬ n = 3 := by omega
  refine ⟨?_, ?_, ?_⟩
  · unfold derivedN; simp [h1, h2, h3]
  · unfold builtinN; simp [h0, h1, h2, h3]
  · unfold hostN; simp [h0, h1, h2, h3]
theorem not_named {u : List UInt8} (h : u ∉ namesL) : ∀ x ∈ namesL, (u == x) = false := fun x hx => by
  have : ¬ u = x := fun e => h (e ▸ hx)
  simpa using this
theorem rows_eq (u : List UInt8) (n : Int) : derivedN u n = inL 15 u n ∧ builtinN u n = inL 16 u n ∧ hostN u n = inL 17 u n := by
  by_cases hr : 0 ≤ n ∧ n < 4
  · have hn : n = 0 ∨ n = 1 ∨ n = 2 ∨ n = 3 := by omega
    by_cases hu : u ∈ namesL
    · have := List.all_eq_true.1 names_small u hu
      simp only [Bool.and_eq_true] at this
      obtain ⟨t0, t1, t2, t3⟩ := this
      have key : sameN u n = true := by rcases hn with rfl | rfl | rfl | rfl <;> assumption
      unfold sameN at key
      simp only [Bool.and_eq_true, beq_iff_eq] at key
      exact key
    · have hb := not_named hu
      clear hu
      unfold namesL at hb
      simp only [List.mem_cons, List.not_mem_nil, or_false, forall_eq_or_imp, forall_eq] at hb
      rcases hn with rfl | rfl | rfl | rfl <;> simp [derivedN, builtinN, hostN, inL, hasL, rowB, hb]
  · obtain ⟨a, b, c⟩ := derived_far u n hr
    rw [a, b, c, inL_far _ _ _ hr, inL_far _ _ _ hr, inL_far _ _ _ hr]
    exact ⟨rfl, rfl, rfl⟩
theorem kind_name_eq (s : ByteArray) (n : Int) : kindN s n = kindR s.toList n := by
  obtain ⟨a, b, c⟩ := rows_eq s.toList n
  unfold kindN kindR
  rw [own_eq, inRows_L, inRows_L, inRows_L, ← a, ← b, ← c]
theorem reserved_eq (s : ByteArray) (n : Int) : reservedE s n = rReservedE s n := by
  unfold reservedE rReservedE
  rw [kind_name_eq]
theorem callable_eq (t : Tm) : keyB t = rCallableE t := by unfold keyB rCallableE; rfl
theorem kind_eq (t : Tm) : kindE t = kindOfE t := by
  unfold kindE kindOfE
  by_cases hm : mayE t = 0
  · have h1 : oneE t = 0 := by
      obtain ⟨a, _, _⟩ := mayE_ok.1 hm
      cases t with | mk k s n r i l => unfold okT at a; exact a.1
    have hk : t.kind = 1 ∨ t.kind = 2 ∨ t.kind = 3 ∨ t.kind = 4 ∨ t.kind = 5 := by
      cases t with
      | mk k s n r i l =>
        simp only [Tm.kind]
        unfold oneE at h1
        by_cases a : k = 1
        · exact .inl a
        by_cases b : k = 2
        · exact .inr (.inl b)
        by_cases c : k = 3
        · exact .inr (.inr (.inl c))
        by_cases d : k = 4
        · exact .inr (.inr (.inr (.inl d)))
        by_cases e : k = 5
        · exact .inr (.inr (.inr (.inr e)))
        simp [a, b, c, d, e] at h1
    have hi : rIfElseE t = ifElseE t := by
      unfold rIfElseE ifElseE
      cases t.args with
      | nil => rfl
      | cons a l =>
        simp only [rIsE, rkeyB, rkeyS, rkeyN]
        by_cases a5 : a.kind = 5
        · simp [a5, ByteArray.toList_eq]
        · by_cases a2 : a.kind = 2
          · simp [a2]
          · simp [a2, a5]
    rw [hi]
    rcases hk with hk | hk | hk | hk | hk
    · simp [hm, hk]
    · simp [hm, hk, keyS, keyN, keyB, rkeyB, rkeyS, rkeyN, kind_name_eq]
    · simp [hm, hk, rkeyB]
    · simp [hm, hk, rkeyB]
    · simp [hm, hk, keyS, keyN, keyB, rkeyB, rkeyS, rkeyN, kind_name_eq]
  · simp [hm]
end Go.Proofs.Ytdjbbafdepdglaa
