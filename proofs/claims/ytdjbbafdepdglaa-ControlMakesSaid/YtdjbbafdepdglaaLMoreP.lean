/- Of terms with arguments behind: laws of trees; an append onto nothing. -/
import Derived.Test.YtdjbbafdepdglaaCtl12
import Derived.Test.YtdjbbafdepdglaaItems0
namespace Go.Proofs.Ytdjbbafdepdglaa
open Go.RowKit
set_option linter.unusedVariables false
set_option linter.unusedSimpArgs false
set_option maxRecDepth 20000
set_option maxHeartbeats 4000000

theorem okL_app : ∀ a b : List Tm, okL (a ++ b) ↔ okL a ∧ okL b
  | [], b => by simp [okL]
  | t :: a, b => by simp only [List.cons_append, okL, okL_app a b, and_assoc]
theorem nL_app : ∀ a b : List Tm, nL (a ++ b) = nL a + nL b
  | [], b => by simp [nL]
  | t :: a, b => by simp only [List.cons_append, nL, nL_app a b]; omega
theorem hL_app : ∀ a b : List Tm, hL (a ++ b) = max (hL a) (hL b)
  | [], b => by simp [hL]
  | t :: a, b => by simp only [List.cons_append, hL, hL_app a b]; omega
theorem turnL_app (F : Int → Tm) (a b : List Tm) : turnL F (a ++ b) = turnL F a ++ turnL F b := by simp [turnL_map]
theorem one5 (s : ByteArray) (n r i : Int) (l : List Tm) : oneE (.mk 5 s n r i l) = 0 ↔ l.length ≠ 0 ∧ s.size ≤ 200 ∧ l.length ≤ 20 := by
  unfold oneE
  simp only [Int.reduceEq, if_false, if_true]
  by_cases h1 : l.length = 0
  · rw [if_pos h1]; simp [h1]
  · rw [if_neg h1]
    by_cases h2 : 200 < s.size
    · rw [if_pos h2]
      constructor
      · intro h; cases h
      · omega
    · rw [if_neg h2]
      by_cases h3 : 20 < l.length
      · rw [if_pos h3]
        constructor
        · intro h; cases h
        · omega
      · rw [if_neg h3]
        constructor
        · intro _; omega
        · intro _; rfl
theorem may5 (s : ByteArray) (n r i : Int) (l : List Tm) : mayE (.mk 5 s n r i l) = 0 ↔ (l.length ≠ 0 ∧ s.size ≤ 200 ∧ l.length ≤ 20) ∧ okL l ∧ nL l ≤ 1999 ∧ hL l ≤ 499 := by
  rw [mayE_ok, okT, one5, nT, hT, if_pos rfl, if_pos rfl]
  constructor
  · rintro ⟨⟨a, b⟩, c, d⟩; exact ⟨a, b rfl, by omega, by omega⟩
  · rintro ⟨a, b, c, d⟩; exact ⟨⟨a, fun _ => b⟩, by omega, by omega⟩
theorem turnL_len (F : Int → Tm) (l : List Tm) : (turnL F l).length = l.length := by rw [turnL_map, List.length_map]
theorem may5_turn (s : ByteArray) {a : List Tm} (ha : okL a) (l : List Tm) : mayE (.mk 5 s 0 0 0 (turnL varT a ++ l)) = 0 ↔ mayE (.mk 5 s 0 0 0 (a ++ l)) = 0 := by
  obtain ⟨h1, h2, h3⟩ := plain_okL a ha
  rw [may5, may5, okL_app, okL_app, nL_app, nL_app, hL_app, hL_app, h2, h3, List.length_append, List.length_append, turnL_len]
  simp [h1, ha]
theorem turn5 (F : Int → Tm) (s : ByteArray) (l : List Tm) : turnT F (.mk 5 s 0 0 0 l) = .mk 5 s 0 0 0 (turnL F l) := by simp [turnT]
theorem plain5 {s : ByteArray} {l : List Tm} (h : mayE (.mk 5 s 0 0 0 l) = 0) : plainE (.mk 5 s 0 0 0 l) = .mk 5 s 0 0 0 (turnL varT l) := by unfold plainE; rw [if_pos h, turn5]
theorem turnL2 {a : List Tm} (ha : okL a) : turnL varT (turnL varT a) = turnL varT a := turnL_turnL varT varT a ha
/-- The arguments that a term has. -/
def argsE (t : Tm) : List Tm := if t.kind = 5 then t.args else []
theorem key_iff {t : Tm} : keyB t = true ↔ mayE t = 0 ∧ (t.kind = 2 ∨ t.kind = 5) := by unfold keyB; simp
theorem argsE_ok {t : Tm} (h : keyB t = true) : okL (argsE t) := by
  obtain ⟨hm, _⟩ := key_iff.1 h
  obtain ⟨a, _, _⟩ := mayE_ok.1 hm
  unfold argsE
  cases t with
  | mk k s n r i l =>
    unfold okT at a
    show okL (if k = 5 then l else [])
    by_cases h5 : k = 5
    · rw [if_pos h5]; exact a.2 h5
    · rw [if_neg h5]; trivial
theorem plain_args {t : Tm} (h : keyB t = true) : (plainE t).args = turnL varT (argsE t) := by
  obtain ⟨hm, hk⟩ := key_iff.1 h
  unfold plainE argsE
  rw [if_pos hm]
  cases t with
  | mk k s n r i l =>
    simp only [Tm.kind] at hk ⊢
    rcases hk with rfl | rfl
    · simp [turnT, Tm.args, turnL]
    · simp [turnT, Tm.args]
theorem callable_key (t : Tm) : rCallableE t = keyB t := by unfold rCallableE keyB; rfl
theorem moreT_cons {t : Tm} (h : keyB t = true) {l : List Tm} (h0 : l ≠ []) : moreT t l = .mk 5 t.name 0 0 0 (turnL varT (argsE t) ++ l) := by unfold moreT; rw [if_neg h0, plain_args h]
theorem rMoreT_cons (t : Tm) {l : List Tm} (h0 : l ≠ []) : rMoreT t l = .mk 5 t.name 0 0 0 (argsE t ++ l) := by unfold rMoreT argsE; rw [if_neg h0]
theorem moreE_pos {t : Tm} {l : List Tm} (hk : keyB t = true) (h : l.length ≤ 20) : moreE t l = if mayE (moreT t l) ≠ 0 then (Tm.zero, false) else (plainE (moreT t l), true) := by
  unfold moreE
  have hn : ¬(keyB t = false ∨ 20 < l.length) := by
    rintro (g | g)
    · rw [hk] at g; cases g
    · omega
  rw [if_neg hn]
theorem rMoreE_pos {t : Tm} {l : List Tm} (hk : keyB t = true) (h : l.length ≤ 20) : rMoreE t l = if mayE (rMoreT t l) ≠ 0 then (Tm.zero, false) else (plainE (rMoreT t l), true) := by
  unfold rMoreE
  have hn : ¬(mayE t ≠ 0 ∨ rCallableE t = false ∨ 20 < l.length) := by
    rintro (g | g | g)
    · exact g (key_iff.1 hk).1
    · rw [callable_key, hk] at g; cases g
    · omega
  rw [if_neg hn]
theorem more_eq (t : Tm) (l : List Tm) : moreE t l = rMoreE t l := by
  cases hk : keyB t with
  | false =>
    unfold moreE rMoreE
    rw [callable_key, if_pos (.inl hk), if_pos (.inr (.inl hk))]
  | true =>
    by_cases h20 : 20 < l.length
    · unfold moreE rMoreE
      rw [if_pos (.inr h20), if_pos (.inr (.inr h20))]
    rw [moreE_pos hk (by omega), rMoreE_pos hk (by omega)]
    by_cases h0 : l = []
    · subst h0
      have e : rMoreT t [] = moreT t [] := by unfold rMoreT moreT; rw [if_pos rfl, if_pos rfl]
      rw [e]
    have ha := argsE_ok hk
    rw [moreT_cons hk h0, rMoreT_cons t h0]
    have e := may5_turn t.name ha l
    by_cases h1 : mayE (.mk 5 t.name 0 0 0 (argsE t ++ l)) = 0
    · have h2 := e.2 h1
      rw [if_neg (not_not_intro h1), if_neg (not_not_intro h2), plain5 h1, plain5 h2, turnL_app, turnL_app, turnL2 ha]
    · have h2 := fun h => h1 (e.1 h)
      rw [if_pos h1, if_pos h2]
mutual
theorem like_turn : ∀ t : Tm, okT t → likeE (turnT varT t) t = true
  | .mk k s n r i l, h => by
    unfold okT at h
    have ho := h.1
    by_cases h1 : k = 1
    · subst h1; simp [turnT, varT, likeE]
    by_cases h2 : k = 2
    · subst h2; simp [turnT, likeE]
    by_cases h3 : k = 3
    · subst h3; simp [turnT, likeE]
    by_cases h4 : k = 4
    · subst h4; simp [turnT, likeE]
    by_cases h5 : k = 5
    · subst h5; simp [turnT, likeE, like_turnL l (h.2 rfl)]
    · simp [oneE, h1, h2, h3, h4, h5] at ho
theorem like_turnL : ∀ l : List Tm, okL l → likeL (turnL varT l) l = true
  | [], _ => rfl
  | t :: ts, h => by
    unfold okL at h
    simp only [turnL, likeL, like_turn t h.1, like_turnL ts h.2, Bool.and_self]
end
/-! ### More in two parts -/
theorem Equal_zero : EqualE Tm.zero Tm.zero = true := by simp [EqualE, Tm.zero, Tm.kind, Tm.name, Tm.int, Tm.re, Tm.im, Tm.args]
theorem Equal_more (t : Tm) (l : List Tm) : EqualE (moreE t l).1 (moreE t l).1 = true := by
  unfold moreE
  split
  · exact Equal_zero
  · split
    · exact Equal_zero
    · exact Equal_plain _
theorem Equal_expand (t : Tm) (f : Int) : EqualE (expandE t f).1 (expandE t f).1 = true := by
  unfold expandE
  split
  · exact Equal_plain _
  · exact Equal_zero
theorem slimA_rmore (t : Tm) (l : List Tm) : slimA (rMoreE t l).1 := by
  unfold rMoreE
  split
  · simp [slimA, slimAL, Tm.zero]
  · split
    · simp [slimA, slimAL, Tm.zero]
    · exact slimA_plain _
theorem slimA_expand (t : Tm) (f : Int) : slimA (expandE t f).1 := by
  unfold expandE
  split
  · exact slimA_plain _
  · simp [slimA, slimAL, Tm.zero]
theorem slimA_rexpand (t : Tm) (f : Int) : slimA (rExpandE t f).1 := by rw [← expand_eq]; exact slimA_expand t f
theorem slimA_more (t : Tm) (l : List Tm) : slimA (moreE t l).1 := by
  unfold moreE
  split
  · simp [slimA, slimAL, Tm.zero]
  · split
    · simp [slimA, slimAL, Tm.zero]
    · exact slimA_plain _
theorem more_nil (t : Tm) : (moreE t []).2 = keyB t := by
  unfold moreE
  cases hk : keyB t with
  | false => rw [if_pos (.inl rfl)]
  | true =>
    obtain ⟨hm, _⟩ := key_iff.1 hk
    have e : plainE t = turnT varT t := by unfold plainE; rw [if_pos hm]
    rw [if_neg (by simp), if_neg (by unfold moreT; rw [if_pos rfl, e, may_plainT hm]; simp)]
theorem rSame_turn {t : Tm} (hm : mayE t = 0) : rSameE (turnT varT t) t = true := by
  unfold rSameE
  rw [may_plainT hm, hm, like_turn t (mayE_ok.1 hm).1]
  rfl
theorem more_nil1 {t : Tm} (hk : keyB t = true) : (moreE t []).1 = turnT varT t := by
  obtain ⟨hm, _⟩ := key_iff.1 hk
  have e : plainE t = turnT varT t := by unfold plainE; rw [if_pos hm]
  unfold moreE
  rw [if_neg (by simp [hk]), if_neg (by unfold moreT; rw [if_pos rfl, e, may_plainT hm]; simp)]
  unfold moreT
  rw [if_pos rfl, e, plain_plain hm]
/-- What more is, where it is. -/
theorem more_ok {t : Tm} (hk : keyB t = true) {l : List Tm} (h0 : l ≠ []) (h20 : l.length ≤ 20) (hm : mayE (.mk 5 t.name 0 0 0 (argsE t ++ l)) = 0) :
    moreE t l = (.mk 5 t.name 0 0 0 (turnL varT (argsE t ++ l)), true) := by
  have ha := argsE_ok hk
  have e := may5_turn t.name ha l
  unfold moreE
  rw [if_neg (by simp [hk]; omega), moreT_cons hk h0, if_neg (by simp [e, hm]), plain5 (e.2 hm), turnL_app, turnL_app, turnL2 ha]
theorem more_no {t : Tm} {l : List Tm} (h : keyB t = false ∨ 20 < l.length ∨ l ≠ [] ∧ mayE (.mk 5 t.name 0 0 0 (argsE t ++ l)) ≠ 0) : moreE t l = (Tm.zero, false) := by
  by_cases h1 : keyB t = false ∨ 20 < l.length
  · unfold moreE
    rw [if_pos h1]
  · rcases h with h | h | ⟨h0, h⟩
    · exact absurd (.inl h) h1
    · exact absurd (.inr h) h1
    · have hk : keyB t = true := by
        cases hk : keyB t with
        | true => rfl
        | false => exact absurd (.inl hk) h1
      unfold moreE
      rw [if_neg h1, moreT_cons hk h0, if_pos (by simp [may5_turn t.name (argsE_ok hk) l, h])]
theorem may5_app {s : ByteArray} {a b : List Tm} (h : mayE (.mk 5 s 0 0 0 (a ++ b)) = 0) (h0 : a ≠ []) : mayE (.mk 5 s 0 0 0 a) = 0 := by
  rw [may5, okL_app, nL_app, hL_app, List.length_append] at h
  rw [may5]
  have := List.length_pos_iff.2 h0
  exact ⟨⟨by omega, h.1.2.1, by omega⟩, h.2.1.1, by omega, by omega⟩
theorem more_two {t : Tm} {a b : List Tm} (h : (moreE t a).2 = false) : (moreE t (a ++ b)).2 = false ∨ a = [] := by
  by_cases h0 : a = []
  · exact .inr h0
  left
  have hx : keyB t = false ∨ 20 < a.length ∨ a ≠ [] ∧ mayE (.mk 5 t.name 0 0 0 (argsE t ++ a)) ≠ 0 := by
    cases hk : keyB t with
    | false => exact .inl rfl
    | true =>
      by_cases h20 : 20 < a.length
      · exact .inr (.inl h20)
      by_cases hm : mayE (.mk 5 t.name 0 0 0 (argsE t ++ a)) = 0
      · rw [more_ok hk h0 (by omega) hm] at h; cases h
      · exact .inr (.inr ⟨h0, hm⟩)
  rw [more_no (l := a ++ b)]
  rcases hx with hx | hx | ⟨_, hx⟩
  · exact .inl hx
  · refine .inr (.inl ?_); rw [List.length_append]; omega
  · refine .inr (.inr ⟨by simp [h0], fun hm => hx ?_⟩)
    rw [← List.append_assoc] at hm
    exact may5_app hm (by simp [h0])
theorem more_three {t : Tm} {a b : List Tm} (h : (moreE t a).2 = true) : (moreE t (a ++ b)).2 = (moreE (moreE t a).1 b).2 ∧ EqualE (moreE t (a ++ b)).1 (moreE (moreE t a).1 b).1 = true := by
  have hk : keyB t = true := by
    cases hk : keyB t with
    | true => rfl
    | false => rw [more_no (.inl hk)] at h; cases h
  obtain ⟨hm, hkk⟩ := key_iff.1 hk
  have ha := argsE_ok hk
  have hz : EqualE Tm.zero Tm.zero = true := by simp [EqualE, Tm.zero, Tm.kind, Tm.name, Tm.int, Tm.re, Tm.im, Tm.args]
  have hpl : ∀ u, mayE u = 0 → EqualE (turnT varT u) (turnT varT u) = true := fun u hu => by
    have := Equal_plain u
    unfold plainE at this
    rwa [if_pos hu] at this
  suffices hs : moreE t (a ++ b) = moreE (moreE t a).1 b ∧ EqualE (moreE t (a ++ b)).1 (moreE t (a ++ b)).1 = true by
    rw [← hs.1]; exact ⟨rfl, hs.2⟩
  constructor
  · by_cases h0 : a = []
    · subst h0
      rw [more_nil1 hk, List.nil_append]
      have hkt : keyB (turnT varT t) = true := by
        rw [key_iff]
        refine ⟨may_plainT hm, ?_⟩
        cases t with
        | mk k s n r i l =>
          simp only [Tm.kind] at hkk
          rcases hkk with rfl | rfl <;> simp [turnT, Tm.kind]
      have hn : (turnT varT t).name = t.name := by
        cases t with
        | mk k s n r i l =>
          simp only [Tm.kind] at hkk
          rcases hkk with rfl | rfl <;> simp [turnT, Tm.name]
      have hargs : argsE (turnT varT t) = turnL varT (argsE t) := by
        cases t with
        | mk k s n r i l =>
          simp only [Tm.kind] at hkk
          rcases hkk with rfl | rfl <;> simp [turnT, argsE, Tm.kind, Tm.args, turnL]
      by_cases hb : b = []
      · subst hb
        rw [Prod.ext_iff]
        refine ⟨?_, by rw [more_nil, more_nil, hk, hkt]⟩
        rw [more_nil1 hk, more_nil1 hkt, turn_turn varT varT t (mayE_ok.1 hm).1]
      by_cases h20 : 20 < b.length
      · rw [more_no (.inr (.inl h20)), more_no (.inr (.inl h20))]
      by_cases h1 : mayE (.mk 5 t.name 0 0 0 (argsE t ++ b)) = 0
      · rw [more_ok hk hb (by omega) h1, more_ok hkt hb (by omega) (by rw [hn, hargs, may5_turn _ ha]; exact h1), hn, hargs, turnL_app, turnL_app, turnL2 ha]
      · rw [more_no (.inr (.inr ⟨hb, h1⟩)), more_no (.inr (.inr ⟨hb, by rw [hn, hargs, Ne, may5_turn _ ha]; exact h1⟩))]
    · have h20 : a.length ≤ 20 := by
        rcases Nat.lt_or_ge 20 a.length with h20 | h20
        · rw [more_no (.inr (.inl h20))] at h; cases h
        · exact h20
      have h1 : mayE (.mk 5 t.name 0 0 0 (argsE t ++ a)) = 0 := by
        rcases Decidable.em (mayE (.mk 5 t.name 0 0 0 (argsE t ++ a)) = 0) with h1 | h1
        · exact h1
        · rw [more_no (.inr (.inr ⟨h0, h1⟩))] at h; cases h
      rw [more_ok hk h0 h20 h1]
      obtain ⟨g1, g2, _⟩ := (may5 ..).1 h1
      have hm2 : mayE (.mk 5 t.name 0 0 0 (turnL varT (argsE t ++ a))) = 0 := by
        have := may5_turn t.name g2 []
        rw [List.append_nil, List.append_nil] at this
        exact this.2 h1
      have hk2 : keyB (.mk 5 t.name 0 0 0 (turnL varT (argsE t ++ a))) = true := key_iff.2 ⟨hm2, .inr rfl⟩
      have e2 : argsE (.mk 5 t.name 0 0 0 (turnL varT (argsE t ++ a))) = turnL varT (argsE t ++ a) := by simp [argsE, Tm.kind, Tm.args]
      by_cases hb : b = []
      · subst hb
        rw [List.append_nil, more_ok hk h0 h20 h1, Prod.ext_iff]
        refine ⟨?_, by rw [more_nil, hk2]⟩
        rw [more_nil1 hk2, turn5, turnL2 g2]
      by_cases hx : mayE (.mk 5 t.name 0 0 0 (argsE t ++ (a ++ b))) = 0
      · have hy := hx
        rw [← List.append_assoc] at hy
        have hlen := ((may5 ..).1 hx).1
        rw [List.length_append, List.length_append] at hlen
        rw [more_ok hk (by simp [h0]) (by rw [List.length_append]; omega) hx, more_ok hk2 hb (by omega) (by rw [e2]; exact (may5_turn _ g2 b).2 hy), e2]
        simp only [Tm.name]
        rw [← List.append_assoc, turnL_app _ (argsE t ++ a) b, turnL_app _ (turnL varT (argsE t ++ a)) b, turnL2 g2]
      · rw [more_no (.inr (.inr ⟨by simp [h0], hx⟩)), more_no]
        refine .inr (.inr ⟨hb, fun hz => hx ?_⟩)
        rw [e2] at hz
        have := (may5_turn t.name g2 b).1 hz
        rwa [List.append_assoc] at this
  · by_cases h0 : a ++ b = []
    · rw [h0, more_nil1 hk]; exact hpl t hm
    by_cases h20 : 20 < (a ++ b).length
    · rw [more_no (.inr (.inl h20))]; exact hz
    by_cases h1 : mayE (.mk 5 t.name 0 0 0 (argsE t ++ (a ++ b))) = 0
    · rw [more_ok hk h0 (by omega) h1]
      have := hpl _ h1
      rwa [turn5] at this
    · rw [more_no (.inr (.inr ⟨h0, h1⟩))]; exact hz

/-! ### An append onto nothing: its block is new -/
section
variable {P : Program} {ev : Operand → Value} {o : Oper} {w : World} {M X : List Nat} {w0 : World} {L : List Res} {F : List Nat → World → Prop}
theorem runs_appendNew (H : St M X w0 w L F) {E : TypeId} {T : TypeId} {s x : Operand}
    (ho : o.op = .call { callee := .builtin .append, args := #[s, x], argTypes := #[T, T] }) (hs : ev s = .slice none 0 0) {A : Option Addr} {c m : Nat} {l : List Tm} (hx : ev x = .slice A m c) (hm : m = l.length) [hA : HasAR F A c l] (hT : P.underlying T = some (.slice E))
    {z : Value} {bytes : Nat} (hi : (P.info? E).map (fun i => (i.zero, i.size, i.bytes)) = some (some z, 6, bytes)) (hz : z.cells.size = 6)
    (h63 : 0 + m ≤ maxLen) (hbytes : (0 + m) * bytes ≤ 140737488355328) :
    Runs P ev o w fun u w' => ∃ A' cap ys, u = .slice A' m cap ∧ (∀ b ∈ (Value.slice A' m cap).ownBlock.toList, w.heap.size ≤ b) ∧ Ext [] w w' ∧ St M X w0 w' (.row (.slice A' m cap) m ys E 6 :: L) (fun M w => F M w ∧ TsR ys l M w) := by
  have H1 : St (idsOf L ++ M) [] w w [] F := St.start H.ltAll H.stab H.fact
  obtain ⟨e, w', u, hr, hn, A', cap, ys, hu, hE, hG⟩ := runs_appendTs (H1.nilRow E 6) 0 rfl ho hs hx hm hT hi hz h63 hbytes (fun r => rfl)
  simp only [Nat.zero_add, List.nil_append] at hu hG
  refine ⟨e, w', u, hr, hn, A', cap, ys, hu, ?_, hE, ?_⟩
  · intro b hb
    rcases hG.own b (by simpa [idsOf, Res.ids] using hb) with h | h
    · cases h
    · exact h
  · exact ((H.nilRow E 6).callF 0 rfl hG (fun r => rfl)).weaken (fun h => h.2) (hG.stab)
theorem Ext.lateL {W w w' : World} {X : List Nat} (h : Ext [] W w) (k : Ext X w w') (hb : ∀ b ∈ X, W.heap.size ≤ b) : Ext [] W w' :=
  ⟨k.os.trans h.os, k.tape.trans h.tape, k.output.trans h.output, Nat.le_trans h.size k.size, fun c hc hx => (k.block c (Nat.lt_of_lt_of_le hc h.size) (fun hm => by have := hb c hm; omega)).trans (h.block c hc hx)⟩
end
end Go.Proofs.Ytdjbbafdepdglaa
