/- The order of terms, as a function of trees, and its laws. -/
import Derived.Test.YthiionkikammkaaCmp
import Derived.Test.YthiionkikammkaaItems0
namespace Go.Proofs.Ythiionkikammkaa
open Go.RowKit
set_option linter.unusedVariables false
set_option linter.unusedSimpArgs false
set_option maxRecDepth 20000
set_option maxHeartbeats 4000000

mutual
def ordE : Tm → Tm → Int
  | .mk k s n r i l, .mk k' s' n' r' i' l' =>
    orI (cmpI (rankI k) (rankI k')) (if k = 1 ∨ k = 3 then cmpI n n' else if k = 4 then cmpC r i r' i' else if k = 2 then cmpS s s' else orI (orI (cmpI l.length l'.length) (cmpS s s')) (ordL l l'))
def ordL : List Tm → List Tm → Int
  | [], [] => 0
  | [], _ :: _ => -1
  | _ :: _, [] => 1
  | a :: l, b :: m => orI (ordE a b) (ordL l m)
end
def compE (a b : Tm) : Int := if mayE a ≠ 0 ∨ mayE b ≠ 0 then 0 else ordE a b

/-! ### Numbers -/
def T3 (x y z : Int) : Prop := x ≤ 0 → y ≤ 0 → z ≤ 0 ∧ (z = 0 ↔ x = 0 ∧ y = 0)
def R3 (x : Int) : Prop := x = -1 ∨ x = 0 ∨ x = 1
theorem or_T3 {a b c a' b' c' : Int} (h : T3 a b c) (h' : a = 0 → b = 0 → T3 a' b' c') (ha : R3 a) (hb : R3 b) (hc : R3 c) : T3 (orI a a') (orI b b') (orI c c') := by
  unfold T3 R3 orI at *
  intro h1 h2
  by_cases x : a = 0
  · rw [if_pos x] at h1
    by_cases y : b = 0
    · rw [if_pos y] at h2
      have hz : c = 0 := (h (by omega) (by omega)).2.2 ⟨x, y⟩
      rw [if_pos x, if_pos y, if_pos hz]
      exact h' x y h1 h2
    · rw [if_neg y] at h2
      have hz := h (by omega) h2
      have hz' : ¬ c = 0 := fun e => y (hz.2.1 e).2
      rw [if_pos x, if_neg y, if_neg hz']
      omega
  · rw [if_neg x] at h1
    by_cases y : b = 0
    · rw [if_pos y] at h2
      have hz := h h1 (by omega)
      have hz' : ¬ c = 0 := fun e => x (hz.2.1 e).1
      rw [if_neg x, if_pos y, if_neg hz']
      omega
    · rw [if_neg y] at h2
      have hz := h h1 h2
      have hz' : ¬ c = 0 := fun e => x (hz.2.1 e).1
      rw [if_neg x, if_neg y, if_neg hz']
      omega
theorem or_R3 {a b : Int} (h : R3 a) (h' : R3 b) : R3 (orI a b) := by unfold orI; split <;> assumption
theorem or_zero {a b : Int} : orI a b = 0 ↔ a = 0 ∧ b = 0 := by
  unfold orI
  split
  · rename_i h; simp [h]
  · rename_i h; simp [h]
theorem or_neg {a b a' b' : Int} (h : a' = -a) (h' : a = 0 → b' = -b) : orI a' b' = - orI a b := by
  unfold orI
  by_cases x : a = 0
  · rw [if_pos x, if_pos (by omega), h' x]
  · rw [if_neg x, if_neg (by omega), h]
theorem cmpI_def (a b : Int) : cmpI a b = if a < b then -1 else if b < a then 1 else 0 := by unfold cmpI; rfl
theorem cmpS_def (a b : ByteArray) : cmpS a b = if Op.bytesLess a.toList b.toList = true then -1 else if (a.toList == b.toList) = true then 0 else 1 := by unfold cmpS; rfl
theorem cmpC_def (r i r' i' : Int) : cmpC r i r' i' = orI (cmpI r r') (cmpI i i') := by unfold cmpC; rfl
theorem rankI_def (k : Int) : rankI k = if k = 1 then 0 else if k = 4 then 1 else if k = 3 then 2 else if k = 2 then 3 else 4 := by unfold rankI; rfl
theorem cmpI_R (a b : Int) : R3 (cmpI a b) := by rw [cmpI_def]; unfold R3; split <;> (try split) <;> simp
theorem cmpI_zero {a b : Int} : cmpI a b = 0 ↔ a = b := by rw [cmpI_def]; split <;> (try split) <;> omega
theorem cmpI_neg (a b : Int) : cmpI b a = - cmpI a b := by rw [cmpI_def, cmpI_def]; split <;> split <;> (try split) <;> omega
theorem cmpI_T (a b c : Int) : T3 (cmpI a b) (cmpI b c) (cmpI a c) := by
  rw [cmpI_def, cmpI_def, cmpI_def]
  unfold T3
  intro h1 h2
  by_cases x : a < b
  · rw [if_pos x]
    by_cases y : b < c
    · rw [if_pos y, if_pos (by omega)]; omega
    · rw [if_neg y] at h2 ⊢
      by_cases y' : c < b
      · rw [if_pos y'] at h2; omega
      · rw [if_neg y', if_pos (by omega)]; omega
  · rw [if_neg x] at h1 ⊢
    by_cases x' : b < a
    · rw [if_pos x'] at h1; omega
    · rw [if_neg x']
      obtain rfl : a = b := by omega
      by_cases y : a < c
      · rw [if_pos y]; omega
      · rw [if_neg y] at h2 ⊢
        by_cases y' : c < a
        · rw [if_pos y'] at h2; omega
        · rw [if_neg y']; omega
/-! ### Texts -/
theorem bl_irr : ∀ x : List UInt8, Op.bytesLess x x = false
  | [] => rfl
  | a :: x => by unfold Op.bytesLess; rw [bl_irr x]; simp
theorem bl_tri : ∀ x y : List UInt8, Op.bytesLess x y = false → (x == y) = false → Op.bytesLess y x = true
  | [], [], _, h => by simp at h
  | [], _ :: _, h, _ => by simp [Op.bytesLess] at h
  | _ :: _, [], _, _ => rfl
  | a :: x, b :: y, h, h' => by
    unfold Op.bytesLess at h ⊢
    simp only [Bool.or_eq_false_iff, decide_eq_false_iff_not, UInt8.not_lt, Bool.or_eq_true, decide_eq_true_eq, Bool.and_eq_true, beq_iff_eq] at h ⊢
    by_cases e : a = b
    · subst e
      right
      refine ⟨rfl, bl_tri x y (by simpa using h.2) (by simpa using h')⟩
    · left
      exact UInt8.lt_of_le_of_ne h.1 (fun q => e q.symm)
theorem bl_trans : ∀ x y z : List UInt8, Op.bytesLess x y = true → Op.bytesLess y z = true → Op.bytesLess x z = true
  | _, [], _, h, _ => by unfold Op.bytesLess at h; cases h
  | _, _ :: _, [], _, h => by unfold Op.bytesLess at h; cases h
  | [], _ :: _, _ :: _, _, _ => rfl
  | a :: x, b :: y, c :: z, h, h' => by
    unfold Op.bytesLess at h h' ⊢
    simp only [Bool.or_eq_true, decide_eq_true_eq, Bool.and_eq_true, beq_iff_eq] at h h' ⊢
    rcases h with h | ⟨rfl, h⟩
    · rcases h' with h' | ⟨rfl, h'⟩
      · exact .inl (UInt8.lt_trans h h')
      · exact .inl h
    · rcases h' with h' | ⟨rfl, h'⟩
      · exact .inl h'
      · exact .inr ⟨rfl, bl_trans x y z h h'⟩
theorem cmpS_R (a b : ByteArray) : R3 (cmpS a b) := by rw [cmpS_def]; unfold R3; split <;> (try split) <;> simp
theorem cmpS_zero {a b : ByteArray} : cmpS a b = 0 ↔ (a.toList == b.toList) = true := by
  rw [cmpS_def]
  by_cases x : Op.bytesLess a.toList b.toList = true
  · rw [if_pos x]
    refine ⟨fun h => by omega, fun h => ?_⟩
    have e : a.toList = b.toList := by simpa using h
    rw [e, bl_irr] at x
    cases x
  · rw [if_neg x]
    by_cases y : (a.toList == b.toList) = true
    · rw [if_pos y]; simp [y]
    · rw [if_neg y]; exact ⟨fun h => by omega, fun h => absurd h y⟩
theorem cmpS_neg (a b : ByteArray) : cmpS b a = - cmpS a b := by
  rw [cmpS_def, cmpS_def]
  cases x : Op.bytesLess a.toList b.toList with
  | true =>
    have y : Op.bytesLess b.toList a.toList = false := by
      cases q : Op.bytesLess b.toList a.toList with
      | false => rfl
      | true => have := bl_trans _ _ _ x q; rw [bl_irr] at this; cases this
    have z : (b.toList == a.toList) = false := by
      cases q : (b.toList == a.toList) with
      | false => rfl
      | true => have e : b.toList = a.toList := by simpa using q
                rw [e, bl_irr] at x; cases x
    rw [y, z]; simp
  | false =>
    cases z : (a.toList == b.toList) with
    | true =>
      have e : a.toList = b.toList := by simpa using z
      rw [e, bl_irr]; simp
    | false =>
      have z' : (b.toList == a.toList) = false := by
        cases q : (b.toList == a.toList) with
        | false => rfl
        | true => have e : b.toList = a.toList := by simpa using q
                  rw [e] at z; simp at z
      rw [bl_tri _ _ x z]; simp
theorem cmpS_T (a b c : ByteArray) : T3 (cmpS a b) (cmpS b c) (cmpS a c) := by
  have hz1 := cmpS_zero (a := a) (b := b)
  have hz2 := cmpS_zero (a := b) (b := c)
  unfold T3
  intro h1 h2
  have r1 := cmpS_R a b
  have r2 := cmpS_R b c
  unfold R3 at r1 r2
  have lt : ∀ {x y : ByteArray}, cmpS x y = -1 ↔ Op.bytesLess x.toList y.toList = true := by
    intro x y
    rw [cmpS_def]
    by_cases q : Op.bytesLess x.toList y.toList = true
    · rw [if_pos q]; simp [q]
    · rw [if_neg q]
      refine ⟨fun h => ?_, fun h => absurd h q⟩
      split at h <;> omega
  by_cases x : cmpS a b = 0
  · have e : a.toList = b.toList := by simpa using hz1.1 x
    have e2 : cmpS a c = cmpS b c := by rw [cmpS_def, cmpS_def, e]
    rw [e2]
    exact ⟨h2, by simp [x]⟩
  · have x' := lt.1 (show cmpS a b = -1 by omega)
    by_cases y : cmpS b c = 0
    · have e : b.toList = c.toList := by simpa using hz2.1 y
      have e2 : cmpS a c = cmpS a b := by rw [cmpS_def, cmpS_def, e]
      rw [e2]
      exact ⟨h1, by simp [y]⟩
    · have y' := lt.1 (show cmpS b c = -1 by omega)
      have := lt.2 (bl_trans _ _ _ x' y')
      rw [this]
      omega
theorem cmpC_R (r i r' i' : Int) : R3 (cmpC r i r' i') := by rw [cmpC_def]; exact or_R3 (cmpI_R _ _) (cmpI_R _ _)
theorem cmpC_zero {r i r' i' : Int} : cmpC r i r' i' = 0 ↔ r = r' ∧ i = i' := by rw [cmpC_def, or_zero, cmpI_zero, cmpI_zero]
theorem cmpC_neg (r i r' i' : Int) : cmpC r' i' r i = - cmpC r i r' i' := by rw [cmpC_def, cmpC_def]; exact or_neg (cmpI_neg _ _) (fun _ => cmpI_neg _ _)
theorem cmpC_T (a b c d e f : Int) : T3 (cmpC a b c d) (cmpC c d e f) (cmpC a b e f) := by rw [cmpC_def, cmpC_def, cmpC_def]; exact or_T3 (cmpI_T _ _ _) (fun _ _ => cmpI_T _ _ _) (cmpI_R _ _) (cmpI_R _ _) (cmpI_R _ _)
/-! ### Terms -/
theorem rank_inj {k k' : Int} (h : 1 ≤ k ∧ k ≤ 5) (h' : 1 ≤ k' ∧ k' ≤ 5) (e : rankI k = rankI k') : k = k' := by
  rw [rankI_def, rankI_def] at e
  repeat' split at e
  all_goals omega
theorem ok_kind {k : Int} {s : ByteArray} {n r i : Int} {l : List Tm} (h : okT (.mk k s n r i l)) : 1 ≤ k ∧ k ≤ 5 := by
  unfold okT at h
  have := h.1
  simp only [oneE] at this
  repeat' split at this
  all_goals omega
mutual
theorem ord_R : ∀ a b : Tm, R3 (ordE a b)
  | .mk k s n r i l, .mk k' s' n' r' i' l' => by
    unfold ordE
    refine or_R3 (cmpI_R _ _) ?_
    split
    · exact cmpI_R _ _
    · split
      · exact cmpC_R _ _ _ _
      · split
        · exact cmpS_R _ _
        · exact or_R3 (or_R3 (cmpI_R _ _) (cmpS_R _ _)) (ordL_R l l')
theorem ordL_R : ∀ a b : List Tm, R3 (ordL a b)
  | [], [] => by unfold ordL R3; simp
  | [], _ :: _ => by unfold ordL R3; simp
  | _ :: _, [] => by unfold ordL R3; simp
  | a :: l, b :: m => by unfold ordL; exact or_R3 (ord_R a b) (ordL_R l m)
end
mutual
theorem ord_neg : ∀ a b : Tm, okT a → okT b → ordE b a = - ordE a b
  | .mk k s n r i l, .mk k' s' n' r' i' l', ha, hb => by
    have ka := ok_kind ha
    have kb := ok_kind hb
    unfold okT at ha hb
    unfold ordE
    refine or_neg (cmpI_neg _ _) (fun h => ?_)
    have e := rank_inj ka kb (cmpI_zero.1 h)
    subst e
    split
    · exact cmpI_neg _ _
    · split
      · exact cmpC_neg _ _ _ _
      · split
        · exact cmpS_neg _ _
        · refine or_neg (or_neg (cmpI_neg _ _) (fun _ => cmpS_neg _ _)) (fun _ => ?_)
          have h5 : k = 5 := by omega
          exact ordL_neg l l' (ha.2 h5) (hb.2 h5)
theorem ordL_neg : ∀ a b : List Tm, okL a → okL b → ordL b a = - ordL a b
  | [], [], _, _ => by unfold ordL; rfl
  | [], _ :: _, _, _ => by unfold ordL; rfl
  | _ :: _, [], _, _ => by unfold ordL; rfl
  | a :: l, b :: m, ha, hb => by
    unfold okL at ha hb
    unfold ordL
    exact or_neg (ord_neg a b ha.1 hb.1) (fun _ => ordL_neg l m ha.2 hb.2)
end
mutual
theorem ord_T : ∀ a b c : Tm, okT a → okT b → okT c → T3 (ordE a b) (ordE b c) (ordE a c)
  | .mk k s n r i l, .mk k' s' n' r' i' l', .mk k'' s'' n'' r'' i'' l'', ha, hb, hc => by
    have ka := ok_kind ha
    have kb := ok_kind hb
    have kc := ok_kind hc
    unfold okT at ha hb hc
    unfold ordE
    refine or_T3 (cmpI_T _ _ _) (fun h h' => ?_) (cmpI_R _ _) (cmpI_R _ _) (cmpI_R _ _)
    have e := rank_inj ka kb (cmpI_zero.1 h)
    have e' := rank_inj kb kc (cmpI_zero.1 h')
    subst e; subst e'
    split
    · exact cmpI_T _ _ _
    · split
      · exact cmpC_T _ _ _ _ _ _
      · split
        · exact cmpS_T _ _ _
        · refine or_T3 (or_T3 (cmpI_T _ _ _) (fun _ _ => cmpS_T _ _ _) (cmpI_R _ _) (cmpI_R _ _) (cmpI_R _ _)) (fun _ _ => ?_) (or_R3 (cmpI_R _ _) (cmpS_R _ _)) (or_R3 (cmpI_R _ _) (cmpS_R _ _)) (or_R3 (cmpI_R _ _) (cmpS_R _ _))
          have h5 : k = 5 := by omega
          exact ordL_T l l' l'' (ha.2 h5) (hb.2 h5) (hc.2 h5)
theorem ordL_T : ∀ a b c : List Tm, okL a → okL b → okL c → T3 (ordL a b) (ordL b c) (ordL a c)
  | [], [], c, _, _, _ => by
    have := ordL_R [] c
    cases c <;> (unfold ordL T3; simp)
  | [], _ :: _, [], _, _, _ => by unfold ordL T3; intro h h'; omega
  | [], _ :: _, _ :: _, _, _, _ => by unfold ordL T3; intro h h'; omega
  | _ :: _, [], _, _, _, _ => by unfold T3; intro h h'; unfold ordL at h; omega
  | _ :: _, _ :: _, [], _, _, _ => by unfold T3; intro h h'; unfold ordL at h'; omega
  | a :: l, b :: m, c :: p, ha, hb, hc => by
    unfold okL at ha hb hc
    unfold ordL
    exact or_T3 (ord_T a b c ha.1 hb.1 hc.1) (fun _ _ => ordL_T l m p ha.2 hb.2 hc.2) (ord_R _ _) (ord_R _ _) (ord_R _ _)
end
mutual
theorem ord_like : ∀ a b : Tm, okT a → okT b → (ordE a b = 0 ↔ likeE a b = true)
  | .mk k s n r i l, .mk k' s' n' r' i' l', ha, hb => by
    have ka := ok_kind ha
    have kb := ok_kind hb
    unfold okT at ha hb
    unfold ordE likeE
    rw [or_zero, cmpI_zero]
    by_cases e : k = k'
    · subst e
      rw [if_neg (show ¬ (k ≠ k) from fun h => h rfl)]
      simp only [true_and]
      by_cases h1 : k = 1 ∨ k = 3
      · rw [if_pos h1, if_pos h1, cmpI_zero]; simp
      · rw [if_neg h1, if_neg h1]
        by_cases h4 : k = 4
        · subst h4
          rw [if_pos rfl, if_neg (by decide), if_pos rfl, cmpC_zero]; simp
        · rw [if_neg h4]
          by_cases h2 : k = 2
          · rw [if_pos h2, if_pos h2, cmpS_zero]
          · rw [if_neg h2, if_neg h2, if_neg h4, or_zero, or_zero, cmpI_zero, cmpS_zero]
            have h5 : k = 5 := by omega
            rw [Bool.and_eq_true]
            constructor
            · rintro ⟨⟨h, h'⟩, h''⟩
              exact ⟨h', (ordL_like l l' (ha.2 h5) (hb.2 h5)).1 h''⟩
            · rintro ⟨h, h'⟩
              refine ⟨⟨?_, h⟩, (ordL_like l l' (ha.2 h5) (hb.2 h5)).2 h'⟩
              by_cases q : l.length = l'.length
              · rw [q]
              · rw [likeL_len q] at h'; cases h'
    · rw [if_pos e]
      simp only [Bool.false_eq_true, iff_false, not_and]
      exact fun h => absurd (rank_inj ka kb h) e
theorem ordL_like : ∀ a b : List Tm, okL a → okL b → (ordL a b = 0 ↔ likeL a b = true)
  | [], [], _, _ => by unfold ordL likeL; simp
  | [], _ :: _, _, _ => by unfold ordL likeL; simp
  | _ :: _, [], _, _ => by unfold ordL likeL; simp
  | a :: l, b :: m, ha, hb => by
    unfold okL at ha hb
    unfold ordL likeL
    rw [or_zero, Bool.and_eq_true, ord_like a b ha.1 hb.1, ordL_like l m ha.2 hb.2]
end
theorem ord_self {a : Tm} (h : okT a) : ordE a a = 0 := (ord_like a a h h).2 (like_refl a)
end Go.Proofs.Ythiionkikammkaa
