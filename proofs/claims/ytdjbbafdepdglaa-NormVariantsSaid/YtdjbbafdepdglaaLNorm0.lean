/- Of clauses: laws of trees. -/
import Derived.Test.YtdjbbafdepdglaaNorm8
import Derived.Test.YtdjbbafdepdglaaVariants0
import Derived.Test.YtdjbbafdepdglaaNorm2
namespace Go.Proofs.Ytdjbbafdepdglaa
open Go.RowKit
set_option linter.unusedVariables false
set_option linter.unusedSimpArgs false
set_option maxRecDepth 20000
set_option maxHeartbeats 4000000

/-! ### Terms renamed -/
theorem nL_app' : ∀ a b : List Tm, nL (a ++ b) = nL a + nL b
  | [], b => by simp [nL]
  | t :: a, b => by simp only [List.cons_append, nL, nL_app' a b]; omega
theorem one5' (s : ByteArray) (n r i : Int) (l : List Tm) : oneE (.mk 5 s n r i l) = 0 ↔ l.length ≠ 0 ∧ s.size ≤ 200 ∧ l.length ≤ 20 := by
  unfold oneE
  simp only [Int.reduceEq, if_false, if_true]
  by_cases h1 : l.length = 0
  · rw [if_pos h1]; simp [h1]
  · rw [if_neg h1]
    by_cases h2 : 200 < s.size
    · rw [if_pos h2]
      constructor
      · intro h; cases h
      · omega
    · rw [if_neg h2]
      by_cases h3 : 20 < l.length
      · rw [if_pos h3]
        constructor
        · intro h; cases h
        · omega
      · rw [if_neg h3]
        constructor
        · intro _; omega
        · intro _; rfl
theorem may5' (s : ByteArray) (n r i : Int) (l : List Tm) : mayE (.mk 5 s n r i l) = 0 ↔ (l.length ≠ 0 ∧ s.size ≤ 200 ∧ l.length ≤ 20) ∧ okL l ∧ nL l ≤ 1999 ∧ hL l ≤ 499 := by
  rw [mayE_ok, okT, one5', nT, hT, if_pos rfl, if_pos rfl]
  constructor
  · rintro ⟨⟨a, b⟩, c, d⟩; exact ⟨a, b rfl, by omega, by omega⟩
  · rintro ⟨a, b, c, d⟩; exact ⟨⟨a, fun _ => b⟩, by omega, by omega⟩
theorem may5two {s : ByteArray} {n r i : Int} {p q : Tm} (h : mayE (.mk 5 s n r i [p, q]) = 0) : mayE p = 0 ∧ mayE q = 0 := by
  obtain ⟨_, a, b, c⟩ := (may5' ..).1 h
  simp only [okL, nL, hL] at a b c
  exact ⟨mayE_ok.2 ⟨a.1, by omega, by omega⟩, mayE_ok.2 ⟨a.2.1, by omega, by omega⟩⟩
theorem turn_two (F : Int → Tm) (s : ByteArray) (n r i : Int) (p q : Tm) : turnT F (.mk 5 s n r i [p, q]) = .mk 5 s 0 0 0 [turnT F p, turnT F q] := by simp [turnT, turnL]
theorem turn_plain (f : Int → Int) {t : Tm} (h : okT t) : turnT varT (turnT (fun n => varT (f n)) t) = turnT (fun n => varT (f n)) t := turn_comp varT f t h
theorem rename_fix {t : Tm} (h : mayE t = 0) : turnT varT (renameE t) = renameE t := by rw [rename_form h]; exact turn_plain _ (mayE_ok.1 h).1
theorem plain_fix {t : Tm} (h : mayE t = 0) (k : turnT varT t = t) : plainE t = t := by unfold plainE; rw [if_pos h, k]
theorem kind_turn (f : Int → Int) (t : Tm) : (turnT (fun n => varT (f n)) t).kind = t.kind := by
  cases t with
  | mk k s n r i l =>
    unfold turnT
    split
    · rename_i h; simp [varT, Tm.kind, h]
    · split
      · rfl
      · split
        · rfl
        · split
          · rfl
          · split <;> rfl
theorem is_turn (f : Int → Int) (t : Tm) (s : ByteArray) (n : Int) : isE (turnT (fun n => varT (f n)) t) s n = isE t s n := by
  cases t with
  | mk k u m r i l =>
    by_cases h2 : k = 2
    · subst h2; unfold isE; simp [turnT, Tm.kind, Tm.name, Tm.args]
    by_cases h5 : k = 5
    · subst h5; unfold isE; simp [turnT, Tm.kind, Tm.name, Tm.args, turnL_map]
    · have e2 : (k == 2) = false := by simpa using h2
      have e5 : (k == 5) = false := by simpa using h5
      unfold isE
      simp only [kind_turn]
      simp only [Tm.kind, e2, e5, Bool.false_and]
theorem head_turn (f : Int → Int) (t : Tm) : headE (turnT (fun n => varT (f n)) t) = headE t := by
  unfold headE controlE
  simp only [is_turn, kind_turn]
theorem num_turn (f : Int → Int) (t : Tm) : numB (turnT (fun n => varT (f n)) t) = numB t := by
  unfold numB
  rw [kind_turn]
theorem any_turn (f : Int → Int) (l : List Tm) : (l.map (turnT (fun n => varT (f n)))).any numB = l.any numB := by
  induction l with
  | nil => rfl
  | cons a l ih => simp only [List.map_cons, List.any_cons, num_turn, ih]

/-! ### Goals -/
theorem callT_turn (F : Int → Tm) (t : Tm) : turnT F (callT t) = callT (turnT F t) := by simp [callT, turnT, turnL]
theorem is_call (t : Tm) (s : ByteArray) : isE (callT t) s 2 = false ∧ isE (callT t) s 0 = false := by
  constructor <;> (unfold isE callT; simp [Tm.kind, Tm.args])
theorem leaf_turn (f : Int → Int) (t : Tm) : leafG (turnT (fun n => varT (f n)) t) = (leafG t).map (turnT (fun n => varT (f n))) := by
  unfold leafG
  rw [kind_turn, is_turn]
  split
  · simp [callT_turn]
  · split <;> simp
theorem goals_turn (f : Int → Int) (t : Tm) : goalsT (turnT (fun n => varT (f n)) t) = (goalsT t).map (turnT (fun n => varT (f n))) := by
  induction t using Tm.ind with | _ k s n r i l IH
  cases h : isE (.mk k s n r i l) ⟨#[44]⟩ 2 with
  | false =>
    rw [goalsT_leaf h, goalsT_leaf (by rw [is_turn, h]), leaf_turn]
  | true =>
    have h' := h
    obtain ⟨rfl, a, b, rfl⟩ := is_comma2 h
    rw [goalsT_comma h']
    rw [← is_turn f] at h'
    rw [turn_two] at h' ⊢
    rw [goalsT_comma h', IH a (by simp), IH b (by simp), List.map_append]
/-- What is a goal: no conjunction, no variable, not true. -/
def leafy (g : Tm) : Prop := isE g ⟨#[44]⟩ 2 = false ∧ (g.kind == 1) = false ∧ isE g ⟨#[116, 114, 117, 101]⟩ 0 = false
theorem goals_leafy (t : Tm) : ∀ g ∈ goalsT t, leafy g := by
  induction t using Tm.ind with | _ k s n r i l IH
  cases h : isE (.mk k s n r i l) ⟨#[44]⟩ 2 with
  | false =>
    rw [goalsT_leaf h]
    intro g hg
    unfold leafG at hg
    split at hg
    · obtain rfl := List.mem_singleton.1 hg
      exact ⟨(is_call _ _).1, by simp [callT, Tm.kind], (is_call _ _).2⟩
    · rename_i h1
      split at hg
      · cases hg
      · rename_i h2
        obtain rfl := List.mem_singleton.1 hg
        exact ⟨h, by simpa using h1, by simpa using h2⟩
  | true =>
    have h' := h
    obtain ⟨rfl, a, b, rfl⟩ := is_comma2 h
    rw [goalsT_comma h']
    intro g hg
    rcases List.mem_append.1 hg with hg | hg
    · exact IH a (by simp) g hg
    · exact IH b (by simp) g hg
theorem goals_of_leafy {g : Tm} (h : leafy g) : goalsT g = [g] := by
  rw [goalsT_leaf h.1]
  unfold leafG
  rw [if_neg (by simp [h.2.1]), if_neg (by simp [h.2.2])]
theorem map_fix {f : Tm → Tm} : ∀ {l : List Tm}, l.map f = l → ∀ x ∈ l, f x = x
  | [], _, _, h => by cases h
  | a :: l, e, x, h => by
    simp only [List.map_cons, List.cons.injEq] at e
    rcases List.mem_cons.1 h with rfl | h
    · exact e.1
    · exact map_fix e.2 x h
theorem varF_id : (fun n => varT ((fun n => n) n)) = varT := rfl
theorem goals_fix {t : Tm} (h : turnT varT t = t) : (goalsT t).map (turnT varT) = goalsT t := by
  have := goals_turn (fun n => n) t
  rw [varF_id, h] at this
  exact this.symm
theorem goalsE_of {t : Tm} (h : mayE t = 0) (k : turnT varT t = t) : goalsE t = goalsT t := by unfold goalsE; rw [if_neg (by simp [h]), plain_fix h k]
theorem call_may {t : Tm} (h : mayE t = 0) (hk : t.kind = 1) : mayE (callT t) = 0 := by
  obtain ⟨a, b, c⟩ := mayE_ok.1 h
  have n1 : nT t = 1 := by cases t; simp only [Tm.kind] at hk; simp [nT, hk]
  have h1 : hT t = 1 := by cases t; simp only [Tm.kind] at hk; simp [hT, hk]
  unfold callT
  rw [may5']
  refine ⟨⟨by simp, by decide, by simp⟩, ?_, ?_, ?_⟩
  · simp only [okL]; exact ⟨a, trivial⟩
  · simp only [nL]; omega
  · simp only [hL]; omega
theorem goals_may (t : Tm) : mayE t = 0 → ∀ g ∈ goalsT t, mayE g = 0 := by
  induction t using Tm.ind with | _ k s n r i l IH
  intro hm
  cases h : isE (.mk k s n r i l) ⟨#[44]⟩ 2 with
  | false =>
    rw [goalsT_leaf h]
    intro g hg
    unfold leafG at hg
    split at hg
    · rename_i h1
      obtain rfl := List.mem_singleton.1 hg
      exact call_may hm (by simpa using h1)
    · split at hg
      · cases hg
      · obtain rfl := List.mem_singleton.1 hg
        exact hm
  | true =>
    have h' := h
    obtain ⟨rfl, a, b, rfl⟩ := is_comma2 h
    rw [goalsT_comma h']
    obtain ⟨ha, hb⟩ := may5two hm
    intro g hg
    rcases List.mem_append.1 hg with hg | hg
    · exact IH a (by simp) ha g hg
    · exact IH b (by simp) hb g hg

/-! ### Joins -/
def joinT (l : List Tm) : Tm := l.dropLast.foldr commaT (l.getLast?.getD Tm.zero)
theorem joinT_one (g : Tm) : joinT [g] = g := by simp [joinT]
theorem joinT_cons (g : Tm) {l : List Tm} (h : l ≠ []) : joinT (g :: l) = commaT g (joinT l) := by
  cases l with
  | nil => exact absurd rfl h
  | cons a l => simp [joinT]
theorem is_commaT (a b : Tm) : isE (commaT a b) ⟨#[44]⟩ 2 = true := by unfold isE commaT; simp [Tm.kind, Tm.name, Tm.args]
theorem goals_join : ∀ l : List Tm, l ≠ [] → (∀ g ∈ l, leafy g) → goalsT (joinT l) = l
  | [], h, _ => absurd rfl h
  | [g], _, hl => by rw [joinT_one, goals_of_leafy (hl g (by simp))]
  | g :: a :: l, _, hl => by
    have hc := is_commaT g (joinT (a :: l))
    rw [joinT_cons g (by simp)]
    unfold commaT at hc ⊢
    rw [goalsT_comma hc, goals_of_leafy (hl g (by simp)), goals_join (a :: l) (by simp) (fun x hx => hl x (by simp [hx]))]
    rfl
theorem join_turnT (F : Int → Tm) : ∀ l : List Tm, l ≠ [] → turnT F (joinT l) = joinT (l.map (turnT F))
  | [], h => absurd rfl h
  | [g], _ => by simp [joinT]
  | g :: a :: l, _ => by
    rw [joinT_cons g (l := a :: l) (by simp), List.map_cons, joinT_cons _ (l := (a :: l).map (turnT F)) (by simp), ← join_turnT F (a :: l) (by simp)]
    unfold commaT
    rw [turn_two]
theorem joinE_of {l : List Tm} (h : l ≠ []) : joinE l = if 2000 < l.length then Tm.zero else plainE (joinT l) := by unfold joinE joinT; rw [if_neg h]
theorem zero_may : mayE Tm.zero ≠ 0 := by decide +kernel
theorem plain_kind {t : Tm} (h : (plainE t).kind ≠ 0) : mayE t = 0 := by
  unfold plainE at h
  split at h
  · assumption
  · exact absurd rfl h
theorem join_may {l : List Tm} (h : l ≠ []) (hm : mayE (joinE l) = 0) : l.length ≤ 2000 ∧ mayE (joinT l) = 0 ∧ joinE l = turnT varT (joinT l) := by
  rw [joinE_of h] at hm ⊢
  split at hm
  · exact absurd hm zero_may
  · rename_i h2
    rw [if_neg h2]
    unfold plainE at hm ⊢
    split at hm
    · rename_i h3; exact ⟨by omega, h3, by rw [if_pos h3]⟩
    · exact absurd hm zero_may
theorem may_kind {t : Tm} (h : mayE t = 0) : t.kind ≠ 0 := by
  intro hk
  obtain ⟨a, _, _⟩ := mayE_ok.1 h
  cases t with
  | mk k s n r i l =>
    simp only [Tm.kind] at hk
    subst hk
    unfold okT at a
    have := a.1
    simp [oneE] at this
theorem fix_args {s : ByteArray} {n r i : Int} {p q : Tm} (h : turnT varT (.mk 5 s n r i [p, q]) = .mk 5 s n r i [p, q]) : turnT varT p = p ∧ turnT varT q = q := by
  rw [turn_two] at h
  simp only [Tm.mk.injEq, List.cons.injEq, and_true, true_and] at h
  exact ⟨h.2.2.2.1, h.2.2.2.2⟩
theorem join_fix {l : List Tm} (h : l ≠ []) (k : l.map (turnT varT) = l) : turnT varT (joinT l) = joinT l := by rw [join_turnT varT l h, k]

/-! ### The clause of a term, once more -/
theorem clauses_of {t : Tm} (hm : mayE t = 0) {h : Tm} {b : List Tm} (hc : cls1 (renameE t) = (h, b)) (h1 : headE h = true) (h2 : b.any numB = false) (h3 : (backE h b).kind ≠ 0) : clausesE t = ((h, b), 0) := by
  unfold clausesE
  rw [if_neg (by simp [hm]), hc]
  simp only
  rw [if_neg (by simp [clsBad, h1, h2]), if_neg h3]
theorem clauses_ok {t : Tm} {h : Tm} {b : List Tm} (hc : clausesE t = ((h, b), 0)) : mayE t = 0 ∧ cls1 (renameE t) = (h, b) ∧ headE h = true ∧ b.any numB = false ∧ (backE h b).kind ≠ 0 := by
  unfold clausesE at hc
  by_cases hm : mayE t = 0
  · rw [if_neg (by simp [hm])] at hc
    split at hc
    · simp at hc
    · rename_i h1
      split at hc
      · simp at hc
      · rename_i h2
        have e : cls1 (renameE t) = (h, b) := by simpa using hc
        rw [e] at h1 h2
        simp only [clsBad, Bool.or_eq_true, Bool.not_eq_true', not_or, Bool.not_eq_false, Bool.not_eq_true] at h1
        exact ⟨hm, e, h1.1, h1.2, h2⟩
  · rw [if_pos hm] at hc
    simp at hc
    exact absurd hc.2 hm
theorem clauses_err {t : Tm} {h : Tm} {b : List Tm} {e : Int} (hc : clausesE t = ((h, b), e)) (he : e ≠ 0) : h = Tm.zero ∧ b = [] := by
  unfold clausesE at hc
  split at hc
  · simp at hc; exact ⟨hc.1.1.symm, hc.1.2⟩
  · split at hc
    · simp at hc; exact ⟨hc.1.1.symm, hc.1.2⟩
    · split at hc
      · simp at hc; exact ⟨hc.1.1.symm, hc.1.2⟩
      · simp at hc; exact absurd hc.2.symm he
theorem head_neck {t : Tm} (h : headE t = true) : isE t ⟨#[58, 45]⟩ 2 = false := by
  unfold headE at h
  simp only [Bool.and_eq_true, Bool.not_eq_true'] at h
  exact h.2.2.2.1
/-- The clause's head and goals are plain; each goal is one. -/
theorem clauses_fix {t : Tm} {h : Tm} {b : List Tm} (hc : clausesE t = ((h, b), 0)) : turnT varT h = h ∧ b.map (turnT varT) = b ∧ ∀ g ∈ b, leafy g := by
  obtain ⟨hm, hc, _, _, _⟩ := clauses_ok hc
  have hf := rename_fix hm
  have hrm := rename_may hm
  unfold cls1 at hc
  split at hc
  · rename_i hi
    generalize renameE t = R at hf hrm hc hi
    cases R with
    | mk k s n r i l =>
      obtain ⟨rfl, p, q, rfl⟩ := is_two hi
      simp only [Tm.args, List.headD_cons, List.drop_succ_cons, List.drop_zero, Prod.mk.injEq] at hc
      obtain ⟨rfl, rfl⟩ := hc
      obtain ⟨fp, fq⟩ := fix_args hf
      obtain ⟨mp, mq⟩ := may5two hrm
      rw [goalsE_of mq fq]
      exact ⟨fp, goals_fix fq, goals_leafy q⟩
  · simp only [Prod.mk.injEq] at hc
    obtain ⟨rfl, rfl⟩ := hc
    exact ⟨hf, rfl, by simp⟩
/-- The term of a clause, parted again. -/
theorem clauses_back {t : Tm} {h : Tm} {b : List Tm} (hc : clausesE t = ((h, b), 0)) : ∃ h' b', mayE (backE h b) = 0 ∧ clausesE (backE h b) = ((h', b'), 0) ∧ backE h' b' = renameE (backE h b) ∧ b'.length = b.length := by
  obtain ⟨fh, fb, lf⟩ := clauses_fix hc
  obtain ⟨_, _, h1, h2, h3⟩ := clauses_ok hc
  by_cases h0 : b = []
  · subst h0
    have eb : backE h [] = plainE h := by unfold backE; rw [if_pos rfl]
    rw [eb] at h3 ⊢
    have mh := plain_kind h3
    rw [plain_fix mh fh]
    have hR := rename_form mh
    have hcl : cls1 (renameE h) = (renameE h, []) := by unfold cls1; rw [if_neg (by rw [hR, is_turn, head_neck h1]; simp)]
    have hbk : backE (renameE h) [] = renameE h := by unfold backE; rw [if_pos rfl, plain_fix (rename_may mh) (rename_fix mh)]
    refine ⟨renameE h, [], mh, clauses_of mh hcl (by rw [hR, head_turn, h1]) rfl (by rw [hbk]; exact may_kind (rename_may mh)), hbk, rfl⟩
  · have eb : backE h b = plainE (.mk 5 ⟨#[58, 45]⟩ 0 0 0 [h, joinE b]) := by unfold backE; rw [if_neg h0]
    rw [eb] at h3 ⊢
    have mu := plain_kind h3
    obtain ⟨mh, mj⟩ := may5two mu
    obtain ⟨hl, mt, ej⟩ := join_may h0 mj
    rw [ej, join_fix h0 fb] at mu ⊢
    have fu : turnT varT (.mk 5 ⟨#[58, 45]⟩ 0 0 0 [h, joinT b]) = .mk 5 ⟨#[58, 45]⟩ 0 0 0 [h, joinT b] := by rw [turn_two, fh, join_fix h0 fb]
    rw [plain_fix mu fu]
    obtain ⟨f, hf⟩ : ∃ f : Int → Int, renF (varsE (.mk 5 ⟨#[58, 45]⟩ 0 0 0 [h, joinT b])) 0 0 = f := ⟨_, rfl⟩
    have hR := rename_form mu
    rw [hf] at hR
    have mR := rename_may mu
    have fR := rename_fix mu
    rw [hR] at mR fR ⊢
    rw [turn_two, join_turnT _ b h0] at hR mR fR ⊢
    obtain ⟨c, hc'⟩ : ∃ c, b.map (turnT (fun n => varT (f n))) = c := ⟨_, rfl⟩
    have hc0 : c ≠ [] := by rw [← hc']; simpa using h0
    have hcl0 : c.length = b.length := by rw [← hc', List.length_map]
    have hclf : ∀ g ∈ c, leafy g := by
      intro g hg
      rw [← hc'] at hg
      obtain ⟨x, hx, rfl⟩ := List.mem_map.1 hg
      obtain ⟨a1, a2, a3⟩ := lf x hx
      exact ⟨by rw [is_turn, a1], by rw [kind_turn, a2], by rw [is_turn, a3]⟩
    rw [hc'] at hR mR fR ⊢
    obtain ⟨mh', mj'⟩ := may5two mR
    obtain ⟨fh', fj'⟩ := fix_args fR
    have hg : goalsE (joinT c) = c := by rw [goalsE_of mj' fj', goals_join c hc0 hclf]
    have hi : isE (.mk 5 ⟨#[58, 45]⟩ 0 0 0 [turnT (fun n => varT (f n)) h, joinT c]) ⟨#[58, 45]⟩ 2 = true := by unfold isE; simp [Tm.kind, Tm.name, Tm.args]
    have hcl : cls1 (renameE (.mk 5 ⟨#[58, 45]⟩ 0 0 0 [h, joinT b])) = (turnT (fun n => varT (f n)) h, c) := by
      rw [hR]
      unfold cls1
      rw [if_pos hi]
      simp only [Tm.args, List.headD_cons, List.drop_succ_cons, List.drop_zero, hg]
    have hje : joinE c = joinT c := by rw [joinE_of hc0, if_neg (by omega), plain_fix mj' fj']
    have hbk : backE (turnT (fun n => varT (f n)) h) c = .mk 5 ⟨#[58, 45]⟩ 0 0 0 [turnT (fun n => varT (f n)) h, joinT c] := by
      unfold backE
      rw [if_neg hc0, hje, plain_fix mR fR]
    refine ⟨_, c, mu, clauses_of mu hcl (by rw [head_turn, h1]) (by rw [← hc', any_turn, h2]) (by rw [hbk]; simp [Tm.kind]), hbk, hcl0⟩

theorem slimA_back (h : Tm) (b : List Tm) : slimA (backE h b) := by unfold backE; split <;> exact slimA_plain _
theorem rIs2 (t : Tm) (s : ByteArray) : rIsE t s 2 = isE t s 2 := by
  unfold rIsE isE rkeyS rkeyN rkeyB
  by_cases h2 : t.kind = 2
  · simp [h2]
  by_cases h5 : t.kind = 5
  · simp [h5]
  · have e2 : (t.kind == 2) = false := by simpa using h2
    have e5 : (t.kind == 5) = false := by simpa using h5
    simp [e2, e5]
theorem rIs0 {t : Tm} (hm : mayE t = 0) (s : ByteArray) : rIsE t s 0 = isE t s 0 := by
  unfold rIsE isE rkeyS rkeyN rkeyB
  by_cases h2 : t.kind = 2
  · simp [h2]
  by_cases h5 : t.kind = 5
  · have hl : ¬((t.args.length : Int) = 0) := by
      cases t with
      | mk k u n r i l =>
        simp only [Tm.kind] at h5
        subst h5
        have := ((may5' ..).1 hm).1.1
        simp only [Tm.args]
        omega
    simp [h5]
    intro _ h
    exact hl (by simp [h])
  · have e2 : (t.kind == 2) = false := by simpa using h2
    have e5 : (t.kind == 5) = false := by simpa using h5
    simp [e2, e5]
theorem clauses_mays {t : Tm} {h : Tm} {b : List Tm} (hc : clausesE t = ((h, b), 0)) : mayE h = 0 ∧ ∀ g ∈ b, mayE g = 0 := by
  obtain ⟨hm, hc, _, _, _⟩ := clauses_ok hc
  have hf := rename_fix hm
  have hrm := rename_may hm
  unfold cls1 at hc
  split at hc
  · rename_i hi
    generalize renameE t = R at hf hrm hc hi
    cases R with
    | mk k s n r i l =>
      obtain ⟨rfl, p, q, rfl⟩ := is_two hi
      simp only [Tm.args, List.headD_cons, List.drop_succ_cons, List.drop_zero, Prod.mk.injEq] at hc
      obtain ⟨rfl, rfl⟩ := hc
      obtain ⟨fp, fq⟩ := fix_args hf
      obtain ⟨mp, mq⟩ := may5two hrm
      rw [goalsE_of mq fq]
      exact ⟨mp, goals_may q mq⟩
  · simp only [Prod.mk.injEq] at hc
    obtain ⟨rfl, rfl⟩ := hc
    exact ⟨hrm, by simp⟩
theorem clauses_len {t : Tm} {h : Tm} {b : List Tm} (hc : clausesE t = ((h, b), 0)) : b.length ≤ 2000 := by
  obtain ⟨_, hc, _, _, _⟩ := clauses_ok hc
  unfold cls1 at hc
  split at hc
  · simp only [Prod.mk.injEq] at hc
    rw [← hc.2]; exact goalsE_le _
  · simp only [Prod.mk.injEq] at hc
    rw [← hc.2]; simp
/-- What each goal of a clause is not. -/
theorem clauses_goals {t : Tm} {h : Tm} {b : List Tm} (hc : clausesE t = ((h, b), 0)) : ∀ g ∈ b, (g.kind == 1) = false ∧ (g.kind == 3) = false ∧ rIsE g ⟨#[44]⟩ 2 = false ∧ rIsE g ⟨#[116, 114, 117, 101]⟩ 0 = false := by
  obtain ⟨_, _, lf⟩ := clauses_fix hc
  obtain ⟨_, mg⟩ := clauses_mays hc
  obtain ⟨_, _, _, hn, _⟩ := clauses_ok hc
  intro g hg
  obtain ⟨a1, a2, a3⟩ := lf g hg
  refine ⟨a2, ?_, by rw [rIs2, a1], by rw [rIs0 (mg g hg), a3]⟩
  have := (List.any_eq_false.1 hn) g hg
  unfold numB at this
  simp only [Bool.or_eq_true, not_or, Bool.not_eq_true] at this
  exact this.1

def trueT : Tm := .mk 2 ⟨#[116, 114, 117, 101]⟩ 0 0 0 []
theorem goals_true : goalsE trueT = [] := by
  have hm : mayE trueT = 0 := by kernel_rfl
  have hf : turnT varT trueT = trueT := by kernel_rfl
  have hi : isE trueT ⟨#[44]⟩ 2 = false := by kernel_rfl
  have hl : leafG trueT = [] := by kernel_rfl
  rw [goalsE_of hm hf, goalsT_leaf hi, hl]
theorem neck_form (s : ByteArray) (p q : Tm) (hs : s = ⟨#[58, 45]⟩) : isE (.mk 5 s 0 0 0 [p, q]) ⟨#[58, 45]⟩ 2 = true := by subst hs; unfold isE; simp [Tm.kind, Tm.name, Tm.args]
/-- A term with true behind it is the same clause. -/
theorem clauses_fact {t : Tm} (hm : mayE t = 0) (hi : isE t ⟨#[58, 45]⟩ 2 = false) (hn : nT t ≤ 1900) (hh : hT t ≤ 490) :
    clausesE (.mk 5 ⟨#[58, 45]⟩ 0 0 0 [t, trueT]) = clausesE t ∧ cls1 (renameE t) = (renameE t, []) := by
  have hR := rename_form hm
  have c1 : cls1 (renameE t) = (renameE t, []) := by unfold cls1; rw [if_neg (by rw [hR, is_turn, hi]; simp)]
  refine ⟨?_, c1⟩
  obtain ⟨ho, _, _⟩ := mayE_ok.1 hm
  have hm2 : mayE (.mk 5 ⟨#[58, 45]⟩ 0 0 0 [t, trueT]) = 0 := by
    rw [may5']
    refine ⟨⟨by simp, by decide, by simp⟩, ?_, ?_, ?_⟩
    · simp only [okL]
      refine ⟨ho, ?_, trivial⟩
      unfold trueT okT
      exact ⟨by decide, fun h => by simp at h⟩
    · have : nT trueT = 1 := by simp [trueT, nT]
      simp only [nL]; omega
    · have : hT trueT = 1 := by simp [trueT, hT]
      simp only [hL]; omega
  have hv : varsE (.mk 5 ⟨#[58, 45]⟩ 0 0 0 [t, trueT]) = varsE t := by
    rw [varsE_ok hm2, varsE_ok hm, foldT, if_pos rfl]
    simp only [foldL]
    have e1 : ∀ x, foldT varF trueT x = x := fun x => by simp [trueT, foldT, varF, Tm.kind]
    rw [e1]
    congr 1
  have hR2 : renameE (.mk 5 ⟨#[58, 45]⟩ 0 0 0 [t, trueT]) = .mk 5 ⟨#[58, 45]⟩ 0 0 0 [renameE t, trueT] := by
    rw [rename_form hm2, hv, turn_two, ← hR]
    simp [trueT, turnT]
  have c2 : cls1 (renameE (.mk 5 ⟨#[58, 45]⟩ 0 0 0 [t, trueT])) = (renameE t, []) := by
    rw [hR2]
    unfold cls1
    rw [if_pos (neck_form _ _ _ rfl)]
    simp only [Tm.args, List.headD_cons, List.drop_succ_cons, List.drop_zero, goals_true]
  unfold clausesE
  rw [hm, hm2, c1, c2]
theorem clauses_head {t h : Tm} {b : List Tm} (hc : clausesE t = ((h, b), 0)) (c1 : cls1 (renameE t) = (renameE t, [])) : h = renameE t ∧ b = [] := by
  obtain ⟨_, h2, _⟩ := clauses_ok hc
  rw [c1] at h2
  simp only [Prod.mk.injEq] at h2
  exact ⟨h2.1.symm, h2.2.symm⟩
theorem Equal_fix {t : Tm} (hm : mayE t = 0) : EqualE t t = true := by
  unfold EqualE
  rw [if_neg (by have := may_kind hm; simp [this])]
  unfold rSameE
  rw [hm, like_refl]
  rfl
theorem allEq_self : ∀ l : List Tm, (∀ g ∈ l, mayE g = 0) → allEq l l = true
  | [], _ => by rw [allEq]; intros; simp_all
  | g :: l, h => by rw [allEq, Equal_fix (h g (by simp)), allEq_self l (fun x hx => h x (by simp [hx]))]; rfl
theorem sameTerms_self {l : List Tm} (h : ∀ g ∈ l, mayE g = 0) : sameTermsE l l = true := by
  unfold sameTermsE
  rw [allEq_self l h]
  simp
/-- A clause is the same as itself; so are two that are none. -/
theorem clause_self {t h : Tm} {b : List Tm} {e : Int} (hc : clausesE t = ((h, b), e)) : (EqualE h h && sameTermsE b b) = true := by
  by_cases he : e = 0
  · subst he
    obtain ⟨m1, m2⟩ := clauses_mays hc
    rw [Equal_fix m1, sameTerms_self m2]
    rfl
  · obtain ⟨rfl, rfl⟩ := clauses_err hc he
    rw [sameTerms_self (by simp)]
    simp [EqualE, Tm.zero, Tm.kind, Tm.name, Tm.int, Tm.re, Tm.im, Tm.args]
theorem slimA_may {t : Tm} (h : mayE t = 0) (k : turnT varT t = t) : slimA t := by
  have := slimA_plain t
  rwa [plain_fix h k] at this
theorem clauses_slim {t h : Tm} {b : List Tm} {e : Int} (hc : clausesE t = ((h, b), e)) : slimA h ∧ ∀ g ∈ b, slimA g := by
  by_cases he : e = 0
  · subst he
    obtain ⟨m1, m2⟩ := clauses_mays hc
    obtain ⟨f1, f2, _⟩ := clauses_fix hc
    exact ⟨slimA_may m1 f1, fun g hg => slimA_may (m2 g hg) (map_fix f2 g hg)⟩
  · obtain ⟨rfl, rfl⟩ := clauses_err hc he
    exact ⟨by simp [Tm.zero, slimA, slimAL], by simp⟩
theorem clauses_len' {t h : Tm} {b : List Tm} {e : Int} (hc : clausesE t = ((h, b), e)) : b.length ≤ 2000 := by
  by_cases he : e = 0
  · subst he; exact clauses_len hc
  · obtain ⟨rfl, rfl⟩ := clauses_err hc he; simp
/-- Variants are one clause. -/
theorem clauses_turn {t : Tm} (hm : mayE t = 0) {f : Int → Int} (hp : ∀ a ∈ varsE t, 0 ≤ f a) (hf : ∀ a b, a ∈ varsE t → b ∈ varsE t → f a = f b → a = b) : clausesE (turnT (fun n => varT (f n)) t) = clausesE t := by
  unfold clausesE
  rw [(rename_inj hm hp hf).2, hm, may_turnS hm hp]
/-! ### Goals of two, goals of a join -/
theorem goalsE_form {a : Tm} (hm : mayE a = 0) : goalsE a = goalsT (turnT varT a) := by unfold goalsE plainE; rw [if_neg (by simp [hm]), if_pos hm]
theorem goalsE_mem {a : Tm} (hm : mayE a = 0) : ∀ g ∈ goalsE a, mayE g = 0 ∧ leafy g ∧ slimA g := by
  intro g hg
  rw [goalsE_form hm] at hg
  have mg := goals_may _ (may_plainT hm) g hg
  have fix : turnT varT (turnT varT a) = turnT varT a := turn_turn varT varT a (mayE_ok.1 hm).1
  exact ⟨mg, goals_leafy _ g hg, slimA_may mg (map_fix (goals_fix fix) g hg)⟩
theorem goals_two {a b : Tm} (ha : mayE a = 0) (hb : mayE b = 0) (hn : nT a + nT b ≤ 1000) (hh : hT a + hT b ≤ 400) : goalsE (.mk 5 ⟨#[44]⟩ 0 0 0 [a, b]) = goalsE a ++ goalsE b := by
  have hm : mayE (.mk 5 ⟨#[44]⟩ 0 0 0 [a, b]) = 0 := by
    rw [may5']
    refine ⟨⟨by simp, by decide, by simp⟩, ?_, ?_, ?_⟩
    · simp only [okL]; exact ⟨(mayE_ok.1 ha).1, (mayE_ok.1 hb).1, trivial⟩
    · simp only [nL]; omega
    · simp only [hL]; omega
  have hc : isE (.mk 5 ⟨#[44]⟩ 0 0 0 [turnT varT a, turnT varT b]) ⟨#[44]⟩ 2 = true := by unfold isE; simp [Tm.kind, Tm.name, Tm.args]
  rw [goalsE_form hm, turn_two, goalsT_comma hc, goalsE_form ha, goalsE_form hb]
theorem join_goals {a : Tm} (ha : mayE a = 0) (hk : (joinE (goalsE a)).kind ≠ 0) : goalsE (joinE (goalsE a)) = goalsE a := by
  have fix : turnT varT (turnT varT a) = turnT varT a := turn_turn varT varT a (mayE_ok.1 ha).1
  have hx := goalsE_mem ha
  have hf : (goalsE a).map (turnT varT) = goalsE a := by rw [goalsE_form ha]; exact goals_fix fix
  by_cases h0 : goalsE a = []
  · rw [h0]
    have : joinE [] = trueT := by unfold joinE; rw [if_pos rfl]; rfl
    rw [this, goals_true]
  · rw [joinE_of h0] at hk ⊢
    split at hk
    · exact absurd rfl hk
    · rename_i h2
      rw [if_neg h2]
      have mj := plain_kind hk
      rw [plain_fix mj (join_fix h0 hf), goalsE_of mj (join_fix h0 hf), goals_join _ h0 (fun g hg => (hx g hg).2.1)]
end Go.Proofs.Ytdjbbafdepdglaa
