/- Merging of sorted rows, as a function of rows of terms. -/
import Derived.Test.YthiionkikammkaaIsort0
namespace Go.Proofs.Ythiionkikammkaa
set_option linter.unusedVariables false
set_option linter.unusedSimpArgs false
set_option maxRecDepth 20000
set_option maxHeartbeats 1000000

theorem lt_le {a b c : Tm} (ha : okT a) (hb : okT b) (hc : okT c) (h : ordE a b < 0) (h' : ¬ ordE c b < 0) : ordE a c < 0 := by
  have n1 := ord_neg c b hc hb
  have t := ord_T a b c ha hb hc
  unfold T3 at t
  have := t (by omega) (by omega)
  have h0 : ¬ ordE a c = 0 := fun e => by have := (this.2.1 e).1; omega
  omega
theorem le_lt {a b c : Tm} (ha : okT a) (hb : okT b) (hc : okT c) (h : ¬ ordE b a < 0) (h' : ordE b c < 0) : ordE a c < 0 := by
  have n1 := ord_neg b a hb ha
  have t := ord_T a b c ha hb hc
  unfold T3 at t
  have := t (by omega) (by omega)
  have h0 : ¬ ordE a c = 0 := fun e => by have := (this.2.1 e).2; omega
  omega
theorem le_le {a b c : Tm} (ha : okT a) (hb : okT b) (hc : okT c) (h : ¬ ordE b a < 0) (h' : ¬ ordE c b < 0) : ¬ ordE c a < 0 := by
  have n1 := ord_neg b a hb ha
  have n2 := ord_neg c b hc hb
  have n3 := ord_neg c a hc ha
  have t := ord_T a b c ha hb hc
  unfold T3 at t
  have := t (by omega) (by omega)
  omega
theorem lt_not {a b : Tm} (ha : okT a) (hb : okT b) (h : ordE a b < 0) : ¬ ordE b a < 0 := by
  have := ord_neg a b ha hb
  omega
def mrg : List Tm → List Tm → List Tm
  | [], r => r
  | x :: l, [] => x :: l
  | x :: l, y :: r => if ordE y x < 0 then y :: mrg (x :: l) r else x :: mrg l (y :: r)
termination_by l r => l.length + r.length
theorem mrg_nil_l (r : List Tm) : mrg [] r = r := by rw [mrg]
theorem mrg_nil_r (l : List Tm) : mrg l [] = l := by cases l <;> rw [mrg]
theorem mrg_cons (x y : Tm) (l r : List Tm) : mrg (x :: l) (y :: r) = if ordE y x < 0 then y :: mrg (x :: l) r else x :: mrg l (y :: r) := by rw [mrg]
theorem mrg_split (l2 r2 : List Tm) : ∀ (n : Nat) (l1 r1 : List Tm), l1.length + r1.length = n → (∀ y ∈ r1, ∀ x ∈ l2, ordE y x < 0) → (∀ x ∈ l1, ∀ y ∈ r2, ¬ ordE y x < 0) → mrg (l1 ++ l2) (r1 ++ r2) = mrg l1 r1 ++ mrg l2 r2
  | _, [], [], _, _, _ => by rw [mrg_nil_l]; rfl
  | 0, _ :: _, _, h, _, _ => by simp at h
  | 0, [], _ :: _, h, _, _ => by simp at h
  | n + 1, [], y :: r1, h, h1, h2 => by
    rw [mrg_nil_l]
    cases l2 with
    | nil => rw [mrg_nil_l]; simp [mrg_nil_l]
    | cons x l2 =>
      have := mrg_split (x :: l2) r2 n [] r1 (by simp at h ⊢; omega) (fun z hz => h1 z (by simp [hz])) (fun z hz => by simp at hz)
      rw [mrg_nil_l] at this
      simp only [List.nil_append, List.cons_append] at this ⊢
      rw [mrg_cons, if_pos (h1 y (by simp) x (by simp)), this]
  | n + 1, x :: l1, [], h, h1, h2 => by
    rw [mrg_nil_r]
    cases r2 with
    | nil => simp [mrg_nil_r]
    | cons y r2 =>
      have := mrg_split l2 (y :: r2) n l1 [] (by simp at h ⊢; omega) (fun z hz => by simp at hz) (fun z hz => h2 z (by simp [hz]))
      rw [mrg_nil_r] at this
      simp only [List.nil_append, List.cons_append] at this ⊢
      rw [mrg_cons, if_neg (h2 x (by simp) y (by simp)), this]
  | n + 1, x :: l1, y :: r1, h, h1, h2 => by
    simp only [List.cons_append]
    rw [mrg_cons, mrg_cons]
    by_cases q : ordE y x < 0
    · rw [if_pos q, if_pos q]
      have := mrg_split l2 r2 n (x :: l1) r1 (by simp at h ⊢; omega) (fun z hz => h1 z (by simp [hz])) h2
      simp only [List.cons_append] at this ⊢
      rw [this]
    · rw [if_neg q, if_neg q]
      have := mrg_split l2 r2 n l1 (y :: r1) (by simp at h ⊢; omega) h1 (fun z hz => h2 z (by simp [hz]))
      simp only [List.cons_append] at this ⊢
      rw [this]
theorem mrg_parts {l1 l2 r1 r2 : List Tm} (h1 : ∀ y ∈ r1, ∀ x ∈ l2, ordE y x < 0) (h2 : ∀ x ∈ l1, ∀ y ∈ r2, ¬ ordE y x < 0) : mrg (l1 ++ l2) (r1 ++ r2) = mrg l1 r1 ++ mrg l2 r2 := mrg_split l2 r2 _ l1 r1 rfl h1 h2
/-- One term, put behind the row's. -/
theorem mrg_one_r {l1 l2 : List Tm} {x : Tm} (h1 : ∀ y ∈ l1, ¬ ordE x y < 0) (h2 : ∀ y ∈ l2, ordE x y < 0) : mrg (l1 ++ l2) [x] = l1 ++ x :: l2 := by
  have := mrg_parts (l1 := l1) (l2 := l2) (r1 := []) (r2 := [x]) (by simp) (fun z hz y hy => by rw [List.mem_singleton.1 hy]; exact h1 z hz)
  rw [List.nil_append, mrg_nil_r] at this
  rw [this]
  have := mrg_parts (l1 := []) (l2 := l2) (r1 := [x]) (r2 := []) (fun y hy z hz => by rw [List.mem_singleton.1 hy]; exact h2 z hz) (by simp)
  rw [List.nil_append, mrg_nil_l, List.append_nil, mrg_nil_r] at this
  rw [this]; rfl
/-- One term, put before the row's. -/
theorem mrg_one_l {r1 r2 : List Tm} {x : Tm} (h1 : ∀ y ∈ r1, ordE y x < 0) (h2 : ∀ y ∈ r2, ¬ ordE y x < 0) : mrg [x] (r1 ++ r2) = r1 ++ x :: r2 := by
  have := mrg_parts (l1 := []) (l2 := [x]) (r1 := r1) (r2 := r2) (fun y hy z hz => by rw [List.mem_singleton.1 hz]; exact h1 y hy) (by simp)
  rw [List.nil_append, mrg_nil_l] at this
  rw [this]
  have := mrg_parts (l1 := [x]) (l2 := []) (r1 := []) (r2 := r2) (by simp) (fun z hz y hy => by rw [List.mem_singleton.1 hz]; exact h2 y hy)
  rw [List.nil_append, mrg_nil_l, List.append_nil, mrg_nil_r] at this
  rw [this]; rfl
theorem mrg_len : ∀ (n : Nat) (l r : List Tm), l.length + r.length = n → (mrg l r).length = n
  | _, [], r, h => by rw [mrg_nil_l]; simpa using h
  | _, x :: l, [], h => by rw [mrg_nil_r]; simpa using h
  | 0, _ :: _, _ :: _, h => by simp at h
  | n + 1, x :: l, y :: r, h => by
    rw [mrg_cons]
    split
    · rw [List.length_cons, mrg_len n (x :: l) r (by simp at h ⊢; omega)]
    · rw [List.length_cons, mrg_len n l (y :: r) (by simp at h ⊢; omega)]
theorem mrg_mem {z : Tm} : ∀ (n : Nat) (l r : List Tm), l.length + r.length = n → (z ∈ mrg l r ↔ z ∈ l ∨ z ∈ r)
  | _, [], r, h => by rw [mrg_nil_l]; simp
  | _, x :: l, [], h => by rw [mrg_nil_r]; simp
  | 0, _ :: _, _ :: _, h => by simp at h
  | n + 1, x :: l, y :: r, h => by
    rw [mrg_cons]
    split
    · rw [List.mem_cons, mrg_mem n (x :: l) r (by simp at h ⊢; omega)]
      simp only [List.mem_cons]
      constructor
      · rintro (h | (h | h) | h) <;> simp [h]
      · rintro ((h | h) | h | h) <;> simp [h]
    · rw [List.mem_cons, mrg_mem n l (y :: r) (by simp at h ⊢; omega)]
      simp only [List.mem_cons]
      constructor
      · rintro (h | h | h | h) <;> simp [h]
      · rintro ((h | h) | h | h) <;> simp [h]
theorem mrg_in {z : Tm} {l r : List Tm} : z ∈ mrg l r ↔ z ∈ l ∨ z ∈ r := mrg_mem _ l r rfl
/-! ### Sorted rows -/
def Srt (l : List Tm) : Prop := l.Pairwise (fun x y => ¬ ordE y x < 0)
def OkL (l : List Tm) : Prop := ∀ t ∈ l, okT t
theorem mrg_srt : ∀ (n : Nat) (l r : List Tm), l.length + r.length = n → OkL l → OkL r → Srt l → Srt r → Srt (mrg l r)
  | _, [], r, h, _, _, _, hr => by rw [mrg_nil_l]; exact hr
  | _, x :: l, [], h, _, _, hl, _ => by rw [mrg_nil_r]; exact hl
  | 0, _ :: _, _ :: _, h, _, _, _, _ => by simp at h
  | n + 1, x :: l, y :: r, h, ol, or', hl, hr => by
    rw [mrg_cons]
    have ox := ol x (by simp)
    have oy := or' y (by simp)
    by_cases q : ordE y x < 0
    · rw [if_pos q]
      refine List.Pairwise.cons (fun z hz => ?_) (mrg_srt n (x :: l) r (by simp at h ⊢; omega) ol (fun t ht => or' t (by simp [ht])) hl (List.Pairwise.of_cons hr))
      rcases mrg_in.1 hz with hz | hz
      · have oz := ol z hz
        rcases List.mem_cons.1 hz with rfl | hz
        · exact lt_not oy ox q
        · exact le_le oy ox oz (lt_not oy ox q) (List.rel_of_pairwise_cons hl hz)
      · exact List.rel_of_pairwise_cons hr hz
    · rw [if_neg q]
      refine List.Pairwise.cons (fun z hz => ?_) (mrg_srt n l (y :: r) (by simp at h ⊢; omega) (fun t ht => ol t (by simp [ht])) or' (List.Pairwise.of_cons hl) hr)
      rcases mrg_in.1 hz with hz | hz
      · exact List.rel_of_pairwise_cons hl hz
      · have oz := or' z hz
        rcases List.mem_cons.1 hz with rfl | hz
        · exact q
        · exact le_le ox oy oz q (List.rel_of_pairwise_cons hr hz)
/-- A sorted row, parted by a term. -/
theorem srt_split {x : Tm} (ox : okT x) : ∀ (l : List Tm), OkL l → Srt l → ∃ l1 l2, l = l1 ++ l2 ∧ (∀ y ∈ l1, ¬ ordE x y < 0) ∧ ∀ y ∈ l2, ordE x y < 0
  | [], _, _ => ⟨[], [], rfl, by simp, by simp⟩
  | y :: l, ol, hl => by
    by_cases q : ordE x y < 0
    · refine ⟨[], y :: l, rfl, by simp, fun z hz => ?_⟩
      rcases List.mem_cons.1 hz with rfl | hz'
      · exact q
      · exact lt_le ox (ol y (by simp)) (ol z hz) q (List.rel_of_pairwise_cons hl hz')
    · obtain ⟨l1, l2, rfl, h1, h2⟩ := srt_split ox l (fun t ht => ol t (by simp [ht])) (List.Pairwise.of_cons hl)
      refine ⟨y :: l1, l2, rfl, fun z hz => ?_, h2⟩
      rcases List.mem_cons.1 hz with rfl | hz
      · exact q
      · exact h1 z hz
def sortF (l : List Tm) : List Tm := (sortR l).reverse
theorem insR_reverse {x : Tm} (ox : okT x) : ∀ (l : List Tm), OkL l → Srt l.reverse → (insR x l).reverse = mrg l.reverse [x]
  | [], _, _ => by rw [List.reverse_nil, mrg_nil_l]; rfl
  | y :: l, ol, hs => by
    rw [insR]
    rw [List.reverse_cons] at hs ⊢
    have hs' : Srt l.reverse := (List.pairwise_append.1 hs).1
    split
    · rename_i q
      rw [List.reverse_cons, insR_reverse ox l (fun t ht => ol t (by simp [ht])) hs']
      obtain ⟨l1, l2, e, h1, h2⟩ := srt_split ox l.reverse (fun t ht => ol t (by simp at ht; simp [ht])) hs'
      rw [e, mrg_one_r h1 h2, List.append_assoc l1 l2, List.append_assoc l1, mrg_one_r h1 (l2 := l2 ++ [y]) (fun z hz => ?_)]
      · simp
      · rcases List.mem_append.1 hz with hz | hz
        · exact h2 z hz
        · rw [List.mem_singleton.1 hz]; exact q
    · rename_i q
      have := mrg_one_r (l1 := l.reverse ++ [y]) (l2 := []) (x := x) (fun z hz => ?_) (by simp)
      · rw [List.append_nil] at this
        rw [this]; simp
      · rcases List.mem_append.1 hz with hz' | hz'
        · have hyz := (List.pairwise_append.1 hs).2.2 z hz' y (by simp)
          exact le_le (ol z (by simp at hz'; simp [hz'])) (ol y (by simp)) ox hyz q
        · rw [List.mem_singleton.1 hz']; exact q
theorem sortF_nil : sortF [] = [] := rfl
theorem sortF_in {l : List Tm} {z : Tm} : z ∈ sortF l ↔ z ∈ l := by unfold sortF; rw [List.mem_reverse, sortR_mem]
theorem sortF_len (l : List Tm) : (sortF l).length = l.length := by unfold sortF; rw [List.length_reverse, sortR_len]
theorem snoc_ind {P : List Tm → Prop} (h0 : P []) (h1 : ∀ l x, P l → P (l ++ [x])) (l : List Tm) : P l := by
  have key : ∀ m : List Tm, P m.reverse := by
    intro m
    induction m with
    | nil => exact h0
    | cons x m ih => rw [List.reverse_cons]; exact h1 _ _ ih
  have := key l.reverse
  rwa [List.reverse_reverse] at this
theorem sortF_both (l : List Tm) : OkL l → Srt (sortF l) ∧ ∀ x, okT x → sortF (l ++ [x]) = mrg (sortF l) [x] := by
  refine snoc_ind (P := fun l => OkL l → Srt (sortF l) ∧ ∀ x, okT x → sortF (l ++ [x]) = mrg (sortF l) [x]) ?_ ?_ l
  · intro _
    exact ⟨List.Pairwise.nil, fun x ox => by rw [sortF_nil, mrg_nil_l]; rfl⟩
  · intro l y ih ol
    have ol' : OkL l := fun t ht => ol t (by simp [ht])
    have oy := ol y (by simp)
    obtain ⟨hs, hc⟩ := ih ol'
    have hss : Srt (sortF (l ++ [y])) := by
      rw [hc y oy]
      exact mrg_srt _ _ _ rfl (fun t ht => ol' t (sortF_in.1 ht)) (fun t ht => by rw [List.mem_singleton.1 ht]; exact oy) hs (List.pairwise_singleton _ _)
    refine ⟨hss, fun x ox => ?_⟩
    unfold sortF at hss ⊢
    rw [sortR_snoc (l ++ [y]) x, insR_reverse ox _ (fun t ht => ol t ((sortR_mem _).1 ht)) hss]
theorem sortF_srt {l : List Tm} (h : OkL l) : Srt (sortF l) := (sortF_both l h).1
theorem sortF_snoc {l : List Tm} (h : OkL l) {x : Tm} (ox : okT x) : sortF (l ++ [x]) = mrg (sortF l) [x] := (sortF_both l h).2 x ox
theorem mrg_assoc_one {A B : List Tm} {x : Tm} (oA : OkL A) (oB : OkL B) (ox : okT x) (hA : Srt A) (hB : Srt B) : mrg (mrg A B) [x] = mrg A (mrg B [x]) := by
  obtain ⟨A1, A2, rfl, a1, a2⟩ := srt_split ox A oA hA
  obtain ⟨B1, B2, rfl, b1, b2⟩ := srt_split ox B oB hB
  have h1 : ∀ y ∈ B1, ∀ z ∈ A2, ordE y z < 0 := fun y hy z hz => le_lt (oB y (by simp [hy])) ox (oA z (by simp [hz])) (b1 y hy) (a2 z hz)
  have h2 : ∀ z ∈ A1, ∀ y ∈ B2, ¬ ordE y z < 0 := fun z hz y hy => lt_not (oA z (by simp [hz])) (oB y (by simp [hy])) (le_lt (oA z (by simp [hz])) ox (oB y (by simp [hy])) (a1 z hz) (b2 y hy))
  rw [mrg_parts h1 h2, mrg_one_r b1 b2, mrg_one_r (l1 := mrg A1 B1) (l2 := mrg A2 B2)]
  · rw [mrg_parts (r1 := B1) (r2 := x :: B2) h1 (fun z hz y hy => by
      rcases List.mem_cons.1 hy with rfl | hy
      · exact a1 z hz
      · exact h2 z hz y hy)]
    congr 1
    have := mrg_parts (l1 := []) (l2 := A2) (r1 := [x]) (r2 := B2) (fun y hy z hz => by rw [List.mem_singleton.1 hy]; exact a2 z hz) (by simp)
    rw [List.nil_append, mrg_nil_l] at this
    exact this.symm
  · intro y hy
    rcases mrg_in.1 hy with hy | hy
    · exact a1 y hy
    · exact b1 y hy
  · intro y hy
    rcases mrg_in.1 hy with hy | hy
    · exact a2 y hy
    · exact b2 y hy
/-- Two rows sorted and merged are the rows together, sorted. -/
theorem sortF_append {l : List Tm} (ol : OkL l) (r : List Tm) : OkL r → sortF (l ++ r) = mrg (sortF l) (sortF r) := by
  refine snoc_ind (P := fun r => OkL r → sortF (l ++ r) = mrg (sortF l) (sortF r)) ?_ ?_ r
  · intro _; rw [List.append_nil, sortF_nil, mrg_nil_r]
  · intro r x ih or'
    have or1 : OkL r := fun t ht => or' t (by simp [ht])
    have ox := or' x (by simp)
    have olr : OkL (l ++ r) := fun t ht => (List.mem_append.1 ht).elim (ol t) (or1 t)
    rw [← List.append_assoc, sortF_snoc olr ox, ih or1, sortF_snoc or1 ox]
    exact mrg_assoc_one (fun t ht => ol t (sortF_in.1 ht)) (fun t ht => or1 t (sortF_in.1 ht)) ox (sortF_srt ol) (sortF_srt or1)
/-- A sorted row, sorted. -/
theorem sortF_id (l : List Tm) : OkL l → Srt l → sortF l = l := by
  refine snoc_ind (P := fun l => OkL l → Srt l → sortF l = l) (fun _ _ => rfl) ?_ l
  intro l x ih ol hs
  have ol' : OkL l := fun t ht => ol t (by simp [ht])
  have hs' := List.pairwise_append.1 hs
  rw [sortF_snoc ol' (ol x (by simp)), ih ol' hs'.1]
  have := mrg_one_r (l1 := l) (l2 := []) (x := x) (fun y hy => hs'.2.2 y hy x (by simp)) (by simp)
  rwa [List.append_nil] at this
end Go.Proofs.Ythiionkikammkaa
