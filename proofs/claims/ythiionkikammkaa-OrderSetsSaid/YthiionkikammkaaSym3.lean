/- Walks: two sorted rows merged in place. -/
import Derived.Test.YthiionkikammkaaSym2
namespace Go.Proofs.Ythiionkikammkaa
open Go.RowKit
set_option linter.unusedVariables false
set_option linter.unusedSimpArgs false
set_option maxRecDepth 20000
set_option maxHeartbeats 4000000
attribute [local irreducible] mayE nodesE depthE plainE renameE varsE EqualE LightE rSameE turnT ordE

theorem mem_take_nth {l : List Tm} {n : Nat} {t : Tm} (h : t ∈ l.take n) : ∃ k, k < n ∧ l[k]? = some t := by
  obtain ⟨k, hk, rfl⟩ := List.mem_iff_getElem.1 h
  rw [List.length_take] at hk
  exact ⟨k, by omega, by rw [List.getElem_take]; exact List.getElem?_eq_getElem (by omega)⟩
theorem mem_drop_nth {l : List Tm} {n : Nat} {t : Tm} (h : t ∈ l.drop n) : ∃ k, n ≤ k ∧ l[k]? = some t := by
  obtain ⟨k, hk, rfl⟩ := List.mem_iff_getElem.1 h
  rw [List.length_drop] at hk
  exact ⟨n + k, by omega, by rw [List.getElem_drop]; exact List.getElem?_eq_getElem (by omega)⟩
theorem srt_nth' {l : List Tm} (o : OkL l) (h : Srt l) {i j : Nat} (hij : i ≤ j) {s t : Tm} (hs : l[i]? = some s) (ht : l[j]? = some t) : ¬ ordE t s < 0 := by
  by_cases e : i = j
  · subst e
    obtain rfl : s = t := Option.some.inj (hs.symm.trans ht)
    rw [ord_self (o s (List.mem_of_getElem? hs))]; omega
  · exact srt_nth h (by omega) hs ht
theorem mrg_one_empty {A B : List Tm} (h : A = [] ∨ B = []) : mrg A B = A ++ B := by
  rcases h with rfl | rfl
  · rw [mrg_nil_l]; rfl
  · rw [mrg_nil_r, List.append_nil]
/-- Where the halves part. -/
theorem parts_of {L R : List Tm} (oL : OkL L) (oR : OkL R) (sL : Srt L) (sR : Srt R) {a m b mid s lo hi : Nat} (hm : m = a + L.length) (hb : b = m + R.length) (hs1 : lo ≤ s) (hs2 : s ≤ hi) (h1 : a ≤ lo) (h2 : hi ≤ m) (h3 : hi ≤ mid) (h4 : mid + m ≤ lo + b) (hlo : lo = a ∨ lo + b = mid + m) (hhi : hi = m ∨ hi = mid)
    (p1 : lo < s → ∀ t u, L[s - 1 - a]? = some t → R[mid - s]? = some u → ¬ ordE u t < 0) (p2 : s < hi → ∀ t u, L[s - a]? = some t → R[mid - 1 - s]? = some u → ordE u t < 0) :
    mrg L R = mrg (L.take (s - a)) (R.take (mid - s)) ++ mrg (L.drop (s - a)) (R.drop (mid - s)) := by
  have := mrg_parts (l1 := L.take (s - a)) (l2 := L.drop (s - a)) (r1 := R.take (mid - s)) (r2 := R.drop (mid - s)) ?_ ?_
  · rw [List.take_append_drop, List.take_append_drop] at this
    exact this
  · intro y hy x hx
    obtain ⟨k, hk, hyk⟩ := mem_take_nth hy
    obtain ⟨j, hj, hxj⟩ := mem_drop_nth hx
    have hkl := (List.getElem?_eq_some_iff.1 hyk).1
    have hjl := (List.getElem?_eq_some_iff.1 hxj).1
    have hsh : s < hi := by omega
    have hr : mid - 1 - s < R.length := by omega
    have hl : s - a < L.length := by omega
    have q := p2 hsh _ _ (List.getElem?_eq_getElem hl) (List.getElem?_eq_getElem hr)
    have q1 := srt_nth' oR sR (show k ≤ mid - 1 - s by omega) hyk (List.getElem?_eq_getElem hr)
    have q2 := srt_nth' oL sL hj (List.getElem?_eq_getElem hl) hxj
    exact le_lt (oR y (List.mem_of_getElem? hyk)) (oR _ (List.getElem_mem hr)) (oL x (List.mem_of_getElem? hxj)) q1 (lt_le (oR _ (List.getElem_mem hr)) (oL _ (List.getElem_mem hl)) (oL x (List.mem_of_getElem? hxj)) q q2)
  · intro x hx y hy
    obtain ⟨k, hk, hxk⟩ := mem_take_nth hx
    obtain ⟨j, hj, hyj⟩ := mem_drop_nth hy
    have hkl := (List.getElem?_eq_some_iff.1 hxk).1
    have hjl := (List.getElem?_eq_some_iff.1 hyj).1
    have hsh : lo < s := by omega
    have hr : mid - s < R.length := by omega
    have hl : s - 1 - a < L.length := by omega
    have q := p1 hsh _ _ (List.getElem?_eq_getElem hl) (List.getElem?_eq_getElem hr)
    have q1 := srt_nth' oL sL (show k ≤ s - 1 - a by omega) hxk (List.getElem?_eq_getElem hl)
    have q2 := srt_nth' oR sR hj (List.getElem?_eq_getElem hr) hyj
    exact le_le (oL x (List.mem_of_getElem? hxk)) (oL _ (List.getElem_mem hl)) (oR y (List.mem_of_getElem? hyj)) q1 (le_le (oL _ (List.getElem_mem hl)) (oR _ (List.getElem_mem hr)) (oR y (List.mem_of_getElem? hyj)) q q2)
/-- What a part of the sort makes of the row. -/
def Turns (f : FuncId) (rs : List Value) (v : Value) (N : Nat) (D D' : List Tm) : Prop := ∀ (xs : List Value) (M : List Nat) (w : World), (∀ b ∈ M, b < w.heap.size) → w.ownsRow 0 25 6 v N xs → TsR xs D (v.ownBlock.toList ++ M) w → Calls Try.prog f (v :: rs).toArray w (RSort N D' v M w)
theorem St.turns {f : FuncId} {rs : List Value} {v : Value} {N : Nat} {D D' : List Tm} {M X : List Nat} {w0 w : World} {xs : List Value} {Q : Ending → World → Prop} (H : St M X w0 w [.row v N xs 25 6] (TsR xs D)) (F : Turns f rs v N D D') (hK : ∀ (w' : World) (xs' : List Value), St M X w0 w' [.row v N xs' 25 6] (TsR xs' D') → Q (.returned (.tuple #[])) w') : Calls Try.prog f (v :: rs).toArray w Q := by
  refine Calls.mono (F xs _ w (H.restLt 0 rfl) (H.getRow (k := 0) rfl) (H.rest (k := 0) rfl)) ?_
  rintro _ w' ⟨rfl, h⟩
  exact hK w' _ ((H.callF 0 rfl h (fun r => rfl)).weaken (fun h => h.2) (TsR.stab _ _))
/-- What a merge of rows is to do. -/
def SymAt (z : Nat) : Prop := ∀ (X L R Y : List Tm), L.length + R.length ≤ z → 0 < L.length → 0 < R.length → OkL L → OkL R → Srt L → Srt R → ∀ (N : Nat), (X ++ L ++ R ++ Y).length = N → N ≤ 1000000 → ∀ (a m b : Nat), a = X.length → m = a + L.length → b = m + R.length → ∀ (v : Value) (xs : List Value) (M : List Nat) (w0 : World), (∀ b ∈ M, b < w0.heap.size) → w0.ownsRow 0 25 6 v N xs → TsR xs (X ++ L ++ R ++ Y) (v.ownBlock.toList ++ M) w0 →
    Calls Try.prog 61 #[v, .int .i64 a, .int .i64 m, .int .i64 b, .func (.func 25) #[] #[]] w0 (RSort N (X ++ mrg L R ++ Y) v M w0)
set_option maxHeartbeats 20000000 in
theorem symHalf (z : Nat) (IH : SymAt z) (X L R Y : List Tm) (hz : L.length + R.length ≤ z + 1) (hL : 1 < L.length) (hR : 1 < R.length) (oL : OkL L) (oR : OkL R) (sL : Srt L) (sR : Srt R) (N : Nat) (hN : (X ++ L ++ R ++ Y).length = N) (hl : N ≤ 1000000) (a m b : Nat) (ha : a = X.length) (hm : m = a + L.length) (hb : b = m + R.length) (v : Value) (xs : List Value) (M : List Nat) (w0 : World) (hM : ∀ b ∈ M, b < w0.heap.size) (hv : w0.ownsRow 0 25 6 v N xs) (hT : TsR xs (X ++ L ++ R ++ Y) (v.ownBlock.toList ++ M) w0) :
    Calls Try.prog 61 #[v, .int .i64 a, .int .i64 m, .int .i64 b, .func (.func 25) #[] #[]] w0 (RSort N (X ++ mrg L R ++ Y) v M w0) := by
  have H := St.startR (r := .row v N xs 25 6) hM (TsR.stab xs _) hv (by cases h : v.ownBlock <;> simp [Res.ids, h]) hT
  clear hT hv
  obtain ⟨va, vk, rfl⟩ := H.rowVal0 (k := 0) rfl
  have hNN : b + Y.length = N := by simp only [List.length_append] at hN; omega
  obtain ⟨g, rfl⟩ := H.rowSome 0 rfl (by omega)
  obtain ⟨z1, hz1⟩ : ∃ z1, L.length = z1 := ⟨_, rfl⟩
  obtain ⟨z2, hz2⟩ : ∃ z2, R.length = z2 := ⟨_, rfl⟩
  obtain ⟨mid, hmid⟩ : ∃ mid, (a + b) / 2 = mid := ⟨_, rfl⟩
  obtain ⟨n, hn⟩ : ∃ n, mid + m = n := ⟨_, rfl⟩
  obtain ⟨p, hp⟩ : ∃ p, p + 1 = n := ⟨n - 1, by omega⟩
  have w1 : IntKind.wrap .i64 ((m : Int) - (a : Int)) = (z1 : Int) := by rw [IntKind.wrap_i64]; omega; all_goals omega
  have w1' : (m : Int) - (a : Int) = (z1 : Int) := by omega
  have g0 : ((z1 : Int) == 1) = false := by simp; omega
  have g0' : (z1 == 1) = false := by simp; omega
  have w2 : IntKind.wrap .i64 ((b : Int) - (m : Int)) = (z2 : Int) := by rw [IntKind.wrap_i64]; omega; all_goals omega
  have w2' : (b : Int) - (m : Int) = (z2 : Int) := by omega
  have g2 : ((z2 : Int) == 1) = false := by simp; omega
  have g2' : (z2 == 1) = false := by simp; omega
  have w3 : ((a : Int) + (b : Int)) / 2 = (mid : Int) := by omega
  have w4 : (mid : Int) + (m : Int) = (n : Int) := by omega
  have w5 : (n : Int) - 1 = (p : Int) := by omega
  obtain ⟨G, hG⟩ : ∃ G, X ++ mrg L R ++ Y = G := ⟨_, rfl⟩
  rw [hG]
  have hmN : m < N := by omega
  have hma : a < m := by omega
  have hmb : m < b := by omega
  have hbN : b ≤ N := by omega
  have hmd : mid < b := by omega
  have hmda : a < mid := by omega
  obtain ⟨lo, hlo⟩ : ∃ lo, lo = if mid < m then n - b else a := ⟨_, rfl⟩
  obtain ⟨hi, hhi⟩ : ∃ hi, hi = if mid < m then mid else m := ⟨_, rfl⟩
  have b1 : a ≤ lo := by rw [hlo]; split <;> omega
  have b2 : hi ≤ m := by rw [hhi]; split <;> omega
  have b3 : hi ≤ mid := by rw [hhi]; split <;> omega
  have b4 : n ≤ lo + b := by rw [hlo]; split <;> omega
  have b5 : lo ≤ hi := by rw [hhi, hlo]; split <;> omega
  have b6 : lo = a ∨ lo + b = n := by rw [hlo]; split <;> omega
  have b7 : hi = m ∨ hi = mid := by rw [hhi]; split <;> omega
  replace hN := Lib.hid hN; replace hG := Lib.hid hG; replace ha := Lib.hid ha; replace hb := Lib.hid hb; replace hm := Lib.hid hm; replace hz1 := Lib.hid hz1; replace hz2 := Lib.hid hz2; replace hmid := Lib.hid hmid; replace hn := Lib.hid hn; replace hp := Lib.hid hp; replace IH := Lib.hid IH; replace b6 := Lib.hid b6; replace b7 := Lib.hid b7
  by_cases c : mid < m
  all_goals (first | rw [if_pos c] at hlo hhi | rw [if_neg c] at hlo hhi)
  all_goals (replace hlo := Lib.hid hlo; replace hhi := Lib.hid hhi)
  all_goals (first | have d1 := decide_eq_true (show (mid : Int) < (m : Int) by omega) | have d1 := decide_eq_false (show ¬ (mid : Int) < (m : Int) by omega))
  all_goals (first | have d1' := decide_eq_false c | have d1' := decide_eq_true c)
  all_goals (try have w6 : (n : Int) - (b : Int) = (lo : Int) := by (have := hlo.out; have := hn.out; have := hmid.out; omega))
  all_goals
    go_enter Try.func61, Try.ntmps61
    go_wp2_with (first | ((with_reducible refine wpl_runx ?_ ?_); (focus exact rfl); refine ⟨_, runs_load H 0 rfl rfl rfl rfl rfl, ?_⟩; rintro _ _ ⟨rfl, rfl⟩) | ((with_reducible refine wpl_runx ?_ ?_); (focus exact rfl); refine ⟨_, runs_load_cell H rfl rfl rfl rfl, ?_⟩; rintro _ _ ⟨rfl, rfl⟩) | ((with_reducible refine wpl_runx ?_ ?_); (focus exact rfl); refine ⟨_, runs_load_cell0 H rfl rfl rfl rfl, ?_⟩; rintro _ _ ⟨rfl, rfl⟩) | ((with_reducible refine wpl_runx ?_ ?_); (focus exact rfl); refine ⟨_, runs_load_obj H rfl rfl rfl rfl, ?_⟩; rintro _ _ ⟨rfl, rfl⟩) | ((with_reducible refine wpl_runx ?_ ?_); (focus exact rfl); refine ⟨_, runs_store H 0 rfl rfl rfl rfl rfl rfl rfl rfl rfl, ?_⟩; clear H; rintro _ w ⟨rfl, hE, H⟩; clear hE) | ((with_reducible refine wpl_pureX ?_); refine ⟨rfl, rfl, ?_⟩; apply Exists.intro; apply And.intro; (focus (intro w; go_simp; (try with_reducible rfl); done)); (try simp only [Act.put, List.setIfInBounds_toArray, List.set_cons_succ, List.set_cons_zero])) | ((fail_if_success ((with_reducible refine wpl_runx ?_ ?_); (focus exact rfl))); ((with_reducible refine wpl_gcaseE ?_); refine ⟨_, rfl, ?_, ?_⟩) <;> (intro hg; first | (simp only [reduceCtorEq] at hg; done) | contradiction | ((with_reducible have hx := eq_of_beq hg); contradiction) | ((with_reducible have hx := ne_of_beq_false hg); contradiction) | ((with_reducible have hx := bne_iff_ne.1 hg); contradiction) | ((with_reducible have hx := bne_eq_false_iff_eq.1 hg); contradiction) | ((with_reducible have hx := of_decide_eq_true hg); first | contradiction | omega) | ((with_reducible have hx := of_decide_eq_false hg); first | contradiction | omega) | (simp only [Bool.not_eq_true', Bool.not_eq_false', beq_iff_eq, beq_eq_false_iff_ne, bne_iff_ne, ne_eq] at hg; contradiction) | (simp only [hg]))))
    go_loopw [20, 21] (fun sv rv wr => ∃ s r : Nat, sv = .int .i64 s ∧ rv = .int .i64 r ∧ lo ≤ s ∧ s ≤ r ∧ r ≤ hi ∧ (lo < s → ∀ t u, L[s - 1 - a]? = some t → R[mid - s]? = some u → ¬ ordE u t < 0) ∧ (r < hi → ∀ t u, L[r - a]? = some t → R[mid - 1 - r]? = some u → ordE u t < 0) ∧
      St M (Value.slice (some ⟨g, 0, none⟩) N vk).ownBlock.toList w0 wr [.row (.slice (some ⟨g, 0, none⟩) N vk) N xs 25 6] (TsR xs (X ++ L ++ R ++ Y))) (fun sv rv _ => (intOf rv).toNat - (intOf sv).toNat)
    case atStart => exact ⟨lo, hi, by first | rfl | rw [hlo.out], by first | rfl | rw [hhi.out], Nat.le_refl _, b5, Nat.le_refl _, fun h => by omega, fun h => by omega, H⟩
    case round =>
      clear H
      obtain ⟨s, r, rfl, rfl, hls, hsr, hrh, p1, p2, H⟩ := hrel
      replace p1 := Lib.hid p1; replace p2 := Lib.hid p2
      by_cases lt : s < r
      · have g1 : decide ((s : Int) < (r : Int)) = true := by simpa using lt
        have g1' : decide (s < r) = true := by simpa using lt
        obtain ⟨h, hh, hsh, hhr⟩ := half_sum lt (by omega)
        have w7 : ((s : Int) + (r : Int)) / 2 = (h : Int) := by omega
        obtain ⟨q, hq⟩ : ∃ q, q + h = p := ⟨p - h, by have := hp.out; have := hn.out; omega⟩
        have w8 : IntKind.wrap .i64 ((p : Int) - (h : Int)) = (q : Int) := by rw [IntKind.wrap_i64]; omega; all_goals omega
        have hqm : m ≤ q := by have := hp.out; have := hn.out; omega
        have hqb : q < b := by have := hp.out; have := hn.out; omega
        have hhN : h < N := by omega
        have hqN : q < N := by omega
        have hhL : h - a < L.length := by have := hm.out; omega
        have hqR : q - m < R.length := by have := hb.out; omega
        obtain ⟨t, ht⟩ : ∃ t, L[h - a]? = some t := ⟨_, List.getElem?_eq_getElem hhL⟩
        obtain ⟨u, hu⟩ : ∃ u, R[q - m]? = some u := ⟨_, List.getElem?_eq_getElem hqR⟩
        have q1 : (X ++ L ++ R ++ Y)[h]? = some t := by
          have h1 : h < (X ++ L).length := by rw [List.length_append]; have := ha.out; omega
          rw [List.getElem?_append_left (by rw [List.length_append]; omega), List.getElem?_append_left h1, List.getElem?_append_right (by have := ha.out; omega), ← ha.out, ht]
        have q2 : (X ++ L ++ R ++ Y)[q]? = some u := by
          have h1 : (X ++ L).length = m := by rw [List.length_append]; have := ha.out; have := hm.out; omega
          rw [List.getElem?_append_left (by rw [List.length_append, h1]; omega), List.getElem?_append_right (by omega), h1, hu]
        obtain ⟨A1, c1, f1, r1⟩ := H.fact.nth q1
        obtain ⟨A2, c2, f2, r2⟩ := H.fact.nth q2
        replace H := (H.add f1 (AR.stab _ _ _)).add f2 (AR.stab _ _ _)
        have ot : okT t := oL t (List.mem_of_getElem? ht)
        have ou : okT u := oR u (List.mem_of_getElem? hu)
        clear f1 f2 q1 q2
        replace r1 := Lib.hid r1; replace r2 := Lib.hid r2
        obtain ⟨D, hD⟩ : ∃ D, ordE u t = D := ⟨_, rfl⟩
        have hC : ∀ w, AR A2 c2 u.args [] w → AR A1 c1 t.args [] w → Calls Try.prog 25 #[.agg #[.int .i64 u.kind, .string u.name, .int .i64 u.int, .int .u64 u.re, .int .u64 u.im, .slice A2 u.args.length c2], .agg #[.int .i64 t.kind, .string t.name, .int .i64 t.int, .int .u64 t.re, .int .u64 t.im, .slice A1 t.args.length c1]] w (RetV w (.int .i64 D)) := fun w h h' => by rw [← hD]; exact ocompare_spec u t A2 A1 c2 c1 w ou ot h h'
        have e1 : mid - 1 - h = q - m := by have := hp.out; have := hn.out; omega
        replace hC := Lib.hid hC; replace hD := Lib.hid hD; replace ht := Lib.hid ht; replace hu := Lib.hid hu; replace hq := Lib.hid hq; replace e1 := Lib.hid e1
        by_cases neg : D < 0
        · have g3 : decide (D < 0) = true := by simpa using neg
          go_wp2_with (first | ((with_reducible refine wpl_runx ?_ ?_); (focus exact rfl); refine ⟨_, runs_load H 0 rfl rfl rfl rfl rfl, ?_⟩; rintro _ _ ⟨rfl, rfl⟩) | ((with_reducible refine wpl_runx ?_ ?_); (focus exact rfl); refine ⟨_, runs_load_cell H rfl rfl rfl rfl, ?_⟩; rintro _ _ ⟨rfl, rfl⟩) | ((with_reducible refine wpl_runx ?_ ?_); (focus exact rfl); refine ⟨_, runs_load_cell0 H rfl rfl rfl rfl, ?_⟩; rintro _ _ ⟨rfl, rfl⟩) | ((with_reducible refine wpl_runx ?_ ?_); (focus exact rfl); refine ⟨_, runs_load_obj H rfl rfl rfl rfl, ?_⟩; rintro _ _ ⟨rfl, rfl⟩) | ((with_reducible refine wpl_runx ?_ ?_); (focus exact rfl); refine ⟨_, runs_store H 0 rfl rfl rfl rfl rfl rfl rfl rfl rfl, ?_⟩; clear H; rintro _ w ⟨rfl, hE, H⟩; clear hE) | ((with_reducible refine wp_region_Ts 35 H [] [[], [], [], [], [2, 3], [1, 2, 3, 4], [1, 2, 3, 4, 5], [], [], [7, 8], [7, 8, 9], [0, 1, 2, 3, 4, 5, 6, 7, 8, 9, 10], [0, 1, 2, 3, 4, 5, 6, 7, 8, 9, 10, 11], [0, 1, 2, 3, 4, 5, 6, 7, 8, 9, 10, 11, 12]] [6, 10] [0, 1, 2, 3, 4, 5, 6, 7, 8, 9, 10, 12, 13] (.step 0 (.step 1 (.step 2 (.step 3 (.step 4 (.step 5 (.step 6 (.step 7 (.step 8 (.step 9 (.step 10 (.step 11 (.step 12 (.step 13 .nil)))))))))))))) ?_ ?_ ?_ ?_); (focus kernel_rfl); (focus kernel_rfl); (focus (intro d v c a w h; cases d <;> exact h)); clear H; intro w H; have HS := Ext.refl [] w; have H0 := H; all_goals ((with_reducible refine T_pureX ?_); refine ⟨_, rfl, rfl, rfl, rfl, ?_⟩; apply Exists.intro; apply And.intro; (focus (intro w; go_simp; (try with_reducible rfl); done)); (try simp only [Act.put, List.setIfInBounds_toArray, List.set_cons_succ, List.set_cons_zero])); all_goals ((with_reducible refine T_pureX ?_); refine ⟨_, rfl, rfl, rfl, rfl, ?_⟩; apply Exists.intro; apply And.intro; (focus (intro w; go_simp; (try with_reducible rfl); done)); (try simp only [Act.put, List.setIfInBounds_toArray, List.set_cons_succ, List.set_cons_zero])); all_goals ((with_reducible refine T_pureX ?_); refine ⟨_, rfl, rfl, rfl, rfl, ?_⟩; apply Exists.intro; apply And.intro; (focus (intro w; go_simp; (try with_reducible rfl); done)); (try simp only [Act.put, List.setIfInBounds_toArray, List.set_cons_succ, List.set_cons_zero])); all_goals ((with_reducible refine T_pureX ?_); refine ⟨_, rfl, rfl, rfl, rfl, ?_⟩; apply Exists.intro; apply And.intro; (focus (intro w; go_simp; (try with_reducible rfl); done)); (try simp only [Act.put, List.setIfInBounds_toArray, List.set_cons_succ, List.set_cons_zero])); all_goals ((with_reducible refine T_pureX ?_); refine ⟨_, rfl, rfl, rfl, rfl, ?_⟩; apply Exists.intro; apply And.intro; (focus (intro w; go_simp; (try with_reducible rfl); done)); (try simp only [Act.put, List.setIfInBounds_toArray, List.set_cons_succ, List.set_cons_zero])); all_goals ((with_reducible refine T_pureX ?_); refine ⟨_, rfl, rfl, rfl, rfl, ?_⟩; apply Exists.intro; apply And.intro; (focus (intro w; go_simp; (try with_reducible rfl); done)); (try simp only [Act.put, List.setIfInBounds_toArray, List.set_cons_succ, List.set_cons_zero])); all_goals ((with_reducible refine T_load_rowX H0 HS 0 rfl r2.out ?_); refine ⟨_, rfl, rfl, rfl, rfl, _, _, rfl, _, rfl, by first | rfl | omega, _, _, _, rfl, rfl, by simp, ?_⟩; (try simp only [Act.put, List.setIfInBounds_toArray, List.set_cons_succ, List.set_cons_zero])); all_goals ((with_reducible refine T_pureX ?_); refine ⟨_, rfl, rfl, rfl, rfl, ?_⟩; apply Exists.intro; apply And.intro; (focus (intro w; go_simp; (try with_reducible rfl); done)); (try simp only [Act.put, List.setIfInBounds_toArray, List.set_cons_succ, List.set_cons_zero])); all_goals ((with_reducible refine T_pureX ?_); refine ⟨_, rfl, rfl, rfl, rfl, ?_⟩; apply Exists.intro; apply And.intro; (focus (intro w; go_simp; (try with_reducible rfl); done)); (try simp only [Act.put, List.setIfInBounds_toArray, List.set_cons_succ, List.set_cons_zero])); all_goals ((with_reducible refine T_pureX ?_); refine ⟨_, rfl, rfl, rfl, rfl, ?_⟩; apply Exists.intro; apply And.intro; (focus (intro w; go_simp; (try with_reducible rfl); done)); (try simp only [Act.put, List.setIfInBounds_toArray, List.set_cons_succ, List.set_cons_zero])); all_goals ((with_reducible refine T_load_rowX H0 HS 0 rfl r1.out ?_); refine ⟨_, rfl, rfl, rfl, rfl, _, _, rfl, _, rfl, by first | rfl | omega, _, _, _, rfl, rfl, by simp, ?_⟩; (try simp only [Act.put, List.setIfInBounds_toArray, List.set_cons_succ, List.set_cons_zero])); all_goals ((with_reducible refine T_opX ?_); refine ⟨_, rfl, rfl, rfl, fun K hK => ?_⟩; go_simp; refine Calls.mono (hC.out _ H.ar0 H.ar0) ?_; rintro _ w ⟨rfl, hE⟩; replace HS := HS.trans hE; replace H := H.step hE; clear hE; refine hK _ _ (fun h => absurd h (by decide)) ?_; clear hK K; (try simp only [Act.put, List.setIfInBounds_toArray, List.set_cons_succ, List.set_cons_zero])); all_goals ((with_reducible refine T_pureX ?_); refine ⟨_, rfl, rfl, rfl, rfl, ?_⟩; apply Exists.intro; apply And.intro; (focus (intro w; go_simp; (try with_reducible rfl); done)); (try simp only [Act.put, List.setIfInBounds_toArray, List.set_cons_succ, List.set_cons_zero])); all_goals ((with_reducible refine T_pureX ?_); refine ⟨_, rfl, rfl, rfl, rfl, ?_⟩; apply Exists.intro; apply And.intro; (focus (intro w; go_simp; (try with_reducible rfl); done)); (try simp only [Act.put, List.setIfInBounds_toArray, List.set_cons_succ, List.set_cons_zero])); all_goals ((with_reducible refine T_nil ?_); clear H0 HS)) | ((with_reducible refine wpl_pureX ?_); refine ⟨rfl, rfl, ?_⟩; apply Exists.intro; apply And.intro; (focus (intro w; go_simp; (try with_reducible rfl); done)); (try simp only [Act.put, List.setIfInBounds_toArray, List.set_cons_succ, List.set_cons_zero])) | ((fail_if_success ((with_reducible refine wpl_runx ?_ ?_); (focus exact rfl))); ((with_reducible refine wpl_gcaseE ?_); refine ⟨_, rfl, ?_, ?_⟩) <;> (intro hg; first | (simp only [reduceCtorEq] at hg; done) | contradiction | ((with_reducible have hx := eq_of_beq hg); contradiction) | ((with_reducible have hx := ne_of_beq_false hg); contradiction) | ((with_reducible have hx := bne_iff_ne.1 hg); contradiction) | ((with_reducible have hx := bne_eq_false_iff_eq.1 hg); contradiction) | ((with_reducible have hx := of_decide_eq_true hg); first | contradiction | omega) | ((with_reducible have hx := of_decide_eq_false hg); first | contradiction | omega) | (simp only [Bool.not_eq_true', Bool.not_eq_false', beq_iff_eq, beq_eq_false_iff_ne, bne_iff_ne, ne_eq] at hg; contradiction) | (simp only [hg]))))
          go_roundw
          case rel =>
            refine ⟨s, h, rfl, by first | rfl | go_num, hls, hsh, by omega, p1.out, fun _ t' u' h1 h2 => ?_, H.weaken (fun h => h.1.1) (TsR.stab _ _)⟩
            obtain rfl : t = t' := Option.some.inj (ht.out.symm.trans h1)
            rw [e1.out] at h2
            obtain rfl : u = u' := Option.some.inj (hu.out.symm.trans h2)
            rw [hD.out]; assumption
          case measure => simp [intOf]; omega
        · have g3 : decide (D < 0) = false := by simpa using neg
          go_wp2_with (first | ((with_reducible refine wpl_runx ?_ ?_); (focus exact rfl); refine ⟨_, runs_load H 0 rfl rfl rfl rfl rfl, ?_⟩; rintro _ _ ⟨rfl, rfl⟩) | ((with_reducible refine wpl_runx ?_ ?_); (focus exact rfl); refine ⟨_, runs_load_cell H rfl rfl rfl rfl, ?_⟩; rintro _ _ ⟨rfl, rfl⟩) | ((with_reducible refine wpl_runx ?_ ?_); (focus exact rfl); refine ⟨_, runs_load_cell0 H rfl rfl rfl rfl, ?_⟩; rintro _ _ ⟨rfl, rfl⟩) | ((with_reducible refine wpl_runx ?_ ?_); (focus exact rfl); refine ⟨_, runs_load_obj H rfl rfl rfl rfl, ?_⟩; rintro _ _ ⟨rfl, rfl⟩) | ((with_reducible refine wpl_runx ?_ ?_); (focus exact rfl); refine ⟨_, runs_store H 0 rfl rfl rfl rfl rfl rfl rfl rfl rfl, ?_⟩; clear H; rintro _ w ⟨rfl, hE, H⟩; clear hE) | ((with_reducible refine wp_region_Ts 35 H [] [[], [], [], [], [2, 3], [1, 2, 3, 4], [1, 2, 3, 4, 5], [], [], [7, 8], [7, 8, 9], [0, 1, 2, 3, 4, 5, 6, 7, 8, 9, 10], [0, 1, 2, 3, 4, 5, 6, 7, 8, 9, 10, 11], [0, 1, 2, 3, 4, 5, 6, 7, 8, 9, 10, 11, 12]] [6, 10] [0, 1, 2, 3, 4, 5, 6, 7, 8, 9, 10, 12, 13] (.step 0 (.step 1 (.step 2 (.step 3 (.step 4 (.step 5 (.step 6 (.step 7 (.step 8 (.step 9 (.step 10 (.step 11 (.step 12 (.step 13 .nil)))))))))))))) ?_ ?_ ?_ ?_); (focus kernel_rfl); (focus kernel_rfl); (focus (intro d v c a w h; cases d <;> exact h)); clear H; intro w H; have HS := Ext.refl [] w; have H0 := H; all_goals ((with_reducible refine T_pureX ?_); refine ⟨_, rfl, rfl, rfl, rfl, ?_⟩; apply Exists.intro; apply And.intro; (focus (intro w; go_simp; (try with_reducible rfl); done)); (try simp only [Act.put, List.setIfInBounds_toArray, List.set_cons_succ, List.set_cons_zero])); all_goals ((with_reducible refine T_pureX ?_); refine ⟨_, rfl, rfl, rfl, rfl, ?_⟩; apply Exists.intro; apply And.intro; (focus (intro w; go_simp; (try with_reducible rfl); done)); (try simp only [Act.put, List.setIfInBounds_toArray, List.set_cons_succ, List.set_cons_zero])); all_goals ((with_reducible refine T_pureX ?_); refine ⟨_, rfl, rfl, rfl, rfl, ?_⟩; apply Exists.intro; apply And.intro; (focus (intro w; go_simp; (try with_reducible rfl); done)); (try simp only [Act.put, List.setIfInBounds_toArray, List.set_cons_succ, List.set_cons_zero])); all_goals ((with_reducible refine T_pureX ?_); refine ⟨_, rfl, rfl, rfl, rfl, ?_⟩; apply Exists.intro; apply And.intro; (focus (intro w; go_simp; (try with_reducible rfl); done)); (try simp only [Act.put, List.setIfInBounds_toArray, List.set_cons_succ, List.set_cons_zero])); all_goals ((with_reducible refine T_pureX ?_); refine ⟨_, rfl, rfl, rfl, rfl, ?_⟩; apply Exists.intro; apply And.intro; (focus (intro w; go_simp; (try with_reducible rfl); done)); (try simp only [Act.put, List.setIfInBounds_toArray, List.set_cons_succ, List.set_cons_zero])); all_goals ((with_reducible refine T_pureX ?_); refine ⟨_, rfl, rfl, rfl, rfl, ?_⟩; apply Exists.intro; apply And.intro; (focus (intro w; go_simp; (try with_reducible rfl); done)); (try simp only [Act.put, List.setIfInBounds_toArray, List.set_cons_succ, List.set_cons_zero])); all_goals ((with_reducible refine T_load_rowX H0 HS 0 rfl r2.out ?_); refine ⟨_, rfl, rfl, rfl, rfl, _, _, rfl, _, rfl, by first | rfl | omega, _, _, _, rfl, rfl, by simp, ?_⟩; (try simp only [Act.put, List.setIfInBounds_toArray, List.set_cons_succ, List.set_cons_zero])); all_goals ((with_reducible refine T_pureX ?_); refine ⟨_, rfl, rfl, rfl, rfl, ?_⟩; apply Exists.intro; apply And.intro; (focus (intro w; go_simp; (try with_reducible rfl); done)); (try simp only [Act.put, List.setIfInBounds_toArray, List.set_cons_succ, List.set_cons_zero])); all_goals ((with_reducible refine T_pureX ?_); refine ⟨_, rfl, rfl, rfl, rfl, ?_⟩; apply Exists.intro; apply And.intro; (focus (intro w; go_simp; (try with_reducible rfl); done)); (try simp only [Act.put, List.setIfInBounds_toArray, List.set_cons_succ, List.set_cons_zero])); all_goals ((with_reducible refine T_pureX ?_); refine ⟨_, rfl, rfl, rfl, rfl, ?_⟩; apply Exists.intro; apply And.intro; (focus (intro w; go_simp; (try with_reducible rfl); done)); (try simp only [Act.put, List.setIfInBounds_toArray, List.set_cons_succ, List.set_cons_zero])); all_goals ((with_reducible refine T_load_rowX H0 HS 0 rfl r1.out ?_); refine ⟨_, rfl, rfl, rfl, rfl, _, _, rfl, _, rfl, by first | rfl | omega, _, _, _, rfl, rfl, by simp, ?_⟩; (try simp only [Act.put, List.setIfInBounds_toArray, List.set_cons_succ, List.set_cons_zero])); all_goals ((with_reducible refine T_opX ?_); refine ⟨_, rfl, rfl, rfl, fun K hK => ?_⟩; go_simp; refine Calls.mono (hC.out _ H.ar0 H.ar0) ?_; rintro _ w ⟨rfl, hE⟩; replace HS := HS.trans hE; replace H := H.step hE; clear hE; refine hK _ _ (fun h => absurd h (by decide)) ?_; clear hK K; (try simp only [Act.put, List.setIfInBounds_toArray, List.set_cons_succ, List.set_cons_zero])); all_goals ((with_reducible refine T_pureX ?_); refine ⟨_, rfl, rfl, rfl, rfl, ?_⟩; apply Exists.intro; apply And.intro; (focus (intro w; go_simp; (try with_reducible rfl); done)); (try simp only [Act.put, List.setIfInBounds_toArray, List.set_cons_succ, List.set_cons_zero])); all_goals ((with_reducible refine T_pureX ?_); refine ⟨_, rfl, rfl, rfl, rfl, ?_⟩; apply Exists.intro; apply And.intro; (focus (intro w; go_simp; (try with_reducible rfl); done)); (try simp only [Act.put, List.setIfInBounds_toArray, List.set_cons_succ, List.set_cons_zero])); all_goals ((with_reducible refine T_nil ?_); clear H0 HS)) | ((with_reducible refine wpl_pureX ?_); refine ⟨rfl, rfl, ?_⟩; apply Exists.intro; apply And.intro; (focus (intro w; go_simp; (try with_reducible rfl); done)); (try simp only [Act.put, List.setIfInBounds_toArray, List.set_cons_succ, List.set_cons_zero])) | ((fail_if_success ((with_reducible refine wpl_runx ?_ ?_); (focus exact rfl))); ((with_reducible refine wpl_gcaseE ?_); refine ⟨_, rfl, ?_, ?_⟩) <;> (intro hg; first | (simp only [reduceCtorEq] at hg; done) | contradiction | ((with_reducible have hx := eq_of_beq hg); contradiction) | ((with_reducible have hx := ne_of_beq_false hg); contradiction) | ((with_reducible have hx := bne_iff_ne.1 hg); contradiction) | ((with_reducible have hx := bne_eq_false_iff_eq.1 hg); contradiction) | ((with_reducible have hx := of_decide_eq_true hg); first | contradiction | omega) | ((with_reducible have hx := of_decide_eq_false hg); first | contradiction | omega) | (simp only [Bool.not_eq_true', Bool.not_eq_false', beq_iff_eq, beq_eq_false_iff_ne, bne_iff_ne, ne_eq] at hg; contradiction) | (simp only [hg]))))
          go_roundw
          case rel =>
            refine ⟨h + 1, r, by first | rfl | go_num, rfl, by omega, by omega, hrh, fun _ t' u' h1 h2 => ?_, p2.out, H.weaken (fun h => h.1.1) (TsR.stab _ _)⟩
            rw [show h + 1 - 1 - a = h - a by omega] at h1
            rw [show mid - (h + 1) = q - m by have := e1.out; omega] at h2
            obtain rfl : t = t' := Option.some.inj (ht.out.symm.trans h1)
            obtain rfl : u = u' := Option.some.inj (hu.out.symm.trans h2)
            rw [hD.out]; assumption
          case measure => simp [intOf]; omega
      · obtain rfl : s = r := by omega
        have g1 : decide ((s : Int) < (s : Int)) = false := by simp
        have hparts := parts_of oL oR sL sR (mid := mid) hm.out hb.out hls hrh b1 b2 b3 (by have := hn.out; omega) (by have := hn.out; have := b6.out; omega) b7.out p1.out p2.out
        obtain ⟨e, he⟩ : ∃ e, e + s = n := ⟨n - s, by have := hn.out; omega⟩
        obtain ⟨L1, hL1⟩ : ∃ L1, L.take (s - a) = L1 := ⟨_, rfl⟩
        obtain ⟨L2, hL2⟩ : ∃ L2, L.drop (s - a) = L2 := ⟨_, rfl⟩
        obtain ⟨R1, hR1⟩ : ∃ R1, R.take (mid - s) = R1 := ⟨_, rfl⟩
        obtain ⟨R2, hR2⟩ : ∃ R2, R.drop (mid - s) = R2 := ⟨_, rfl⟩
        have hLL : L = L1 ++ L2 := by rw [← hL1, ← hL2, List.take_append_drop]
        have hRR : R = R1 ++ R2 := by rw [← hR1, ← hR2, List.take_append_drop]
        have l1 : L1.length + a = s := by rw [← hL1, List.length_take]; have := hm.out; omega
        have l2 : L2.length + s = m := by rw [← hL2, List.length_drop]; have := hm.out; omega
        have k1 : R1.length + s = mid := by rw [← hR1, List.length_take]; have := hb.out; have := hn.out; omega
        have k2 : R2.length + e = b := by rw [← hR2, List.length_drop]; have := hb.out; have := hn.out; omega
        have he' : e = mid + L2.length := by have := hn.out; omega
        rw [hL1, hL2, hR1, hR2] at hparts
        have oL1 : OkL L1 := fun t ht => oL t (by rw [hLL]; simp [ht])
        have oL2 : OkL L2 := fun t ht => oL t (by rw [hLL]; simp [ht])
        have oR1 : OkL R1 := fun t ht => oR t (by rw [hRR]; simp [ht])
        have oR2 : OkL R2 := fun t ht => oR t (by rw [hRR]; simp [ht])
        have sL1 : Srt L1 := by rw [hLL] at sL; exact (List.pairwise_append.1 sL).1
        have sL2 : Srt L2 := by rw [hLL] at sL; exact (List.pairwise_append.1 sL).2.1
        have sR1 : Srt R1 := by rw [hRR] at sR; exact (List.pairwise_append.1 sR).1
        have sR2 : Srt R2 := by rw [hRR] at sR; exact (List.pairwise_append.1 sR).2.1
        have hGG : X ++ (mrg L1 R1 ++ mrg L2 R2) ++ Y = G := by rw [← hparts]; exact hG.out
        obtain ⟨D0, hD0⟩ : ∃ D, X ++ L ++ R ++ Y = D := ⟨_, rfl⟩
        obtain ⟨D1, hD1⟩ : ∃ D, X ++ L1 ++ R1 ++ (L2 ++ R2 ++ Y) = D := ⟨_, rfl⟩
        obtain ⟨D2, hD2⟩ : ∃ D, X ++ mrg L1 R1 ++ (L2 ++ R2 ++ Y) = D := ⟨_, rfl⟩
        have hlen : X.length + (L1.length + L2.length) + (R1.length + R2.length) + Y.length = N := by have := hN.out; rw [hLL, hRR] at this; simp only [List.length_append] at this; omega
        have ha' := ha.out
        have ml : (mrg L1 R1).length = L1.length + R1.length := mrg_len _ _ _ rfl
        have e0 : D0 = X ++ L1 ++ L2 ++ R1 ++ (R2 ++ Y) := by rw [← hD0, hLL, hRR]; simp
        have n1 : ¬ (s < m ∧ m < e) → D1 = D0 := fun hh => by
          have : L2 = [] ∨ R1 = [] := by
            rcases Nat.lt_or_ge s m with x | x
            · exact .inr (List.eq_nil_of_length_eq_zero (by have := hn.out; omega))
            · exact .inl (List.eq_nil_of_length_eq_zero (by omega))
          rw [e0, ← hD1]
          rcases this with rfl | rfl <;> simp
        have n2 : ¬ (a < s ∧ s < mid) → D2 = D1 := fun hh => by
          rw [← hD2, ← hD1, mrg_one_empty, List.append_assoc X L1]
          rcases Nat.lt_or_ge a s with x | x
          · exact .inr (List.eq_nil_of_length_eq_zero (by omega))
          · exact .inl (List.eq_nil_of_length_eq_zero (by omega))
        have n3 : ¬ (mid < e ∧ e < b) → G = D2 := fun hh => by
          rw [← hD2, ← hGG, mrg_one_empty (A := L2) (B := R2)]
          · simp
          rcases Nat.lt_or_ge mid e with x | x
          · exact .inr (List.eq_nil_of_length_eq_zero (by omega))
          · exact .inl (List.eq_nil_of_length_eq_zero (by omega))
        have F1 : s < m ∧ m < e → Turns 65 [.int .i64 s, .int .i64 m, .int .i64 e, .func (.func 25) #[] #[]] (.slice (some ⟨g, 0, none⟩) N vk) N D0 D1 := fun hh xs M w h1 h2 h3 => by
          rw [e0] at h3
          rw [← hD1, show X ++ L1 ++ R1 ++ (L2 ++ R2 ++ Y) = X ++ L1 ++ R1 ++ L2 ++ (R2 ++ Y) by simp]
          exact rotate_spec (X ++ L1) L2 R1 (R2 ++ Y) (by omega) (by have := hn.out; omega) N (by simp; omega) hl s m e (by simp; omega) (by simp; omega) (by have := hn.out; simp; omega) _ _ xs M w h1 h2 h3
        have F2 : a < s ∧ s < mid → Turns 61 [.int .i64 a, .int .i64 s, .int .i64 mid, .func (.func 25) #[] #[]] (.slice (some ⟨g, 0, none⟩) N vk) N D1 D2 := fun hh xs M w h1 h2 h3 => by
          rw [← hD1] at h3
          rw [← hD2]
          exact IH.out X L1 R1 (L2 ++ R2 ++ Y) (by have := hm.out; have := hb.out; omega) (by omega) (by omega) oL1 oR1 sL1 sR1 N (by simp; omega) hl a s mid ha' (by omega) (by omega) _ xs M w h1 h2 h3
        have F3 : mid < e ∧ e < b → Turns 61 [.int .i64 mid, .int .i64 e, .int .i64 b, .func (.func 25) #[] #[]] (.slice (some ⟨g, 0, none⟩) N vk) N D2 G := fun hh xs M w h1 h2 h3 => by
          rw [← hD2, show X ++ mrg L1 R1 ++ (L2 ++ R2 ++ Y) = (X ++ mrg L1 R1) ++ L2 ++ R2 ++ Y by simp] at h3
          rw [← hGG, show X ++ (mrg L1 R1 ++ mrg L2 R2) ++ Y = (X ++ mrg L1 R1) ++ mrg L2 R2 ++ Y by simp]
          exact IH.out (X ++ mrg L1 R1) L2 R2 Y (by have := hm.out; have := hb.out; omega) (by omega) (by omega) oL2 oR2 sL2 sR2 N (by simp [ml]; omega) hl mid e b (by simp [ml]; omega) he' (by omega) _ xs M w h1 h2 h3
        rw [hD0] at H
        have w7 : (n : Int) - (s : Int) = (e : Int) := by omega
        have se : mid < e ↔ s < m := by have := hn.out; omega
        have sf : s < mid ↔ m < e := by have := hn.out; omega
        clear hparts hGG hD0 hD1 hD2 hLL hRR e0 hL1 hL2 hR1 hR2 oL1 oL2 oR1 oR2 sL1 sL2 sR1 sR2 ha' ml hlen l1 l2 k1 k2 he' p1 p2
        replace n1 := Lib.hid n1; replace n2 := Lib.hid n2; replace n3 := Lib.hid n3; replace F1 := Lib.hid F1; replace F2 := Lib.hid F2; replace F3 := Lib.hid F3; replace he := Lib.hid he; replace se := Lib.hid se; replace sf := Lib.hid sf
        by_cases c1 : s < m <;> by_cases c2 : m < e <;> by_cases c3 : a < s <;> by_cases c6 : e < b
        all_goals (try (exfalso; have := hn.out; have := he.out; omega))
        all_goals
          have c4 := sf.out; have c5 := se.out
          simp only [c1, c2, iff_true, iff_false] at c4 c5
          have n1' := n1.out; have n2' := n2.out; have n3' := n3.out
          simp only [c1, c2, c3, c4, c5, c6, and_true, and_false, true_and, false_and, and_self, not_true_eq_false, not_false_eq_true, forall_const, false_implies] at n1' n2' n3'
          (try subst n1'); (try subst n2'); (try subst n3')
          replace F1 := F1.out; replace F2 := F2.out; replace F3 := F3.out
          simp only [c1, c2, c3, c4, c5, c6, and_true, and_false, true_and, false_and, and_self, forall_const, false_implies] at F1 F2 F3
          replace F1 := Lib.hid F1; replace F2 := Lib.hid F2; replace F3 := Lib.hid F3
          (first | have k1 := decide_eq_false c1 | have k1 := decide_eq_true c1)
          (first | have k2 := decide_eq_false c2 | have k2 := decide_eq_true c2)
          (first | have k3 := decide_eq_false c3 | have k3 := decide_eq_true c3)
          (first | have k4 := decide_eq_false c4 | have k4 := decide_eq_true c4)
          (first | have k5 := decide_eq_false c5 | have k5 := decide_eq_true c5)
          (first | have k6 := decide_eq_false c6 | have k6 := decide_eq_true c6)
          go_wp2_with (first | ((with_reducible refine wpl_runx ?_ ?_); (focus exact rfl); refine ⟨_, runs_load H 0 rfl rfl rfl rfl rfl, ?_⟩; rintro _ _ ⟨rfl, rfl⟩) | ((with_reducible refine wpl_runx ?_ ?_); (focus exact rfl); refine ⟨_, runs_load_cell H rfl rfl rfl rfl, ?_⟩; rintro _ _ ⟨rfl, rfl⟩) | ((with_reducible refine wpl_runx ?_ ?_); (focus exact rfl); refine ⟨_, runs_load_cell0 H rfl rfl rfl rfl, ?_⟩; rintro _ _ ⟨rfl, rfl⟩) | ((with_reducible refine wpl_runx ?_ ?_); (focus exact rfl); refine ⟨_, runs_load_obj H rfl rfl rfl rfl, ?_⟩; rintro _ _ ⟨rfl, rfl⟩) | ((with_reducible refine wpl_runx ?_ ?_); (focus exact rfl); refine ⟨_, runs_store H 0 rfl rfl rfl rfl rfl rfl rfl rfl rfl, ?_⟩; clear H; rintro _ w ⟨rfl, hE, H⟩; clear hE) | ((with_reducible refine St.turns H F1.out ?_); clear H; intro w xs H) | ((with_reducible refine St.turns H F2.out ?_); clear H; intro w xs H) | ((with_reducible refine St.turns H F3.out ?_); clear H; intro w xs H) | ((with_reducible refine wpl_pureX ?_); refine ⟨rfl, rfl, ?_⟩; apply Exists.intro; apply And.intro; (focus (intro w; go_simp; (try with_reducible rfl); done)); (try simp only [Act.put, List.setIfInBounds_toArray, List.set_cons_succ, List.set_cons_zero])) | ((fail_if_success ((with_reducible refine wpl_runx ?_ ?_); (focus exact rfl))); ((with_reducible refine wpl_gcaseE ?_); refine ⟨_, rfl, ?_, ?_⟩) <;> (intro hg; first | (simp only [reduceCtorEq] at hg; done) | contradiction | ((with_reducible have hx := eq_of_beq hg); contradiction) | ((with_reducible have hx := ne_of_beq_false hg); contradiction) | ((with_reducible have hx := bne_iff_ne.1 hg); contradiction) | ((with_reducible have hx := bne_eq_false_iff_eq.1 hg); contradiction) | ((with_reducible have hx := of_decide_eq_true hg); first | contradiction | omega) | ((with_reducible have hx := of_decide_eq_false hg); first | contradiction | omega) | (simp only [Bool.not_eq_true', Bool.not_eq_false', beq_iff_eq, beq_eq_false_iff_ne, bne_iff_ne, ne_eq] at hg; contradiction) | (simp only [hg]))))
          go_end0
          exact RSort.mk rfl H
end Go.Proofs.Ythiionkikammkaa
