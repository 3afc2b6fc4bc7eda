/- Walks: Cons, Nil, Items of the reference. -/
import Derived.Test.YtfjdekiobggdoaaRPlain
import Derived.Test.YtfjdekiobggdoaaTItems
namespace Go.Proofs.Ytfjdekiobggdoaa
open Go.RowKit
set_option linter.unusedVariables false
set_option linter.unusedSimpArgs false
set_option maxRecDepth 20000
set_option maxHeartbeats 2000000

theorem cons_spec (k : Int) (s : ByteArray) (n r i : Int) (l : List Tm) (A : Option Addr) (c : Nat) (w0 : World) :
    Calls Try.prog 35 #[.agg #[.int .i64 k, .string s, .int .i64 n, .int .u64 r, .int .u64 i, .slice A l.length c]] w0 (RetV w0 (.bool (k == 5 && (s.toList == [46] && ((l.length : Int) == 2))))) := by
  have H := St.start (M := []) (w := w0) (F := fun _ _ => True) (by simp) (Stab.const True) trivial
  cases e5 : (k == 5) with
  | false =>
    go_enter Try.func35, Try.ntmps35
    go_wp2_with (first | ((with_reducible refine wpl_runx_d 1 rfl ?_ ?_); (focus exact rfl); refine ⟨_, runs_box H rfl rfl, ?_⟩; clear H; rintro _ w ⟨b1, rfl, hE, H⟩; clear hE) | ((with_reducible refine wpl_runx ?_ ?_); (focus exact rfl); refine ⟨_, runs_load H 0 rfl rfl rfl rfl rfl, ?_⟩; rintro _ _ ⟨rfl, rfl⟩) | ((with_reducible refine wpl_runx ?_ ?_); (focus exact rfl); refine ⟨_, runs_store H 0 rfl rfl rfl rfl rfl rfl rfl rfl rfl, ?_⟩; clear H; rintro _ w ⟨rfl, hE, H⟩; clear hE))
    go_ret
    exact ⟨rfl, H.ext⟩
  | true =>
    cases es : (s.toList == [46]) with
    | false =>
      go_enter Try.func35, Try.ntmps35
      go_wp2_with (first | ((with_reducible refine wpl_runx_d 1 rfl ?_ ?_); (focus exact rfl); refine ⟨_, runs_box H rfl rfl, ?_⟩; clear H; rintro _ w ⟨b1, rfl, hE, H⟩; clear hE) | ((with_reducible refine wpl_runx ?_ ?_); (focus exact rfl); refine ⟨_, runs_load H 0 rfl rfl rfl rfl rfl, ?_⟩; rintro _ _ ⟨rfl, rfl⟩) | ((with_reducible refine wpl_runx ?_ ?_); (focus exact rfl); refine ⟨_, runs_store H 0 rfl rfl rfl rfl rfl rfl rfl rfl rfl, ?_⟩; clear H; rintro _ w ⟨rfl, hE, H⟩; clear hE))
      go_ret
      exact ⟨rfl, H.ext⟩
    | true =>
      cases el : ((l.length : Int) == 2) with
      | false =>
        go_enter Try.func35, Try.ntmps35
        go_wp2_with (first | ((with_reducible refine wpl_runx_d 1 rfl ?_ ?_); (focus exact rfl); refine ⟨_, runs_box H rfl rfl, ?_⟩; clear H; rintro _ w ⟨b1, rfl, hE, H⟩; clear hE) | ((with_reducible refine wpl_runx ?_ ?_); (focus exact rfl); refine ⟨_, runs_load H 0 rfl rfl rfl rfl rfl, ?_⟩; rintro _ _ ⟨rfl, rfl⟩) | ((with_reducible refine wpl_runx ?_ ?_); (focus exact rfl); refine ⟨_, runs_store H 0 rfl rfl rfl rfl rfl rfl rfl rfl rfl, ?_⟩; clear H; rintro _ w ⟨rfl, hE, H⟩; clear hE))
        go_ret
        exact ⟨rfl, H.ext⟩
      | true =>
        go_enter Try.func35, Try.ntmps35
        go_wp2_with (first | ((with_reducible refine wpl_runx_d 1 rfl ?_ ?_); (focus exact rfl); refine ⟨_, runs_box H rfl rfl, ?_⟩; clear H; rintro _ w ⟨b1, rfl, hE, H⟩; clear hE) | ((with_reducible refine wpl_runx ?_ ?_); (focus exact rfl); refine ⟨_, runs_load H 0 rfl rfl rfl rfl rfl, ?_⟩; rintro _ _ ⟨rfl, rfl⟩) | ((with_reducible refine wpl_runx ?_ ?_); (focus exact rfl); refine ⟨_, runs_store H 0 rfl rfl rfl rfl rfl rfl rfl rfl rfl, ?_⟩; clear H; rintro _ w ⟨rfl, hE, H⟩; clear hE))
        go_ret
        exact ⟨rfl, H.ext⟩

theorem nil_spec (k : Int) (s : ByteArray) (n r i : Int) (l : List Tm) (A : Option Addr) (c : Nat) (w0 : World) :
    Calls Try.prog 37 #[.agg #[.int .i64 k, .string s, .int .i64 n, .int .u64 r, .int .u64 i, .slice A l.length c]] w0 (RetV w0 (.bool (k == 2 && s.toList == [91, 93]))) := by
  have H := St.start (M := []) (w := w0) (F := fun _ _ => True) (by simp) (Stab.const True) trivial
  cases e5 : (k == 2) with
  | false =>
    go_enter Try.func37, Try.ntmps37
    go_wp2_with (first | ((with_reducible refine wpl_runx_d 1 rfl ?_ ?_); (focus exact rfl); refine ⟨_, runs_box H rfl rfl, ?_⟩; clear H; rintro _ w ⟨b1, rfl, hE, H⟩; clear hE) | ((with_reducible refine wpl_runx ?_ ?_); (focus exact rfl); refine ⟨_, runs_load H 0 rfl rfl rfl rfl rfl, ?_⟩; rintro _ _ ⟨rfl, rfl⟩) | ((with_reducible refine wpl_runx ?_ ?_); (focus exact rfl); refine ⟨_, runs_store H 0 rfl rfl rfl rfl rfl rfl rfl rfl rfl, ?_⟩; clear H; rintro _ w ⟨rfl, hE, H⟩; clear hE))
    go_ret
    exact ⟨rfl, H.ext⟩
  | true =>
    cases es : (s.toList == [91, 93]) with
    | false =>
      go_enter Try.func37, Try.ntmps37
      go_wp2_with (first | ((with_reducible refine wpl_runx_d 1 rfl ?_ ?_); (focus exact rfl); refine ⟨_, runs_box H rfl rfl, ?_⟩; clear H; rintro _ w ⟨b1, rfl, hE, H⟩; clear hE) | ((with_reducible refine wpl_runx ?_ ?_); (focus exact rfl); refine ⟨_, runs_load H 0 rfl rfl rfl rfl rfl, ?_⟩; rintro _ _ ⟨rfl, rfl⟩) | ((with_reducible refine wpl_runx ?_ ?_); (focus exact rfl); refine ⟨_, runs_store H 0 rfl rfl rfl rfl rfl rfl rfl rfl rfl, ?_⟩; clear H; rintro _ w ⟨rfl, hE, H⟩; clear hE))
      go_ret
      exact ⟨rfl, H.ext⟩
    | true =>
      go_enter Try.func37, Try.ntmps37
      go_wp2_with (first | ((with_reducible refine wpl_runx_d 1 rfl ?_ ?_); (focus exact rfl); refine ⟨_, runs_box H rfl rfl, ?_⟩; clear H; rintro _ w ⟨b1, rfl, hE, H⟩; clear hE) | ((with_reducible refine wpl_runx ?_ ?_); (focus exact rfl); refine ⟨_, runs_load H 0 rfl rfl rfl rfl rfl, ?_⟩; rintro _ _ ⟨rfl, rfl⟩) | ((with_reducible refine wpl_runx ?_ ?_); (focus exact rfl); refine ⟨_, runs_store H 0 rfl rfl rfl rfl rfl rfl rfl rfl rfl, ?_⟩; clear H; rintro _ w ⟨rfl, hE, H⟩; clear hE))
      go_ret
      exact ⟨rfl, H.ext⟩

def lenV : Value → Nat
  | .slice _ n _ => n
  | _ => 0
theorem okL2 {p q : Tm} (h : okL [p, q]) : okT p ∧ okT q := by unfold okL at h; exact ⟨h.1, by have := h.2; unfold okL at this; exact this.1⟩

theorem items_turn (k : Int) (s : ByteArray) (n r i : Int) (l : List Tm) : itemsL (turnT varT (.mk k s n r i l)) =
    if k = 2 ∧ s.toList = [91, 93] then some [] else match l with
    | [a, b] => if k = 5 ∧ s.toList = [46] then (itemsL (turnT varT b)).map (turnT varT a :: ·) else none
    | _ => none := by
  by_cases h5 : k = 5
  · subst h5
    have e : turnT varT (.mk 5 s n r i l) = .mk 5 s 0 0 0 (turnL varT l) := by simp [turnT]
    rw [e]
    match l with
    | [] => simp [turnL, itemsL]
    | [a] => simp [turnL, itemsL]
    | [a, b] => simp only [turnL]; rw [itemsL]; simp
    | a :: b :: d :: l => simp [turnL, itemsL]
  · have e : ∃ s' n' r' i', turnT varT (.mk k s n r i l) = .mk k s' n' r' i' [] ∧ (k = 2 → s' = s) := by
      unfold turnT
      split
      · rename_i hk; subst hk; exact ⟨_, _, _, _, rfl, fun h => by simp at h⟩
      · split
        · exact ⟨_, _, _, _, rfl, fun _ => rfl⟩
        · rename_i hk
          split
          · exact ⟨_, _, _, _, rfl, fun h => absurd h hk⟩
          · split
            · exact ⟨_, _, _, _, rfl, fun h => absurd h hk⟩
            · exact ⟨_, _, _, _, rfl, fun h => absurd h hk⟩
    obtain ⟨s', n', r', i', e, hs⟩ := e
    rw [e]
    unfold itemsL
    by_cases h2 : k = 2
    · rw [hs h2]
      split
      · rfl
      · rename_i hn
        match l with
        | [] => rfl
        | [a] => rfl
        | [a, b] => simp [h5]
        | a :: b :: d :: l => rfl
    · rw [if_neg (by simp [h2]), if_neg (by simp [h2])]
      match l with
      | [] => rfl
      | [a] => rfl
      | [a, b] => simp [h5]
      | a :: b :: d :: l => rfl

theorem items_none (k : Int) (s : ByteArray) (n r i : Int) (l : List Tm) (hB : (k == 5 && (s.toList == [46] && ((l.length : Int) == 2))) = false) (hD : (k == 2 && s.toList == [91, 93]) = false) : itemsL (turnT varT (.mk k s n r i l)) = none := by
  rw [items_turn]
  rw [if_neg (by rintro ⟨h1, h2⟩; subst h1; simp [h2] at hD)]
  match l, hB with
  | [], _ => rfl
  | [a], _ => rfl
  | [a, b], hB => simp; intro h1 h2; subst h1; simp [h2] at hB
  | a :: b :: d :: l, _ => rfl

theorem two_of : ∀ (l : List Tm), (l.length : Int) = 2 → ∃ p q, l = [p, q]
  | [p, q], _ => ⟨p, q, rfl⟩
  | [], h => by simp at h
  | [a], h => by simp at h
  | a :: b :: d :: l, h => by simp at h; omega

theorem rItems_main (t : Tm) (A : Option Addr) (c : Nat) (M : List Nat) (w0 : World) (hs : slim t) (h : mayE t = 0) (hM : ∀ b ∈ M, b < w0.heap.size) (hA : AR A c t.args M w0) :
    Calls Try.prog 15 #[.agg #[.int .i64 t.kind, .string t.name, .int .i64 t.int, .int .u64 t.re, .int .u64 t.im, .slice A t.args.length c]] w0 (RetO M w0 (itemsE t)) := by
  have H := St.start hM (AR.stab A c t.args) hA
  clear hA
  have hMay : ∀ w, AR A c t.args [] w → Calls Try.prog 25 #[.agg #[.int .i64 t.kind, .string t.name, .int .i64 t.int, .int .u64 t.re, .int .u64 t.im, .slice A t.args.length c]] w (RetV w (.int .i64 (mayE t))) := fun w h => rMay_spec t A c w hs h
  rw [h] at hMay
  obtain ⟨hok, hn, _⟩ := mayE_ok.1 h
  have hit : itemsE t = itemsL (turnT varT t) := by unfold itemsE plainE; rw [if_pos h]
  obtain ⟨res, hres⟩ : ∃ o, itemsE t = o := ⟨_, rfl⟩
  rw [hres]
  rw [hit] at hres
  clear hit
  replace h := Lib.hid h
  replace hres := Lib.hid hres
  replace hn := Lib.hid hn
  replace hok := Lib.hid hok
  go_enter Try.func15, Try.ntmps15
  go_wp2_with (first | ((with_reducible refine wpl_runx_d 1 rfl ?_ ?_); (focus exact rfl); refine ⟨_, runs_box H rfl rfl, ?_⟩; clear H; rintro _ w ⟨b1, rfl, hE, H⟩; clear hE) | ((with_reducible refine wpl_runx_d 16 rfl ?_ ?_); (focus exact rfl); refine ⟨_, by apply runs_buildSlice H; iterate 10 rfl, ?_⟩; clear H; rintro _ w ⟨b16, rfl, hE, H⟩; clear hE) | ((with_reducible refine wpl_runx ?_ ?_); (focus exact rfl); refine ⟨_, runs_load H 0 rfl rfl rfl rfl rfl, ?_⟩; rintro _ _ ⟨rfl, rfl⟩) | ((with_reducible refine wpl_runx ?_ ?_); (focus exact rfl); refine ⟨_, runs_load H 1 rfl rfl rfl rfl rfl, ?_⟩; rintro _ _ ⟨rfl, rfl⟩) | ((with_reducible refine wpl_runx ?_ ?_); (focus exact rfl); refine ⟨_, runs_store H 0 rfl rfl rfl rfl rfl rfl rfl rfl rfl, ?_⟩; clear H; rintro _ w ⟨rfl, hE, H⟩; clear hE) | ((with_reducible refine wpl_runx ?_ ?_); (focus exact rfl); refine ⟨_, runs_store H 1 rfl rfl rfl rfl rfl rfl rfl rfl rfl, ?_⟩; clear H; rintro _ w ⟨rfl, hE, H⟩; clear hE) | ((with_reducible refine Calls.mono (hMay _ ?_) ?_); (focus exact ((AR.stab _ _ _).sub _ [] _ (fun _ h => by cases h) H.out)); rintro _ w ⟨rfl, hE⟩; replace H := H.step hE; clear hE))
  replace H := H.nilRow 25 6
  go_loopw [4] (fun sv wr => ∃ (u : Tm) (acc : List Tm) (xs : List Value) (A1 : Option Addr) (c1 : Nat), okT u ∧ (itemsL (turnT varT u)).map (acc ++ ·) = res ∧ nT u + acc.length ≤ nT t ∧
    St M [] w0 wr [.row sv acc.length xs 25 6, .obj b1 (.cells #[.int .i64 u.kind, .string u.name, .int .i64 u.int, .int .u64 u.re, .int .u64 u.im, .slice A1 u.args.length c1] 25 (0, 0))] (fun M w => AR A1 c1 u.args M w ∧ TsR xs acc M w)) (fun sv _ => 3000 - lenV sv)
  case atStart => exact ⟨t, [], [], A, c, hok.out, by rw [hres.out]; simp, by simp, H.weaken (fun h => ⟨h, TsR.nil _ _⟩) ((AR.stab _ _ _).and (TsR.stab _ _))⟩
  case round =>
    clear H
    obtain ⟨u, acc, xs, A1, c1, huo, hu, hun, H⟩ := hrel
    obtain ⟨a4, k4, rfl⟩ := H.rowVal0 (k := 0) rfl
    cases u with
    | mk k s n r i l =>
    simp only [Tm.kind, Tm.name, Tm.int, Tm.re, Tm.im, Tm.args] at H
    have hacc : acc.length ≤ 2000 := by have := hn.out; omega
    obtain ⟨B, hB⟩ : ∃ B, (k == 5 && (s.toList == [46] && ((l.length : Int) == 2))) = B := ⟨_, rfl⟩
    obtain ⟨D, hD⟩ : ∃ D, (k == 2 && s.toList == [91, 93]) = D := ⟨_, rfl⟩
    have hCons : ∀ w, Calls Try.prog 35 #[.agg #[.int .i64 k, .string s, .int .i64 n, .int .u64 r, .int .u64 i, .slice A1 l.length c1]] w (RetV w (.bool B)) := fun w => by rw [← hB]; exact cons_spec k s n r i l A1 c1 w
    have hNil : ∀ w, Calls Try.prog 37 #[.agg #[.int .i64 k, .string s, .int .i64 n, .int .u64 r, .int .u64 i, .slice A1 l.length c1]] w (RetV w (.bool D)) := fun w => by rw [← hD]; exact nil_spec k s n r i l A1 c1 w
    cases B
    · cases D
      · have hno : itemsL (turnT varT (.mk k s n r i l)) = none := items_none k s n r i l hB hD
        clear hB hD
        rw [hno] at hu
        go_wp2_with (first | ((with_reducible refine wpl_runx_d 1 rfl ?_ ?_); (focus exact rfl); refine ⟨_, runs_box H rfl rfl, ?_⟩; clear H; rintro _ w ⟨b1, rfl, hE, H⟩; clear hE) | ((with_reducible refine wpl_runx_d 16 rfl ?_ ?_); (focus exact rfl); refine ⟨_, by apply runs_buildSlice H; iterate 10 rfl, ?_⟩; clear H; rintro _ w ⟨b16, rfl, hE, H⟩; clear hE) | ((with_reducible refine wpl_runx ?_ ?_); (focus exact rfl); refine ⟨_, runs_load H 0 rfl rfl rfl rfl rfl, ?_⟩; rintro _ _ ⟨rfl, rfl⟩) | ((with_reducible refine wpl_runx ?_ ?_); (focus exact rfl); refine ⟨_, runs_load H 1 rfl rfl rfl rfl rfl, ?_⟩; rintro _ _ ⟨rfl, rfl⟩) | ((with_reducible refine wpl_runx ?_ ?_); (focus exact rfl); refine ⟨_, runs_store H 0 rfl rfl rfl rfl rfl rfl rfl rfl rfl, ?_⟩; clear H; rintro _ w ⟨rfl, hE, H⟩; clear hE) | ((with_reducible refine wpl_runx ?_ ?_); (focus exact rfl); refine ⟨_, runs_store H 1 rfl rfl rfl rfl rfl rfl rfl rfl rfl, ?_⟩; clear H; rintro _ w ⟨rfl, hE, H⟩; clear hE) | ((with_reducible refine Calls.mono (hCons _) ?_); rintro _ w ⟨rfl, hE⟩; replace H := H.step hE; clear hE) | ((with_reducible refine Calls.mono (hNil _) ?_); rintro _ w ⟨rfl, hE⟩; replace H := H.step hE; clear hE))
        go_ret2
        subst hu
        exact ⟨none, 0, rfl, AR.nil _ _ _ _, H.ext⟩
      · have hsome : itemsL (turnT varT (.mk k s n r i l)) = some [] := by
          rw [items_turn]
          simp only [Bool.and_eq_true, beq_iff_eq] at hD
          rw [if_pos hD]
        clear hB hD
        rw [hsome] at hu
        obtain ⟨A5, c5, e5, H'⟩ := H.sealT 0 (l := acc) rfl (fun M w h => h.2)
        simp only [Value.slice.injEq, true_and] at e5
        obtain ⟨rfl, rfl⟩ := e5
        clear H
        have H := H'; clear H'
        simp only [List.eraseIdx_zero, List.tail_cons] at H
        go_wp2_with (first | ((with_reducible refine wpl_runx_d 1 rfl ?_ ?_); (focus exact rfl); refine ⟨_, runs_box H rfl rfl, ?_⟩; clear H; rintro _ w ⟨b1, rfl, hE, H⟩; clear hE) | ((with_reducible refine wpl_runx_d 16 rfl ?_ ?_); (focus exact rfl); refine ⟨_, by apply runs_buildSlice H; iterate 10 rfl, ?_⟩; clear H; rintro _ w ⟨b16, rfl, hE, H⟩; clear hE) | ((with_reducible refine wpl_runx ?_ ?_); (focus exact rfl); refine ⟨_, runs_load H 0 rfl rfl rfl rfl rfl, ?_⟩; rintro _ _ ⟨rfl, rfl⟩) | ((with_reducible refine wpl_runx ?_ ?_); (focus exact rfl); refine ⟨_, runs_load H 1 rfl rfl rfl rfl rfl, ?_⟩; rintro _ _ ⟨rfl, rfl⟩) | ((with_reducible refine wpl_runx ?_ ?_); (focus exact rfl); refine ⟨_, runs_store H 0 rfl rfl rfl rfl rfl rfl rfl rfl rfl, ?_⟩; clear H; rintro _ w ⟨rfl, hE, H⟩; clear hE) | ((with_reducible refine wpl_runx ?_ ?_); (focus exact rfl); refine ⟨_, runs_store H 1 rfl rfl rfl rfl rfl rfl rfl rfl rfl, ?_⟩; clear H; rintro _ w ⟨rfl, hE, H⟩; clear hE) | ((with_reducible refine Calls.mono (hCons _) ?_); rintro _ w ⟨rfl, hE⟩; replace H := H.step hE; clear hE) | ((with_reducible refine Calls.mono (hNil _) ?_); rintro _ w ⟨rfl, hE⟩; replace H := H.step hE; clear hE))
        go_ret2
        subst hu
        exact ⟨a4, k4, by simp, by simpa using H.out.2, H.ext⟩
    · simp only [Bool.and_eq_true, beq_iff_eq] at hB
      obtain ⟨hk5, hsd, hl2⟩ := hB
      subst hk5
      clear hNil hD
      obtain ⟨p, q, rfl⟩ := two_of l hl2
      unfold okT at huo
      obtain ⟨hop, hoq⟩ := okL2 (huo.2 rfl)
      have hcons : itemsL (turnT varT (.mk 5 s n r i [p, q])) = (itemsL (turnT varT q)).map (turnT varT p :: ·) := by
        rw [items_turn, if_neg (by simp)]; simp [hsd]
      have hn5 : nT (.mk 5 s n r i [p, q]) = 1 + (nT p + (nT q + 0)) := by rw [nT, if_pos rfl, nL, nL, nL]
      have hp1 := nT_pos p
      obtain ⟨b, o, A2, c2, rfl, hm0, hl0, hc0, hA0⟩ := H.fact.1.at 0 (by simp)
      obtain ⟨b', o', A3, c3, eb, hm1, hl1, hc1, hA1⟩ := H.fact.1.at 1 (by simp)
      cases eb
      have C0 : CellF b (o + 0 * 6) _ _ _ := ⟨hm0, hl0, hc0⟩
      have C1 : CellF b (o + 1 * 6) _ _ _ := ⟨hm1, hl1, hc1⟩
      replace H := (((H.add hA0 (AR.stab _ _ _)).add hA1 (AR.stab _ _ _)).add C0 (CellF.stab _ _ _)).add C1 (CellF.stab _ _ _)
      clear hm0 hl0 hc0 hA0 hm1 hl1 hc1 hA1 C0 C1 huo hsd hl2
      have hPl : ∀ M w, (∀ b ∈ M, b < w.heap.size) → AR A2 c2 p.args M w → Calls Try.prog 36 #[.agg #[.int .i64 p.kind, .string p.name, .int .i64 p.int, .int .u64 p.re, .int .u64 p.im, .slice A2 p.args.length c2]] w (RetT M w (turnT varT p)) := fun M w h1 h2 => rplain_spec p M w A2 c2 h1 h2 (slim_of_ok p hop)
      replace hop := Lib.hid hop
      replace hoq := Lib.hid hoq
      go_wp2_with (first | ((with_reducible refine wpl_runx_d 1 rfl ?_ ?_); (focus exact rfl); refine ⟨_, runs_box H rfl rfl, ?_⟩; clear H; rintro _ w ⟨b1, rfl, hE, H⟩; clear hE) | ((with_reducible refine wpl_runx_d 16 rfl ?_ ?_); (focus exact rfl); refine ⟨_, by apply runs_buildSlice H; iterate 10 rfl, ?_⟩; clear H; rintro _ w ⟨b16, rfl, hE, H⟩; clear hE) | ((with_reducible refine wpl_runx ?_ ?_); (focus exact rfl); refine ⟨_, runs_load H 0 rfl rfl rfl rfl rfl, ?_⟩; rintro _ _ ⟨rfl, rfl⟩) | ((with_reducible refine wpl_runx ?_ ?_); (focus exact rfl); refine ⟨_, runs_load H 1 rfl rfl rfl rfl rfl, ?_⟩; rintro _ _ ⟨rfl, rfl⟩) | ((with_reducible refine wpl_runx ?_ ?_); (focus exact rfl); refine ⟨_, runs_load H 2 rfl rfl rfl rfl rfl, ?_⟩; rintro _ _ ⟨rfl, rfl⟩) | ((with_reducible refine wpl_runx ?_ ?_); (focus exact rfl); refine ⟨_, runs_store H 0 rfl rfl rfl rfl rfl rfl rfl rfl rfl, ?_⟩; clear H; rintro _ w ⟨rfl, hE, H⟩; clear hE) | ((with_reducible refine wpl_runx ?_ ?_); (focus exact rfl); refine ⟨_, runs_store H 1 rfl rfl rfl rfl rfl rfl rfl rfl rfl, ?_⟩; clear H; rintro _ w ⟨rfl, hE, H⟩; clear hE) | ((with_reducible refine wpl_runx ?_ ?_); (focus exact rfl); refine ⟨_, runs_store H 2 rfl rfl rfl rfl rfl rfl rfl rfl rfl, ?_⟩; clear H; rintro _ w ⟨rfl, hE, H⟩; clear hE) | ((with_reducible refine wpl_runx ?_ ?_); (focus exact rfl); refine ⟨_, runs_load_at rfl rfl rfl H.fact.1.2.2.2 rfl, ?_⟩; rintro _ _ ⟨rfl, rfl⟩) | ((with_reducible refine wpl_runx ?_ ?_); (focus exact rfl); refine ⟨_, runs_load_at rfl rfl rfl H.fact.2.2.2 rfl, ?_⟩; rintro _ _ ⟨rfl, rfl⟩) | ((with_reducible refine Calls.mono (hCons _) ?_); rintro _ w ⟨rfl, hE⟩; replace H := H.step hE; clear hE) | (refine (hPl _ _ H.ltAll H.fact.1.1.1.2).mono ?_; rintro _ w ⟨A6, c6, rfl, hA6, hE⟩; replace H := (H.step hE).add hA6 (AR.stab _ _ _); clear hE hA6) | ((with_reducible refine wpl_runx ?_ ?_); (focus exact rfl); refine ⟨_, runs_load_at rfl rfl rfl H.fact.1.2.2.2 rfl, ?_⟩; rintro _ _ ⟨rfl, rfl⟩) | ((with_reducible refine wpl_runx ?_ ?_); (focus exact rfl); refine ⟨_, runs_append1 H 1 rfl rfl rfl rfl rfl Try.infoT rfl (by decide) 0 rfl rfl rfl (by decide) (by unfold maxLen; omega) (by omega) (fun r => rfl), ?_⟩; clear H; rintro _ w ⟨g', cap', rfl, hE, H⟩; clear hE))
      have H' := (H.drop 0 rfl).weaken (G := fun M w => AR A3 c3 q.args M w ∧ TsR (xs ++ [.int .i64 (turnT varT p).kind, .string (turnT varT p).name, .int .i64 (turnT varT p).int, .int .u64 (turnT varT p).re, .int .u64 (turnT varT p).im, .slice A6 (turnT varT p).args.length c6]) (acc ++ [turnT varT p]) M w) (fun h => ⟨h.1.1.1.2, TsR.snocT h.1.1.1.1.1.2 h.2⟩) ((AR.stab _ _ _).and (TsR.stab _ _))
      (try simp only [Act.put, List.setIfInBounds_toArray, List.set_cons_succ, List.set_cons_zero])
      go_roundw
      case rel => exact ⟨q, acc ++ [turnT varT p], _, A3, c3, hoq.out, by rw [← hu, hcons]; cases itemsL (turnT varT q) <;> simp, by simp only [List.length_append, List.length_cons, List.length_nil]; omega, by simpa using H'⟩
      case measure => simp [lenV]; omega

theorem rItems_spec (t : Tm) (A : Option Addr) (c : Nat) (M : List Nat) (w0 : World) (hs : slim t) (hM : ∀ b ∈ M, b < w0.heap.size) (hA : AR A c t.args M w0) :
    Calls Try.prog 15 #[.agg #[.int .i64 t.kind, .string t.name, .int .i64 t.int, .int .u64 t.re, .int .u64 t.im, .slice A t.args.length c]] w0 (RetO M w0 (itemsE t)) := by
  by_cases h : mayE t = 0
  · exact rItems_main t A c M w0 hs h hM hA
  · have H := St.start hM (AR.stab A c t.args) hA
    clear hA
    have hMay : ∀ w, AR A c t.args [] w → Calls Try.prog 25 #[.agg #[.int .i64 t.kind, .string t.name, .int .i64 t.int, .int .u64 t.re, .int .u64 t.im, .slice A t.args.length c]] w (RetV w (.int .i64 (mayE t))) := fun w h => rMay_spec t A c w hs h
    have e1 : (mayE t != 0) = true := by simpa using h
    have hn : itemsE t = none := by unfold itemsE plainE; rw [if_neg h]; unfold Tm.zero itemsL; simp
    rw [hn]
    go_enter Try.func15, Try.ntmps15
    go_wp2_with (first | ((with_reducible refine wpl_runx_d 1 rfl ?_ ?_); (focus exact rfl); refine ⟨_, runs_box H rfl rfl, ?_⟩; clear H; rintro _ w ⟨b1, rfl, hE, H⟩; clear hE) | ((with_reducible refine wpl_runx_d 16 rfl ?_ ?_); (focus exact rfl); refine ⟨_, by apply runs_buildSlice H; iterate 10 rfl, ?_⟩; clear H; rintro _ w ⟨b16, rfl, hE, H⟩; clear hE) | ((with_reducible refine wpl_runx ?_ ?_); (focus exact rfl); refine ⟨_, runs_load H 0 rfl rfl rfl rfl rfl, ?_⟩; rintro _ _ ⟨rfl, rfl⟩) | ((with_reducible refine wpl_runx ?_ ?_); (focus exact rfl); refine ⟨_, runs_load H 1 rfl rfl rfl rfl rfl, ?_⟩; rintro _ _ ⟨rfl, rfl⟩) | ((with_reducible refine wpl_runx ?_ ?_); (focus exact rfl); refine ⟨_, runs_store H 0 rfl rfl rfl rfl rfl rfl rfl rfl rfl, ?_⟩; clear H; rintro _ w ⟨rfl, hE, H⟩; clear hE) | ((with_reducible refine wpl_runx ?_ ?_); (focus exact rfl); refine ⟨_, runs_store H 1 rfl rfl rfl rfl rfl rfl rfl rfl rfl, ?_⟩; clear H; rintro _ w ⟨rfl, hE, H⟩; clear hE) | ((with_reducible refine Calls.mono (hMay _ ?_) ?_); (focus exact ((AR.stab _ _ _).sub _ [] _ (fun _ h => by cases h) H.out)); rintro _ w ⟨rfl, hE⟩; replace H := H.step hE; clear hE))
    go_ret2
    exact ⟨none, 0, rfl, AR.nil _ _ _ _, H.ext⟩
end Go.Proofs.Ytfjdekiobggdoaa
