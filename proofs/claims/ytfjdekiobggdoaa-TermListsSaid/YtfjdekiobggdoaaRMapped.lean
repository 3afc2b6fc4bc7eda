/- Walks: mapped of the reference. -/
import Derived.Test.YtfjdekiobggdoaaROne
import Derived.Test.YtfjdekiobggdoaaRoom
namespace Go.Proofs.Ytfjdekiobggdoaa
open Go.RowKit
set_option linter.unusedVariables false
set_option linter.unusedSimpArgs false
set_option maxRecDepth 20000
set_option maxHeartbeats 4000000

theorem rNodes_c {M X : List Nat} {w1 w0 : World} {L : List Res} {F : List Nat → World → Prop} (H : St M X w1 w0 L F) (kt : Int) (st : ByteArray) (nt rt it : Int) (At : Option Addr) (ct lent : Nat) (lt : List Tm) [xt : HasAR F At ct lt] (et : lent = lt.length) (pre0 : slim (Tm.mk kt st nt rt it lt)) : Calls Try.prog 54 #[.agg #[.int .i64 kt, .string st, .int .i64 nt, .int .u64 rt, .int .u64 it, .slice At lent ct]] w0 (RetV w0 (.int .i64 (nodesE (Tm.mk kt st nt rt it lt)))) := by
  subst et
  exact rNodes_spec (Tm.mk kt st nt rt it lt) At ct _ pre0 H.ar0
mutual
/-- What the reference makes of a term, and the count behind it. -/
def mapE (of : List Tm) : Tm → Int → Tm × Int
  | .mk k s n r i l, x =>
    if 2000 < x then (Tm.zero, x)
    else if k = 1 ∧ n < of.length then (of.getD n.toNat Tm.zero, x + nodesE (of.getD n.toNat Tm.zero))
    else if k = 5 then (.mk 5 s 0 0 0 (mapL of l (x + 1)).1, (mapL of l (x + 1)).2)
    else (turnT varT (.mk k s n r i []), x + 1)
def mapL (of : List Tm) : List Tm → Int → List Tm × Int
  | [], x => ([], x)
  | t :: ts, x => ((mapE of t x).1 :: (mapL of ts (mapE of t x).2).1, (mapL of ts (mapE of t x).2).2)
end
theorem nodes_bd (t : Tm) : 0 ≤ nodesE t ∧ nodesE t ≤ 2000 := by
  by_cases h : mayE t = 0
  · rw [nodesE_ok h]
    have := (mayE_ok.1 h).2.1
    omega
  · rw [nodesE_err h]; omega
mutual
theorem map_bd (of : List Tm) : ∀ (t : Tm) (x : Int), 0 ≤ x → x ≤ 4000 → x ≤ (mapE of t x).2 ∧ (mapE of t x).2 ≤ 4000
  | .mk k s n r i l, x, h0, h1 => by
    unfold mapE
    split
    · exact ⟨Int.le_refl _, h1⟩
    · split
      · have := nodes_bd (of.getD n.toNat Tm.zero)
        simp only
        omega
      · split
        · have := mapL_bd of l (x + 1) (by omega) (by omega)
          simp only
          omega
        · simp only; omega
theorem mapL_bd (of : List Tm) : ∀ (l : List Tm) (x : Int), 0 ≤ x → x ≤ 4000 → x ≤ (mapL of l x).2 ∧ (mapL of l x).2 ≤ 4000
  | [], x, h0, h1 => ⟨Int.le_refl _, h1⟩
  | t :: ts, x, h0, h1 => by
    unfold mapL
    have h := map_bd of t x h0 h1
    have h' := mapL_bd of ts (mapE of t x).2 (by omega) (by omega)
    simp only
    omega
end
theorem mapL_snoc (of : List Tm) (t : Tm) : ∀ (l : List Tm) (x : Int), mapL of (l ++ [t]) x = ((mapL of l x).1 ++ [(mapE of t (mapL of l x).2).1], (mapE of t (mapL of l x).2).2)
  | [], x => by simp [mapL]
  | a :: l, x => by
    rw [List.cons_append, mapL, mapL_snoc of t l, mapL]
    rfl
theorem mapL_len (of : List Tm) : ∀ (l : List Tm) (x : Int), (mapL of l x).1.length = l.length
  | [], x => rfl
  | a :: l, x => by rw [mapL]; simp only [List.length_cons, mapL_len of l]

theorem St.sealTX {M X : List Nat} {w0 w : World} {L : List Res} {F : List Nat → World → Prop} (H : St M X w0 w L F) (k : Nat) {v : Value} {n : Nat} {xs : List Value} {l : List Tm} (hk : L[k]? = some (.row v n xs 25 6)) (hX : ∀ c ∈ v.ownBlock.toList, c ∉ X)
    (hx : ∀ M w, F M w → TsR xs l M w) : ∃ A cap, v = .slice A l.length cap ∧ St M X w0 w (L.eraseIdx k) fun M w => F M w ∧ AR A cap l M w := by
  have hown := H.getRow hk
  have hnM : ∀ b ∈ (Res.row v n xs 25 6).ids, b ∉ M := fun b hb hm => by
    have h1 := H.low b hm
    rcases H.own b (by simp only [idsOf, List.mem_flatMap]; exact ⟨_, List.mem_of_getElem? hk, hb⟩) with h | h
    · exact hX b hb h
    · omega
  have hlen : n = l.length := by
    have h1 := hown.1
    rw [CellsL.length _ _ (hx _ _ H.fact)] at h1
    omega
  subst hlen
  rcases hown.2 with ⟨rfl, h0⟩ | ⟨g, cap, cur, rfl, hb, hg, hn, _, hs, ht⟩
  · have : l = [] := List.eq_nil_of_length_eq_zero h0
    subst this
    exact ⟨none, 0, rfl, H.seal0 k hk (AR.stab _ _ _) (fun _ _ _ => AR.nil _ _ _ _) hnM⟩
  · refine ⟨some ⟨g, 0, none⟩, cap, rfl, H.seal0 k hk (AR.stab _ _ _) (fun _ hF hni => ?_) hnM⟩
    have hgl : g < w.heap.size := (Array.getElem?_eq_some_iff.1 hg).1
    have hsub := (TsR.stab xs l).sub _ _ _ (fun b hb => by
      have : ∀ b, b ∈ idsOf (L.eraseIdx k) ++ M → b ∈ idsOf L ++ M := by
        intro b hb
        rcases List.mem_append.1 hb with hb | hb
        · refine List.mem_append_left _ ?_
          simp only [idsOf, List.mem_flatMap] at hb ⊢
          obtain ⟨r, hr, hb⟩ := hb
          exact ⟨r, List.mem_of_mem_eraseIdx hr, hb⟩
        · exact List.mem_append_right _ hb
      exact this b hb) (hx _ _ hF)
    refine AR.ofCells hsub (hni g (by simp [Res.ids, Value.ownBlock])) hgl hn fun j v hj => ?_
    rw [Nat.zero_add, cell_of_row w g j cur 25 (0, 0) hg]
    have hj' : j < l.length * 6 := by rw [← hown.1]; exact (List.getElem?_eq_some_iff.1 hj).1
    rw [← ht, List.getElem?_take, if_pos hj'] at hj
    simpa using hj

theorem ids_apart {L : List Res} : ∀ (k j : Nat) {r r' : Res}, (idsOf L).Nodup → L[k]? = some r → L[j]? = some r' → k ≠ j → ∀ c ∈ r.ids, c ∉ r'.ids := by
  have hin : ∀ {L : List Res} {j : Nat} {r : Res}, L[j]? = some r → ∀ c ∈ r.ids, c ∈ idsOf L := fun h c hc => by
    simp only [idsOf, List.mem_flatMap]
    exact ⟨_, List.mem_of_getElem? h, hc⟩
  induction L with
  | nil => intro k j r r' _ h; simp at h
  | cons a L ih =>
    intro k j r r' hn hk hj hne c hc hc'
    have e : idsOf (a :: L) = a.ids ++ idsOf L := rfl
    rw [e, List.nodup_append] at hn
    cases k with
    | zero =>
      cases j with
      | zero => exact hne rfl
      | succ j =>
        simp only [List.getElem?_cons_zero, Option.some.injEq, List.getElem?_cons_succ] at hk hj
        subst hk
        exact hn.2.2 c hc c (hin hj c hc') rfl
    | succ k =>
      cases j with
      | zero =>
        simp only [List.getElem?_cons_zero, Option.some.injEq, List.getElem?_cons_succ] at hk hj
        subst hj
        exact hn.2.2 c hc' c (hin hk c hc) rfl
      | succ j =>
        simp only [List.getElem?_cons_succ] at hk hj
        exact ih k j hn.2.1 hk hj (by omega) c hc hc'

inductive RMapd (p : Tm × Int) (b : Nat) (M : List Nat) (w0 : World) : Ending → World → Prop
  | mk {A : Option Addr} {c : Nat} {w' : World} (h : St M [b] w0 w' [.obj b (.cells #[.int .i64 p.2] 3 (0, 0))] (AR A c p.1.args)) : RMapd p b M w0 (.returned (.agg #[.int .i64 p.1.kind, .string p.1.name, .int .i64 p.1.int, .int .u64 p.1.re, .int .u64 p.1.im, .slice A p.1.args.length c])) w'

theorem mapped_spec (of : List Tm) (Ao : Option Addr) (co : Nat) (hof : of.length ≤ maxLen) (hsl : ∀ x ∈ of, slim x) (b : Nat) : ∀ (t : Tm) (x : Int) (A : Option Addr) (c : Nat) (M : List Nat) (w : World), okT t → 0 ≤ x → x ≤ 4000 → (∀ b ∈ M, b < w.heap.size) → (Res.obj b (.cells #[.int .i64 x] 3 (0, 0))).holds w → AR A c t.args ([b] ++ M) w → AR Ao co of ([b] ++ M) w →
    Calls Try.prog 40 #[.agg #[.int .i64 t.kind, .string t.name, .int .i64 t.int, .int .u64 t.re, .int .u64 t.im, .slice A t.args.length c], .slice Ao of.length co, .pointer (some ⟨b, 0, none⟩)] w (RMapd (mapE of t x) b M w) := by
  intro t
  induction t using Tm.ind with | _ k s n r i l IH
  intro x A c M w0 hok hx0 hx1 hM hr hA hAo
  have H := St.startR (r := .obj b (.cells #[.int .i64 x] 3 (0, 0))) hM ((AR.stab A c l).and (AR.stab Ao co of)) hr (by simp [Res.ids]) ⟨hA, hAo⟩
  simp only [Tm.kind, Tm.name, Tm.int, Tm.re, Tm.im, Tm.args] at hA ⊢
  clear hA hAo hr
  have IH' := Lib.hid IH; clear IH
  unfold okT at hok
  by_cases h2 : 2000 < x
  · have d1 : decide (2000 < x) = true := by simpa using h2
    have e : mapE of (.mk k s n r i l) x = (Tm.zero, x) := by unfold mapE; rw [if_pos h2]
    rw [e]
    clear e hok
    go_enter Try.func40, Try.ntmps40
    go_wp2_with (first | ((with_reducible refine wpl_runx_d 3 rfl ?_ ?_); (focus exact rfl); refine ⟨_, runs_box H rfl rfl, ?_⟩; clear H; rintro _ w ⟨b3, rfl, hE, H⟩; clear hE) | ((with_reducible refine wpl_runx_d 6 rfl ?_ ?_); (focus exact rfl); refine ⟨_, runs_alloc H rfl rfl rfl, ?_⟩; clear H; rintro _ w ⟨b6, rfl, hE, H⟩; clear hE) | ((with_reducible refine wpl_runx_d 7 rfl ?_ ?_); (focus exact rfl); refine ⟨_, runs_alloc H rfl rfl rfl, ?_⟩; clear H; rintro _ w ⟨b7, rfl, hE, H⟩; clear hE) | ((with_reducible refine wpl_runx_d 9 rfl ?_ ?_); (focus exact rfl); refine ⟨_, runs_alloc H rfl rfl rfl, ?_⟩; clear H; rintro _ w ⟨b9, rfl, hE, H⟩; clear hE) | ((with_reducible refine wpl_runx_d 64 rfl ?_ ?_); (focus exact rfl); refine ⟨_, by apply runs_buildSlice H; iterate 10 rfl, ?_⟩; clear H; rintro _ w ⟨b64, rfl, hE, H⟩; clear hE) | ((with_reducible refine wpl_runx ?_ ?_); (focus exact rfl); refine ⟨_, runs_load H 0 rfl rfl rfl rfl rfl, ?_⟩; rintro _ _ ⟨rfl, rfl⟩) | ((with_reducible refine wpl_runx ?_ ?_); (focus exact rfl); refine ⟨_, runs_load H 1 rfl rfl rfl rfl rfl, ?_⟩; rintro _ _ ⟨rfl, rfl⟩) | ((with_reducible refine wpl_runx ?_ ?_); (focus exact rfl); refine ⟨_, runs_load H 2 rfl rfl rfl rfl rfl, ?_⟩; rintro _ _ ⟨rfl, rfl⟩) | ((with_reducible refine wpl_runx ?_ ?_); (focus exact rfl); refine ⟨_, runs_load H 3 rfl rfl rfl rfl rfl, ?_⟩; rintro _ _ ⟨rfl, rfl⟩) | ((with_reducible refine wpl_runx ?_ ?_); (focus exact rfl); refine ⟨_, runs_load H 4 rfl rfl rfl rfl rfl, ?_⟩; rintro _ _ ⟨rfl, rfl⟩) | ((with_reducible refine wpl_runx ?_ ?_); (focus exact rfl); refine ⟨_, runs_load_cell H rfl rfl rfl rfl, ?_⟩; rintro _ _ ⟨rfl, rfl⟩) | ((with_reducible refine wpl_runx ?_ ?_); (focus exact rfl); refine ⟨_, runs_load_cell0 H rfl rfl rfl rfl, ?_⟩; rintro _ _ ⟨rfl, rfl⟩) | ((with_reducible refine wpl_runx ?_ ?_); (focus exact rfl); refine ⟨_, runs_load_obj H rfl rfl rfl rfl, ?_⟩; rintro _ _ ⟨rfl, rfl⟩) | ((with_reducible refine wpl_runx ?_ ?_); (focus exact rfl); refine ⟨_, runs_store H 0 rfl rfl rfl rfl rfl rfl rfl rfl rfl, ?_⟩; clear H; rintro _ w ⟨rfl, hE, H⟩; clear hE) | ((with_reducible refine wpl_runx ?_ ?_); (focus exact rfl); refine ⟨_, runs_store H 1 rfl rfl rfl rfl rfl rfl rfl rfl rfl, ?_⟩; clear H; rintro _ w ⟨rfl, hE, H⟩; clear hE) | ((with_reducible refine wpl_runx ?_ ?_); (focus exact rfl); refine ⟨_, runs_store H 2 rfl rfl rfl rfl rfl rfl rfl rfl rfl, ?_⟩; clear H; rintro _ w ⟨rfl, hE, H⟩; clear hE) | ((with_reducible refine wpl_runx ?_ ?_); (focus exact rfl); refine ⟨_, runs_store H 3 rfl rfl rfl rfl rfl rfl rfl rfl rfl, ?_⟩; clear H; rintro _ w ⟨rfl, hE, H⟩; clear hE) | ((with_reducible refine wpl_runx ?_ ?_); (focus exact rfl); refine ⟨_, runs_store H 4 rfl rfl rfl rfl rfl rfl rfl rfl rfl, ?_⟩; clear H; rintro _ w ⟨rfl, hE, H⟩; clear hE) | ((with_reducible refine wpl_callX ?_); refine ⟨rfl, rfl, fun K hK => ?_⟩; go_simp; (first | (go_at_call 54; (with_reducible refine Calls.mono (rNodes_c H _ _ _ _ _ _ _ _ _ ?_ ?_) ?_); (focus (first | with_reducible rfl | rfl | simp)); (focus ((try simp only [Tm.eta]); (first | assumption | (apply slim_of_slimA; assumption) | exact slimA_plain _ | exact slimA_rename _ | exact slim_plain _ | exact slim_rename _ | exact slimA_var _ | exact slimA_more _ _ | exact slimA_rmore _ _ | exact slimA_expand _ _ | exact slimA_rexpand _ _ | (simp [slim, slimL, slimA, slimAL]; done)))); intro e w h; (try simp only [Tm.eta] at h); obtain ⟨rfl, hE⟩ := h; replace H := H.step hE; clear hE)); refine hK _ _ ?_; clear hK K; (try simp only [Act.put, List.setIfInBounds_toArray, List.set_cons_succ, List.set_cons_zero])) | ((with_reducible refine wpl_pureX ?_); refine ⟨rfl, rfl, ?_⟩; apply Exists.intro; apply And.intro; (focus (intro w; go_simp; (try with_reducible rfl); done)); (try simp only [Act.put, List.setIfInBounds_toArray, List.set_cons_succ, List.set_cons_zero])) | ((fail_if_success ((with_reducible refine wpl_runx ?_ ?_); (focus exact rfl))); ((with_reducible refine wpl_gcaseE ?_); refine ⟨_, rfl, ?_, ?_⟩) <;> (intro hg; first | (simp only [reduceCtorEq] at hg; done) | contradiction | ((with_reducible have hx := eq_of_beq hg); contradiction) | ((with_reducible have hx := ne_of_beq_false hg); contradiction) | ((with_reducible have hx := bne_iff_ne.1 hg); contradiction) | ((with_reducible have hx := bne_eq_false_iff_eq.1 hg); contradiction) | ((with_reducible have hx := of_decide_eq_true hg); first | contradiction | omega) | ((with_reducible have hx := of_decide_eq_false hg); first | contradiction | omega) | (simp only [Bool.not_eq_true', Bool.not_eq_false', beq_iff_eq, beq_eq_false_iff_ne, bne_iff_ne, ne_eq] at hg; contradiction) | (simp only [hg]))))
    refine (ret_cell H 0 rfl rfl rfl rfl rfl rfl ?_).1
    exact .mk (p := (Tm.zero, x)) (A := none) (c := 0) (((H.drop 0 rfl).drop 0 rfl).weaken (fun h => AR.nil _ _ _ _) (AR.stab _ _ _))
  have d1 : decide (2000 < x) = false := by simpa using h2
  have hpos : k = 1 → 0 ≤ n := fun hk => by
    subst hk
    have := hok.1
    simp [oneE] at this
    omega
  by_cases hA1 : k = 1 ∧ n < of.length
  · obtain ⟨rfl, hlt⟩ := hA1
    obtain ⟨j, rfl⟩ := Int.eq_ofNat_of_zero_le (hpos rfl)
    have hj : j < of.length := by omega
    have i1 : (j : Int) < (of.length : Int) := hlt
    have hg : of.getD (j : Int).toNat Tm.zero = of[j] := by simp [List.getD_eq_getElem?_getD, List.getElem?_eq_getElem hj]
    have e : mapE of (.mk 1 s (j : Int) r i l) x = (of[j], x + nodesE of[j]) := by unfold mapE; rw [if_neg h2, if_pos ⟨rfl, hlt⟩, hg]
    rw [e]
    obtain ⟨z1, z2⟩ := nodes_bd of[j]
    have hsj : slim of[j] := hsl _ (List.getElem_mem hj)
    obtain ⟨bb, o, A', c', rfl, hbm, hbl, hcs, hA'⟩ := H.fact.2.at j hj
    have C1 : CellF bb (o + j * 6) _ _ _ := ⟨hbm, hbl, hcs⟩
    replace H := (H.add C1 (CellF.stab _ _ _)).add hA' (AR.stab _ _ _)
    clear hbm hbl hcs hA' C1 hpos hok hg e
    go_enter Try.func40, Try.ntmps40
    go_wp2_with (first | ((with_reducible refine wpl_runx_d 3 rfl ?_ ?_); (focus exact rfl); refine ⟨_, runs_box H rfl rfl, ?_⟩; clear H; rintro _ w ⟨b3, rfl, hE, H⟩; clear hE) | ((with_reducible refine wpl_runx_d 6 rfl ?_ ?_); (focus exact rfl); refine ⟨_, runs_alloc H rfl rfl rfl, ?_⟩; clear H; rintro _ w ⟨b6, rfl, hE, H⟩; clear hE) | ((with_reducible refine wpl_runx_d 7 rfl ?_ ?_); (focus exact rfl); refine ⟨_, runs_alloc H rfl rfl rfl, ?_⟩; clear H; rintro _ w ⟨b7, rfl, hE, H⟩; clear hE) | ((with_reducible refine wpl_runx_d 9 rfl ?_ ?_); (focus exact rfl); refine ⟨_, runs_alloc H rfl rfl rfl, ?_⟩; clear H; rintro _ w ⟨b9, rfl, hE, H⟩; clear hE) | ((with_reducible refine wpl_runx_d 64 rfl ?_ ?_); (focus exact rfl); refine ⟨_, by apply runs_buildSlice H; iterate 10 rfl, ?_⟩; clear H; rintro _ w ⟨b64, rfl, hE, H⟩; clear hE) | ((with_reducible refine wpl_runx ?_ ?_); (focus exact rfl); refine ⟨_, runs_load H 0 rfl rfl rfl rfl rfl, ?_⟩; rintro _ _ ⟨rfl, rfl⟩) | ((with_reducible refine wpl_runx ?_ ?_); (focus exact rfl); refine ⟨_, runs_load H 1 rfl rfl rfl rfl rfl, ?_⟩; rintro _ _ ⟨rfl, rfl⟩) | ((with_reducible refine wpl_runx ?_ ?_); (focus exact rfl); refine ⟨_, runs_load H 2 rfl rfl rfl rfl rfl, ?_⟩; rintro _ _ ⟨rfl, rfl⟩) | ((with_reducible refine wpl_runx ?_ ?_); (focus exact rfl); refine ⟨_, runs_load H 3 rfl rfl rfl rfl rfl, ?_⟩; rintro _ _ ⟨rfl, rfl⟩) | ((with_reducible refine wpl_runx ?_ ?_); (focus exact rfl); refine ⟨_, runs_load H 4 rfl rfl rfl rfl rfl, ?_⟩; rintro _ _ ⟨rfl, rfl⟩) | ((with_reducible refine wpl_runx ?_ ?_); (focus exact rfl); refine ⟨_, runs_load_cell H rfl rfl rfl rfl, ?_⟩; rintro _ _ ⟨rfl, rfl⟩) | ((with_reducible refine wpl_runx ?_ ?_); (focus exact rfl); refine ⟨_, runs_load_cell0 H rfl rfl rfl rfl, ?_⟩; rintro _ _ ⟨rfl, rfl⟩) | ((with_reducible refine wpl_runx ?_ ?_); (focus exact rfl); refine ⟨_, runs_load_obj H rfl rfl rfl rfl, ?_⟩; rintro _ _ ⟨rfl, rfl⟩) | ((with_reducible refine wpl_runx ?_ ?_); (focus exact rfl); refine ⟨_, runs_store H 0 rfl rfl rfl rfl rfl rfl rfl rfl rfl, ?_⟩; clear H; rintro _ w ⟨rfl, hE, H⟩; clear hE) | ((with_reducible refine wpl_runx ?_ ?_); (focus exact rfl); refine ⟨_, runs_store H 1 rfl rfl rfl rfl rfl rfl rfl rfl rfl, ?_⟩; clear H; rintro _ w ⟨rfl, hE, H⟩; clear hE) | ((with_reducible refine wpl_runx ?_ ?_); (focus exact rfl); refine ⟨_, runs_store H 2 rfl rfl rfl rfl rfl rfl rfl rfl rfl, ?_⟩; clear H; rintro _ w ⟨rfl, hE, H⟩; clear hE) | ((with_reducible refine wpl_runx ?_ ?_); (focus exact rfl); refine ⟨_, runs_store H 3 rfl rfl rfl rfl rfl rfl rfl rfl rfl, ?_⟩; clear H; rintro _ w ⟨rfl, hE, H⟩; clear hE) | ((with_reducible refine wpl_runx ?_ ?_); (focus exact rfl); refine ⟨_, runs_store H 4 rfl rfl rfl rfl rfl rfl rfl rfl rfl, ?_⟩; clear H; rintro _ w ⟨rfl, hE, H⟩; clear hE) | ((with_reducible refine wp_region_Ts 4 H [] [[], [0], [0, 1], [], [], [4], [3, 4, 5], [3, 4, 5, 6], [3, 4, 5, 6, 7], [0, 1, 2, 3, 4, 5, 6, 7, 8], [0, 1, 2, 3, 4, 5, 6, 7, 8, 9], [0, 1, 2, 3, 4, 5, 6, 7, 8, 9, 10]] [2, 5, 7] [0, 1, 2, 3, 4, 5, 6, 7, 9, 10] (.step 0 (.step 1 (.step 2 (.step 3 (.step 4 (.step 5 (.step 6 (.step 7 (.step 8 (.step 9 (.step 10 (.step 11 .nil)))))))))))) ?_ ?_ ?_ ?_); (focus kernel_rfl); (focus kernel_rfl); (focus (intro d v c a w h; cases d <;> exact h)); clear H; intro w H; have HS := Ext.refl [] w; have H0 := H; all_goals ((with_reducible refine T_pureX ?_); refine ⟨_, rfl, rfl, rfl, rfl, ?_⟩; apply Exists.intro; apply And.intro; (focus (intro w; go_simp; (try with_reducible rfl); done)); (try simp only [Act.put, List.setIfInBounds_toArray, List.set_cons_succ, List.set_cons_zero])); all_goals ((with_reducible refine T_pureX ?_); refine ⟨_, rfl, rfl, rfl, rfl, ?_⟩; apply Exists.intro; apply And.intro; (focus (intro w; go_simp; (try with_reducible rfl); done)); (try simp only [Act.put, List.setIfInBounds_toArray, List.set_cons_succ, List.set_cons_zero])); all_goals (first | ((with_reducible refine T_load_openX H0 HS 0 ?_); refine ⟨_, _, _, rfl, _, rfl, rfl, rfl, rfl, _, _, _, rfl, rfl, _, _, _, rfl, rfl, ?_, ?_⟩; (focus simp); (try simp only [Act.put, List.setIfInBounds_toArray, List.set_cons_succ, List.set_cons_zero])) | ((with_reducible refine T_load_openX H0 HS 1 ?_); refine ⟨_, _, _, rfl, _, rfl, rfl, rfl, rfl, _, _, _, rfl, rfl, _, _, _, rfl, rfl, ?_, ?_⟩; (focus simp); (try simp only [Act.put, List.setIfInBounds_toArray, List.set_cons_succ, List.set_cons_zero])) | ((with_reducible refine T_load_openX H0 HS 2 ?_); refine ⟨_, _, _, rfl, _, rfl, rfl, rfl, rfl, _, _, _, rfl, rfl, _, _, _, rfl, rfl, ?_, ?_⟩; (focus simp); (try simp only [Act.put, List.setIfInBounds_toArray, List.set_cons_succ, List.set_cons_zero])) | ((with_reducible refine T_load_openX H0 HS 3 ?_); refine ⟨_, _, _, rfl, _, rfl, rfl, rfl, rfl, _, _, _, rfl, rfl, _, _, _, rfl, rfl, ?_, ?_⟩; (focus simp); (try simp only [Act.put, List.setIfInBounds_toArray, List.set_cons_succ, List.set_cons_zero])) | ((with_reducible refine T_load_openX H0 HS 4 ?_); refine ⟨_, _, _, rfl, _, rfl, rfl, rfl, rfl, _, _, _, rfl, rfl, _, _, _, rfl, rfl, ?_, ?_⟩; (focus simp); (try simp only [Act.put, List.setIfInBounds_toArray, List.set_cons_succ, List.set_cons_zero])) | ((with_reducible refine T_load_cellX H0 HS ?_); refine ⟨_, rfl, rfl, rfl, rfl, _, _, _, _, _, rfl, rfl, _, inferInstance, _, _, _, rfl, rfl, ?_, ?_⟩; (focus simp); (try simp only [Act.put, List.setIfInBounds_toArray, List.set_cons_succ, List.set_cons_zero])) | ((with_reducible refine T_load_cell0X H0 HS ?_); refine ⟨_, rfl, rfl, rfl, rfl, _, _, _, _, rfl, rfl, _, inferInstance, _, _, _, rfl, rfl, ?_, ?_⟩; (focus simp); (try simp only [Act.put, List.setIfInBounds_toArray, List.set_cons_succ, List.set_cons_zero])) | ((with_reducible refine T_load_objX H0 HS ?_); refine ⟨_, rfl, rfl, rfl, rfl, _, _, _, _, rfl, rfl, _, inferInstance, _, _, _, rfl, rfl, ?_, ?_⟩; (focus simp); (try simp only [Act.put, List.setIfInBounds_toArray, List.set_cons_succ, List.set_cons_zero]))); all_goals ((with_reducible refine T_pureX ?_); refine ⟨_, rfl, rfl, rfl, rfl, ?_⟩; apply Exists.intro; apply And.intro; (focus (intro w; go_simp; (try with_reducible rfl); done)); (try simp only [Act.put, List.setIfInBounds_toArray, List.set_cons_succ, List.set_cons_zero])); all_goals ((with_reducible refine T_pureX ?_); refine ⟨_, rfl, rfl, rfl, rfl, ?_⟩; apply Exists.intro; apply And.intro; (focus (intro w; go_simp; (try with_reducible rfl); done)); (try simp only [Act.put, List.setIfInBounds_toArray, List.set_cons_succ, List.set_cons_zero])); all_goals (first | ((with_reducible refine T_load_openX H0 HS 0 ?_); refine ⟨_, _, _, rfl, _, rfl, rfl, rfl, rfl, _, _, _, rfl, rfl, _, _, _, rfl, rfl, ?_, ?_⟩; (focus simp); (try simp only [Act.put, List.setIfInBounds_toArray, List.set_cons_succ, List.set_cons_zero])) | ((with_reducible refine T_load_openX H0 HS 1 ?_); refine ⟨_, _, _, rfl, _, rfl, rfl, rfl, rfl, _, _, _, rfl, rfl, _, _, _, rfl, rfl, ?_, ?_⟩; (focus simp); (try simp only [Act.put, List.setIfInBounds_toArray, List.set_cons_succ, List.set_cons_zero])) | ((with_reducible refine T_load_openX H0 HS 2 ?_); refine ⟨_, _, _, rfl, _, rfl, rfl, rfl, rfl, _, _, _, rfl, rfl, _, _, _, rfl, rfl, ?_, ?_⟩; (focus simp); (try simp only [Act.put, List.setIfInBounds_toArray, List.set_cons_succ, List.set_cons_zero])) | ((with_reducible refine T_load_openX H0 HS 3 ?_); refine ⟨_, _, _, rfl, _, rfl, rfl, rfl, rfl, _, _, _, rfl, rfl, _, _, _, rfl, rfl, ?_, ?_⟩; (focus simp); (try simp only [Act.put, List.setIfInBounds_toArray, List.set_cons_succ, List.set_cons_zero])) | ((with_reducible refine T_load_openX H0 HS 4 ?_); refine ⟨_, _, _, rfl, _, rfl, rfl, rfl, rfl, _, _, _, rfl, rfl, _, _, _, rfl, rfl, ?_, ?_⟩; (focus simp); (try simp only [Act.put, List.setIfInBounds_toArray, List.set_cons_succ, List.set_cons_zero])) | ((with_reducible refine T_load_cellX H0 HS ?_); refine ⟨_, rfl, rfl, rfl, rfl, _, _, _, _, _, rfl, rfl, _, inferInstance, _, _, _, rfl, rfl, ?_, ?_⟩; (focus simp); (try simp only [Act.put, List.setIfInBounds_toArray, List.set_cons_succ, List.set_cons_zero])) | ((with_reducible refine T_load_cell0X H0 HS ?_); refine ⟨_, rfl, rfl, rfl, rfl, _, _, _, _, rfl, rfl, _, inferInstance, _, _, _, rfl, rfl, ?_, ?_⟩; (focus simp); (try simp only [Act.put, List.setIfInBounds_toArray, List.set_cons_succ, List.set_cons_zero])) | ((with_reducible refine T_load_objX H0 HS ?_); refine ⟨_, rfl, rfl, rfl, rfl, _, _, _, _, rfl, rfl, _, inferInstance, _, _, _, rfl, rfl, ?_, ?_⟩; (focus simp); (try simp only [Act.put, List.setIfInBounds_toArray, List.set_cons_succ, List.set_cons_zero]))); all_goals ((with_reducible refine T_pureX ?_); refine ⟨_, rfl, rfl, rfl, rfl, ?_⟩; apply Exists.intro; apply And.intro; (focus (intro w; go_simp; (try with_reducible rfl); done)); (try simp only [Act.put, List.setIfInBounds_toArray, List.set_cons_succ, List.set_cons_zero])); all_goals (first | ((with_reducible refine T_load_openX H0 HS 0 ?_); refine ⟨_, _, _, rfl, _, rfl, rfl, rfl, rfl, _, _, _, rfl, rfl, _, _, _, rfl, rfl, ?_, ?_⟩; (focus simp); (try simp only [Act.put, List.setIfInBounds_toArray, List.set_cons_succ, List.set_cons_zero])) | ((with_reducible refine T_load_openX H0 HS 1 ?_); refine ⟨_, _, _, rfl, _, rfl, rfl, rfl, rfl, _, _, _, rfl, rfl, _, _, _, rfl, rfl, ?_, ?_⟩; (focus simp); (try simp only [Act.put, List.setIfInBounds_toArray, List.set_cons_succ, List.set_cons_zero])) | ((with_reducible refine T_load_openX H0 HS 2 ?_); refine ⟨_, _, _, rfl, _, rfl, rfl, rfl, rfl, _, _, _, rfl, rfl, _, _, _, rfl, rfl, ?_, ?_⟩; (focus simp); (try simp only [Act.put, List.setIfInBounds_toArray, List.set_cons_succ, List.set_cons_zero])) | ((with_reducible refine T_load_openX H0 HS 3 ?_); refine ⟨_, _, _, rfl, _, rfl, rfl, rfl, rfl, _, _, _, rfl, rfl, _, _, _, rfl, rfl, ?_, ?_⟩; (focus simp); (try simp only [Act.put, List.setIfInBounds_toArray, List.set_cons_succ, List.set_cons_zero])) | ((with_reducible refine T_load_openX H0 HS 4 ?_); refine ⟨_, _, _, rfl, _, rfl, rfl, rfl, rfl, _, _, _, rfl, rfl, _, _, _, rfl, rfl, ?_, ?_⟩; (focus simp); (try simp only [Act.put, List.setIfInBounds_toArray, List.set_cons_succ, List.set_cons_zero])) | ((with_reducible refine T_load_cellX H0 HS ?_); refine ⟨_, rfl, rfl, rfl, rfl, _, _, _, _, _, rfl, rfl, _, inferInstance, _, _, _, rfl, rfl, ?_, ?_⟩; (focus simp); (try simp only [Act.put, List.setIfInBounds_toArray, List.set_cons_succ, List.set_cons_zero])) | ((with_reducible refine T_load_cell0X H0 HS ?_); refine ⟨_, rfl, rfl, rfl, rfl, _, _, _, _, rfl, rfl, _, inferInstance, _, _, _, rfl, rfl, ?_, ?_⟩; (focus simp); (try simp only [Act.put, List.setIfInBounds_toArray, List.set_cons_succ, List.set_cons_zero])) | ((with_reducible refine T_load_objX H0 HS ?_); refine ⟨_, rfl, rfl, rfl, rfl, _, _, _, _, rfl, rfl, _, inferInstance, _, _, _, rfl, rfl, ?_, ?_⟩; (focus simp); (try simp only [Act.put, List.setIfInBounds_toArray, List.set_cons_succ, List.set_cons_zero]))); all_goals ((with_reducible refine T_opX ?_); refine ⟨_, rfl, rfl, rfl, fun K hK => ?_⟩; go_simp; (first | (go_at_call 54; (with_reducible refine Calls.mono (rNodes_c H _ _ _ _ _ _ _ _ _ ?_ ?_) ?_); (focus (first | with_reducible rfl | rfl | simp)); (focus ((try simp only [Tm.eta]); (first | assumption | (apply slim_of_slimA; assumption) | exact slimA_plain _ | exact slimA_rename _ | exact slim_plain _ | exact slim_rename _ | exact slimA_var _ | exact slimA_more _ _ | exact slimA_rmore _ _ | exact slimA_expand _ _ | exact slimA_rexpand _ _ | (simp [slim, slimL, slimA, slimAL]; done)))); intro e w h; (try simp only [Tm.eta] at h); obtain ⟨rfl, hE⟩ := h; replace HS := HS.trans hE; replace H := H.step hE; clear hE)); refine hK _ _ (fun _ => HS) ?_; clear hK K; (try simp only [Act.put, List.setIfInBounds_toArray, List.set_cons_succ, List.set_cons_zero])); all_goals ((with_reducible refine T_pureX ?_); refine ⟨_, rfl, rfl, rfl, rfl, ?_⟩; apply Exists.intro; apply And.intro; (focus (intro w; go_simp; (try with_reducible rfl); done)); (try simp only [Act.put, List.setIfInBounds_toArray, List.set_cons_succ, List.set_cons_zero])); all_goals ((with_reducible refine T_pureX ?_); refine ⟨_, rfl, rfl, rfl, rfl, ?_⟩; apply Exists.intro; apply And.intro; (focus (intro w; go_simp; (try with_reducible rfl); done)); (try simp only [Act.put, List.setIfInBounds_toArray, List.set_cons_succ, List.set_cons_zero])); all_goals (first | ((with_reducible refine T_stepX ?_); refine ⟨_, rfl, rfl, rfl, ?_⟩; refine ⟨_, runs_store H 0 rfl rfl rfl rfl rfl rfl rfl rfl rfl, ?_⟩; clear H; rintro _ w ⟨rfl, hE, H⟩; clear hE; refine ⟨(fun h => absurd h (by decide)), ?_⟩; (try simp only [Act.put, List.setIfInBounds_toArray, List.set_cons_succ, List.set_cons_zero])) | ((with_reducible refine T_stepX ?_); refine ⟨_, rfl, rfl, rfl, ?_⟩; refine ⟨_, runs_store H 1 rfl rfl rfl rfl rfl rfl rfl rfl rfl, ?_⟩; clear H; rintro _ w ⟨rfl, hE, H⟩; clear hE; refine ⟨(fun h => absurd h (by decide)), ?_⟩; (try simp only [Act.put, List.setIfInBounds_toArray, List.set_cons_succ, List.set_cons_zero])) | ((with_reducible refine T_stepX ?_); refine ⟨_, rfl, rfl, rfl, ?_⟩; refine ⟨_, runs_store H 2 rfl rfl rfl rfl rfl rfl rfl rfl rfl, ?_⟩; clear H; rintro _ w ⟨rfl, hE, H⟩; clear hE; refine ⟨(fun h => absurd h (by decide)), ?_⟩; (try simp only [Act.put, List.setIfInBounds_toArray, List.set_cons_succ, List.set_cons_zero])) | ((with_reducible refine T_stepX ?_); refine ⟨_, rfl, rfl, rfl, ?_⟩; refine ⟨_, runs_store H 3 rfl rfl rfl rfl rfl rfl rfl rfl rfl, ?_⟩; clear H; rintro _ w ⟨rfl, hE, H⟩; clear hE; refine ⟨(fun h => absurd h (by decide)), ?_⟩; (try simp only [Act.put, List.setIfInBounds_toArray, List.set_cons_succ, List.set_cons_zero])) | ((with_reducible refine T_stepX ?_); refine ⟨_, rfl, rfl, rfl, ?_⟩; refine ⟨_, runs_store H 4 rfl rfl rfl rfl rfl rfl rfl rfl rfl, ?_⟩; clear H; rintro _ w ⟨rfl, hE, H⟩; clear hE; refine ⟨(fun h => absurd h (by decide)), ?_⟩; (try simp only [Act.put, List.setIfInBounds_toArray, List.set_cons_succ, List.set_cons_zero]))); all_goals ((with_reducible refine T_nil ?_); clear H0 HS)) | ((with_reducible refine wpl_callX ?_); refine ⟨rfl, rfl, fun K hK => ?_⟩; go_simp; (first | (go_at_call 54; (with_reducible refine Calls.mono (rNodes_c H _ _ _ _ _ _ _ _ _ ?_ ?_) ?_); (focus (first | with_reducible rfl | rfl | simp)); (focus ((try simp only [Tm.eta]); (first | assumption | (apply slim_of_slimA; assumption) | exact slimA_plain _ | exact slimA_rename _ | exact slim_plain _ | exact slim_rename _ | exact slimA_var _ | exact slimA_more _ _ | exact slimA_rmore _ _ | exact slimA_expand _ _ | exact slimA_rexpand _ _ | (simp [slim, slimL, slimA, slimAL]; done)))); intro e w h; (try simp only [Tm.eta] at h); obtain ⟨rfl, hE⟩ := h; replace H := H.step hE; clear hE)); refine hK _ _ ?_; clear hK K; (try simp only [Act.put, List.setIfInBounds_toArray, List.set_cons_succ, List.set_cons_zero])) | ((with_reducible refine wpl_pureX ?_); refine ⟨rfl, rfl, ?_⟩; apply Exists.intro; apply And.intro; (focus (intro w; go_simp; (try with_reducible rfl); done)); (try simp only [Act.put, List.setIfInBounds_toArray, List.set_cons_succ, List.set_cons_zero])) | ((fail_if_success ((with_reducible refine wpl_runx ?_ ?_); (focus exact rfl))); ((with_reducible refine wpl_gcaseE ?_); refine ⟨_, rfl, ?_, ?_⟩) <;> (intro hg; first | (simp only [reduceCtorEq] at hg; done) | contradiction | ((with_reducible have hx := eq_of_beq hg); contradiction) | ((with_reducible have hx := ne_of_beq_false hg); contradiction) | ((with_reducible have hx := bne_iff_ne.1 hg); contradiction) | ((with_reducible have hx := bne_eq_false_iff_eq.1 hg); contradiction) | ((with_reducible have hx := of_decide_eq_true hg); first | contradiction | omega) | ((with_reducible have hx := of_decide_eq_false hg); first | contradiction | omega) | (simp only [Bool.not_eq_true', Bool.not_eq_false', beq_iff_eq, beq_eq_false_iff_ne, bne_iff_ne, ne_eq] at hg; contradiction) | (simp only [hg]))))
    have hw : IntKind.i64.wrap (x + nodesE of[j]) = x + nodesE of[j] := by rw [IntKind.wrap_i64]; omega
    rw [hw] at H
    refine (ret_cell H 0 rfl rfl rfl rfl rfl rfl ?_).1
    exact .mk (p := (of[j], x + nodesE of[j])) (((H.drop 0 rfl).drop 0 rfl).weaken (fun h => h.2) (AR.stab _ _ _))
  by_cases h5 : k = 5
  · subst h5
    have hl : l.length ≤ 1000000 := Nat.le_trans (oneE_args hok.1 rfl) (by decide)
    have h0 : ∀ A c w, Calls Try.prog 55 #[.agg #[.int .i64 5, .string s, .int .i64 n, .int .u64 r, .int .u64 i, .slice A l.length c]] w (RetV w (.agg #[.int .i64 5, .string s, .int .i64 0, .int .u64 0, .int .u64 0, .slice none 0 0])) := fun A c w => by
      have := plainOne_spec 5 s n r i (.slice A l.length c) ⟨_, _, _, rfl⟩ w
      rw [show turnT varT (.mk 5 s n r i []) = .mk 5 s 0 0 0 [] by simp [turnT, turnL]] at this
      exact this
    have hks : ∀ u ∈ l, okT u := fun u hu => okL_mem' (hok.2 rfl) hu
    have e : mapE of (.mk 5 s n r i l) x = (.mk 5 s 0 0 0 (mapL of l (x + 1)).1, (mapL of l (x + 1)).2) := by unfold mapE; rw [if_neg h2, if_neg hA1, if_pos rfl]
    rw [e]
    clear e hok hpos hA1
    go_enter Try.func40, Try.ntmps40
    go_wp2_with (first | ((with_reducible refine wpl_runx_d 3 rfl ?_ ?_); (focus exact rfl); refine ⟨_, runs_box H rfl rfl, ?_⟩; clear H; rintro _ w ⟨b3, rfl, hE, H⟩; clear hE) | ((with_reducible refine wpl_runx_d 6 rfl ?_ ?_); (focus exact rfl); refine ⟨_, runs_alloc H rfl rfl rfl, ?_⟩; clear H; rintro _ w ⟨b6, rfl, hE, H⟩; clear hE) | ((with_reducible refine wpl_runx_d 7 rfl ?_ ?_); (focus exact rfl); refine ⟨_, runs_alloc H rfl rfl rfl, ?_⟩; clear H; rintro _ w ⟨b7, rfl, hE, H⟩; clear hE) | ((with_reducible refine wpl_runx_d 9 rfl ?_ ?_); (focus exact rfl); refine ⟨_, runs_alloc H rfl rfl rfl, ?_⟩; clear H; rintro _ w ⟨b9, rfl, hE, H⟩; clear hE) | ((with_reducible refine wpl_runx_d 64 rfl ?_ ?_); (focus exact rfl); refine ⟨_, by apply runs_buildSlice H; iterate 10 rfl, ?_⟩; clear H; rintro _ w ⟨b64, rfl, hE, H⟩; clear hE) | ((with_reducible refine wpl_runx ?_ ?_); (focus exact rfl); refine ⟨_, runs_load H 0 rfl rfl rfl rfl rfl, ?_⟩; rintro _ _ ⟨rfl, rfl⟩) | ((with_reducible refine wpl_runx ?_ ?_); (focus exact rfl); refine ⟨_, runs_load H 1 rfl rfl rfl rfl rfl, ?_⟩; rintro _ _ ⟨rfl, rfl⟩) | ((with_reducible refine wpl_runx ?_ ?_); (focus exact rfl); refine ⟨_, runs_load H 2 rfl rfl rfl rfl rfl, ?_⟩; rintro _ _ ⟨rfl, rfl⟩) | ((with_reducible refine wpl_runx ?_ ?_); (focus exact rfl); refine ⟨_, runs_load H 3 rfl rfl rfl rfl rfl, ?_⟩; rintro _ _ ⟨rfl, rfl⟩) | ((with_reducible refine wpl_runx ?_ ?_); (focus exact rfl); refine ⟨_, runs_load H 4 rfl rfl rfl rfl rfl, ?_⟩; rintro _ _ ⟨rfl, rfl⟩) | ((with_reducible refine wpl_runx ?_ ?_); (focus exact rfl); refine ⟨_, runs_load_cell H rfl rfl rfl rfl, ?_⟩; rintro _ _ ⟨rfl, rfl⟩) | ((with_reducible refine wpl_runx ?_ ?_); (focus exact rfl); refine ⟨_, runs_load_cell0 H rfl rfl rfl rfl, ?_⟩; rintro _ _ ⟨rfl, rfl⟩) | ((with_reducible refine wpl_runx ?_ ?_); (focus exact rfl); refine ⟨_, runs_load_obj H rfl rfl rfl rfl, ?_⟩; rintro _ _ ⟨rfl, rfl⟩) | ((with_reducible refine wpl_runx ?_ ?_); (focus exact rfl); refine ⟨_, runs_store H 0 rfl rfl rfl rfl rfl rfl rfl rfl rfl, ?_⟩; clear H; rintro _ w ⟨rfl, hE, H⟩; clear hE) | ((with_reducible refine wpl_runx ?_ ?_); (focus exact rfl); refine ⟨_, runs_store H 1 rfl rfl rfl rfl rfl rfl rfl rfl rfl, ?_⟩; clear H; rintro _ w ⟨rfl, hE, H⟩; clear hE) | ((with_reducible refine wpl_runx ?_ ?_); (focus exact rfl); refine ⟨_, runs_store H 2 rfl rfl rfl rfl rfl rfl rfl rfl rfl, ?_⟩; clear H; rintro _ w ⟨rfl, hE, H⟩; clear hE) | ((with_reducible refine wpl_runx ?_ ?_); (focus exact rfl); refine ⟨_, runs_store H 3 rfl rfl rfl rfl rfl rfl rfl rfl rfl, ?_⟩; clear H; rintro _ w ⟨rfl, hE, H⟩; clear hE) | ((with_reducible refine wpl_runx ?_ ?_); (focus exact rfl); refine ⟨_, runs_store H 4 rfl rfl rfl rfl rfl rfl rfl rfl rfl, ?_⟩; clear H; rintro _ w ⟨rfl, hE, H⟩; clear hE) | ((with_reducible refine Calls.mono (h0 _ _ _) ?_); rintro _ w ⟨rfl, hE⟩; replace H := H.step hE; clear hE) | ((with_reducible refine wpl_callX ?_); refine ⟨rfl, rfl, fun K hK => ?_⟩; go_simp; (first | (go_at_call 54; (with_reducible refine Calls.mono (rNodes_c H _ _ _ _ _ _ _ _ _ ?_ ?_) ?_); (focus (first | with_reducible rfl | rfl | simp)); (focus ((try simp only [Tm.eta]); (first | assumption | (apply slim_of_slimA; assumption) | exact slimA_plain _ | exact slimA_rename _ | exact slim_plain _ | exact slim_rename _ | exact slimA_var _ | exact slimA_more _ _ | exact slimA_rmore _ _ | exact slimA_expand _ _ | exact slimA_rexpand _ _ | (simp [slim, slimL, slimA, slimAL]; done)))); intro e w h; (try simp only [Tm.eta] at h); obtain ⟨rfl, hE⟩ := h; replace H := H.step hE; clear hE)); refine hK _ _ ?_; clear hK K; (try simp only [Act.put, List.setIfInBounds_toArray, List.set_cons_succ, List.set_cons_zero])) | ((with_reducible refine wpl_pureX ?_); refine ⟨rfl, rfl, ?_⟩; apply Exists.intro; apply And.intro; (focus (intro w; go_simp; (try with_reducible rfl); done)); (try simp only [Act.put, List.setIfInBounds_toArray, List.set_cons_succ, List.set_cons_zero])) | ((fail_if_success ((with_reducible refine wpl_runx ?_ ?_); (focus exact rfl))); ((with_reducible refine wpl_gcaseE ?_); refine ⟨_, rfl, ?_, ?_⟩) <;> (intro hg; first | (simp only [reduceCtorEq] at hg; done) | contradiction | ((with_reducible have hx := eq_of_beq hg); contradiction) | ((with_reducible have hx := ne_of_beq_false hg); contradiction) | ((with_reducible have hx := bne_iff_ne.1 hg); contradiction) | ((with_reducible have hx := bne_eq_false_iff_eq.1 hg); contradiction) | ((with_reducible have hx := of_decide_eq_true hg); first | contradiction | omega) | ((with_reducible have hx := of_decide_eq_false hg); first | contradiction | omega) | (simp only [Bool.not_eq_true', Bool.not_eq_false', beq_iff_eq, beq_eq_false_iff_ne, bne_iff_ne, ne_eq] at hg; contradiction) | (simp only [hg]))))
    replace H := (H.nilRow 25 6)
    go_loopw [54] (fun iv wr => ∃ (j : Nat) (v : Value) (xs : List Value), j ≤ l.length ∧ iv = .int .i64 j ∧
      St M [b] w0 wr [.row v (mapL of (l.take j) (x + 1)).1.length xs 25 6, .obj b7 (.cells #[.int .i64 5, .string s, .int .i64 0, .int .u64 0, .int .u64 0, v] 25 (0, 0)), .obj b6 (.cells #[.int .i64 0, .string ⟨#[]⟩, .int .i64 0, .int .u64 0, .int .u64 0, .slice none 0 0] 25 (0, 0)), .obj b3 (.cells #[.int .i64 5, .string s, .int .i64 n, .int .u64 r, .int .u64 i, .slice A l.length c] 25 (0, 0)), .obj b (.cells #[.int .i64 (mapL of (l.take j) (x + 1)).2] 3 (0, 0))] fun M w => (AR A c l M w ∧ AR Ao co of M w) ∧ TsR xs (mapL of (l.take j) (x + 1)).1 M w) (fun iv _ => l.length - (intOf iv).toNat)
    case atStart => exact ⟨0, _, [], Nat.zero_le _, rfl, H.weaken (fun h => ⟨h, TsR.nil _ _⟩) (((AR.stab _ _ _).and (AR.stab _ _ _)).and (TsR.stab _ _))⟩
    case round =>
      clear H
      obtain ⟨j, v, xs, hj, rfl, H⟩ := hrel
      obtain ⟨y0, y1⟩ := mapL_bd of (l.take j) (x + 1) (by omega) (by omega)
      have hml := mapL_len of (l.take j) (x + 1)
      have hsn : ∀ hlt : j < l.length, mapL of (l.take (j + 1)) (x + 1) = ((mapL of (l.take j) (x + 1)).1 ++ [(mapE of l[j] (mapL of (l.take j) (x + 1)).2).1], (mapE of l[j] (mapL of (l.take j) (x + 1)).2).2) := fun hlt => by rw [List.take_succ_eq_append_getElem hlt, mapL_snoc]
      by_cases hlt : j < l.length
      · replace hsn := Lib.hid (hsn hlt)
        obtain ⟨⟨os, y⟩, hy⟩ : ∃ p, mapL of (l.take j) (x + 1) = p := ⟨_, rfl⟩
        rw [hy] at H hsn y0 y1 hml
        clear hy
        simp only at H hsn y0 y1 hml
        rw [List.length_take, Nat.min_eq_left hj] at hml
        obtain ⟨bb, o, A', c', rfl, hbm, hbl, hcs, hA'⟩ := H.fact.1.1.at j hlt
        have C1 : CellF bb (o + j * 6) _ _ _ := ⟨hbm, hbl, hcs⟩
        replace H := (H.add C1 (CellF.stab _ _ _)).add hA' (AR.stab _ _ _)
        clear hbm hbl hcs hA' C1
        have hb7 := hks _ (List.getElem_mem hlt)
        go_wp2_with (first | ((with_reducible refine wpl_runx_d 3 rfl ?_ ?_); (focus exact rfl); refine ⟨_, runs_box H rfl rfl, ?_⟩; clear H; rintro _ w ⟨b3, rfl, hE, H⟩; clear hE) | ((with_reducible refine wpl_runx_d 6 rfl ?_ ?_); (focus exact rfl); refine ⟨_, runs_alloc H rfl rfl rfl, ?_⟩; clear H; rintro _ w ⟨b6, rfl, hE, H⟩; clear hE) | ((with_reducible refine wpl_runx_d 7 rfl ?_ ?_); (focus exact rfl); refine ⟨_, runs_alloc H rfl rfl rfl, ?_⟩; clear H; rintro _ w ⟨b7, rfl, hE, H⟩; clear hE) | ((with_reducible refine wpl_runx_d 9 rfl ?_ ?_); (focus exact rfl); refine ⟨_, runs_alloc H rfl rfl rfl, ?_⟩; clear H; rintro _ w ⟨b9, rfl, hE, H⟩; clear hE) | ((with_reducible refine wpl_runx_d 64 rfl ?_ ?_); (focus exact rfl); refine ⟨_, by apply runs_buildSlice H; iterate 10 rfl, ?_⟩; clear H; rintro _ w ⟨b64, rfl, hE, H⟩; clear hE) | ((with_reducible refine wpl_runx ?_ ?_); (focus exact rfl); refine ⟨_, runs_load H 0 rfl rfl rfl rfl rfl, ?_⟩; rintro _ _ ⟨rfl, rfl⟩) | ((with_reducible refine wpl_runx ?_ ?_); (focus exact rfl); refine ⟨_, runs_load H 1 rfl rfl rfl rfl rfl, ?_⟩; rintro _ _ ⟨rfl, rfl⟩) | ((with_reducible refine wpl_runx ?_ ?_); (focus exact rfl); refine ⟨_, runs_load H 2 rfl rfl rfl rfl rfl, ?_⟩; rintro _ _ ⟨rfl, rfl⟩) | ((with_reducible refine wpl_runx ?_ ?_); (focus exact rfl); refine ⟨_, runs_load H 3 rfl rfl rfl rfl rfl, ?_⟩; rintro _ _ ⟨rfl, rfl⟩) | ((with_reducible refine wpl_runx ?_ ?_); (focus exact rfl); refine ⟨_, runs_load H 4 rfl rfl rfl rfl rfl, ?_⟩; rintro _ _ ⟨rfl, rfl⟩) | ((with_reducible refine wpl_runx ?_ ?_); (focus exact rfl); refine ⟨_, runs_load H 5 rfl rfl rfl rfl rfl, ?_⟩; rintro _ _ ⟨rfl, rfl⟩) | ((with_reducible refine wpl_runx ?_ ?_); (focus exact rfl); refine ⟨_, runs_load H 6 rfl rfl rfl rfl rfl, ?_⟩; rintro _ _ ⟨rfl, rfl⟩) | ((with_reducible refine wpl_runx ?_ ?_); (focus exact rfl); refine ⟨_, runs_load_cell H rfl rfl rfl rfl, ?_⟩; rintro _ _ ⟨rfl, rfl⟩) | ((with_reducible refine wpl_runx ?_ ?_); (focus exact rfl); refine ⟨_, runs_load_cell0 H rfl rfl rfl rfl, ?_⟩; rintro _ _ ⟨rfl, rfl⟩) | ((with_reducible refine wpl_runx ?_ ?_); (focus exact rfl); refine ⟨_, runs_load_obj H rfl rfl rfl rfl, ?_⟩; rintro _ _ ⟨rfl, rfl⟩) | ((with_reducible refine wpl_runx ?_ ?_); (focus exact rfl); refine ⟨_, runs_store H 0 rfl rfl rfl rfl rfl rfl rfl rfl rfl, ?_⟩; clear H; rintro _ w ⟨rfl, hE, H⟩; clear hE) | ((with_reducible refine wpl_runx ?_ ?_); (focus exact rfl); refine ⟨_, runs_store H 1 rfl rfl rfl rfl rfl rfl rfl rfl rfl, ?_⟩; clear H; rintro _ w ⟨rfl, hE, H⟩; clear hE) | ((with_reducible refine wpl_runx ?_ ?_); (focus exact rfl); refine ⟨_, runs_store H 2 rfl rfl rfl rfl rfl rfl rfl rfl rfl, ?_⟩; clear H; rintro _ w ⟨rfl, hE, H⟩; clear hE) | ((with_reducible refine wpl_runx ?_ ?_); (focus exact rfl); refine ⟨_, runs_store H 3 rfl rfl rfl rfl rfl rfl rfl rfl rfl, ?_⟩; clear H; rintro _ w ⟨rfl, hE, H⟩; clear hE) | ((with_reducible refine wpl_runx ?_ ?_); (focus exact rfl); refine ⟨_, runs_store H 4 rfl rfl rfl rfl rfl rfl rfl rfl rfl, ?_⟩; clear H; rintro _ w ⟨rfl, hE, H⟩; clear hE) | ((with_reducible refine wpl_runx ?_ ?_); (focus exact rfl); refine ⟨_, runs_store H 5 rfl rfl rfl rfl rfl rfl rfl rfl rfl, ?_⟩; clear H; rintro _ w ⟨rfl, hE, H⟩; clear hE) | ((with_reducible refine wpl_runx ?_ ?_); (focus exact rfl); refine ⟨_, runs_store H 6 rfl rfl rfl rfl rfl rfl rfl rfl rfl, ?_⟩; clear H; rintro _ w ⟨rfl, hE, H⟩; clear hE) | ((with_reducible refine wpl_callX ?_); refine ⟨rfl, rfl, fun K hK => ?_⟩; go_simp; (first | (go_at_call 54; (with_reducible refine Calls.mono (rNodes_c H _ _ _ _ _ _ _ _ _ ?_ ?_) ?_); (focus (first | with_reducible rfl | rfl | simp)); (focus ((try simp only [Tm.eta]); (first | assumption | (apply slim_of_slimA; assumption) | exact slimA_plain _ | exact slimA_rename _ | exact slim_plain _ | exact slim_rename _ | exact slimA_var _ | exact slimA_more _ _ | exact slimA_rmore _ _ | exact slimA_expand _ _ | exact slimA_rexpand _ _ | (simp [slim, slimL, slimA, slimAL]; done)))); intro e w h; (try simp only [Tm.eta] at h); obtain ⟨rfl, hE⟩ := h; replace H := H.step hE; clear hE)); refine hK _ _ ?_; clear hK K; (try simp only [Act.put, List.setIfInBounds_toArray, List.set_cons_succ, List.set_cons_zero])) | ((with_reducible refine wpl_pureX ?_); refine ⟨rfl, rfl, ?_⟩; apply Exists.intro; apply And.intro; (focus (intro w; go_simp; (try with_reducible rfl); done)); (try simp only [Act.put, List.setIfInBounds_toArray, List.set_cons_succ, List.set_cons_zero])) | ((fail_if_success ((with_reducible refine wpl_runx ?_ ?_); (focus exact rfl))); ((with_reducible refine wpl_gcaseE ?_); refine ⟨_, rfl, ?_, ?_⟩) <;> (intro hg; first | (simp only [reduceCtorEq] at hg; done) | contradiction | ((with_reducible have hx := eq_of_beq hg); contradiction) | ((with_reducible have hx := ne_of_beq_false hg); contradiction) | ((with_reducible have hx := bne_iff_ne.1 hg); contradiction) | ((with_reducible have hx := bne_eq_false_iff_eq.1 hg); contradiction) | ((with_reducible have hx := of_decide_eq_true hg); first | contradiction | omega) | ((with_reducible have hx := of_decide_eq_false hg); first | contradiction | omega) | (simp only [Bool.not_eq_true', Bool.not_eq_false', beq_iff_eq, beq_eq_false_iff_ne, bne_iff_ne, ne_eq] at hg; contradiction) | (simp only [hg]))))
        refine wp_region_st H [b] [[], [0], [], [], [], [2, 3, 4], [2, 3, 4, 5], [0, 1, 2, 3, 4, 5, 6], [0, 1, 2, 3, 4, 5, 6, 7], [0, 1, 2, 3, 4, 5, 6, 7, 8]] [1, 2] [0, 1, 2, 3, 4, 8] [0, 1, 2, 3, 4, 5, 6, 7, 8, 9] (by kernel_rfl) (by kernel_rfl) (fun d v c a w h => by cases d <;> exact h) ?_
        clear H
        intro w H
        have HS := Ext.refl [b] w
        have H0 := H
        refine plan_pure (v := ?pv1) rfl (by decide) (by decide) rfl ?ph1 ?_
        case ph1 => (intro w; go_simp; try with_reducible rfl)
        (try simp only [Act.put, List.setIfInBounds_toArray, List.set_cons_succ, List.set_cons_zero])
        refine plan_load_open H0 HS 2 rfl (ids_apart 2 5 H0.nodup rfl rfl (by decide) _ (by simp [Res.ids])) rfl (by decide) (by decide) rfl rfl rfl rfl rfl ?_
        (try simp only [Act.put, List.setIfInBounds_toArray, List.set_cons_succ, List.set_cons_zero])
        refine plan_load_open H0 HS 0 rfl (ids_apart 0 5 H0.nodup rfl rfl (by decide) _ (by simp [Res.ids])) rfl (by decide) (by decide) rfl rfl rfl rfl rfl ?_
        (try simp only [Act.put, List.setIfInBounds_toArray, List.set_cons_succ, List.set_cons_zero])
        refine plan_pure (v := ?pv2) rfl (by decide) (by decide) rfl ?ph2 ?_
        case ph2 => (intro w; go_simp; try with_reducible rfl)
        (try simp only [Act.put, List.setIfInBounds_toArray, List.set_cons_succ, List.set_cons_zero])
        refine plan_pure (v := ?pv3) rfl (by decide) (by decide) rfl ?ph3 ?_
        case ph3 => (intro w; go_simp; try with_reducible rfl)
        (try simp only [Act.put, List.setIfInBounds_toArray, List.set_cons_succ, List.set_cons_zero])
        refine plan_op rfl (by decide) rfl (fun K hK => ?_)
        go_simp
        (refine (IH'.out l[j] (List.getElem_mem hlt) y _ _ _ _ hb7 (by omega) (by omega) (H.restLt 5 rfl) (H.get (k := 5) rfl) (H.rest (k := 5) rfl).2 (H.rest (k := 5) rfl).1.1.1.2).mono ?_; rintro _ w ⟨h⟩; replace HS := HS.trans h.ext; replace H := H.callF 5 rfl h (fun r => rfl); clear h)
        refine hK _ _ (fun _ => HS) ?_
        clear hK K
        (try simp only [Act.put, List.setIfInBounds_toArray, List.set_cons_succ, List.set_cons_zero])
        refine plan_step rfl (by decide) rfl ⟨_, by apply runs_buildSlice H; iterate 10 rfl, ?_⟩
        clear H
        rintro _ w ⟨b64, rfl, hE, H⟩
        replace HS := HS.trans hE.any
        clear hE
        refine ⟨fun _ => HS, ?_⟩
        (try simp only [Act.put, List.setIfInBounds_toArray, List.set_cons_succ, List.set_cons_zero])
        refine plan_step rfl (by decide) rfl ⟨_, runs_append1 H 2 rfl rfl rfl rfl rfl Try.infoT rfl (by decide) 0 rfl rfl rfl (by decide) (by unfold maxLen; omega) (by omega) (fun r => rfl), ?_⟩
        (clear H; rintro _ w ⟨g', cap', rfl, hE, H⟩; clear hE)
        refine ⟨(fun h => absurd h (by decide)), ?_⟩
        (try simp only [Act.put, List.setIfInBounds_toArray, List.set_cons_succ, List.set_cons_zero])
        refine plan_pure (v := ?pv4) rfl (by decide) (by decide) rfl ?ph4 ?_
        case ph4 => (intro w; go_simp; try with_reducible rfl)
        (try simp only [Act.put, List.setIfInBounds_toArray, List.set_cons_succ, List.set_cons_zero])
        first | (refine plan_step rfl (by decide) rfl ⟨_, runs_store H 0 rfl rfl rfl rfl rfl rfl rfl rfl rfl, ?_⟩; clear H; rintro _ w ⟨rfl, hE, H⟩) | (refine plan_step rfl (by decide) rfl ⟨_, runs_store H 1 rfl rfl rfl rfl rfl rfl rfl rfl rfl, ?_⟩; clear H; rintro _ w ⟨rfl, hE, H⟩) | (refine plan_step rfl (by decide) rfl ⟨_, runs_store H 2 rfl rfl rfl rfl rfl rfl rfl rfl rfl, ?_⟩; clear H; rintro _ w ⟨rfl, hE, H⟩) | (refine plan_step rfl (by decide) rfl ⟨_, runs_store H 3 rfl rfl rfl rfl rfl rfl rfl rfl rfl, ?_⟩; clear H; rintro _ w ⟨rfl, hE, H⟩) | (refine plan_step rfl (by decide) rfl ⟨_, runs_store H 4 rfl rfl rfl rfl rfl rfl rfl rfl rfl, ?_⟩; clear H; rintro _ w ⟨rfl, hE, H⟩) | (refine plan_step rfl (by decide) rfl ⟨_, runs_store H 5 rfl rfl rfl rfl rfl rfl rfl rfl rfl, ?_⟩; clear H; rintro _ w ⟨rfl, hE, H⟩) | (refine plan_step rfl (by decide) rfl ⟨_, runs_store H 6 rfl rfl rfl rfl rfl rfl rfl rfl rfl, ?_⟩; clear H; rintro _ w ⟨rfl, hE, H⟩) | (refine plan_step rfl (by decide) rfl ⟨_, runs_store H 7 rfl rfl rfl rfl rfl rfl rfl rfl rfl, ?_⟩; clear H; rintro _ w ⟨rfl, hE, H⟩)
        clear hE
        refine ⟨(fun h => absurd h (by decide)), ?_⟩
        (try simp only [Act.put, List.setIfInBounds_toArray, List.set_cons_succ, List.set_cons_zero])
        refine plan_nil ?_
        clear H0 HS
        go_wp2
        go_roundw
        case rel =>
          have q1 : (mapL of (l.take (j + 1)) (x + 1)).1 = os ++ [(mapE of l[j] y).1] := by rw [hsn.out]
          have q2 : (mapL of (l.take (j + 1)) (x + 1)).2 = (mapE of l[j] y).2 := by rw [hsn.out]
          have q3 : (mapL of (l.take (j + 1)) (x + 1)).1.length = os.length + 1 := by rw [q1]; simp
          have H9 := (((H.drop 0 rfl).drop 0 rfl).weaken (fun h => And.intro h.1.1.1.1 (TsR.snocT h.1.1.1.2 h.2)) (((AR.stab _ _ _).and (AR.stab _ _ _)).and (TsR.stab _ _)))
          try simp only at H9
          rw [← q1, ← q2, ← q3] at H9
          exact ⟨j + 1, _, _, by omega, by go_num, H9⟩
        case measure => simp [intOf]; omega
      · obtain rfl : j = l.length := by omega
        clear hsn
        rw [List.take_length] at H hml
        have hvX : ∀ c ∈ v.ownBlock.toList, c ∉ [b] := by
          intro c' hc hm
          simp only [List.mem_singleton] at hm
          subst hm
          have hnd := H.nodup
          simp only [idsOf, Res.ids, List.flatMap_cons, List.flatMap_nil, List.nodup_append] at hnd
          exact absurd rfl (hnd.2.2 _ hc _ (by simp))
        obtain ⟨A3, c3, rfl, H⟩ := H.sealTX 0 (l := (mapL of l (x + 1)).1) rfl hvX (fun M w h => h.2)
        simp only [List.eraseIdx_cons_zero] at H
        go_wp2_with (first | ((with_reducible refine wpl_runx_d 3 rfl ?_ ?_); (focus exact rfl); refine ⟨_, runs_box H rfl rfl, ?_⟩; clear H; rintro _ w ⟨b3, rfl, hE, H⟩; clear hE) | ((with_reducible refine wpl_runx_d 6 rfl ?_ ?_); (focus exact rfl); refine ⟨_, runs_alloc H rfl rfl rfl, ?_⟩; clear H; rintro _ w ⟨b6, rfl, hE, H⟩; clear hE) | ((with_reducible refine wpl_runx_d 7 rfl ?_ ?_); (focus exact rfl); refine ⟨_, runs_alloc H rfl rfl rfl, ?_⟩; clear H; rintro _ w ⟨b7, rfl, hE, H⟩; clear hE) | ((with_reducible refine wpl_runx_d 9 rfl ?_ ?_); (focus exact rfl); refine ⟨_, runs_alloc H rfl rfl rfl, ?_⟩; clear H; rintro _ w ⟨b9, rfl, hE, H⟩; clear hE) | ((with_reducible refine wpl_runx_d 64 rfl ?_ ?_); (focus exact rfl); refine ⟨_, by apply runs_buildSlice H; iterate 10 rfl, ?_⟩; clear H; rintro _ w ⟨b64, rfl, hE, H⟩; clear hE) | ((with_reducible refine wpl_runx ?_ ?_); (focus exact rfl); refine ⟨_, runs_load H 0 rfl rfl rfl rfl rfl, ?_⟩; rintro _ _ ⟨rfl, rfl⟩) | ((with_reducible refine wpl_runx ?_ ?_); (focus exact rfl); refine ⟨_, runs_load H 1 rfl rfl rfl rfl rfl, ?_⟩; rintro _ _ ⟨rfl, rfl⟩) | ((with_reducible refine wpl_runx ?_ ?_); (focus exact rfl); refine ⟨_, runs_load H 2 rfl rfl rfl rfl rfl, ?_⟩; rintro _ _ ⟨rfl, rfl⟩) | ((with_reducible refine wpl_runx ?_ ?_); (focus exact rfl); refine ⟨_, runs_load H 3 rfl rfl rfl rfl rfl, ?_⟩; rintro _ _ ⟨rfl, rfl⟩) | ((with_reducible refine wpl_runx ?_ ?_); (focus exact rfl); refine ⟨_, runs_load H 4 rfl rfl rfl rfl rfl, ?_⟩; rintro _ _ ⟨rfl, rfl⟩) | ((with_reducible refine wpl_runx ?_ ?_); (focus exact rfl); refine ⟨_, runs_load_cell H rfl rfl rfl rfl, ?_⟩; rintro _ _ ⟨rfl, rfl⟩) | ((with_reducible refine wpl_runx ?_ ?_); (focus exact rfl); refine ⟨_, runs_load_cell0 H rfl rfl rfl rfl, ?_⟩; rintro _ _ ⟨rfl, rfl⟩) | ((with_reducible refine wpl_runx ?_ ?_); (focus exact rfl); refine ⟨_, runs_load_obj H rfl rfl rfl rfl, ?_⟩; rintro _ _ ⟨rfl, rfl⟩) | ((with_reducible refine wpl_runx ?_ ?_); (focus exact rfl); refine ⟨_, runs_store H 0 rfl rfl rfl rfl rfl rfl rfl rfl rfl, ?_⟩; clear H; rintro _ w ⟨rfl, hE, H⟩; clear hE) | ((with_reducible refine wpl_runx ?_ ?_); (focus exact rfl); refine ⟨_, runs_store H 1 rfl rfl rfl rfl rfl rfl rfl rfl rfl, ?_⟩; clear H; rintro _ w ⟨rfl, hE, H⟩; clear hE) | ((with_reducible refine wpl_runx ?_ ?_); (focus exact rfl); refine ⟨_, runs_store H 2 rfl rfl rfl rfl rfl rfl rfl rfl rfl, ?_⟩; clear H; rintro _ w ⟨rfl, hE, H⟩; clear hE) | ((with_reducible refine wpl_runx ?_ ?_); (focus exact rfl); refine ⟨_, runs_store H 3 rfl rfl rfl rfl rfl rfl rfl rfl rfl, ?_⟩; clear H; rintro _ w ⟨rfl, hE, H⟩; clear hE) | ((with_reducible refine wpl_runx ?_ ?_); (focus exact rfl); refine ⟨_, runs_store H 4 rfl rfl rfl rfl rfl rfl rfl rfl rfl, ?_⟩; clear H; rintro _ w ⟨rfl, hE, H⟩; clear hE) | ((with_reducible refine wpl_callX ?_); refine ⟨rfl, rfl, fun K hK => ?_⟩; go_simp; (first | (go_at_call 54; (with_reducible refine Calls.mono (rNodes_c H _ _ _ _ _ _ _ _ _ ?_ ?_) ?_); (focus (first | with_reducible rfl | rfl | simp)); (focus ((try simp only [Tm.eta]); (first | assumption | (apply slim_of_slimA; assumption) | exact slimA_plain _ | exact slimA_rename _ | exact slim_plain _ | exact slim_rename _ | exact slimA_var _ | exact slimA_more _ _ | exact slimA_rmore _ _ | exact slimA_expand _ _ | exact slimA_rexpand _ _ | (simp [slim, slimL, slimA, slimAL]; done)))); intro e w h; (try simp only [Tm.eta] at h); obtain ⟨rfl, hE⟩ := h; replace H := H.step hE; clear hE)); refine hK _ _ ?_; clear hK K; (try simp only [Act.put, List.setIfInBounds_toArray, List.set_cons_succ, List.set_cons_zero])) | ((with_reducible refine wpl_pureX ?_); refine ⟨rfl, rfl, ?_⟩; apply Exists.intro; apply And.intro; (focus (intro w; go_simp; (try with_reducible rfl); done)); (try simp only [Act.put, List.setIfInBounds_toArray, List.set_cons_succ, List.set_cons_zero])) | ((fail_if_success ((with_reducible refine wpl_runx ?_ ?_); (focus exact rfl))); ((with_reducible refine wpl_gcaseE ?_); refine ⟨_, rfl, ?_, ?_⟩) <;> (intro hg; first | (simp only [reduceCtorEq] at hg; done) | contradiction | ((with_reducible have hx := eq_of_beq hg); contradiction) | ((with_reducible have hx := ne_of_beq_false hg); contradiction) | ((with_reducible have hx := bne_iff_ne.1 hg); contradiction) | ((with_reducible have hx := bne_eq_false_iff_eq.1 hg); contradiction) | ((with_reducible have hx := of_decide_eq_true hg); first | contradiction | omega) | ((with_reducible have hx := of_decide_eq_false hg); first | contradiction | omega) | (simp only [Bool.not_eq_true', Bool.not_eq_false', beq_iff_eq, beq_eq_false_iff_ne, bne_iff_ne, ne_eq] at hg; contradiction) | (simp only [hg]))))
        refine (ret_cell H 1 rfl rfl rfl rfl rfl rfl ?_).1
        have := RMapd.mk (w0 := w0) (p := (.mk 5 s 0 0 0 (mapL of l (x + 1)).1, (mapL of l (x + 1)).2)) (A := A3) (c := c3) ((((H.drop 0 rfl).drop 0 rfl).drop 0 rfl).weaken (fun h => h.2) (AR.stab _ _ _))
        simpa [Tm.kind, Tm.name, Tm.int, Tm.re, Tm.im, Tm.args, hml] using this
  obtain ⟨P, hP⟩ : ∃ P, turnT varT (.mk k s n r i []) = P := ⟨_, rfl⟩
  have e5 : (k == 5) = false := by simpa using h5
  have hPa : P.args = [] := by
    rw [← hP]
    unfold turnT
    repeat' split
    all_goals rfl
  have h0 : ∀ A c w, Calls Try.prog 55 #[.agg #[.int .i64 k, .string s, .int .i64 n, .int .u64 r, .int .u64 i, .slice A l.length c]] w (RetZ w P) := fun A c w => by
    rw [← hP]
    exact plainOne_spec k s n r i (.slice A l.length c) ⟨_, _, _, rfl⟩ w
  have e : mapE of (.mk k s n r i l) x = (P, x + 1) := by unfold mapE; rw [if_neg h2, if_neg hA1, if_neg h5, hP]
  rw [e]
  clear e hP hok hpos
  have hc : (k == 1) = false ∨ ((k == 1) = true ∧ decide (n < (of.length : Int)) = false) := by
    by_cases q : k = 1
    · exact .inr ⟨by simpa using q, by simp only [decide_eq_false_iff_not]; exact fun h => hA1 ⟨q, h⟩⟩
    · exact .inl (by simpa using q)
  rcases hc with g1 | ⟨g1, g2⟩
  all_goals
    go_enter Try.func40, Try.ntmps40
    go_wp2_with (first | ((with_reducible refine wpl_runx_d 3 rfl ?_ ?_); (focus exact rfl); refine ⟨_, runs_box H rfl rfl, ?_⟩; clear H; rintro _ w ⟨b3, rfl, hE, H⟩; clear hE) | ((with_reducible refine wpl_runx_d 6 rfl ?_ ?_); (focus exact rfl); refine ⟨_, runs_alloc H rfl rfl rfl, ?_⟩; clear H; rintro _ w ⟨b6, rfl, hE, H⟩; clear hE) | ((with_reducible refine wpl_runx_d 7 rfl ?_ ?_); (focus exact rfl); refine ⟨_, runs_alloc H rfl rfl rfl, ?_⟩; clear H; rintro _ w ⟨b7, rfl, hE, H⟩; clear hE) | ((with_reducible refine wpl_runx_d 9 rfl ?_ ?_); (focus exact rfl); refine ⟨_, runs_alloc H rfl rfl rfl, ?_⟩; clear H; rintro _ w ⟨b9, rfl, hE, H⟩; clear hE) | ((with_reducible refine wpl_runx_d 64 rfl ?_ ?_); (focus exact rfl); refine ⟨_, by apply runs_buildSlice H; iterate 10 rfl, ?_⟩; clear H; rintro _ w ⟨b64, rfl, hE, H⟩; clear hE) | ((with_reducible refine wpl_runx ?_ ?_); (focus exact rfl); refine ⟨_, runs_load H 0 rfl rfl rfl rfl rfl, ?_⟩; rintro _ _ ⟨rfl, rfl⟩) | ((with_reducible refine wpl_runx ?_ ?_); (focus exact rfl); refine ⟨_, runs_load H 1 rfl rfl rfl rfl rfl, ?_⟩; rintro _ _ ⟨rfl, rfl⟩) | ((with_reducible refine wpl_runx ?_ ?_); (focus exact rfl); refine ⟨_, runs_load H 2 rfl rfl rfl rfl rfl, ?_⟩; rintro _ _ ⟨rfl, rfl⟩) | ((with_reducible refine wpl_runx ?_ ?_); (focus exact rfl); refine ⟨_, runs_load H 3 rfl rfl rfl rfl rfl, ?_⟩; rintro _ _ ⟨rfl, rfl⟩) | ((with_reducible refine wpl_runx ?_ ?_); (focus exact rfl); refine ⟨_, runs_load H 4 rfl rfl rfl rfl rfl, ?_⟩; rintro _ _ ⟨rfl, rfl⟩) | ((with_reducible refine wpl_runx ?_ ?_); (focus exact rfl); refine ⟨_, runs_load_cell H rfl rfl rfl rfl, ?_⟩; rintro _ _ ⟨rfl, rfl⟩) | ((with_reducible refine wpl_runx ?_ ?_); (focus exact rfl); refine ⟨_, runs_load_cell0 H rfl rfl rfl rfl, ?_⟩; rintro _ _ ⟨rfl, rfl⟩) | ((with_reducible refine wpl_runx ?_ ?_); (focus exact rfl); refine ⟨_, runs_load_obj H rfl rfl rfl rfl, ?_⟩; rintro _ _ ⟨rfl, rfl⟩) | ((with_reducible refine wpl_runx ?_ ?_); (focus exact rfl); refine ⟨_, runs_store H 0 rfl rfl rfl rfl rfl rfl rfl rfl rfl, ?_⟩; clear H; rintro _ w ⟨rfl, hE, H⟩; clear hE) | ((with_reducible refine wpl_runx ?_ ?_); (focus exact rfl); refine ⟨_, runs_store H 1 rfl rfl rfl rfl rfl rfl rfl rfl rfl, ?_⟩; clear H; rintro _ w ⟨rfl, hE, H⟩; clear hE) | ((with_reducible refine wpl_runx ?_ ?_); (focus exact rfl); refine ⟨_, runs_store H 2 rfl rfl rfl rfl rfl rfl rfl rfl rfl, ?_⟩; clear H; rintro _ w ⟨rfl, hE, H⟩; clear hE) | ((with_reducible refine wpl_runx ?_ ?_); (focus exact rfl); refine ⟨_, runs_store H 3 rfl rfl rfl rfl rfl rfl rfl rfl rfl, ?_⟩; clear H; rintro _ w ⟨rfl, hE, H⟩; clear hE) | ((with_reducible refine wpl_runx ?_ ?_); (focus exact rfl); refine ⟨_, runs_store H 4 rfl rfl rfl rfl rfl rfl rfl rfl rfl, ?_⟩; clear H; rintro _ w ⟨rfl, hE, H⟩; clear hE) | ((with_reducible refine Calls.mono (h0 _ _ _) ?_); rintro _ w ⟨rfl, hE⟩; replace H := H.step hE; clear hE) | ((with_reducible refine wpl_callX ?_); refine ⟨rfl, rfl, fun K hK => ?_⟩; go_simp; (first | (go_at_call 54; (with_reducible refine Calls.mono (rNodes_c H _ _ _ _ _ _ _ _ _ ?_ ?_) ?_); (focus (first | with_reducible rfl | rfl | simp)); (focus ((try simp only [Tm.eta]); (first | assumption | (apply slim_of_slimA; assumption) | exact slimA_plain _ | exact slimA_rename _ | exact slim_plain _ | exact slim_rename _ | exact slimA_var _ | exact slimA_more _ _ | exact slimA_rmore _ _ | exact slimA_expand _ _ | exact slimA_rexpand _ _ | (simp [slim, slimL, slimA, slimAL]; done)))); intro e w h; (try simp only [Tm.eta] at h); obtain ⟨rfl, hE⟩ := h; replace H := H.step hE; clear hE)); refine hK _ _ ?_; clear hK K; (try simp only [Act.put, List.setIfInBounds_toArray, List.set_cons_succ, List.set_cons_zero])) | ((with_reducible refine wpl_pureX ?_); refine ⟨rfl, rfl, ?_⟩; apply Exists.intro; apply And.intro; (focus (intro w; go_simp; (try with_reducible rfl); done)); (try simp only [Act.put, List.setIfInBounds_toArray, List.set_cons_succ, List.set_cons_zero])) | ((fail_if_success ((with_reducible refine wpl_runx ?_ ?_); (focus exact rfl))); ((with_reducible refine wpl_gcaseE ?_); refine ⟨_, rfl, ?_, ?_⟩) <;> (intro hg; first | (simp only [reduceCtorEq] at hg; done) | contradiction | ((with_reducible have hx := eq_of_beq hg); contradiction) | ((with_reducible have hx := ne_of_beq_false hg); contradiction) | ((with_reducible have hx := bne_iff_ne.1 hg); contradiction) | ((with_reducible have hx := bne_eq_false_iff_eq.1 hg); contradiction) | ((with_reducible have hx := of_decide_eq_true hg); first | contradiction | omega) | ((with_reducible have hx := of_decide_eq_false hg); first | contradiction | omega) | (simp only [Bool.not_eq_true', Bool.not_eq_false', beq_iff_eq, beq_eq_false_iff_ne, bne_iff_ne, ne_eq] at hg; contradiction) | (simp only [hg]))))
    refine (ret_cell H 1 rfl rfl rfl rfl rfl rfl ?_).1
    have := RMapd.mk (p := (P, x + 1)) (A := none) (c := 0) ((((H.drop 0 rfl).drop 0 rfl).drop 0 rfl).weaken (fun h => by rw [hPa]; exact AR.nil _ _ _ _) (AR.stab _ _ _))
    simpa [hPa] using this
end Go.Proofs.Ytfjdekiobggdoaa
