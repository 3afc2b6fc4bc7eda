/- A table of operators in memory; walks that look at it: find, get, Prefix, Infix. -/
import Derived.Test.YthapmdlminnihaaOp2
import Derived.Test.YthapmdlminnihaaOpP
namespace Go.Proofs.Ythapmdlminnihaa
open Go.RowKit
set_option linter.unusedVariables false
set_option linter.unusedSimpArgs false
set_option maxRecDepth 20000
set_option maxHeartbeats 4000000
attribute [local irreducible] infE placeE mayO cmpO

theorem Try.tyTab : tyShape Try.prog 48 = some (true, 1) := by kernel_rfl
/-- A table: its cell holds a row of operators. -/
def tabH (T : TypeId) (bt : Nat) (v : Value) (l : List OpT) (w : World) : Prop := w.heap[bt]? = some (.cells #[v] T (0, 0)) ∧ w.ownsRow 0 32 3 v l.length (opsL l)
def tabR (T : TypeId) (bt : Nat) (v : Value) (l : List OpT) : Res :=
  .abs (bt :: v.ownBlock.toList) (tabH T bt v l) (fun w w' H h => ⟨(H bt (by simp)).trans h.1, Res.keep (r := .row v l.length (opsL l) 32 3) (w := w) h.2 (fun b hb => H b (List.mem_cons_of_mem _ hb))⟩)
    (fun w h b hb => by
      rcases List.mem_cons.1 hb with rfl | hb
      · exact (Array.getElem?_eq_some_iff.1 h.1).1
      · exact Res.lt (r := .row v l.length (opsL l) 32 3) (w := w) h.2 b hb)
theorem ids_tab (T : TypeId) (bt : Nat) (v : Value) (l : List OpT) : (tabR T bt v l).ids = bt :: v.ownBlock.toList := rfl
theorem St.openTab {M X : List Nat} {w0 w : World} {L : List Res} {F : List Nat → World → Prop} {T : TypeId} {bt : Nat} {v : Value} {l : List OpT} (H : St M X w0 w (tabR T bt v l :: L) F) :
    St M X w0 w (.obj bt (.cells #[v] T (0, 0)) :: .row v l.length (opsL l) 32 3 :: L) F := by
  have h : tabH T bt v l w := H.holds _ List.mem_cons_self
  refine H.conv (by simp [idsOf, Res.ids, tabR]) (fun r hr => ?_)
  rcases List.mem_cons.1 hr with rfl | hr
  · exact h.1
  · rcases List.mem_cons.1 hr with rfl | hr
    · exact h.2
    · exact H.holds r (List.mem_cons_of_mem _ hr)
theorem St.closeTab {M X : List Nat} {w0 w : World} {L : List Res} {F : List Nat → World → Prop} {T : TypeId} {bt : Nat} {v : Value} {n : Nat} {l : List OpT} (H : St M X w0 w (.obj bt (.cells #[v] T (0, 0)) :: .row v n (opsL l) 32 3 :: L) F) :
    St M X w0 w (tabR T bt v l :: L) F := by
  have h1 : w.heap[bt]? = some (.cells #[v] T (0, 0)) := H.holds _ List.mem_cons_self
  have h2 : w.ownsRow 0 32 3 v n (opsL l) := H.holds _ (List.mem_cons_of_mem _ List.mem_cons_self)
  have hn : n = l.length := by have := h2.1; rw [opsL_len] at this; omega
  subst hn
  refine H.conv (by simp [idsOf, Res.ids, tabR]) (fun r hr => ?_)
  rcases List.mem_cons.1 hr with rfl | hr
  · exact ⟨h1, h2⟩
  · exact H.holds r (List.mem_cons_of_mem _ (List.mem_cons_of_mem _ hr))
/-- What a look at a table shows. -/
theorem tab_look {T : TypeId} {bt : Nat} {v : Value} {l : List OpT} {w : World} (h : tabH T bt v l w) : ∃ A c, v = .slice A l.length c ∧ ObjF bt (.cells #[.slice A l.length c] T (0, 0)) [] w ∧ OR A c l [] w := by
  obtain ⟨A, c, rfl, hO⟩ := OR.ofRow (M := []) h.2 (by simp)
  exact ⟨A, c, rfl, ⟨h.1, by simp⟩, hO⟩
/-- A new thing, made by a callee. -/
theorem St.addNew {M N X : List Nat} {w0 w w' : World} {L : List Res} {F G : List Nat → World → Prop} {r : Res} (H : St M X w0 w L F) (h : St N [] w w' [r] G) : St M X w0 w' (r :: L) F where
  ext := H.ext.trans h.ext.any
  holds q hq := by
    rcases List.mem_cons.1 hq with rfl | hq
    · exact h.holds _ (by simp)
    · exact Res.keep (H.holds q hq) fun b hb => h.ext.block b (Res.lt (H.holds q hq) b hb) (by simp)
  nodup := by
    have e : idsOf (r :: L) = r.ids ++ idsOf L := rfl
    have hn : r.ids.Nodup := by have := h.nodup; simpa [idsOf] using this
    rw [e, List.nodup_append]
    refine ⟨hn, H.nodup, fun b hb c hc => ?_⟩
    rintro rfl
    have h1 := H.lt b hc
    rcases h.own b (by simpa [idsOf] using hb) with h2 | h2
    · cases h2
    · omega
  own b hb := by
    rcases List.mem_append.1 (show b ∈ r.ids ++ idsOf L from hb) with hb | hb
    · rcases h.own b (by simpa [idsOf] using hb) with h2 | h2
      · cases h2
      · exact .inr (Nat.le_trans H.ext.size h2)
    · exact H.own b hb
  low := H.low
  fact := by
    have h0 : F (idsOf L ++ M) w' := H.stab.ext _ _ _ h.ext.any H.fact
    have key : ∀ B : List Nat, (∀ b ∈ B, b ∈ idsOf L ++ M ∨ w.heap.size ≤ b) → F (B ++ (idsOf L ++ M)) w := by
      intro B
      induction B with
      | nil => intro _; exact H.fact
      | cons b B ih =>
        intro hB
        have h1 := ih fun c hc => hB c (by simp [hc])
        rcases hB b (by simp) with h2 | h2
        · exact H.stab.sub _ _ _ (fun c hc => by
            rcases List.mem_cons.1 hc with rfl | hc
            · exact List.mem_append_right _ h2
            · exact hc) h1
        · exact H.stab.fresh _ _ _ h2 h1
    have h2 := key r.ids (fun b hb => by
      rcases h.own b (by simpa [idsOf] using hb) with h2 | h2
      · cases h2
      · exact .inr h2)
    have h3 := H.stab.ext _ _ _ h.ext.any h2
    have e : idsOf (r :: L) ++ M = r.ids ++ (idsOf L ++ M) := by simp [idsOf]
    rw [e]
    exact h3
  stab := H.stab
/-- A table that a callee has changed. -/
theorem St.callTab {M N X : List Nat} {w0 w w' : World} {L : List Res} {F G : List Nat → World → Prop} {T : TypeId} {bt : Nat} {v v' : Value} {l l' : List OpT} (H : St M X w0 w L F) (k : Nat) (hk : L[k]? = some (tabR T bt v l)) (h : St N (bt :: v.ownBlock.toList) w w' [tabR T bt v' l'] G) {f : Res → List Res} (hL : ∀ r, setC L k r some = some (f r)) :
    St M X w0 w' (f (tabR T bt v' l')) F := by
  rw [← Option.some.inj (setC_spec _ _ _ _ (hL _))]
  refine H.swap hk h.ext (h.holds _ (by simp)) (by have := h.nodup; simpa [idsOf] using this) (fun b hb => ?_)
  exact h.own b (by simpa [idsOf] using hb)

theorem foundE_find {l : List OpT} (s : ByteArray) (b : Bool) : foundE l (lowE l s b).length s b = (findO l s b).isSome := by
  unfold foundE findO
  have e : l[(lowE l s b).length]? = (hiE l s b)[0]? := by
    have h := low_hi l s b
    calc l[(lowE l s b).length]? = (lowE l s b ++ hiE l s b)[(lowE l s b).length]? := by rw [h]
      _ = (hiE l s b)[0]? := by rw [List.getElem?_append_right (Nat.le_refl _), Nat.sub_self]
  rw [e]
  cases hiE l s b with
  | nil => rfl
  | cons x r =>
    simp only [List.getElem?_cons_zero]
    by_cases q : cmpO x s b = 0 <;> simp [q]
theorem find_spec (l : List OpT) (hs : SortO l) (hl : l.length ≤ 1000) (s : ByteArray) (b : Bool) (T : TypeId) (bt : Nat) (A : Option Addr) (c : Nat) (M : List Nat) (w0 : World) (hM : ∀ b ∈ M, b < w0.heap.size) (hO : ObjF bt (.cells #[.slice A l.length c] T (0, 0)) M w0) (hA : OR A c l M w0) :
    Calls Try.prog 30 #[.pointer (some ⟨bt, 0, none⟩), .string s, .bool b] w0 (RetV w0 (.tuple #[.int .i64 (lowE l s b).length, .bool (findO l s b).isSome])) := by
  have hbs := fun (bx : Nat) (ty : TypeId) (M : List Nat) (w0 : World) (hM : ∀ b ∈ M, b < w0.heap.size) (hO : ObjF bx (.cells #[.bool b] ty (0, 0)) M w0) (hA : OR A c l M w0) => bsf_spec l ⟨s, 0, 0⟩ b bx ty A c (lowE l s b).length (low_len l s b) low_at (hi_at hs) hl M w0 hM hO hA
  have e := foundE_find (l := l) s b
  replace e := Lib.hid e
  have H := St.start hM ((ObjF.stab bt (.cells #[.slice A l.length c] T (0, 0))).and (OR.stab A c l)) ⟨hO, hA⟩
  clear hO hA
  obtain ⟨k, hk⟩ : ∃ k, (lowE l s b).length = k := ⟨_, rfl⟩
  rw [hk]
  rw [hk] at hbs e
  obtain ⟨N, hN⟩ : ∃ N, l.length = N := ⟨_, rfl⟩
  rw [hN] at H hbs
  replace hbs := Lib.hid hbs
  clear hN hk hl
  go_enter Try.func30, Try.ntmps30
  go_wp2_with (first | ((with_reducible refine wpl_runx_d 5 rfl ?_ ?_); (focus exact rfl); refine ⟨_, runs_box H rfl rfl, ?_⟩; clear H; rintro _ w ⟨b5, rfl, hE, H⟩; clear hE) | ((with_reducible refine wpl_runx ?_ ?_); (focus exact rfl); refine ⟨_, runs_load H 0 rfl rfl rfl rfl rfl, ?_⟩; rintro _ _ ⟨rfl, rfl⟩) | ((with_reducible refine wpl_runx ?_ ?_); (focus exact rfl); refine ⟨_, runs_load H 1 rfl rfl rfl rfl rfl, ?_⟩; rintro _ _ ⟨rfl, rfl⟩) | ((with_reducible refine wpl_runx ?_ ?_); (focus exact rfl); refine ⟨_, runs_load_cell H rfl rfl rfl rfl, ?_⟩; rintro _ _ ⟨rfl, rfl⟩) | ((with_reducible refine wpl_runx ?_ ?_); (focus exact rfl); refine ⟨_, runs_load_cell0 H rfl rfl rfl rfl, ?_⟩; rintro _ _ ⟨rfl, rfl⟩) | ((with_reducible refine wpl_runx ?_ ?_); (focus exact rfl); refine ⟨_, runs_load_obj H rfl rfl rfl rfl, ?_⟩; rintro _ _ ⟨rfl, rfl⟩) | ((with_reducible refine wpl_runx ?_ ?_); (focus exact rfl); refine ⟨_, runs_store H 0 rfl rfl rfl rfl rfl rfl rfl rfl rfl, ?_⟩; clear H; rintro _ w ⟨rfl, hE, H⟩; clear hE) | ((with_reducible refine wpl_runx ?_ ?_); (focus exact rfl); refine ⟨_, runs_store H 1 rfl rfl rfl rfl rfl rfl rfl rfl rfl, ?_⟩; clear H; rintro _ w ⟨rfl, hE, H⟩; clear hE) | (go_at_call 35; replace H := H.sealObj 0 rfl; simp only [List.eraseIdx_cons_zero] at H; refine Calls.mono (hbs.out _ _ _ _ H.ltAll H.fact.2 H.fact.1.2) ?_; rintro _ w ⟨rfl, hE⟩; replace H := H.step hE; clear hE) | ((with_reducible refine wpl_pureX ?_); refine ⟨rfl, rfl, ?_⟩; apply Exists.intro; apply And.intro; (focus (intro w; go_simp; (try with_reducible rfl); done)); (try simp only [Act.put, List.setIfInBounds_toArray, List.set_cons_succ, List.set_cons_zero])) | ((fail_if_success ((with_reducible refine wpl_runx ?_ ?_); (focus exact rfl))); ((with_reducible refine wpl_gcaseE ?_); refine ⟨_, rfl, ?_, ?_⟩) <;> (intro hg; first | (simp only [reduceCtorEq] at hg; done) | contradiction | ((with_reducible have hx := eq_of_beq hg); contradiction) | ((with_reducible have hx := ne_of_beq_false hg); contradiction) | ((with_reducible have hx := bne_iff_ne.1 hg); contradiction) | ((with_reducible have hx := bne_eq_false_iff_eq.1 hg); contradiction) | ((with_reducible have hx := of_decide_eq_true hg); first | contradiction | omega) | ((with_reducible have hx := of_decide_eq_false hg); first | contradiction | omega) | (simp only [Bool.not_eq_true', Bool.not_eq_false', beq_iff_eq, beq_eq_false_iff_ne, bne_iff_ne, ne_eq] at hg; contradiction) | (simp only [hg]))))
  go_ret2
  exact ⟨by rw [e.out]; rfl, H.ext⟩
/-- An operator that is looked for, as get tells it. -/
def gotV (o : Option OpT) : Value := match o with
  | some x => .tuple #[.agg #[.string x.name, .int .i64 x.ty, .int .i64 x.pr], .bool true]
  | none => .tuple #[.agg #[.string ⟨#[]⟩, .int .i64 0, .int .i64 0], .bool false]
theorem OR.nil0 {A : Option Addr} {c : Nat} {l : List OpT} {M : List Nat} {w : World} (h : OR A c l M w) : OR A c l [] w := (OR.stab A c l).sub _ [] _ (fun _ h => by cases h) h
theorem get_spec0 (l : List OpT) (hs : SortO l) (hl : l.length ≤ 1000) (s : ByteArray) (b : Bool) (T : TypeId) (bt : Nat) (A : Option Addr) (c : Nat) (w0 : World) (hO : ObjF bt (.cells #[.slice A l.length c] T (0, 0)) [] w0) (hA : OR A c l [] w0) :
    Calls Try.prog 29 #[.pointer (some ⟨bt, 0, none⟩), .string s, .bool b] w0 (RetV w0 (gotV (findO l s b))) := by
  have hf := find_spec l hs hl s b T bt A c
  have H := St.start (M := []) (by simp) ((ObjF.stab bt (.cells #[.slice A l.length c] T (0, 0))).and (OR.stab A c l)) ⟨hO, hA⟩
  clear hO hA
  obtain ⟨G, hG⟩ : ∃ G, findO l s b = G := ⟨_, rfl⟩
  rw [hG] at hf ⊢
  cases G with
  | none =>
    obtain ⟨k, hk⟩ : ∃ k, (lowE l s b).length = k := ⟨_, rfl⟩
    obtain ⟨N, hN⟩ : ∃ N, l.length = N := ⟨_, rfl⟩
    rw [hk, hN] at hf
    rw [hN] at H
    replace hf := Lib.hid hf
    clear hG hk hN hl
    go_enter Try.func29, Try.ntmps29
    go_wp2_with (first | ((with_reducible refine wpl_runx_d 6 rfl ?_ ?_); (focus exact rfl); refine ⟨_, runs_alloc H rfl rfl rfl, ?_⟩; clear H; rintro _ w ⟨b6, rfl, hE, H⟩; clear hE) | ((with_reducible refine wpl_runx ?_ ?_); (focus exact rfl); refine ⟨_, runs_load H 0 rfl rfl rfl rfl rfl, ?_⟩; rintro _ _ ⟨rfl, rfl⟩) | ((with_reducible refine wpl_runx ?_ ?_); (focus exact rfl); refine ⟨_, runs_load H 1 rfl rfl rfl rfl rfl, ?_⟩; rintro _ _ ⟨rfl, rfl⟩) | ((with_reducible refine wpl_runx ?_ ?_); (focus exact rfl); refine ⟨_, runs_load_cell H rfl rfl rfl rfl, ?_⟩; rintro _ _ ⟨rfl, rfl⟩) | ((with_reducible refine wpl_runx ?_ ?_); (focus exact rfl); refine ⟨_, runs_load_cell0 H rfl rfl rfl rfl, ?_⟩; rintro _ _ ⟨rfl, rfl⟩) | ((with_reducible refine wpl_runx ?_ ?_); (focus exact rfl); refine ⟨_, runs_load_obj H rfl rfl rfl rfl, ?_⟩; rintro _ _ ⟨rfl, rfl⟩) | ((with_reducible refine wpl_runx ?_ ?_); (focus exact rfl); refine ⟨_, runs_store H 0 rfl rfl rfl rfl rfl rfl rfl rfl rfl, ?_⟩; clear H; rintro _ w ⟨rfl, hE, H⟩; clear hE) | ((with_reducible refine wpl_runx ?_ ?_); (focus exact rfl); refine ⟨_, runs_store H 1 rfl rfl rfl rfl rfl rfl rfl rfl rfl, ?_⟩; clear H; rintro _ w ⟨rfl, hE, H⟩; clear hE) | (go_at_call 30; refine Calls.mono (hf.out _ _ H.ltAll H.fact.1 H.fact.2) ?_; rintro _ w ⟨rfl, hE⟩; replace H := H.step hE; clear hE) | ((with_reducible refine wpl_pureX ?_); refine ⟨rfl, rfl, ?_⟩; apply Exists.intro; apply And.intro; (focus (intro w; go_simp; (try with_reducible rfl); done)); (try simp only [Act.put, List.setIfInBounds_toArray, List.set_cons_succ, List.set_cons_zero])) | ((fail_if_success ((with_reducible refine wpl_runx ?_ ?_); (focus exact rfl))); ((with_reducible refine wpl_gcaseE ?_); refine ⟨_, rfl, ?_, ?_⟩) <;> (intro hg; first | (simp only [reduceCtorEq] at hg; done) | contradiction | ((with_reducible have hx := eq_of_beq hg); contradiction) | ((with_reducible have hx := ne_of_beq_false hg); contradiction) | ((with_reducible have hx := bne_iff_ne.1 hg); contradiction) | ((with_reducible have hx := bne_eq_false_iff_eq.1 hg); contradiction) | ((with_reducible have hx := of_decide_eq_true hg); first | contradiction | omega) | ((with_reducible have hx := of_decide_eq_false hg); first | contradiction | omega) | (simp only [Bool.not_eq_true', Bool.not_eq_false', beq_iff_eq, beq_eq_false_iff_ne, bne_iff_ne, ne_eq] at hg; contradiction) | (simp only [hg]))))
    refine ret_ct H 0 rfl rfl rfl rfl rfl rfl rfl ?_
    exact ⟨rfl, H.ext⟩
  | some x =>
    obtain ⟨r, hr⟩ : ∃ r, hiE l s b = x :: r := by
      unfold findO at hG
      cases hh : hiE l s b with
      | nil => rw [hh] at hG; cases hG
      | cons y r =>
        rw [hh] at hG
        have hG : (if cmpO y s b = 0 then some y else none) = some x := hG
        split at hG
        · cases hG; exact ⟨r, rfl⟩
        · cases hG
    have hx : l[(lowE l s b).length]? = some x := by
      have h := low_hi l s b
      calc l[(lowE l s b).length]? = (lowE l s b ++ hiE l s b)[(lowE l s b).length]? := by rw [h]
        _ = some x := by rw [List.getElem?_append_right (Nat.le_refl _), Nat.sub_self, hr]; rfl
    obtain ⟨k, hk⟩ : ∃ k, (lowE l s b).length = k := ⟨_, rfl⟩
    obtain ⟨N, hN⟩ : ∃ N, l.length = N := ⟨_, rfl⟩
    rw [hk, hN] at hf
    rw [hk] at hx
    have hkN : k < N := by rw [← hN]; exact (List.getElem?_eq_some_iff.1 hx).1
    obtain ⟨b1, o1, rfl, C1⟩ := H.fact.2.at hx
    replace C1 : CellF b1 (o1 + k * 3) [.string x.name, .int .i64 x.ty, .int .i64 x.pr] _ _ := C1
    replace H := H.add C1 (CellF.stab _ _ _)
    rw [hN] at H
    replace hf := Lib.hid hf
    clear hG hk hN hl hr hx C1
    go_enter Try.func29, Try.ntmps29
    go_wp2_with (first | ((with_reducible refine wpl_runx_d 6 rfl ?_ ?_); (focus exact rfl); refine ⟨_, runs_alloc H rfl rfl rfl, ?_⟩; clear H; rintro _ w ⟨b6, rfl, hE, H⟩; clear hE) | ((with_reducible refine wpl_runx ?_ ?_); (focus exact rfl); refine ⟨_, runs_load H 0 rfl rfl rfl rfl rfl, ?_⟩; rintro _ _ ⟨rfl, rfl⟩) | ((with_reducible refine wpl_runx ?_ ?_); (focus exact rfl); refine ⟨_, runs_load H 1 rfl rfl rfl rfl rfl, ?_⟩; rintro _ _ ⟨rfl, rfl⟩) | ((with_reducible refine wpl_runx ?_ ?_); (focus exact rfl); refine ⟨_, runs_load_cell H rfl rfl rfl rfl, ?_⟩; rintro _ _ ⟨rfl, rfl⟩) | ((with_reducible refine wpl_runx ?_ ?_); (focus exact rfl); refine ⟨_, runs_load_cell0 H rfl rfl rfl rfl, ?_⟩; rintro _ _ ⟨rfl, rfl⟩) | ((with_reducible refine wpl_runx ?_ ?_); (focus exact rfl); refine ⟨_, runs_load_obj H rfl rfl rfl rfl, ?_⟩; rintro _ _ ⟨rfl, rfl⟩) | ((with_reducible refine wpl_runx ?_ ?_); (focus exact rfl); refine ⟨_, runs_store H 0 rfl rfl rfl rfl rfl rfl rfl rfl rfl, ?_⟩; clear H; rintro _ w ⟨rfl, hE, H⟩; clear hE) | ((with_reducible refine wpl_runx ?_ ?_); (focus exact rfl); refine ⟨_, runs_store H 1 rfl rfl rfl rfl rfl rfl rfl rfl rfl, ?_⟩; clear H; rintro _ w ⟨rfl, hE, H⟩; clear hE) | (go_at_call 30; refine Calls.mono (hf.out _ _ H.ltAll H.fact.1.1 H.fact.1.2) ?_; rintro _ w ⟨rfl, hE⟩; replace H := H.step hE; clear hE) | ((with_reducible refine wpl_pureX ?_); refine ⟨rfl, rfl, ?_⟩; apply Exists.intro; apply And.intro; (focus (intro w; go_simp; (try with_reducible rfl); done)); (try simp only [Act.put, List.setIfInBounds_toArray, List.set_cons_succ, List.set_cons_zero])) | ((fail_if_success ((with_reducible refine wpl_runx ?_ ?_); (focus exact rfl))); ((with_reducible refine wpl_gcaseE ?_); refine ⟨_, rfl, ?_, ?_⟩) <;> (intro hg; first | (simp only [reduceCtorEq] at hg; done) | contradiction | ((with_reducible have hx := eq_of_beq hg); contradiction) | ((with_reducible have hx := ne_of_beq_false hg); contradiction) | ((with_reducible have hx := bne_iff_ne.1 hg); contradiction) | ((with_reducible have hx := bne_eq_false_iff_eq.1 hg); contradiction) | ((with_reducible have hx := of_decide_eq_true hg); first | contradiction | omega) | ((with_reducible have hx := of_decide_eq_false hg); first | contradiction | omega) | (simp only [Bool.not_eq_true', Bool.not_eq_false', beq_iff_eq, beq_eq_false_iff_ne, bne_iff_ne, ne_eq] at hg; contradiction) | (simp only [hg]))))
    refine ret_ct H 0 rfl rfl rfl rfl rfl rfl rfl ?_
    exact ⟨rfl, H.ext⟩
theorem prefix_spec (l : List OpT) (hs : SortO l) (hl : l.length ≤ 1000) (s : ByteArray) (T : TypeId) (bt : Nat) (v : Value) (w0 : World) (h : tabH T bt v l w0) :
    Calls Try.prog 15 #[.pointer (some ⟨bt, 0, none⟩), .string s] w0 (RetV w0 (gotV (findO l s false))) := by
  obtain ⟨A, c, rfl, hO, hA⟩ := tab_look h
  clear h
  have hg := fun w (h1 : ObjF bt (.cells #[.slice A l.length c] T (0, 0)) [] w) (h2 : OR A c l [] w) => get_spec0 l hs hl s false T bt A c w h1 h2
  have H := St.start (M := []) (by simp) ((ObjF.stab bt (.cells #[.slice A l.length c] T (0, 0))).and (OR.stab A c l)) ⟨hO, hA⟩
  clear hO hA
  obtain ⟨G, hG⟩ : ∃ G, findO l s false = G := ⟨_, rfl⟩
  rw [hG] at hg ⊢
  clear hG
  cases G with
  | none =>
    simp only [gotV] at hg
    replace hg := Lib.hid hg
    go_enter Try.func15, Try.ntmps15
    go_wp2_with (first | ((with_reducible refine wpl_runx_d 4 rfl ?_ ?_); (focus exact rfl); refine ⟨_, runs_alloc H rfl rfl rfl, ?_⟩; clear H; rintro _ w ⟨b4, rfl, hE, H⟩; clear hE) | ((with_reducible refine wpl_runx ?_ ?_); (focus exact rfl); refine ⟨_, runs_load H 0 rfl rfl rfl rfl rfl, ?_⟩; rintro _ _ ⟨rfl, rfl⟩) | ((with_reducible refine wpl_runx ?_ ?_); (focus exact rfl); refine ⟨_, runs_load H 1 rfl rfl rfl rfl rfl, ?_⟩; rintro _ _ ⟨rfl, rfl⟩) | ((with_reducible refine wpl_runx ?_ ?_); (focus exact rfl); refine ⟨_, runs_load_cell H rfl rfl rfl rfl, ?_⟩; rintro _ _ ⟨rfl, rfl⟩) | ((with_reducible refine wpl_runx ?_ ?_); (focus exact rfl); refine ⟨_, runs_load_cell0 H rfl rfl rfl rfl, ?_⟩; rintro _ _ ⟨rfl, rfl⟩) | ((with_reducible refine wpl_runx ?_ ?_); (focus exact rfl); refine ⟨_, runs_load_obj H rfl rfl rfl rfl, ?_⟩; rintro _ _ ⟨rfl, rfl⟩) | ((with_reducible refine wpl_runx ?_ ?_); (focus exact rfl); refine ⟨_, runs_store H 0 rfl rfl rfl rfl rfl rfl rfl rfl rfl, ?_⟩; clear H; rintro _ w ⟨rfl, hE, H⟩; clear hE) | ((with_reducible refine wpl_runx ?_ ?_); (focus exact rfl); refine ⟨_, runs_store H 1 rfl rfl rfl rfl rfl rfl rfl rfl rfl, ?_⟩; clear H; rintro _ w ⟨rfl, hE, H⟩; clear hE) | (go_at_call 29; refine Calls.mono (hg.out _ H.fact.1.nil H.fact.2.nil0) ?_; rintro _ w ⟨rfl, hE⟩; replace H := H.step hE; clear hE) | ((with_reducible refine wpl_pureX ?_); refine ⟨rfl, rfl, ?_⟩; apply Exists.intro; apply And.intro; (focus (intro w; go_simp; (try with_reducible rfl); done)); (try simp only [Act.put, List.setIfInBounds_toArray, List.set_cons_succ, List.set_cons_zero])) | ((fail_if_success ((with_reducible refine wpl_runx ?_ ?_); (focus exact rfl))); ((with_reducible refine wpl_gcaseE ?_); refine ⟨_, rfl, ?_, ?_⟩) <;> (intro hg; first | (simp only [reduceCtorEq] at hg; done) | contradiction | ((with_reducible have hx := eq_of_beq hg); contradiction) | ((with_reducible have hx := ne_of_beq_false hg); contradiction) | ((with_reducible have hx := bne_iff_ne.1 hg); contradiction) | ((with_reducible have hx := bne_eq_false_iff_eq.1 hg); contradiction) | ((with_reducible have hx := of_decide_eq_true hg); first | contradiction | omega) | ((with_reducible have hx := of_decide_eq_false hg); first | contradiction | omega) | (simp only [Bool.not_eq_true', Bool.not_eq_false', beq_iff_eq, beq_eq_false_iff_ne, bne_iff_ne, ne_eq] at hg; contradiction) | (simp only [hg]))))
    refine ret_ct H 0 rfl rfl rfl rfl rfl rfl rfl ?_
    exact ⟨rfl, H.ext⟩
  | some x =>
    simp only [gotV] at hg
    replace hg := Lib.hid hg
    go_enter Try.func15, Try.ntmps15
    go_wp2_with (first | ((with_reducible refine wpl_runx_d 4 rfl ?_ ?_); (focus exact rfl); refine ⟨_, runs_alloc H rfl rfl rfl, ?_⟩; clear H; rintro _ w ⟨b4, rfl, hE, H⟩; clear hE) | ((with_reducible refine wpl_runx ?_ ?_); (focus exact rfl); refine ⟨_, runs_load H 0 rfl rfl rfl rfl rfl, ?_⟩; rintro _ _ ⟨rfl, rfl⟩) | ((with_reducible refine wpl_runx ?_ ?_); (focus exact rfl); refine ⟨_, runs_load H 1 rfl rfl rfl rfl rfl, ?_⟩; rintro _ _ ⟨rfl, rfl⟩) | ((with_reducible refine wpl_runx ?_ ?_); (focus exact rfl); refine ⟨_, runs_load_cell H rfl rfl rfl rfl, ?_⟩; rintro _ _ ⟨rfl, rfl⟩) | ((with_reducible refine wpl_runx ?_ ?_); (focus exact rfl); refine ⟨_, runs_load_cell0 H rfl rfl rfl rfl, ?_⟩; rintro _ _ ⟨rfl, rfl⟩) | ((with_reducible refine wpl_runx ?_ ?_); (focus exact rfl); refine ⟨_, runs_load_obj H rfl rfl rfl rfl, ?_⟩; rintro _ _ ⟨rfl, rfl⟩) | ((with_reducible refine wpl_runx ?_ ?_); (focus exact rfl); refine ⟨_, runs_store H 0 rfl rfl rfl rfl rfl rfl rfl rfl rfl, ?_⟩; clear H; rintro _ w ⟨rfl, hE, H⟩; clear hE) | ((with_reducible refine wpl_runx ?_ ?_); (focus exact rfl); refine ⟨_, runs_store H 1 rfl rfl rfl rfl rfl rfl rfl rfl rfl, ?_⟩; clear H; rintro _ w ⟨rfl, hE, H⟩; clear hE) | (go_at_call 29; refine Calls.mono (hg.out _ H.fact.1.nil H.fact.2.nil0) ?_; rintro _ w ⟨rfl, hE⟩; replace H := H.step hE; clear hE) | ((with_reducible refine wpl_pureX ?_); refine ⟨rfl, rfl, ?_⟩; apply Exists.intro; apply And.intro; (focus (intro w; go_simp; (try with_reducible rfl); done)); (try simp only [Act.put, List.setIfInBounds_toArray, List.set_cons_succ, List.set_cons_zero])) | ((fail_if_success ((with_reducible refine wpl_runx ?_ ?_); (focus exact rfl))); ((with_reducible refine wpl_gcaseE ?_); refine ⟨_, rfl, ?_, ?_⟩) <;> (intro hg; first | (simp only [reduceCtorEq] at hg; done) | contradiction | ((with_reducible have hx := eq_of_beq hg); contradiction) | ((with_reducible have hx := ne_of_beq_false hg); contradiction) | ((with_reducible have hx := bne_iff_ne.1 hg); contradiction) | ((with_reducible have hx := bne_eq_false_iff_eq.1 hg); contradiction) | ((with_reducible have hx := of_decide_eq_true hg); first | contradiction | omega) | ((with_reducible have hx := of_decide_eq_false hg); first | contradiction | omega) | (simp only [Bool.not_eq_true', Bool.not_eq_false', beq_iff_eq, beq_eq_false_iff_ne, bne_iff_ne, ne_eq] at hg; contradiction) | (simp only [hg]))))
    refine ret_ct H 0 rfl rfl rfl rfl rfl rfl rfl ?_
    exact ⟨rfl, H.ext⟩
theorem infixT_spec (l : List OpT) (hs : SortO l) (hl : l.length ≤ 1000) (s : ByteArray) (T : TypeId) (bt : Nat) (v : Value) (w0 : World) (h : tabH T bt v l w0) :
    Calls Try.prog 17 #[.pointer (some ⟨bt, 0, none⟩), .string s] w0 (RetV w0 (gotV (findO l s true))) := by
  obtain ⟨A, c, rfl, hO, hA⟩ := tab_look h
  clear h
  have hg := fun w (h1 : ObjF bt (.cells #[.slice A l.length c] T (0, 0)) [] w) (h2 : OR A c l [] w) => get_spec0 l hs hl s true T bt A c w h1 h2
  have H := St.start (M := []) (by simp) ((ObjF.stab bt (.cells #[.slice A l.length c] T (0, 0))).and (OR.stab A c l)) ⟨hO, hA⟩
  clear hO hA
  obtain ⟨G, hG⟩ : ∃ G, findO l s true = G := ⟨_, rfl⟩
  rw [hG] at hg ⊢
  clear hG
  cases G with
  | none =>
    simp only [gotV] at hg
    replace hg := Lib.hid hg
    go_enter Try.func17, Try.ntmps17
    go_wp2_with (first | ((with_reducible refine wpl_runx_d 4 rfl ?_ ?_); (focus exact rfl); refine ⟨_, runs_alloc H rfl rfl rfl, ?_⟩; clear H; rintro _ w ⟨b4, rfl, hE, H⟩; clear hE) | ((with_reducible refine wpl_runx ?_ ?_); (focus exact rfl); refine ⟨_, runs_load H 0 rfl rfl rfl rfl rfl, ?_⟩; rintro _ _ ⟨rfl, rfl⟩) | ((with_reducible refine wpl_runx ?_ ?_); (focus exact rfl); refine ⟨_, runs_load H 1 rfl rfl rfl rfl rfl, ?_⟩; rintro _ _ ⟨rfl, rfl⟩) | ((with_reducible refine wpl_runx ?_ ?_); (focus exact rfl); refine ⟨_, runs_load_cell H rfl rfl rfl rfl, ?_⟩; rintro _ _ ⟨rfl, rfl⟩) | ((with_reducible refine wpl_runx ?_ ?_); (focus exact rfl); refine ⟨_, runs_load_cell0 H rfl rfl rfl rfl, ?_⟩; rintro _ _ ⟨rfl, rfl⟩) | ((with_reducible refine wpl_runx ?_ ?_); (focus exact rfl); refine ⟨_, runs_load_obj H rfl rfl rfl rfl, ?_⟩; rintro _ _ ⟨rfl, rfl⟩) | ((with_reducible refine wpl_runx ?_ ?_); (focus exact rfl); refine ⟨_, runs_store H 0 rfl rfl rfl rfl rfl rfl rfl rfl rfl, ?_⟩; clear H; rintro _ w ⟨rfl, hE, H⟩; clear hE) | ((with_reducible refine wpl_runx ?_ ?_); (focus exact rfl); refine ⟨_, runs_store H 1 rfl rfl rfl rfl rfl rfl rfl rfl rfl, ?_⟩; clear H; rintro _ w ⟨rfl, hE, H⟩; clear hE) | (go_at_call 29; refine Calls.mono (hg.out _ H.fact.1.nil H.fact.2.nil0) ?_; rintro _ w ⟨rfl, hE⟩; replace H := H.step hE; clear hE) | ((with_reducible refine wpl_pureX ?_); refine ⟨rfl, rfl, ?_⟩; apply Exists.intro; apply And.intro; (focus (intro w; go_simp; (try with_reducible rfl); done)); (try simp only [Act.put, List.setIfInBounds_toArray, List.set_cons_succ, List.set_cons_zero])) | ((fail_if_success ((with_reducible refine wpl_runx ?_ ?_); (focus exact rfl))); ((with_reducible refine wpl_gcaseE ?_); refine ⟨_, rfl, ?_, ?_⟩) <;> (intro hg; first | (simp only [reduceCtorEq] at hg; done) | contradiction | ((with_reducible have hx := eq_of_beq hg); contradiction) | ((with_reducible have hx := ne_of_beq_false hg); contradiction) | ((with_reducible have hx := bne_iff_ne.1 hg); contradiction) | ((with_reducible have hx := bne_eq_false_iff_eq.1 hg); contradiction) | ((with_reducible have hx := of_decide_eq_true hg); first | contradiction | omega) | ((with_reducible have hx := of_decide_eq_false hg); first | contradiction | omega) | (simp only [Bool.not_eq_true', Bool.not_eq_false', beq_iff_eq, beq_eq_false_iff_ne, bne_iff_ne, ne_eq] at hg; contradiction) | (simp only [hg]))))
    refine ret_ct H 0 rfl rfl rfl rfl rfl rfl rfl ?_
    exact ⟨rfl, H.ext⟩
  | some x =>
    simp only [gotV] at hg
    replace hg := Lib.hid hg
    go_enter Try.func17, Try.ntmps17
    go_wp2_with (first | ((with_reducible refine wpl_runx_d 4 rfl ?_ ?_); (focus exact rfl); refine ⟨_, runs_alloc H rfl rfl rfl, ?_⟩; clear H; rintro _ w ⟨b4, rfl, hE, H⟩; clear hE) | ((with_reducible refine wpl_runx ?_ ?_); (focus exact rfl); refine ⟨_, runs_load H 0 rfl rfl rfl rfl rfl, ?_⟩; rintro _ _ ⟨rfl, rfl⟩) | ((with_reducible refine wpl_runx ?_ ?_); (focus exact rfl); refine ⟨_, runs_load H 1 rfl rfl rfl rfl rfl, ?_⟩; rintro _ _ ⟨rfl, rfl⟩) | ((with_reducible refine wpl_runx ?_ ?_); (focus exact rfl); refine ⟨_, runs_load_cell H rfl rfl rfl rfl, ?_⟩; rintro _ _ ⟨rfl, rfl⟩) | ((with_reducible refine wpl_runx ?_ ?_); (focus exact rfl); refine ⟨_, runs_load_cell0 H rfl rfl rfl rfl, ?_⟩; rintro _ _ ⟨rfl, rfl⟩) | ((with_reducible refine wpl_runx ?_ ?_); (focus exact rfl); refine ⟨_, runs_load_obj H rfl rfl rfl rfl, ?_⟩; rintro _ _ ⟨rfl, rfl⟩) | ((with_reducible refine wpl_runx ?_ ?_); (focus exact rfl); refine ⟨_, runs_store H 0 rfl rfl rfl rfl rfl rfl rfl rfl rfl, ?_⟩; clear H; rintro _ w ⟨rfl, hE, H⟩; clear hE) | ((with_reducible refine wpl_runx ?_ ?_); (focus exact rfl); refine ⟨_, runs_store H 1 rfl rfl rfl rfl rfl rfl rfl rfl rfl, ?_⟩; clear H; rintro _ w ⟨rfl, hE, H⟩; clear hE) | (go_at_call 29; refine Calls.mono (hg.out _ H.fact.1.nil H.fact.2.nil0) ?_; rintro _ w ⟨rfl, hE⟩; replace H := H.step hE; clear hE) | ((with_reducible refine wpl_pureX ?_); refine ⟨rfl, rfl, ?_⟩; apply Exists.intro; apply And.intro; (focus (intro w; go_simp; (try with_reducible rfl); done)); (try simp only [Act.put, List.setIfInBounds_toArray, List.set_cons_succ, List.set_cons_zero])) | ((fail_if_success ((with_reducible refine wpl_runx ?_ ?_); (focus exact rfl))); ((with_reducible refine wpl_gcaseE ?_); refine ⟨_, rfl, ?_, ?_⟩) <;> (intro hg; first | (simp only [reduceCtorEq] at hg; done) | contradiction | ((with_reducible have hx := eq_of_beq hg); contradiction) | ((with_reducible have hx := ne_of_beq_false hg); contradiction) | ((with_reducible have hx := bne_iff_ne.1 hg); contradiction) | ((with_reducible have hx := bne_eq_false_iff_eq.1 hg); contradiction) | ((with_reducible have hx := of_decide_eq_true hg); first | contradiction | omega) | ((with_reducible have hx := of_decide_eq_false hg); first | contradiction | omega) | (simp only [Bool.not_eq_true', Bool.not_eq_false', beq_iff_eq, beq_eq_false_iff_ne, bne_iff_ne, ne_eq] at hg; contradiction) | (simp only [hg]))))
    refine ret_ct H 0 rfl rfl rfl rfl rfl rfl rfl ?_
    exact ⟨rfl, H.ext⟩
end Go.Proofs.Ythapmdlminnihaa
