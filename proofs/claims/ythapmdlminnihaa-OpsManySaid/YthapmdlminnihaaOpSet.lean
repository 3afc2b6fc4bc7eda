/- Walks: Set; the operators at first. -/
import Derived.Test.YthapmdlminnihaaOpPut
namespace Go.Proofs.Ythapmdlminnihaa
open Go.RowKit
set_option linter.unusedVariables false
set_option linter.unusedSimpArgs false
set_option maxRecDepth 20000
set_option maxHeartbeats 4000000
attribute [local irreducible] infE placeE mayO cmpO putO
theorem setO_spec (l : List OpT) (hs : SortO l) (hl : l.length ≤ 1000) (o : OpT) (T : TypeId) (bt : Nat) (v : Value) (w0 : World) (h : tabH T bt v l w0) (hnd : bt ∉ v.ownBlock.toList) :
    Calls Try.prog 13 #[.pointer (some ⟨bt, 0, none⟩), .agg #[.string o.name, .int .i64 o.ty, .int .i64 o.pr]] w0 (RTab T bt v (setO l o) w0) := by
  have H := St.startR (M := []) (F := fun _ _ => True) (r := tabR T bt v l) (by simp) (Stab.const True) h (by rw [ids_tab]; cases hq : v.ownBlock with | none => simp | some g => (rw [hq] at hnd; simpa using hnd)) trivial
  rw [ids_tab] at H
  have hp := fun w (h : tabH T bt v l w) => put_spec l hs hl o T bt v w h hnd
  clear h
  obtain ⟨P, hP⟩ : ∃ P, setO l o = P := ⟨_, rfl⟩
  rw [hP]
  unfold setO at hP
  obtain ⟨Q, hQ⟩ : ∃ Q, putO l o = Q := ⟨_, rfl⟩
  rw [hQ] at hP hp
  clear hQ
  replace hp := Lib.hid hp
  cases g : mayO o with
  | true =>
    rw [if_pos g] at hP
    subst hP
    go_enter Try.func13, Try.ntmps13
    go_wp2_with (first | ((with_reducible refine wpl_runx_d 3 rfl ?_ ?_); (focus exact rfl); refine ⟨_, runs_box H rfl rfl, ?_⟩; clear H; rintro _ w ⟨b3, rfl, hE, H⟩; clear hE) | ((with_reducible refine wpl_runx ?_ ?_); (focus exact rfl); refine ⟨_, runs_load H 0 rfl rfl rfl rfl rfl, ?_⟩; rintro _ _ ⟨rfl, rfl⟩) | ((with_reducible refine wpl_runx ?_ ?_); (focus exact rfl); refine ⟨_, runs_load H 1 rfl rfl rfl rfl rfl, ?_⟩; rintro _ _ ⟨rfl, rfl⟩) | ((with_reducible refine wpl_runx ?_ ?_); (focus exact rfl); refine ⟨_, runs_load_cell H rfl rfl rfl rfl, ?_⟩; rintro _ _ ⟨rfl, rfl⟩) | ((with_reducible refine wpl_runx ?_ ?_); (focus exact rfl); refine ⟨_, runs_load_cell0 H rfl rfl rfl rfl, ?_⟩; rintro _ _ ⟨rfl, rfl⟩) | ((with_reducible refine wpl_runx ?_ ?_); (focus exact rfl); refine ⟨_, runs_load_obj H rfl rfl rfl rfl, ?_⟩; rintro _ _ ⟨rfl, rfl⟩) | ((with_reducible refine wpl_runx ?_ ?_); (focus exact rfl); refine ⟨_, runs_store H 0 rfl rfl rfl rfl rfl rfl rfl rfl rfl, ?_⟩; clear H; rintro _ w ⟨rfl, hE, H⟩; clear hE) | ((with_reducible refine wpl_runx ?_ ?_); (focus exact rfl); refine ⟨_, runs_store H 1 rfl rfl rfl rfl rfl rfl rfl rfl rfl, ?_⟩; clear H; rintro _ w ⟨rfl, hE, H⟩; clear hE) | (go_at_call 23; refine Calls.mono (hp.out _ (H.holds _ (List.mem_cons_of_mem _ List.mem_cons_self))) ?_; rintro _ w ⟨v', rfl, h⟩; replace H := H.callTab 1 rfl h (fun r => rfl); clear h) | ((with_reducible refine wpl_callX ?_); refine ⟨rfl, rfl, fun K hK => ?_⟩; go_simp; (first | (go_at_call 27; (with_reducible refine Calls.mono (omay_spec_c H _ _ _) ?_); intro e w h; (try simp only [OpT.eta] at h); obtain ⟨rfl, hE⟩ := h; replace H := H.step hE; clear hE)); refine hK _ _ ?_; clear hK K; (try simp only [Act.put, List.setIfInBounds_toArray, List.set_cons_succ, List.set_cons_zero])) | ((with_reducible refine wpl_pureX ?_); refine ⟨rfl, rfl, ?_⟩; apply Exists.intro; apply And.intro; (focus (intro w; go_simp; (try with_reducible rfl); done)); (try simp only [Act.put, List.setIfInBounds_toArray, List.set_cons_succ, List.set_cons_zero])) | ((fail_if_success ((with_reducible refine wpl_runx ?_ ?_); (focus exact rfl))); ((with_reducible refine wpl_gcaseE ?_); refine ⟨_, rfl, ?_, ?_⟩) <;> (intro hg; first | (simp only [reduceCtorEq] at hg; done) | contradiction | ((with_reducible have hx := eq_of_beq hg); contradiction) | ((with_reducible have hx := ne_of_beq_false hg); contradiction) | ((with_reducible have hx := bne_iff_ne.1 hg); contradiction) | ((with_reducible have hx := bne_eq_false_iff_eq.1 hg); contradiction) | ((with_reducible have hx := of_decide_eq_true hg); first | contradiction | omega) | ((with_reducible have hx := of_decide_eq_false hg); first | contradiction | omega) | (simp only [Bool.not_eq_true', Bool.not_eq_false', beq_iff_eq, beq_eq_false_iff_ne, bne_iff_ne, ne_eq] at hg; contradiction) | (simp only [hg]))))
    go_ret
    exact ⟨_, rfl, (H.drop 0 rfl).weaken (fun _ => trivial) (Stab.const True)⟩
  | false =>
    rw [if_neg (by rw [g]; decide)] at hP
    subst hP
    go_enter Try.func13, Try.ntmps13
    go_wp2_with (first | ((with_reducible refine wpl_runx_d 3 rfl ?_ ?_); (focus exact rfl); refine ⟨_, runs_box H rfl rfl, ?_⟩; clear H; rintro _ w ⟨b3, rfl, hE, H⟩; clear hE) | ((with_reducible refine wpl_runx ?_ ?_); (focus exact rfl); refine ⟨_, runs_load H 0 rfl rfl rfl rfl rfl, ?_⟩; rintro _ _ ⟨rfl, rfl⟩) | ((with_reducible refine wpl_runx ?_ ?_); (focus exact rfl); refine ⟨_, runs_load H 1 rfl rfl rfl rfl rfl, ?_⟩; rintro _ _ ⟨rfl, rfl⟩) | ((with_reducible refine wpl_runx ?_ ?_); (focus exact rfl); refine ⟨_, runs_load_cell H rfl rfl rfl rfl, ?_⟩; rintro _ _ ⟨rfl, rfl⟩) | ((with_reducible refine wpl_runx ?_ ?_); (focus exact rfl); refine ⟨_, runs_load_cell0 H rfl rfl rfl rfl, ?_⟩; rintro _ _ ⟨rfl, rfl⟩) | ((with_reducible refine wpl_runx ?_ ?_); (focus exact rfl); refine ⟨_, runs_load_obj H rfl rfl rfl rfl, ?_⟩; rintro _ _ ⟨rfl, rfl⟩) | ((with_reducible refine wpl_runx ?_ ?_); (focus exact rfl); refine ⟨_, runs_store H 0 rfl rfl rfl rfl rfl rfl rfl rfl rfl, ?_⟩; clear H; rintro _ w ⟨rfl, hE, H⟩; clear hE) | ((with_reducible refine wpl_runx ?_ ?_); (focus exact rfl); refine ⟨_, runs_store H 1 rfl rfl rfl rfl rfl rfl rfl rfl rfl, ?_⟩; clear H; rintro _ w ⟨rfl, hE, H⟩; clear hE) | ((with_reducible refine wpl_callX ?_); refine ⟨rfl, rfl, fun K hK => ?_⟩; go_simp; (first | (go_at_call 27; (with_reducible refine Calls.mono (omay_spec_c H _ _ _) ?_); intro e w h; (try simp only [OpT.eta] at h); obtain ⟨rfl, hE⟩ := h; replace H := H.step hE; clear hE)); refine hK _ _ ?_; clear hK K; (try simp only [Act.put, List.setIfInBounds_toArray, List.set_cons_succ, List.set_cons_zero])) | ((with_reducible refine wpl_pureX ?_); refine ⟨rfl, rfl, ?_⟩; apply Exists.intro; apply And.intro; (focus (intro w; go_simp; (try with_reducible rfl); done)); (try simp only [Act.put, List.setIfInBounds_toArray, List.set_cons_succ, List.set_cons_zero])) | ((fail_if_success ((with_reducible refine wpl_runx ?_ ?_); (focus exact rfl))); ((with_reducible refine wpl_gcaseE ?_); refine ⟨_, rfl, ?_, ?_⟩) <;> (intro hg; first | (simp only [reduceCtorEq] at hg; done) | contradiction | ((with_reducible have hx := eq_of_beq hg); contradiction) | ((with_reducible have hx := ne_of_beq_false hg); contradiction) | ((with_reducible have hx := bne_iff_ne.1 hg); contradiction) | ((with_reducible have hx := bne_eq_false_iff_eq.1 hg); contradiction) | ((with_reducible have hx := of_decide_eq_true hg); first | contradiction | omega) | ((with_reducible have hx := of_decide_eq_false hg); first | contradiction | omega) | (simp only [Bool.not_eq_true', Bool.not_eq_false', beq_iff_eq, beq_eq_false_iff_ne, bne_iff_ne, ne_eq] at hg; contradiction) | (simp only [hg]))))
    go_ret
    exact ⟨_, rfl, (H.drop 0 rfl).weaken (fun _ => trivial) (Stab.const True)⟩
theorem St.tabApart {M X : List Nat} {w0 w : World} {L : List Res} {F : List Nat → World → Prop} (H : St M X w0 w L F) (k : Nat) {T : TypeId} {bt : Nat} {v : Value} {l : List OpT} (hk : L[k]? = some (tabR T bt v l)) : bt ∉ v.ownBlock.toList := by
  obtain ⟨hkl, hkr⟩ := List.getElem?_eq_some_iff.1 hk
  have hn := H.nodup
  have hL : L = L.take k ++ L[k] :: L.drop (k + 1) := by simp
  rw [hL, hkr] at hn
  simp only [idsOf, List.flatMap_append, List.flatMap_cons, ids_tab] at hn
  have h2 := (List.nodup_append.1 hn).2.1
  have h3 := (List.nodup_append.1 h2).1
  exact (List.nodup_cons.1 h3).1
theorem St.tab {M X : List Nat} {w0 w : World} {L : List Res} {F : List Nat → World → Prop} (H : St M X w0 w L F) (k : Nat) {T : TypeId} {bt : Nat} {v : Value} {l : List OpT} (hk : L[k]? = some (tabR T bt v l)) : tabH T bt v l w := H.holds _ (List.mem_of_getElem? hk)
/-! ### The operators at first -/
abbrev RowC := Int × Int × List ByteArray
def rowOps (r : RowC) : List OpT := r.2.2.map fun s => ⟨s, r.2.1, r.1⟩
def putAll (l : List OpT) (m : List OpT) : List OpT := m.foldl (fun l o => (putO l o).2) l
def rowsC : List RowC := [(1200, 1, [⟨#[58, 45]⟩]), (1200, 5, [⟨#[58, 45]⟩]), (1100, 2, [⟨#[59]⟩]), (1050, 2, [⟨#[45, 62]⟩]), (1000, 2, [⟨#[44]⟩]), (900, 4, [⟨#[92, 43]⟩]),
  (700, 1, [⟨#[61]⟩, ⟨#[92, 61]⟩, ⟨#[61, 61]⟩, ⟨#[92, 61, 61]⟩, ⟨#[64, 60]⟩, ⟨#[64, 62]⟩, ⟨#[64, 61, 60]⟩, ⟨#[64, 62, 61]⟩, ⟨#[105, 115]⟩, ⟨#[61, 58, 61]⟩, ⟨#[61, 92, 61]⟩, ⟨#[60]⟩, ⟨#[62]⟩, ⟨#[61, 60]⟩, ⟨#[62, 61]⟩, ⟨#[61, 46, 46]⟩]), (500, 3, [⟨#[43]⟩, ⟨#[45]⟩]), (400, 3, [⟨#[42]⟩, ⟨#[47, 47]⟩, ⟨#[109, 111, 100]⟩, ⟨#[114, 101, 109]⟩]), (200, 2, [⟨#[94]⟩]), (200, 4, [⟨#[45]⟩])]
def newL : List OpT := putAll [] (rowsC.flatMap rowOps)
theorem putAll_app (l m n : List OpT) : putAll l (m ++ n) = putAll (putAll l m) n := List.foldl_append
theorem putAll_sort : ∀ (m l : List OpT), SortO l → SortO (putAll l m)
  | [], l, h => h
  | o :: m, l, h => putAll_sort m _ (put_sort h o)
theorem putAll_len : ∀ (m l : List OpT), l.length ≤ 100 → (putAll l m).length ≤ 100
  | [], l, h => h
  | o :: m, l, h => putAll_len m _ (put_len o h)
theorem new_sort : SortO newL := putAll_sort _ _ List.Pairwise.nil
theorem new_len : newL.length ≤ 100 := putAll_len _ _ (by simp)
/-- The rows of names in memory. -/
def RowsF (b30 : Nat) (RS : List (Nat × RowC)) (M : List Nat) (w : World) : Prop := ∀ (j : Nat) (x : Nat × RowC), RS[j]? = some x →
  CellF b30 (j * 3) [.int .i64 x.2.1, .int .i64 x.2.2.1, .slice (some ⟨x.1, 0, none⟩) x.2.2.2.length x.2.2.2.length] M w ∧ VR (some ⟨x.1, 0, none⟩) x.2.2.2.length (x.2.2.2.map Value.string) M w
theorem RowsF.stab (b30 : Nat) (RS : List (Nat × RowC)) : Stab (RowsF b30 RS) := Stab.all fun _ => Stab.all fun _ => Stab.imp ((CellF.stab _ _ _).and (VR.stab _ _ _))
theorem CellF.sub {b a : Nat} {cs ds : List Value} {M : List Nat} {w : World} (h : CellF b a cs M w) {off : Nat} (hc : RC cs off ds) : CellF b (a + off) ds M w := ⟨h.1, h.2.1, fun j v hj => by rw [Nat.add_assoc]; exact h.2.2 _ v (hc j v hj)⟩
theorem rc_three {cs : List Value} {off : Nat} {a b c : Value} (h0 : cs[off]? = some a) (h1 : cs[off + 1]? = some b) (h2 : cs[off + 2]? = some c) : RC cs off [a, b, c] := by
  intro q v hq
  match q, hq with
  | 0, hq => simpa using (by simpa using hq : a = v) ▸ h0
  | 1, hq => simpa using (by simpa using hq : b = v) ▸ h1
  | 2, hq => simpa using (by simpa using hq : c = v) ▸ h2
  | q + 3, hq => simp at hq
end Go.Proofs.Ythapmdlminnihaa
