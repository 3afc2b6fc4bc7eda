/- Walks: same, Same. -/
import Derived.Test.YtfjdekiobggdoaaPlain
namespace Go.Proofs.Ytfjdekiobggdoaa
open Go.RowKit
set_option linter.unusedVariables false
set_option linter.unusedSimpArgs false
set_option maxRecDepth 20000
set_option maxHeartbeats 1000000

/-- Cells in a row that stay. -/
def CellF (b a : Nat) (cs : List Value) (M : List Nat) (w : World) : Prop := b ∉ M ∧ b < w.heap.size ∧ ∀ (j : Nat) (v : Value), cs[j]? = some v → w.cell? ⟨b, a + j, none⟩ = some v
theorem CellF.stab (b a : Nat) (cs : List Value) : Stab (CellF b a cs) := stab_of_to fun M M' w w' H h =>
  let ⟨k1, k2, k3⟩ := H b h.1 h.2.1
  ⟨k1, k2, fun j v hj => (cell_same k3 _).trans (h.2.2 j v hj)⟩

mutual
def sameE : Tm → Tm → Bool
  | .mk k s n r i l, .mk k' s' n' r' i' l' => k == k' && (s.toList == s'.toList && (n == n' && (r == r' && (i == i' && sameL l l'))))
def sameL : List Tm → List Tm → Bool
  | [], [] => true
  | a :: l, b :: m => sameE a b && sameL l m
  | _, _ => false
end
theorem sameL_len : ∀ {l m : List Tm}, l.length ≠ m.length → sameL l m = false
  | [], [], h => by simp at h
  | [], _ :: _, _ => rfl
  | _ :: _, [], _ => rfl
  | a :: l, b :: m, h => by
    unfold sameL
    rw [sameL_len (l := l) (m := m) (by simpa using h), Bool.and_false]

theorem equal_spec (g : FuncId) (e : Tm → Tm → Bool) (hcf : ∀ args w, Sem.run Try.prog (callFunc g args) w = .ok (.enter g args) w) (l m : List Tm) (hl : l.length ≤ 1000000) (A A' : Option Addr) (c c' : Nat) (w0 : World) (hA : AR A c l [] w0) (hA' : AR A' c' m [] w0)
    (hg : ∀ t ∈ l, ∀ t' : Tm, ∀ (A A' : Option Addr) (c c' : Nat) (w : World), AR A c t.args [] w → AR A' c' t'.args [] w →
      Calls Try.prog g #[.agg #[.int .i64 t.kind, .string t.name, .int .i64 t.int, .int .u64 t.re, .int .u64 t.im, .slice A t.args.length c], .agg #[.int .i64 t'.kind, .string t'.name, .int .i64 t'.int, .int .u64 t'.re, .int .u64 t'.im, .slice A' t'.args.length c']] w (RetV w (.bool (e t t'))))
    (R : List Tm → List Tm → Bool) (hR0 : R [] [] = true) (hR1 : ∀ a l b m, R (a :: l) (b :: m) = (e a b && R l m)) (hR2 : ∀ l m, l.length ≠ m.length → R l m = false) :
    Calls Try.prog 46 #[.slice A l.length c, .slice A' m.length c', .func (.func g) #[] #[]] w0 (RetV w0 (.bool (R l m))) := by
  have H := St.start (M := []) (by simp) ((AR.stab A c l).and (AR.stab A' c' m)) ⟨hA, hA'⟩
  clear hA hA'
  have HG := Lib.hid hg; clear hg
  have HR1 := Lib.hid hR1; clear hR1
  have HR2 := Lib.hid hR2; clear hR2
  by_cases hlen : l.length = m.length
  · have hl4 : ((l.length : Int) == m.length) = true := by simp; omega
    replace hlen := Lib.hid hlen
    go_enter Try.func46, Try.ntmps46
    go_wp2_with (first | ((with_reducible refine wpl_runx_d 8 rfl ?_ ?_); (focus exact rfl); refine ⟨_, runs_alloc H rfl rfl rfl, ?_⟩; clear H; rintro _ w ⟨b8, rfl, hE, H⟩; clear hE) | ((with_reducible refine wpl_runx_d 9 rfl ?_ ?_); (focus exact rfl); refine ⟨_, runs_alloc H rfl rfl rfl, ?_⟩; clear H; rintro _ w ⟨b9, rfl, hE, H⟩; clear hE) | ((with_reducible refine wpl_runx ?_ ?_); (focus exact rfl); refine ⟨_, runs_load H 0 rfl rfl rfl rfl rfl, ?_⟩; rintro _ _ ⟨rfl, rfl⟩) | ((with_reducible refine wpl_runx ?_ ?_); (focus exact rfl); refine ⟨_, runs_load H 1 rfl rfl rfl rfl rfl, ?_⟩; rintro _ _ ⟨rfl, rfl⟩) | ((with_reducible refine wpl_runx ?_ ?_); (focus exact rfl); refine ⟨_, runs_store H 0 rfl rfl rfl rfl rfl rfl rfl rfl rfl, ?_⟩; clear H; rintro _ w ⟨rfl, hE, H⟩; clear hE) | ((with_reducible refine wpl_runx ?_ ?_); (focus exact rfl); refine ⟨_, runs_store H 1 rfl rfl rfl rfl rfl rfl rfl rfl rfl, ?_⟩; clear H; rintro _ w ⟨rfl, hE, H⟩; clear hE))
    clear hl4
    rw [show ((l.length : Int) != (m.length : Int)) = false by have := hlen.out; simp [this]]
    go_loopw [17] (fun iv wr => ∃ j : Nat, j ≤ l.length ∧ iv = .int .i64 j ∧ R l m = R (l.drop j) (m.drop j) ∧ St [] [] w0 wr [] fun M w => AR A c l M w ∧ AR A' c' m M w) (fun iv _ => l.length - (intOf iv).toNat)
    case atStart => exact ⟨0, Nat.zero_le _, rfl, by simp, H⟩
    case round =>
      clear H
      obtain ⟨j, hj, rfl, hR, H⟩ := hrel
      by_cases hlt : j < l.length
      · have hlt' : j < m.length := by have := hlen.out; omega
        have hlt2 : (j : Int) < m.length := by omega
        obtain ⟨hA, hA'⟩ := H.fact
        obtain ⟨b, o, A1, c1, hAe, hbn, hbl, hcs, hA1⟩ := hA.at j hlt
        obtain ⟨b2, o2, A2, c2, hAe2, hbn2, hbl2, hcs2, hA2⟩ := hA'.at j hlt'
        subst hAe; subst hAe2
        replace H := ((H.add hA1 (AR.stab _ _ _)).add hA2 (AR.stab _ _ _)).add ⟨hbn2, hbl2, hcs2⟩ (CellF.stab _ _ _)
        clear hA hA' hA1 hA2 hbn hbl hbn2 hbl2 hcs2
        have HC := Lib.hid hcs; clear hcs
        have hRj : R (l.drop j) (m.drop j) = (e l[j] m[j] && R (l.drop (j + 1)) (m.drop (j + 1))) := by
          rw [List.drop_eq_getElem_cons hlt, List.drop_eq_getElem_cons hlt', HR1.out]
        cases he : e l[j] m[j] with
        | true =>
          rw [he, Bool.true_and] at hRj
          go_wp2_with (first | ((with_reducible refine wpl_runx_d 8 rfl ?_ ?_); (focus exact rfl); refine ⟨_, runs_alloc H rfl rfl rfl, ?_⟩; clear H; rintro _ w ⟨b8, rfl, hE, H⟩; clear hE) | ((with_reducible refine wpl_runx_d 9 rfl ?_ ?_); (focus exact rfl); refine ⟨_, runs_alloc H rfl rfl rfl, ?_⟩; clear H; rintro _ w ⟨b9, rfl, hE, H⟩; clear hE) | ((with_reducible refine wpl_runx ?_ ?_); (focus exact rfl); refine ⟨_, runs_load H 0 rfl rfl rfl rfl rfl, ?_⟩; rintro _ _ ⟨rfl, rfl⟩) | ((with_reducible refine wpl_runx ?_ ?_); (focus exact rfl); refine ⟨_, runs_load H 1 rfl rfl rfl rfl rfl, ?_⟩; rintro _ _ ⟨rfl, rfl⟩) | ((with_reducible refine wpl_runx ?_ ?_); (focus exact rfl); refine ⟨_, runs_store H 0 rfl rfl rfl rfl rfl rfl rfl rfl rfl, ?_⟩; clear H; rintro _ w ⟨rfl, hE, H⟩; clear hE) | ((with_reducible refine wpl_runx ?_ ?_); (focus exact rfl); refine ⟨_, runs_store H 1 rfl rfl rfl rfl rfl rfl rfl rfl rfl, ?_⟩; clear H; rintro _ w ⟨rfl, hE, H⟩; clear hE) | ((with_reducible refine wpl_runx ?_ ?_); (focus exact rfl); refine ⟨_, runs_load_at rfl rfl rfl HC.out rfl, ?_⟩; rintro _ _ ⟨rfl, rfl⟩) | ((with_reducible refine wpl_runx ?_ ?_); (focus exact rfl); refine ⟨_, runs_load_at rfl rfl rfl H.fact.2.2.2 rfl, ?_⟩; rintro _ _ ⟨rfl, rfl⟩) | (refine (HG.out l[j] (List.getElem_mem hlt) m[j] _ _ _ _ _ H.out.1.1.2 H.out.1.2).mono ?_; rintro _ w ⟨rfl, hE⟩; simp only [he]; replace H := H.step hE; clear hE))
          go_roundw
          case rel => exact ⟨j + 1, by omega, by go_num, hR.trans hRj, ((H.drop 0 rfl).drop 0 rfl).weaken (fun h => h.1.1.1) ((AR.stab _ _ _).and (AR.stab _ _ _))⟩
          case measure => simp [intOf]; omega
        | false =>
          rw [he, Bool.false_and] at hRj
          go_wp2_with (first | ((with_reducible refine wpl_runx_d 8 rfl ?_ ?_); (focus exact rfl); refine ⟨_, runs_alloc H rfl rfl rfl, ?_⟩; clear H; rintro _ w ⟨b8, rfl, hE, H⟩; clear hE) | ((with_reducible refine wpl_runx_d 9 rfl ?_ ?_); (focus exact rfl); refine ⟨_, runs_alloc H rfl rfl rfl, ?_⟩; clear H; rintro _ w ⟨b9, rfl, hE, H⟩; clear hE) | ((with_reducible refine wpl_runx ?_ ?_); (focus exact rfl); refine ⟨_, runs_load H 0 rfl rfl rfl rfl rfl, ?_⟩; rintro _ _ ⟨rfl, rfl⟩) | ((with_reducible refine wpl_runx ?_ ?_); (focus exact rfl); refine ⟨_, runs_load H 1 rfl rfl rfl rfl rfl, ?_⟩; rintro _ _ ⟨rfl, rfl⟩) | ((with_reducible refine wpl_runx ?_ ?_); (focus exact rfl); refine ⟨_, runs_store H 0 rfl rfl rfl rfl rfl rfl rfl rfl rfl, ?_⟩; clear H; rintro _ w ⟨rfl, hE, H⟩; clear hE) | ((with_reducible refine wpl_runx ?_ ?_); (focus exact rfl); refine ⟨_, runs_store H 1 rfl rfl rfl rfl rfl rfl rfl rfl rfl, ?_⟩; clear H; rintro _ w ⟨rfl, hE, H⟩; clear hE) | ((with_reducible refine wpl_runx ?_ ?_); (focus exact rfl); refine ⟨_, runs_load_at rfl rfl rfl HC.out rfl, ?_⟩; rintro _ _ ⟨rfl, rfl⟩) | ((with_reducible refine wpl_runx ?_ ?_); (focus exact rfl); refine ⟨_, runs_load_at rfl rfl rfl H.fact.2.2.2 rfl, ?_⟩; rintro _ _ ⟨rfl, rfl⟩) | (refine (HG.out l[j] (List.getElem_mem hlt) m[j] _ _ _ _ _ H.out.1.1.2 H.out.1.2).mono ?_; rintro _ w ⟨rfl, hE⟩; simp only [he]; replace H := H.step hE; clear hE))
          go_ret
          exact ⟨by rw [hR, hRj]; rfl, H.ext⟩
      · obtain rfl : j = l.length := by omega
        go_wp2_with (first | ((with_reducible refine wpl_runx_d 8 rfl ?_ ?_); (focus exact rfl); refine ⟨_, runs_alloc H rfl rfl rfl, ?_⟩; clear H; rintro _ w ⟨b8, rfl, hE, H⟩; clear hE) | ((with_reducible refine wpl_runx_d 9 rfl ?_ ?_); (focus exact rfl); refine ⟨_, runs_alloc H rfl rfl rfl, ?_⟩; clear H; rintro _ w ⟨b9, rfl, hE, H⟩; clear hE) | ((with_reducible refine wpl_runx ?_ ?_); (focus exact rfl); refine ⟨_, runs_load H 0 rfl rfl rfl rfl rfl, ?_⟩; rintro _ _ ⟨rfl, rfl⟩) | ((with_reducible refine wpl_runx ?_ ?_); (focus exact rfl); refine ⟨_, runs_load H 1 rfl rfl rfl rfl rfl, ?_⟩; rintro _ _ ⟨rfl, rfl⟩) | ((with_reducible refine wpl_runx ?_ ?_); (focus exact rfl); refine ⟨_, runs_store H 0 rfl rfl rfl rfl rfl rfl rfl rfl rfl, ?_⟩; clear H; rintro _ w ⟨rfl, hE, H⟩; clear hE) | ((with_reducible refine wpl_runx ?_ ?_); (focus exact rfl); refine ⟨_, runs_store H 1 rfl rfl rfl rfl rfl rfl rfl rfl rfl, ?_⟩; clear H; rintro _ w ⟨rfl, hE, H⟩; clear hE))
        go_ret
        exact ⟨by rw [hR, List.drop_length, hlen.out, List.drop_length, hR0]; rfl, H.ext⟩
  · have hl3 : ((l.length : Int) == m.length) = false := by simp; omega
    go_enter Try.func46, Try.ntmps46
    go_wp2_with (first | ((with_reducible refine wpl_runx_d 8 rfl ?_ ?_); (focus exact rfl); refine ⟨_, runs_alloc H rfl rfl rfl, ?_⟩; clear H; rintro _ w ⟨b8, rfl, hE, H⟩; clear hE) | ((with_reducible refine wpl_runx_d 9 rfl ?_ ?_); (focus exact rfl); refine ⟨_, runs_alloc H rfl rfl rfl, ?_⟩; clear H; rintro _ w ⟨b9, rfl, hE, H⟩; clear hE) | ((with_reducible refine wpl_runx ?_ ?_); (focus exact rfl); refine ⟨_, runs_load H 0 rfl rfl rfl rfl rfl, ?_⟩; rintro _ _ ⟨rfl, rfl⟩) | ((with_reducible refine wpl_runx ?_ ?_); (focus exact rfl); refine ⟨_, runs_load H 1 rfl rfl rfl rfl rfl, ?_⟩; rintro _ _ ⟨rfl, rfl⟩) | ((with_reducible refine wpl_runx ?_ ?_); (focus exact rfl); refine ⟨_, runs_store H 0 rfl rfl rfl rfl rfl rfl rfl rfl rfl, ?_⟩; clear H; rintro _ w ⟨rfl, hE, H⟩; clear hE) | ((with_reducible refine wpl_runx ?_ ?_); (focus exact rfl); refine ⟨_, runs_store H 1 rfl rfl rfl rfl rfl rfl rfl rfl rfl, ?_⟩; clear H; rintro _ w ⟨rfl, hE, H⟩; clear hE))
    go_ret
    exact ⟨by rw [HR2.out _ _ hlen]; rfl, H.ext⟩

mutual
/-- No row of arguments is too long. -/
def slimA : Tm → Prop
  | .mk _ _ _ _ _ l => l.length ≤ 1000000 ∧ slimAL l
def slimAL : List Tm → Prop
  | [] => True
  | t :: ts => slimA t ∧ slimAL ts
end
theorem slimAL_mem : ∀ {l : List Tm} {t : Tm}, slimAL l → t ∈ l → slimA t
  | _ :: _, _, h, .head _ => h.1
  | _ :: _, _, h, .tail _ m => slimAL_mem h.2 m
mutual
theorem slimA_turn (F : Int → Tm) (hF : ∀ n, slimA (F n)) : ∀ t : Tm, okT t → slimA (turnT F t)
  | .mk k s n r i l, h => by
    unfold okT at h
    unfold turnT
    have h0 : ∀ k s n r i, slimA (.mk k s n r i []) := fun k s n r i => by unfold slimA; exact ⟨Nat.zero_le _, trivial⟩
    split
    · exact hF n
    · split
      · exact h0 ..
      · split
        · exact h0 ..
        · split
          · exact h0 ..
          · split
            · rename_i h5
              unfold slimA
              refine ⟨?_, slimAL_turn F hF l (h.2 h5)⟩
              rw [turnL_map, List.length_map]
              exact Nat.le_trans (oneE_args h.1 h5) (by decide)
            · exact h0 ..
theorem slimAL_turn (F : Int → Tm) (hF : ∀ n, slimA (F n)) : ∀ l : List Tm, okL l → slimAL (turnL F l)
  | [], _ => trivial
  | t :: ts, h => ⟨slimA_turn F hF t h.1, slimAL_turn F hF ts h.2⟩
end
theorem slimA_var (n : Int) : slimA (varT n) := by unfold varT slimA; exact ⟨Nat.zero_le _, trivial⟩
theorem slimA_plain (t : Tm) : slimA (plainE t) := by
  unfold plainE
  split
  · rename_i h; exact slimA_turn _ slimA_var t (mayE_ok.1 h).1
  · unfold Tm.zero slimA; exact ⟨Nat.zero_le _, trivial⟩

set_option maxHeartbeats 6000000 in
theorem same_spec : ∀ (t t' : Tm) (A A' : Option Addr) (c c' : Nat) (w0 : World), slimA t → AR A c t.args [] w0 → AR A' c' t'.args [] w0 →
    Calls Try.prog 28 #[.agg #[.int .i64 t.kind, .string t.name, .int .i64 t.int, .int .u64 t.re, .int .u64 t.im, .slice A t.args.length c], .agg #[.int .i64 t'.kind, .string t'.name, .int .i64 t'.int, .int .u64 t'.re, .int .u64 t'.im, .slice A' t'.args.length c']] w0 (RetV w0 (.bool (sameE t t'))) := by
  intro t
  induction t using Tm.ind with | _ k s n r i l IH
  intro t' A A' c c' w0 hs hA hA'
  cases t' with
  | mk k' s' n' r' i' l' =>
  simp only [Tm.kind, Tm.name, Tm.int, Tm.re, Tm.im, Tm.args] at hA hA' ⊢
  unfold slimA at hs
  have H := St.start (M := []) (by simp) ((AR.stab A c l).and (AR.stab A' c' l')) ⟨hA, hA'⟩
  clear hA hA'
  have IH' := Lib.hid IH; clear IH
  rw [show sameE (.mk k s n r i l) (.mk k' s' n' r' i' l') = (k == k' && (s.toList == s'.toList && (n == n' && (r == r' && (i == i' && sameL l l'))))) by rfl]
  cases e1 : (k == k') with
  | false =>
    go_enter Try.func28, Try.ntmps28
    go_wp2_with (first | ((with_reducible refine wpl_runx_d 2 rfl ?_ ?_); (focus exact rfl); refine ⟨_, runs_box H rfl rfl, ?_⟩; clear H; rintro _ w ⟨b2, rfl, hE, H⟩; clear hE) | ((with_reducible refine wpl_runx_d 3 rfl ?_ ?_); (focus exact rfl); refine ⟨_, runs_box H rfl rfl, ?_⟩; clear H; rintro _ w ⟨b3, rfl, hE, H⟩; clear hE) | ((with_reducible refine wpl_runx ?_ ?_); (focus exact rfl); refine ⟨_, runs_load H 0 rfl rfl rfl rfl rfl, ?_⟩; rintro _ _ ⟨rfl, rfl⟩) | ((with_reducible refine wpl_runx ?_ ?_); (focus exact rfl); refine ⟨_, runs_load H 1 rfl rfl rfl rfl rfl, ?_⟩; rintro _ _ ⟨rfl, rfl⟩) | ((with_reducible refine wpl_runx ?_ ?_); (focus exact rfl); refine ⟨_, runs_store H 0 rfl rfl rfl rfl rfl rfl rfl rfl rfl, ?_⟩; clear H; rintro _ w ⟨rfl, hE, H⟩; clear hE) | ((with_reducible refine wpl_runx ?_ ?_); (focus exact rfl); refine ⟨_, runs_store H 1 rfl rfl rfl rfl rfl rfl rfl rfl rfl, ?_⟩; clear H; rintro _ w ⟨rfl, hE, H⟩; clear hE))
    go_ret
    exact ⟨rfl, H.ext⟩
  | true =>
  cases e2 : (s.toList == s'.toList) with
  | false =>
    go_enter Try.func28, Try.ntmps28
    go_wp2_with (first | ((with_reducible refine wpl_runx_d 2 rfl ?_ ?_); (focus exact rfl); refine ⟨_, runs_box H rfl rfl, ?_⟩; clear H; rintro _ w ⟨b2, rfl, hE, H⟩; clear hE) | ((with_reducible refine wpl_runx_d 3 rfl ?_ ?_); (focus exact rfl); refine ⟨_, runs_box H rfl rfl, ?_⟩; clear H; rintro _ w ⟨b3, rfl, hE, H⟩; clear hE) | ((with_reducible refine wpl_runx ?_ ?_); (focus exact rfl); refine ⟨_, runs_load H 0 rfl rfl rfl rfl rfl, ?_⟩; rintro _ _ ⟨rfl, rfl⟩) | ((with_reducible refine wpl_runx ?_ ?_); (focus exact rfl); refine ⟨_, runs_load H 1 rfl rfl rfl rfl rfl, ?_⟩; rintro _ _ ⟨rfl, rfl⟩) | ((with_reducible refine wpl_runx ?_ ?_); (focus exact rfl); refine ⟨_, runs_store H 0 rfl rfl rfl rfl rfl rfl rfl rfl rfl, ?_⟩; clear H; rintro _ w ⟨rfl, hE, H⟩; clear hE) | ((with_reducible refine wpl_runx ?_ ?_); (focus exact rfl); refine ⟨_, runs_store H 1 rfl rfl rfl rfl rfl rfl rfl rfl rfl, ?_⟩; clear H; rintro _ w ⟨rfl, hE, H⟩; clear hE))
    go_ret
    exact ⟨rfl, H.ext⟩
  | true =>
  cases e3 : (n == n') with
  | false =>
    go_enter Try.func28, Try.ntmps28
    go_wp2_with (first | ((with_reducible refine wpl_runx_d 2 rfl ?_ ?_); (focus exact rfl); refine ⟨_, runs_box H rfl rfl, ?_⟩; clear H; rintro _ w ⟨b2, rfl, hE, H⟩; clear hE) | ((with_reducible refine wpl_runx_d 3 rfl ?_ ?_); (focus exact rfl); refine ⟨_, runs_box H rfl rfl, ?_⟩; clear H; rintro _ w ⟨b3, rfl, hE, H⟩; clear hE) | ((with_reducible refine wpl_runx ?_ ?_); (focus exact rfl); refine ⟨_, runs_load H 0 rfl rfl rfl rfl rfl, ?_⟩; rintro _ _ ⟨rfl, rfl⟩) | ((with_reducible refine wpl_runx ?_ ?_); (focus exact rfl); refine ⟨_, runs_load H 1 rfl rfl rfl rfl rfl, ?_⟩; rintro _ _ ⟨rfl, rfl⟩) | ((with_reducible refine wpl_runx ?_ ?_); (focus exact rfl); refine ⟨_, runs_store H 0 rfl rfl rfl rfl rfl rfl rfl rfl rfl, ?_⟩; clear H; rintro _ w ⟨rfl, hE, H⟩; clear hE) | ((with_reducible refine wpl_runx ?_ ?_); (focus exact rfl); refine ⟨_, runs_store H 1 rfl rfl rfl rfl rfl rfl rfl rfl rfl, ?_⟩; clear H; rintro _ w ⟨rfl, hE, H⟩; clear hE))
    go_ret
    exact ⟨rfl, H.ext⟩
  | true =>
  cases e4 : (r == r') with
  | false =>
    go_enter Try.func28, Try.ntmps28
    go_wp2_with (first | ((with_reducible refine wpl_runx_d 2 rfl ?_ ?_); (focus exact rfl); refine ⟨_, runs_box H rfl rfl, ?_⟩; clear H; rintro _ w ⟨b2, rfl, hE, H⟩; clear hE) | ((with_reducible refine wpl_runx_d 3 rfl ?_ ?_); (focus exact rfl); refine ⟨_, runs_box H rfl rfl, ?_⟩; clear H; rintro _ w ⟨b3, rfl, hE, H⟩; clear hE) | ((with_reducible refine wpl_runx ?_ ?_); (focus exact rfl); refine ⟨_, runs_load H 0 rfl rfl rfl rfl rfl, ?_⟩; rintro _ _ ⟨rfl, rfl⟩) | ((with_reducible refine wpl_runx ?_ ?_); (focus exact rfl); refine ⟨_, runs_load H 1 rfl rfl rfl rfl rfl, ?_⟩; rintro _ _ ⟨rfl, rfl⟩) | ((with_reducible refine wpl_runx ?_ ?_); (focus exact rfl); refine ⟨_, runs_store H 0 rfl rfl rfl rfl rfl rfl rfl rfl rfl, ?_⟩; clear H; rintro _ w ⟨rfl, hE, H⟩; clear hE) | ((with_reducible refine wpl_runx ?_ ?_); (focus exact rfl); refine ⟨_, runs_store H 1 rfl rfl rfl rfl rfl rfl rfl rfl rfl, ?_⟩; clear H; rintro _ w ⟨rfl, hE, H⟩; clear hE))
    go_ret
    exact ⟨rfl, H.ext⟩
  | true =>
  cases e5 : (i == i') with
  | false =>
    go_enter Try.func28, Try.ntmps28
    go_wp2_with (first | ((with_reducible refine wpl_runx_d 2 rfl ?_ ?_); (focus exact rfl); refine ⟨_, runs_box H rfl rfl, ?_⟩; clear H; rintro _ w ⟨b2, rfl, hE, H⟩; clear hE) | ((with_reducible refine wpl_runx_d 3 rfl ?_ ?_); (focus exact rfl); refine ⟨_, runs_box H rfl rfl, ?_⟩; clear H; rintro _ w ⟨b3, rfl, hE, H⟩; clear hE) | ((with_reducible refine wpl_runx ?_ ?_); (focus exact rfl); refine ⟨_, runs_load H 0 rfl rfl rfl rfl rfl, ?_⟩; rintro _ _ ⟨rfl, rfl⟩) | ((with_reducible refine wpl_runx ?_ ?_); (focus exact rfl); refine ⟨_, runs_load H 1 rfl rfl rfl rfl rfl, ?_⟩; rintro _ _ ⟨rfl, rfl⟩) | ((with_reducible refine wpl_runx ?_ ?_); (focus exact rfl); refine ⟨_, runs_store H 0 rfl rfl rfl rfl rfl rfl rfl rfl rfl, ?_⟩; clear H; rintro _ w ⟨rfl, hE, H⟩; clear hE) | ((with_reducible refine wpl_runx ?_ ?_); (focus exact rfl); refine ⟨_, runs_store H 1 rfl rfl rfl rfl rfl rfl rfl rfl rfl, ?_⟩; clear H; rintro _ w ⟨rfl, hE, H⟩; clear hE))
    go_ret
    exact ⟨rfl, H.ext⟩
  | true =>
    go_enter Try.func28, Try.ntmps28
    go_wp2_with (first | ((with_reducible refine wpl_runx_d 2 rfl ?_ ?_); (focus exact rfl); refine ⟨_, runs_box H rfl rfl, ?_⟩; clear H; rintro _ w ⟨b2, rfl, hE, H⟩; clear hE) | ((with_reducible refine wpl_runx_d 3 rfl ?_ ?_); (focus exact rfl); refine ⟨_, runs_box H rfl rfl, ?_⟩; clear H; rintro _ w ⟨b3, rfl, hE, H⟩; clear hE) | ((with_reducible refine wpl_runx ?_ ?_); (focus exact rfl); refine ⟨_, runs_load H 0 rfl rfl rfl rfl rfl, ?_⟩; rintro _ _ ⟨rfl, rfl⟩) | ((with_reducible refine wpl_runx ?_ ?_); (focus exact rfl); refine ⟨_, runs_load H 1 rfl rfl rfl rfl rfl, ?_⟩; rintro _ _ ⟨rfl, rfl⟩) | ((with_reducible refine wpl_runx ?_ ?_); (focus exact rfl); refine ⟨_, runs_store H 0 rfl rfl rfl rfl rfl rfl rfl rfl rfl, ?_⟩; clear H; rintro _ w ⟨rfl, hE, H⟩; clear hE) | ((with_reducible refine wpl_runx ?_ ?_); (focus exact rfl); refine ⟨_, runs_store H 1 rfl rfl rfl rfl rfl rfl rfl rfl rfl, ?_⟩; clear H; rintro _ w ⟨rfl, hE, H⟩; clear hE) | (refine (equal_spec 28 sameE (fun _ _ => rfl) l l' hs.1 A A' c c' _ H.out.1 H.out.2 (fun t ht t' A A' c c' w h1 h2 => IH'.out t ht t' A A' c c' w (slimAL_mem hs.2 ht) h1 h2) sameL rfl (fun _ _ _ _ => rfl) (fun _ _ => sameL_len)).mono ?_; rintro _ w ⟨rfl, hE⟩; replace H := H.step hE; clear hE))
    go_ret
    exact ⟨rfl, H.ext⟩

end Go.Proofs.Ytfjdekiobggdoaa
