/- TermVars: the walk and what it says of trees. -/
import Derived.Test.YtbeimnaeaompjaaCounts
namespace Go.Proofs.Ytbeimnaeaompjaa
open Go.RowKit
set_option linter.unusedVariables false
set_option linter.unusedSimpArgs false
set_option maxHeartbeats 2000000

def add1 (x : List Int) (v : Int) : List Int := if v ∈ x then x else x ++ [v]
def addAll (x vs : List Int) : List Int := vs.foldl add1 x
theorem addAll_nil (x : List Int) : addAll x [] = x := rfl
theorem addAll_snoc (x vs : List Int) (v : Int) : addAll x (vs ++ [v]) = add1 (addAll x vs) v := by simp [addAll]
theorem mem_add1 {x : List Int} {v u : Int} : u ∈ add1 x v ↔ u ∈ x ∨ u = v := by
  unfold add1
  split
  · rename_i h
    constructor
    · exact .inl
    · rintro (h | rfl) <;> assumption
  · simp
theorem mem_addAll {u : Int} : ∀ (vs x : List Int), u ∈ addAll x vs ↔ u ∈ x ∨ u ∈ vs
  | [], x => by simp [addAll]
  | v :: vs, x => by
    have := mem_addAll (u := u) vs (add1 x v)
    simp only [addAll, List.foldl_cons] at this ⊢
    rw [this, mem_add1, List.mem_cons]
    exact ⟨fun h => by rcases h with (h | h) | h <;> simp [h], fun h => by rcases h with h | h | h <;> simp [h]⟩
theorem addAll_add1 (x y : List Int) (v : Int) : addAll x (add1 y v) = add1 (addAll x y) v := by
  by_cases h : v ∈ y
  · rw [add1, if_pos h, add1, if_pos ((mem_addAll y x).2 (.inr h))]
  · conv => lhs; rw [add1, if_neg h]
    rw [addAll_snoc]
theorem addAll_assoc (x : List Int) : ∀ (vs y : List Int), addAll x (addAll y vs) = addAll (addAll x y) vs
  | [], y => rfl
  | v :: vs, y => by
    show addAll x (addAll (add1 y v) vs) = addAll (add1 (addAll x y) v) vs
    rw [addAll_assoc x vs, addAll_add1]
theorem add1_len (x : List Int) (v : Int) : (add1 x v).length ≤ x.length + 1 := by unfold add1; split <;> simp
theorem addAll_len : ∀ (vs x : List Int), (addAll x vs).length ≤ x.length + vs.length
  | [], x => by simp [addAll]
  | v :: vs, x => by
    have := addAll_len vs (add1 x v)
    have h1 := add1_len x v
    show (addAll (add1 x v) vs).length ≤ _
    simp only [List.length_cons]
    omega
mutual
theorem foldT_add : ∀ (t : Tm) (x : List Int), foldT varF t x = addAll x (foldT varF t [])
  | .mk k s n r i l, x => by
    unfold foldT
    by_cases h5 : k = 5
    · have e : ∀ x, varF x (.mk k s n r i l) = x := fun x => by simp [varF, Tm.kind, h5]
      rw [if_pos h5, if_pos h5, e, e]
      exact foldL_add l x
    · rw [if_neg h5, if_neg h5]
      unfold varF
      simp only [Tm.kind, Tm.int]
      by_cases h1 : k = 1
      · by_cases hm : n ∈ x
        · simp [h1, hm, addAll, add1]
        · simp [h1, hm, addAll, add1]
      · simp [h1, addAll]
theorem foldL_add : ∀ (l : List Tm) (x : List Int), foldL varF l x = addAll x (foldL varF l [])
  | [], x => rfl
  | t :: ts, x => by
    rw [foldL, foldL, foldL_add ts (foldT varF t x), foldL_add ts (foldT varF t []), foldT_add t x, addAll_assoc]
end
theorem foldL_snoc {σ : Type} (f : σ → Tm → σ) (t : Tm) : ∀ (l : List Tm) (x : σ), foldL f (l ++ [t]) x = foldT f t (foldL f l x)
  | [], x => by simp [foldL]
  | a :: l, x => by rw [List.cons_append, foldL, foldL, foldL_snoc f t l]
theorem varsE_le {t : Tm} (h : mayE t = 0) : (varsE t).length ≤ nT t := by
  have := foldT_len t []
  rw [varsE_ok h]
  simpa using this
theorem vars_comp {s : ByteArray} {l : List Tm} (h : mayE (.mk 5 s 0 0 0 l) = 0) : varsE (.mk 5 s 0 0 0 l) = foldL varF l [] := by
  rw [varsE_ok h, foldT, if_pos rfl]
  congr 1
/-- An own row's value: a slice of that length. -/
theorem St.rowVal {M X : List Nat} {w0 w : World} {L : List Res} {F : List Nat → World → Prop} (H : St M X w0 w L F) {k : Nat} {v : Value} {n : Nat} {xs : List Value} {ty sz : Nat} (hk : L[k]? = some (.row v n xs ty sz)) : ∃ a c, v = .slice a n c := by
  rcases (H.getRow hk).2 with ⟨rfl, h0⟩ | ⟨g, cap, cur, rfl, _⟩
  · subst h0; exact ⟨_, _, rfl⟩
  · exact ⟨_, _, rfl⟩
theorem take_int {l : List Int} {j : Nat} (h : j < l.length) : l.take (j + 1) = l.take j ++ [l[j]] := by rw [List.take_succ_eq_append_getElem h]
theorem VR.at2 {A : Option Addr} {cap : Nat} {l : List Value} {M : List Nat} {w : World} (h : VR A cap l M w) (j : Nat) (hj : j < l.length) :
    ∃ b o, A = some ⟨b, o, none⟩ ∧ b < w.heap.size ∧ ∀ k v, [l[j]][k]? = some v → w.cell? ⟨b, o + j + k, none⟩ = some v := by
  rcases h.2 with rfl | ⟨b, o, e, _, hb, hc⟩
  · simp at hj
  · refine ⟨b, o, e, hb, fun k v hk => ?_⟩
    cases k with
    | zero => exact hc j v (by simpa [List.getElem?_eq_getElem hj] using hk)
    | succ k => simp at hk

theorem lawvars_spec (s : ByteArray) (A : Option Addr) (c : Nat) (l : List Tm) (w0 : World) (hsz : s.size ≤ 140737488351232) (hA : AR A c l [] w0) (hl : l.length ≤ maxLen) (hw : wfL l) :
    Calls Try.prog 5 #[.string s, .slice A l.length c] w0 (RetV w0 (.bool true)) := by
  have H := St.start (M := []) (by simp) (AR.stab A c l) hA
  clear hA hw
  have hl' := hl
  unfold maxLen at hl'
  by_cases h0 : l.length = 0
  · have : l = [] := List.eq_nil_of_length_eq_zero h0
    subst this
    go_enter Try.func5, Try.ntmps5
    go_wp2_with (first | ((with_reducible refine wpl_runx_d 7 rfl ?_ ?_); (focus exact rfl); refine ⟨_, runs_alloc H rfl rfl rfl, ?_⟩; clear H; rintro _ w ⟨b7, rfl, hE, H⟩; clear hE) | ((with_reducible refine wpl_runx_d 78 rfl ?_ ?_); (focus exact rfl); refine ⟨_, by apply runs_buildSlice H; iterate 10 rfl, ?_⟩; clear H; rintro _ w ⟨b78, rfl, hE, H⟩; clear hE) | ((with_reducible refine wpl_runx ?_ ?_); (focus exact rfl); refine ⟨_, runs_load H 0 rfl rfl rfl rfl rfl, ?_⟩; rintro _ _ ⟨rfl, rfl⟩) | ((with_reducible refine wpl_runx ?_ ?_); (focus exact rfl); refine ⟨_, runs_load H 1 rfl rfl rfl rfl rfl, ?_⟩; rintro _ _ ⟨rfl, rfl⟩) | ((with_reducible refine wpl_runx ?_ ?_); (focus exact rfl); refine ⟨_, runs_store H 0 rfl rfl rfl rfl rfl rfl rfl rfl rfl, ?_⟩; clear H; rintro _ w ⟨rfl, hE, H⟩; clear hE) | ((with_reducible refine wpl_runx ?_ ?_); (focus exact rfl); refine ⟨_, runs_store H 1 rfl rfl rfl rfl rfl rfl rfl rfl rfl, ?_⟩; clear H; rintro _ w ⟨rfl, hE, H⟩; clear hE) | (refine (awake_spec _).mono ?_; rintro _ w ⟨rfl, hE⟩; replace H := H.step hE; clear hE))
    go_ret
    exact ⟨rfl, H.ext⟩
  have e0 : ((l.length : Int) == 0) = false := by simp; intro h; simp [h] at h0
  by_cases h8 : 8 < l.length
  · have e8 : decide ((8 : Int) < (l.length : Int)) = true := by simp; omega
    go_enter Try.func5, Try.ntmps5
    go_wp2_with (first | ((with_reducible refine wpl_runx_d 7 rfl ?_ ?_); (focus exact rfl); refine ⟨_, runs_alloc H rfl rfl rfl, ?_⟩; clear H; rintro _ w ⟨b7, rfl, hE, H⟩; clear hE) | ((with_reducible refine wpl_runx_d 78 rfl ?_ ?_); (focus exact rfl); refine ⟨_, by apply runs_buildSlice H; iterate 10 rfl, ?_⟩; clear H; rintro _ w ⟨b78, rfl, hE, H⟩; clear hE) | ((with_reducible refine wpl_runx ?_ ?_); (focus exact rfl); refine ⟨_, runs_load H 0 rfl rfl rfl rfl rfl, ?_⟩; rintro _ _ ⟨rfl, rfl⟩) | ((with_reducible refine wpl_runx ?_ ?_); (focus exact rfl); refine ⟨_, runs_load H 1 rfl rfl rfl rfl rfl, ?_⟩; rintro _ _ ⟨rfl, rfl⟩) | ((with_reducible refine wpl_runx ?_ ?_); (focus exact rfl); refine ⟨_, runs_store H 0 rfl rfl rfl rfl rfl rfl rfl rfl rfl, ?_⟩; clear H; rintro _ w ⟨rfl, hE, H⟩; clear hE) | ((with_reducible refine wpl_runx ?_ ?_); (focus exact rfl); refine ⟨_, runs_store H 1 rfl rfl rfl rfl rfl rfl rfl rfl rfl, ?_⟩; clear H; rintro _ w ⟨rfl, hE, H⟩; clear hE) | (refine (awake_spec _).mono ?_; rintro _ w ⟨rfl, hE⟩; replace H := H.step hE; clear hE))
    go_ret
    exact ⟨rfl, H.ext⟩
  have e8 : decide ((8 : Int) < (l.length : Int)) = false := by simp; omega
  by_cases h50 : 50 < s.size
  · have e50 : decide ((50 : Int) < (s.size : Int)) = true := by simp; omega
    go_enter Try.func5, Try.ntmps5
    go_wp2_with (first | ((with_reducible refine wpl_runx_d 7 rfl ?_ ?_); (focus exact rfl); refine ⟨_, runs_alloc H rfl rfl rfl, ?_⟩; clear H; rintro _ w ⟨b7, rfl, hE, H⟩; clear hE) | ((with_reducible refine wpl_runx_d 78 rfl ?_ ?_); (focus exact rfl); refine ⟨_, by apply runs_buildSlice H; iterate 10 rfl, ?_⟩; clear H; rintro _ w ⟨b78, rfl, hE, H⟩; clear hE) | ((with_reducible refine wpl_runx ?_ ?_); (focus exact rfl); refine ⟨_, runs_load H 0 rfl rfl rfl rfl rfl, ?_⟩; rintro _ _ ⟨rfl, rfl⟩) | ((with_reducible refine wpl_runx ?_ ?_); (focus exact rfl); refine ⟨_, runs_load H 1 rfl rfl rfl rfl rfl, ?_⟩; rintro _ _ ⟨rfl, rfl⟩) | ((with_reducible refine wpl_runx ?_ ?_); (focus exact rfl); refine ⟨_, runs_store H 0 rfl rfl rfl rfl rfl rfl rfl rfl rfl, ?_⟩; clear H; rintro _ w ⟨rfl, hE, H⟩; clear hE) | ((with_reducible refine wpl_runx ?_ ?_); (focus exact rfl); refine ⟨_, runs_store H 1 rfl rfl rfl rfl rfl rfl rfl rfl rfl, ?_⟩; clear H; rintro _ w ⟨rfl, hE, H⟩; clear hE) | (refine (awake_spec _).mono ?_; rintro _ w ⟨rfl, hE⟩; replace H := H.step hE; clear hE))
    go_ret
    exact ⟨rfl, H.ext⟩
  have e50 : decide ((50 : Int) < (s.size : Int)) = false := by simp; omega
  obtain ⟨B, hB⟩ : ∃ B, LightE l 0 4000 = B := ⟨_, rfl⟩
  have hLight : ∀ w, AR A c l [] w → Calls Try.prog 17 #[.slice A l.length c] w (RetV w (.bool B)) := fun w h => by rw [← hB]; exact Light_spec l A c w hl h
  cases B
  · go_enter Try.func5, Try.ntmps5
    go_wp2_with (first | ((with_reducible refine wpl_runx_d 7 rfl ?_ ?_); (focus exact rfl); refine ⟨_, runs_alloc H rfl rfl rfl, ?_⟩; clear H; rintro _ w ⟨b7, rfl, hE, H⟩; clear hE) | ((with_reducible refine wpl_runx_d 78 rfl ?_ ?_); (focus exact rfl); refine ⟨_, by apply runs_buildSlice H; iterate 10 rfl, ?_⟩; clear H; rintro _ w ⟨b78, rfl, hE, H⟩; clear hE) | ((with_reducible refine wpl_runx ?_ ?_); (focus exact rfl); refine ⟨_, runs_load H 0 rfl rfl rfl rfl rfl, ?_⟩; rintro _ _ ⟨rfl, rfl⟩) | ((with_reducible refine wpl_runx ?_ ?_); (focus exact rfl); refine ⟨_, runs_load H 1 rfl rfl rfl rfl rfl, ?_⟩; rintro _ _ ⟨rfl, rfl⟩) | ((with_reducible refine wpl_runx ?_ ?_); (focus exact rfl); refine ⟨_, runs_store H 0 rfl rfl rfl rfl rfl rfl rfl rfl rfl, ?_⟩; clear H; rintro _ w ⟨rfl, hE, H⟩; clear hE) | ((with_reducible refine wpl_runx ?_ ?_); (focus exact rfl); refine ⟨_, runs_store H 1 rfl rfl rfl rfl rfl rfl rfl rfl rfl, ?_⟩; clear H; rintro _ w ⟨rfl, hE, H⟩; clear hE) | (refine (hLight _ H.out).mono ?_; rintro _ w ⟨rfl, hE⟩; replace H := H.step hE; clear hE) | (refine (awake_spec _).mono ?_; rintro _ w ⟨rfl, hE⟩; replace H := H.step hE; clear hE))
    go_ret
    exact ⟨rfl, H.ext⟩
  go_enter Try.func5, Try.ntmps5
  go_wp2_with (first | ((with_reducible refine wpl_runx_d 7 rfl ?_ ?_); (focus exact rfl); refine ⟨_, runs_alloc H rfl rfl rfl, ?_⟩; clear H; rintro _ w ⟨b7, rfl, hE, H⟩; clear hE) | ((with_reducible refine wpl_runx_d 78 rfl ?_ ?_); (focus exact rfl); refine ⟨_, by apply runs_buildSlice H; iterate 10 rfl, ?_⟩; clear H; rintro _ w ⟨b78, rfl, hE, H⟩; clear hE) | ((with_reducible refine wpl_runx ?_ ?_); (focus exact rfl); refine ⟨_, runs_load H 0 rfl rfl rfl rfl rfl, ?_⟩; rintro _ _ ⟨rfl, rfl⟩) | ((with_reducible refine wpl_runx ?_ ?_); (focus exact rfl); refine ⟨_, runs_load H 1 rfl rfl rfl rfl rfl, ?_⟩; rintro _ _ ⟨rfl, rfl⟩) | ((with_reducible refine wpl_runx ?_ ?_); (focus exact rfl); refine ⟨_, runs_store H 0 rfl rfl rfl rfl rfl rfl rfl rfl rfl, ?_⟩; clear H; rintro _ w ⟨rfl, hE, H⟩; clear hE) | ((with_reducible refine wpl_runx ?_ ?_); (focus exact rfl); refine ⟨_, runs_store H 1 rfl rfl rfl rfl rfl rfl rfl rfl rfl, ?_⟩; clear H; rintro _ w ⟨rfl, hE, H⟩; clear hE) | (refine (hLight _ H.out).mono ?_; rintro _ w ⟨rfl, hE⟩; replace H := H.step hE; clear hE))
  replace H := H.nilRow 2 1
  go_loopw [5, 36] (fun sv iv wr => ∃ (j : Nat) (x : List Int), j ≤ l.length ∧ iv = .int .i64 j ∧ x = foldL varF (l.take j) [] ∧ x.length ≤ 200 * j ∧ okL (l.take j) ∧ nL (l.take j) ≤ 200 * j ∧ hL (l.take j) ≤ 300 ∧ St [] [] w0 wr [.row sv (x).length ((x).map (Value.int .i64)) 2 1] (AR A c l)) (fun _ iv _ => l.length - (intOf iv).toNat)
  case atStart => exact ⟨0, [], Nat.zero_le _, rfl, by simp [foldL], by simp, by simp [okL], by simp [nL], by simp [hL], H⟩
  case round =>
    clear H
    obtain ⟨j, x, hj, rfl, hx0, hxl, hok, hnb, hdb, H⟩ := hrel
    have hx := Lib.hid hx0; clear hx0
    by_cases hlt : j < l.length
    · obtain ⟨b2, o2, A1, c1, hAe, hbn, hbl, hcs, hA1⟩ := H.fact.at j hlt
      subst hAe
      replace H := H.add hA1 (AR.stab _ _ _)
      clear hA1 hbn hbl
      have HC := Lib.hid hcs; clear hcs
      by_cases hm : mayE l[j] = 0
      · have em : (mayE l[j] != 0) = false := by simp [hm]
        have hnn := nodesE_ok hm
        have hdd := depthE_ok hm
        obtain ⟨N, hN⟩ : ∃ N : Nat, nT l[j] = N := ⟨_, rfl⟩
        obtain ⟨D, hD⟩ : ∃ D : Nat, hT l[j] = D := ⟨_, rfl⟩
        have hMay : ∀ A c w, AR A c (l[j]).args [] w → Calls Try.prog 13 #[.agg #[.int .i64 (l[j]).kind, .string (l[j]).name, .int .i64 (l[j]).int, .int .u64 (l[j]).re, .int .u64 (l[j]).im, .slice A (l[j]).args.length c]] w (RetV w (.int .i64 0)) := fun A c w h => by rw [← hm]; exact may_spec _ A c w h
        have hNodes : ∀ A c w, AR A c (l[j]).args [] w → Calls Try.prog 16 #[.agg #[.int .i64 (l[j]).kind, .string (l[j]).name, .int .i64 (l[j]).int, .int .u64 (l[j]).re, .int .u64 (l[j]).im, .slice A (l[j]).args.length c]] w (RetV w (.int .i64 N)) := fun A c w h => by rw [← hN, ← hnn]; exact nodes_spec _ A c w h
        have hDepth : ∀ A c w, AR A c (l[j]).args [] w → Calls Try.prog 18 #[.agg #[.int .i64 (l[j]).kind, .string (l[j]).name, .int .i64 (l[j]).int, .int .u64 (l[j]).re, .int .u64 (l[j]).im, .slice A (l[j]).args.length c]] w (RetV w (.int .i64 D)) := fun A c w h => by rw [← hD, ← hdd]; exact depth_spec _ A c w h
        by_cases h200 : 200 < N
        · have e200 : decide ((200 : Int) < (N : Int)) = true := by simp; omega
          go_wp2_with (first | ((with_reducible refine wpl_runx_d 7 rfl ?_ ?_); (focus exact rfl); refine ⟨_, runs_alloc H rfl rfl rfl, ?_⟩; clear H; rintro _ w ⟨b7, rfl, hE, H⟩; clear hE) | ((with_reducible refine wpl_runx_d 78 rfl ?_ ?_); (focus exact rfl); refine ⟨_, by apply runs_buildSlice H; iterate 10 rfl, ?_⟩; clear H; rintro _ w ⟨b78, rfl, hE, H⟩; clear hE) | ((with_reducible refine wpl_runx ?_ ?_); (focus exact rfl); refine ⟨_, runs_load H 0 rfl rfl rfl rfl rfl, ?_⟩; rintro _ _ ⟨rfl, rfl⟩) | ((with_reducible refine wpl_runx ?_ ?_); (focus exact rfl); refine ⟨_, runs_load H 1 rfl rfl rfl rfl rfl, ?_⟩; rintro _ _ ⟨rfl, rfl⟩) | ((with_reducible refine wpl_runx ?_ ?_); (focus exact rfl); refine ⟨_, runs_load H 2 rfl rfl rfl rfl rfl, ?_⟩; rintro _ _ ⟨rfl, rfl⟩) | ((with_reducible refine wpl_runx ?_ ?_); (focus exact rfl); refine ⟨_, runs_store H 0 rfl rfl rfl rfl rfl rfl rfl rfl rfl, ?_⟩; clear H; rintro _ w ⟨rfl, hE, H⟩; clear hE) | ((with_reducible refine wpl_runx ?_ ?_); (focus exact rfl); refine ⟨_, runs_store H 1 rfl rfl rfl rfl rfl rfl rfl rfl rfl, ?_⟩; clear H; rintro _ w ⟨rfl, hE, H⟩; clear hE) | ((with_reducible refine wpl_runx ?_ ?_); (focus exact rfl); refine ⟨_, runs_store H 2 rfl rfl rfl rfl rfl rfl rfl rfl rfl, ?_⟩; clear H; rintro _ w ⟨rfl, hE, H⟩; clear hE) | ((with_reducible refine wpl_runx ?_ ?_); (focus exact rfl); refine ⟨_, runs_load_at rfl rfl rfl HC.out rfl, ?_⟩; rintro _ _ ⟨rfl, rfl⟩) | (refine (hMay _ _ _ H.out.2).mono ?_; rintro _ w ⟨rfl, hE⟩; replace H := H.step hE; clear hE) | (refine (hNodes _ _ _ H.out.2).mono ?_; rintro _ w ⟨rfl, hE⟩; replace H := H.step hE; clear hE) | (refine (hDepth _ _ _ H.out.2).mono ?_; rintro _ w ⟨rfl, hE⟩; replace H := H.step hE; clear hE) | (refine (awake_spec _).mono ?_; rintro _ w ⟨rfl, hE⟩; replace H := H.step hE; clear hE))
          go_ret
          exact ⟨rfl, H.ext⟩
        have e200 : decide ((200 : Int) < (N : Int)) = false := by simp; omega
        by_cases h300 : 300 < D
        · have e300 : decide ((300 : Int) < (D : Int)) = true := by simp; omega
          go_wp2_with (first | ((with_reducible refine wpl_runx_d 7 rfl ?_ ?_); (focus exact rfl); refine ⟨_, runs_alloc H rfl rfl rfl, ?_⟩; clear H; rintro _ w ⟨b7, rfl, hE, H⟩; clear hE) | ((with_reducible refine wpl_runx_d 78 rfl ?_ ?_); (focus exact rfl); refine ⟨_, by apply runs_buildSlice H; iterate 10 rfl, ?_⟩; clear H; rintro _ w ⟨b78, rfl, hE, H⟩; clear hE) | ((with_reducible refine wpl_runx ?_ ?_); (focus exact rfl); refine ⟨_, runs_load H 0 rfl rfl rfl rfl rfl, ?_⟩; rintro _ _ ⟨rfl, rfl⟩) | ((with_reducible refine wpl_runx ?_ ?_); (focus exact rfl); refine ⟨_, runs_load H 1 rfl rfl rfl rfl rfl, ?_⟩; rintro _ _ ⟨rfl, rfl⟩) | ((with_reducible refine wpl_runx ?_ ?_); (focus exact rfl); refine ⟨_, runs_load H 2 rfl rfl rfl rfl rfl, ?_⟩; rintro _ _ ⟨rfl, rfl⟩) | ((with_reducible refine wpl_runx ?_ ?_); (focus exact rfl); refine ⟨_, runs_store H 0 rfl rfl rfl rfl rfl rfl rfl rfl rfl, ?_⟩; clear H; rintro _ w ⟨rfl, hE, H⟩; clear hE) | ((with_reducible refine wpl_runx ?_ ?_); (focus exact rfl); refine ⟨_, runs_store H 1 rfl rfl rfl rfl rfl rfl rfl rfl rfl, ?_⟩; clear H; rintro _ w ⟨rfl, hE, H⟩; clear hE) | ((with_reducible refine wpl_runx ?_ ?_); (focus exact rfl); refine ⟨_, runs_store H 2 rfl rfl rfl rfl rfl rfl rfl rfl rfl, ?_⟩; clear H; rintro _ w ⟨rfl, hE, H⟩; clear hE) | ((with_reducible refine wpl_runx ?_ ?_); (focus exact rfl); refine ⟨_, runs_load_at rfl rfl rfl HC.out rfl, ?_⟩; rintro _ _ ⟨rfl, rfl⟩) | (refine (hMay _ _ _ H.out.2).mono ?_; rintro _ w ⟨rfl, hE⟩; replace H := H.step hE; clear hE) | (refine (hNodes _ _ _ H.out.2).mono ?_; rintro _ w ⟨rfl, hE⟩; replace H := H.step hE; clear hE) | (refine (hDepth _ _ _ H.out.2).mono ?_; rintro _ w ⟨rfl, hE⟩; replace H := H.step hE; clear hE) | (refine (awake_spec _).mono ?_; rintro _ w ⟨rfl, hE⟩; replace H := H.step hE; clear hE))
          go_ret
          exact ⟨rfl, H.ext⟩
        have e300 : decide ((300 : Int) < (D : Int)) = false := by simp; omega
        go_wp2_with (first | ((with_reducible refine wpl_runx_d 7 rfl ?_ ?_); (focus exact rfl); refine ⟨_, runs_alloc H rfl rfl rfl, ?_⟩; clear H; rintro _ w ⟨b7, rfl, hE, H⟩; clear hE) | ((with_reducible refine wpl_runx_d 78 rfl ?_ ?_); (focus exact rfl); refine ⟨_, by apply runs_buildSlice H; iterate 10 rfl, ?_⟩; clear H; rintro _ w ⟨b78, rfl, hE, H⟩; clear hE) | ((with_reducible refine wpl_runx ?_ ?_); (focus exact rfl); refine ⟨_, runs_load H 0 rfl rfl rfl rfl rfl, ?_⟩; rintro _ _ ⟨rfl, rfl⟩) | ((with_reducible refine wpl_runx ?_ ?_); (focus exact rfl); refine ⟨_, runs_load H 1 rfl rfl rfl rfl rfl, ?_⟩; rintro _ _ ⟨rfl, rfl⟩) | ((with_reducible refine wpl_runx ?_ ?_); (focus exact rfl); refine ⟨_, runs_load H 2 rfl rfl rfl rfl rfl, ?_⟩; rintro _ _ ⟨rfl, rfl⟩) | ((with_reducible refine wpl_runx ?_ ?_); (focus exact rfl); refine ⟨_, runs_store H 0 rfl rfl rfl rfl rfl rfl rfl rfl rfl, ?_⟩; clear H; rintro _ w ⟨rfl, hE, H⟩; clear hE) | ((with_reducible refine wpl_runx ?_ ?_); (focus exact rfl); refine ⟨_, runs_store H 1 rfl rfl rfl rfl rfl rfl rfl rfl rfl, ?_⟩; clear H; rintro _ w ⟨rfl, hE, H⟩; clear hE) | ((with_reducible refine wpl_runx ?_ ?_); (focus exact rfl); refine ⟨_, runs_store H 2 rfl rfl rfl rfl rfl rfl rfl rfl rfl, ?_⟩; clear H; rintro _ w ⟨rfl, hE, H⟩; clear hE) | ((with_reducible refine wpl_runx ?_ ?_); (focus exact rfl); refine ⟨_, runs_load_at rfl rfl rfl HC.out rfl, ?_⟩; rintro _ _ ⟨rfl, rfl⟩) | (refine (hMay _ _ _ H.out.2).mono ?_; rintro _ w ⟨rfl, hE⟩; replace H := H.step hE; clear hE) | (refine (hNodes _ _ _ H.out.2).mono ?_; rintro _ w ⟨rfl, hE⟩; replace H := H.step hE; clear hE) | (refine (hDepth _ _ _ H.out.2).mono ?_; rintro _ w ⟨rfl, hE⟩; replace H := H.step hE; clear hE) | (refine (vars_spec l[j] _ _ _ _ H.ltAll H.fact.2).mono ?_; rintro _ w ⟨A5, c5, rfl, hV, hE⟩; replace H := (((H.step hE).add hV (VR.stab _ _ _)).weaken (fun h => ⟨h.1.1, h.2⟩) ((AR.stab _ _ _).and (VR.stab _ _ _))).drop 0 rfl; clear hE hV))
        clear HC
        have hvl := varsE_le hm
        try rw [show decide ((j : Int) < (l.length : Int)) = true from by simp; omega]
        go_loopw [5, 57] (fun sv2 iv2 wr2 => ∃ (i : Nat) (y : List Int), i ≤ (varsE l[j]).length ∧ iv2 = .int .i64 i ∧ y = addAll x ((varsE l[j]).take i) ∧ y.length ≤ 200 * j + i ∧ St [] [] w0 wr2 [.row sv2 (y).length ((y).map (Value.int .i64)) 2 1] (fun M w => AR (some ⟨b2, o2, none⟩) c l M w ∧ VR A5 c5 ((varsE l[j]).map (Value.int .i64)) M w)) (fun _ iv2 _ => (varsE l[j]).length - (intOf iv2).toNat)
        case atStart => exact ⟨0, x, Nat.zero_le _, rfl, by simp [addAll], by omega, H⟩
        case round =>
          clear H
          obtain ⟨i, y, hi, rfl, hy0, hyl, H⟩ := hrel
          have hy := Lib.hid hy0; clear hy0
          by_cases hli : i < (varsE l[j]).length
          · obtain ⟨b3, o3, rfl, HC⟩ := H.fact.2.at i (by simpa using hli)
            obtain ⟨a4, k4, rfl⟩ := H.rowVal (k := 0) rfl
            rw [List.getElem_map] at HC
            replace HC := Lib.hid HC
            go_wp2_with (first | ((with_reducible refine wpl_runx_d 7 rfl ?_ ?_); (focus exact rfl); refine ⟨_, runs_alloc H rfl rfl rfl, ?_⟩; clear H; rintro _ w ⟨b7, rfl, hE, H⟩; clear hE) | ((with_reducible refine wpl_runx_d 78 rfl ?_ ?_); (focus exact rfl); refine ⟨_, by apply runs_buildSlice H; iterate 10 rfl, ?_⟩; clear H; rintro _ w ⟨b78, rfl, hE, H⟩; clear hE) | ((with_reducible refine wpl_runx ?_ ?_); (focus exact rfl); refine ⟨_, runs_load H 0 rfl rfl rfl rfl rfl, ?_⟩; rintro _ _ ⟨rfl, rfl⟩) | ((with_reducible refine wpl_runx ?_ ?_); (focus exact rfl); refine ⟨_, runs_load H 1 rfl rfl rfl rfl rfl, ?_⟩; rintro _ _ ⟨rfl, rfl⟩) | ((with_reducible refine wpl_runx ?_ ?_); (focus exact rfl); refine ⟨_, runs_store H 0 rfl rfl rfl rfl rfl rfl rfl rfl rfl, ?_⟩; clear H; rintro _ w ⟨rfl, hE, H⟩; clear hE) | ((with_reducible refine wpl_runx ?_ ?_); (focus exact rfl); refine ⟨_, runs_store H 1 rfl rfl rfl rfl rfl rfl rfl rfl rfl, ?_⟩; clear H; rintro _ w ⟨rfl, hE, H⟩; clear hE) | ((with_reducible refine wpl_runx ?_ ?_); (focus exact rfl); refine ⟨_, runs_load_at rfl rfl rfl HC.out rfl, ?_⟩; rintro _ _ ⟨rfl, rfl⟩))
            clear HC
            try rw [show decide ((i : Int) < ((varsE l[j]).length : Int)) = true from by simp; omega]
            go_loopw [10, 63] (fun bv kv wr3 => ∃ (k : Nat) (B : Bool), k ≤ y.length ∧ kv = .int .i64 k ∧ bv = .bool B ∧ (B = true ↔ (varsE l[j])[i] ∈ y.take k) ∧ St [] [] w0 wr3 [.row (.slice a4 y.length k4) (y).length ((y).map (Value.int .i64)) 2 1] (fun M w => AR (some ⟨b2, o2, none⟩) c l M w ∧ VR (some ⟨b3, o3, none⟩) c5 ((varsE l[j]).map (Value.int .i64)) M w)) (fun _ kv _ => y.length - (intOf kv).toNat)
            case atStart => exact ⟨0, false, Nat.zero_le _, rfl, rfl, by simp, H⟩
            case round =>
              clear H
              obtain ⟨k, B, hk, rfl, rfl, hB, H⟩ := hrel
              by_cases hlk : k < y.length
              · obtain ⟨g, cap, e, _, _, hcell⟩ := H.rowCells (k := 0) rfl (by omega)
                simp only [Value.slice.injEq, Option.some.injEq, true_and] at e
                obtain ⟨rfl, rfl⟩ := e
                have HC : RowKit.Hid (∀ (q : Nat) (v : Value), [Value.int .i64 y[k]][q]? = some v → wr.cell? ⟨g, k + q, none⟩ = some v) := Lib.hid fun q v hq => by
                  cases q with
                  | zero => exact hcell k v (by rw [List.getElem?_map, List.getElem?_eq_getElem hlk]; exact hq)
                  | succ q => simp at hq
                clear hcell
                cases B
                · obtain ⟨D, hD⟩ : ∃ D, ((varsE l[j])[i] == y[k]) = D := ⟨_, rfl⟩
                  have hD' : D = true ↔ (varsE l[j])[i] = y[k] := by rw [← hD]; simp
                  cases D
                  · go_wp2_with (first | ((with_reducible refine wpl_runx_d 7 rfl ?_ ?_); (focus exact rfl); refine ⟨_, runs_alloc H rfl rfl rfl, ?_⟩; clear H; rintro _ w ⟨b7, rfl, hE, H⟩; clear hE) | ((with_reducible refine wpl_runx_d 78 rfl ?_ ?_); (focus exact rfl); refine ⟨_, by apply runs_buildSlice H; iterate 10 rfl, ?_⟩; clear H; rintro _ w ⟨b78, rfl, hE, H⟩; clear hE) | ((with_reducible refine wpl_runx ?_ ?_); (focus exact rfl); refine ⟨_, runs_load H 0 rfl rfl rfl rfl rfl, ?_⟩; rintro _ _ ⟨rfl, rfl⟩) | ((with_reducible refine wpl_runx ?_ ?_); (focus exact rfl); refine ⟨_, runs_load H 1 rfl rfl rfl rfl rfl, ?_⟩; rintro _ _ ⟨rfl, rfl⟩) | ((with_reducible refine wpl_runx ?_ ?_); (focus exact rfl); refine ⟨_, runs_store H 0 rfl rfl rfl rfl rfl rfl rfl rfl rfl, ?_⟩; clear H; rintro _ w ⟨rfl, hE, H⟩; clear hE) | ((with_reducible refine wpl_runx ?_ ?_); (focus exact rfl); refine ⟨_, runs_store H 1 rfl rfl rfl rfl rfl rfl rfl rfl rfl, ?_⟩; clear H; rintro _ w ⟨rfl, hE, H⟩; clear hE) | ((with_reducible refine wpl_runx ?_ ?_); (focus exact rfl); refine ⟨_, runs_load_at rfl rfl rfl HC.out rfl, ?_⟩; rintro _ _ ⟨rfl, rfl⟩))
                    clear HC
                    go_roundw
                    case rel =>
                      refine ⟨k + 1, false, by omega, by go_num, rfl, ?_, H⟩
                      rw [take_int hlk, List.mem_append, List.mem_singleton, ← hB, ← hD']; simp
                    case measure => simp [intOf]; omega
                  · go_wp2_with (first | ((with_reducible refine wpl_runx_d 7 rfl ?_ ?_); (focus exact rfl); refine ⟨_, runs_alloc H rfl rfl rfl, ?_⟩; clear H; rintro _ w ⟨b7, rfl, hE, H⟩; clear hE) | ((with_reducible refine wpl_runx_d 78 rfl ?_ ?_); (focus exact rfl); refine ⟨_, by apply runs_buildSlice H; iterate 10 rfl, ?_⟩; clear H; rintro _ w ⟨b78, rfl, hE, H⟩; clear hE) | ((with_reducible refine wpl_runx ?_ ?_); (focus exact rfl); refine ⟨_, runs_load H 0 rfl rfl rfl rfl rfl, ?_⟩; rintro _ _ ⟨rfl, rfl⟩) | ((with_reducible refine wpl_runx ?_ ?_); (focus exact rfl); refine ⟨_, runs_load H 1 rfl rfl rfl rfl rfl, ?_⟩; rintro _ _ ⟨rfl, rfl⟩) | ((with_reducible refine wpl_runx ?_ ?_); (focus exact rfl); refine ⟨_, runs_store H 0 rfl rfl rfl rfl rfl rfl rfl rfl rfl, ?_⟩; clear H; rintro _ w ⟨rfl, hE, H⟩; clear hE) | ((with_reducible refine wpl_runx ?_ ?_); (focus exact rfl); refine ⟨_, runs_store H 1 rfl rfl rfl rfl rfl rfl rfl rfl rfl, ?_⟩; clear H; rintro _ w ⟨rfl, hE, H⟩; clear hE) | ((with_reducible refine wpl_runx ?_ ?_); (focus exact rfl); refine ⟨_, runs_load_at rfl rfl rfl HC.out rfl, ?_⟩; rintro _ _ ⟨rfl, rfl⟩))
                    clear HC
                    go_roundw
                    case rel =>
                      refine ⟨k + 1, true, by omega, by go_num, rfl, ?_, H⟩
                      rw [take_int hlk, List.mem_append, List.mem_singleton, ← hB, ← hD']; simp
                    case measure => simp [intOf]; omega
                · go_wp2_with (first | ((with_reducible refine wpl_runx_d 7 rfl ?_ ?_); (focus exact rfl); refine ⟨_, runs_alloc H rfl rfl rfl, ?_⟩; clear H; rintro _ w ⟨b7, rfl, hE, H⟩; clear hE) | ((with_reducible refine wpl_runx_d 78 rfl ?_ ?_); (focus exact rfl); refine ⟨_, by apply runs_buildSlice H; iterate 10 rfl, ?_⟩; clear H; rintro _ w ⟨b78, rfl, hE, H⟩; clear hE) | ((with_reducible refine wpl_runx ?_ ?_); (focus exact rfl); refine ⟨_, runs_load H 0 rfl rfl rfl rfl rfl, ?_⟩; rintro _ _ ⟨rfl, rfl⟩) | ((with_reducible refine wpl_runx ?_ ?_); (focus exact rfl); refine ⟨_, runs_load H 1 rfl rfl rfl rfl rfl, ?_⟩; rintro _ _ ⟨rfl, rfl⟩) | ((with_reducible refine wpl_runx ?_ ?_); (focus exact rfl); refine ⟨_, runs_store H 0 rfl rfl rfl rfl rfl rfl rfl rfl rfl, ?_⟩; clear H; rintro _ w ⟨rfl, hE, H⟩; clear hE) | ((with_reducible refine wpl_runx ?_ ?_); (focus exact rfl); refine ⟨_, runs_store H 1 rfl rfl rfl rfl rfl rfl rfl rfl rfl, ?_⟩; clear H; rintro _ w ⟨rfl, hE, H⟩; clear hE) | ((with_reducible refine wpl_runx ?_ ?_); (focus exact rfl); refine ⟨_, runs_load_at rfl rfl rfl HC.out rfl, ?_⟩; rintro _ _ ⟨rfl, rfl⟩))
                  clear HC
                  go_roundw
                  case rel =>
                    refine ⟨k + 1, true, by omega, by go_num, rfl, ?_, H⟩
                    rw [take_int hlk, List.mem_append, List.mem_singleton, ← hB]; simp
                  case measure => simp [intOf]; omega
              · obtain rfl : k = y.length := by omega
                rw [List.take_length] at hB
                cases B
                · go_wp2_with (first | ((with_reducible refine wpl_runx_d 7 rfl ?_ ?_); (focus exact rfl); refine ⟨_, runs_alloc H rfl rfl rfl, ?_⟩; clear H; rintro _ w ⟨b7, rfl, hE, H⟩; clear hE) | ((with_reducible refine wpl_runx_d 78 rfl ?_ ?_); (focus exact rfl); refine ⟨_, by apply runs_buildSlice H; iterate 10 rfl, ?_⟩; clear H; rintro _ w ⟨b78, rfl, hE, H⟩; clear hE) | ((with_reducible refine wpl_runx ?_ ?_); (focus exact rfl); refine ⟨_, runs_load H 0 rfl rfl rfl rfl rfl, ?_⟩; rintro _ _ ⟨rfl, rfl⟩) | ((with_reducible refine wpl_runx ?_ ?_); (focus exact rfl); refine ⟨_, runs_load H 1 rfl rfl rfl rfl rfl, ?_⟩; rintro _ _ ⟨rfl, rfl⟩) | ((with_reducible refine wpl_runx ?_ ?_); (focus exact rfl); refine ⟨_, runs_store H 0 rfl rfl rfl rfl rfl rfl rfl rfl rfl, ?_⟩; clear H; rintro _ w ⟨rfl, hE, H⟩; clear hE) | ((with_reducible refine wpl_runx ?_ ?_); (focus exact rfl); refine ⟨_, runs_store H 1 rfl rfl rfl rfl rfl rfl rfl rfl rfl, ?_⟩; clear H; rintro _ w ⟨rfl, hE, H⟩; clear hE) | ((with_reducible refine wpl_runx ?_ ?_); (focus exact rfl); refine ⟨_, runs_append1 H 1 rfl rfl rfl rfl rfl Try.infoI64 rfl (by decide) 0 rfl rfl rfl (by decide) (by unfold maxLen; omega) (by omega) (fun r => rfl), ?_⟩; clear H; rintro _ w ⟨g', cap', rfl, hE, H⟩; clear hE))
                  go_roundw
                  case rel =>
                    have hni : (varsE l[j])[i] ∉ y := fun h => by simpa using hB.2 h
                    have e1 : addAll x ((varsE l[j]).take (i + 1)) = y ++ [(varsE l[j])[i]] := by rw [take_int hli, addAll_snoc, ← hy.out, add1, if_neg hni]
                    refine ⟨i + 1, y ++ [(varsE l[j])[i]], by omega, by go_num, e1.symm, by simp; omega, ?_⟩
                    have H' := H.drop 0 rfl
                    simpa using H'
                  case measure => simp [intOf]; omega
                · go_wp2_with (first | ((with_reducible refine wpl_runx_d 7 rfl ?_ ?_); (focus exact rfl); refine ⟨_, runs_alloc H rfl rfl rfl, ?_⟩; clear H; rintro _ w ⟨b7, rfl, hE, H⟩; clear hE) | ((with_reducible refine wpl_runx_d 78 rfl ?_ ?_); (focus exact rfl); refine ⟨_, by apply runs_buildSlice H; iterate 10 rfl, ?_⟩; clear H; rintro _ w ⟨b78, rfl, hE, H⟩; clear hE) | ((with_reducible refine wpl_runx ?_ ?_); (focus exact rfl); refine ⟨_, runs_load H 0 rfl rfl rfl rfl rfl, ?_⟩; rintro _ _ ⟨rfl, rfl⟩) | ((with_reducible refine wpl_runx ?_ ?_); (focus exact rfl); refine ⟨_, runs_load H 1 rfl rfl rfl rfl rfl, ?_⟩; rintro _ _ ⟨rfl, rfl⟩) | ((with_reducible refine wpl_runx ?_ ?_); (focus exact rfl); refine ⟨_, runs_store H 0 rfl rfl rfl rfl rfl rfl rfl rfl rfl, ?_⟩; clear H; rintro _ w ⟨rfl, hE, H⟩; clear hE) | ((with_reducible refine wpl_runx ?_ ?_); (focus exact rfl); refine ⟨_, runs_store H 1 rfl rfl rfl rfl rfl rfl rfl rfl rfl, ?_⟩; clear H; rintro _ w ⟨rfl, hE, H⟩; clear hE))
                  go_roundw
                  case rel =>
                    have hni : (varsE l[j])[i] ∈ y := hB.1 rfl
                    have e1 : addAll x ((varsE l[j]).take (i + 1)) = y := by rw [take_int hli, addAll_snoc, ← hy.out, add1, if_pos hni]
                    exact ⟨i + 1, y, by omega, by go_num, e1.symm, by omega, H⟩
                  case measure => simp [intOf]; omega
          · obtain rfl : i = (varsE l[j]).length := by omega
            have hy := hy.out; rw [List.take_length] at hy; replace hy := Lib.hid hy
            replace H := H.weaken (fun h => h.1) (AR.stab _ _ _)
            go_wp2_with (first | ((with_reducible refine wpl_runx_d 7 rfl ?_ ?_); (focus exact rfl); refine ⟨_, runs_alloc H rfl rfl rfl, ?_⟩; clear H; rintro _ w ⟨b7, rfl, hE, H⟩; clear hE) | ((with_reducible refine wpl_runx_d 78 rfl ?_ ?_); (focus exact rfl); refine ⟨_, by apply runs_buildSlice H; iterate 10 rfl, ?_⟩; clear H; rintro _ w ⟨b78, rfl, hE, H⟩; clear hE) | ((with_reducible refine wpl_runx ?_ ?_); (focus exact rfl); refine ⟨_, runs_load H 0 rfl rfl rfl rfl rfl, ?_⟩; rintro _ _ ⟨rfl, rfl⟩) | ((with_reducible refine wpl_runx ?_ ?_); (focus exact rfl); refine ⟨_, runs_load H 1 rfl rfl rfl rfl rfl, ?_⟩; rintro _ _ ⟨rfl, rfl⟩) | ((with_reducible refine wpl_runx ?_ ?_); (focus exact rfl); refine ⟨_, runs_store H 0 rfl rfl rfl rfl rfl rfl rfl rfl rfl, ?_⟩; clear H; rintro _ w ⟨rfl, hE, H⟩; clear hE) | ((with_reducible refine wpl_runx ?_ ?_); (focus exact rfl); refine ⟨_, runs_store H 1 rfl rfl rfl rfl rfl rfl rfl rfl rfl, ?_⟩; clear H; rintro _ w ⟨rfl, hE, H⟩; clear hE))
            go_roundw
            case rel =>
              refine ⟨j + 1, y, by omega, by go_num, ?_, by omega, ?_, ?_, ?_, H⟩
              · rw [take_snoc hlt, foldL_snoc, foldT_add, ← hx.out, hy.out, varsE_ok hm]
              · rw [take_snoc hlt]; exact okL_snoc _ _ hok (mayE_ok.1 hm).1
              · rw [take_snoc hlt, nL_snoc, hN]; omega
              · rw [take_snoc hlt, hL_snoc, hD]; omega
            case measure => simp [intOf]; omega
      · have em : (mayE l[j] != 0) = true := by simpa using hm
        go_wp2_with (first | ((with_reducible refine wpl_runx_d 7 rfl ?_ ?_); (focus exact rfl); refine ⟨_, runs_alloc H rfl rfl rfl, ?_⟩; clear H; rintro _ w ⟨b7, rfl, hE, H⟩; clear hE) | ((with_reducible refine wpl_runx_d 78 rfl ?_ ?_); (focus exact rfl); refine ⟨_, by apply runs_buildSlice H; iterate 10 rfl, ?_⟩; clear H; rintro _ w ⟨b78, rfl, hE, H⟩; clear hE) | ((with_reducible refine wpl_runx ?_ ?_); (focus exact rfl); refine ⟨_, runs_load H 0 rfl rfl rfl rfl rfl, ?_⟩; rintro _ _ ⟨rfl, rfl⟩) | ((with_reducible refine wpl_runx ?_ ?_); (focus exact rfl); refine ⟨_, runs_load H 1 rfl rfl rfl rfl rfl, ?_⟩; rintro _ _ ⟨rfl, rfl⟩) | ((with_reducible refine wpl_runx ?_ ?_); (focus exact rfl); refine ⟨_, runs_load H 2 rfl rfl rfl rfl rfl, ?_⟩; rintro _ _ ⟨rfl, rfl⟩) | ((with_reducible refine wpl_runx ?_ ?_); (focus exact rfl); refine ⟨_, runs_store H 0 rfl rfl rfl rfl rfl rfl rfl rfl rfl, ?_⟩; clear H; rintro _ w ⟨rfl, hE, H⟩; clear hE) | ((with_reducible refine wpl_runx ?_ ?_); (focus exact rfl); refine ⟨_, runs_store H 1 rfl rfl rfl rfl rfl rfl rfl rfl rfl, ?_⟩; clear H; rintro _ w ⟨rfl, hE, H⟩; clear hE) | ((with_reducible refine wpl_runx ?_ ?_); (focus exact rfl); refine ⟨_, runs_store H 2 rfl rfl rfl rfl rfl rfl rfl rfl rfl, ?_⟩; clear H; rintro _ w ⟨rfl, hE, H⟩; clear hE) | ((with_reducible refine wpl_runx ?_ ?_); (focus exact rfl); refine ⟨_, runs_load_at rfl rfl rfl HC.out rfl, ?_⟩; rintro _ _ ⟨rfl, rfl⟩) | (refine (may_spec _ _ _ _ H.out.2).mono ?_; rintro _ w ⟨rfl, hE⟩; replace H := H.step hE; clear hE) | (refine (awake_spec _).mono ?_; rintro _ w ⟨rfl, hE⟩; replace H := H.step hE; clear hE))
        go_ret
        exact ⟨rfl, H.ext⟩
    · obtain rfl : j = l.length := by omega
      have hx := hx.out
      rw [List.take_length] at hx hok hnb hdb
      obtain ⟨m1, m2, m3⟩ := comp_ok (s := s) (by omega) h0 (by omega) hok (by omega) (by omega)
      have hVars : ∀ A c M w, (∀ b ∈ M, b < w.heap.size) → AR A c l M w → Calls Try.prog 19 #[.agg #[.int .i64 (Tm.mk 5 s 0 0 0 l).kind, .string (Tm.mk 5 s 0 0 0 l).name, .int .i64 (Tm.mk 5 s 0 0 0 l).int, .int .u64 (Tm.mk 5 s 0 0 0 l).re, .int .u64 (Tm.mk 5 s 0 0 0 l).im, .slice A (Tm.mk 5 s 0 0 0 l).args.length c]] w (RetI M w x) := fun A c M w h1 h => by have := vars_spec (Tm.mk 5 s 0 0 0 l) A c M w h1 h; rw [vars_comp m1, ← hx] at this; exact this
      clear hx
      obtain ⟨A7, c7, rfl, H'⟩ := H.sealV 0 rfl
      clear H
      have H := H'; clear H'
      rw [List.length_map] at *
      go_wp2_with (first | ((with_reducible refine wpl_runx_d 7 rfl ?_ ?_); (focus exact rfl); refine ⟨_, runs_alloc H rfl rfl rfl, ?_⟩; clear H; rintro _ w ⟨b7, rfl, hE, H⟩; clear hE) | ((with_reducible refine wpl_runx_d 78 rfl ?_ ?_); (focus exact rfl); refine ⟨_, by apply runs_buildSlice H; iterate 10 rfl, ?_⟩; clear H; rintro _ w ⟨b78, rfl, hE, H⟩; clear hE) | ((with_reducible refine wpl_runx ?_ ?_); (focus exact rfl); refine ⟨_, runs_load H 0 rfl rfl rfl rfl rfl, ?_⟩; rintro _ _ ⟨rfl, rfl⟩) | ((with_reducible refine wpl_runx ?_ ?_); (focus exact rfl); refine ⟨_, runs_load H 1 rfl rfl rfl rfl rfl, ?_⟩; rintro _ _ ⟨rfl, rfl⟩) | ((with_reducible refine wpl_runx ?_ ?_); (focus exact rfl); refine ⟨_, runs_store H 0 rfl rfl rfl rfl rfl rfl rfl rfl rfl, ?_⟩; clear H; rintro _ w ⟨rfl, hE, H⟩; clear hE) | ((with_reducible refine wpl_runx ?_ ?_); (focus exact rfl); refine ⟨_, runs_store H 1 rfl rfl rfl rfl rfl rfl rfl rfl rfl, ?_⟩; clear H; rintro _ w ⟨rfl, hE, H⟩; clear hE) | (refine (comp_spec _ _ _ l _ _ H.ltAll H.fact.1).mono ?_; rintro _ w ⟨A2, c2, rfl, hA2, hE⟩; replace H := ((H.step hE).add hA2 (AR.stab _ _ _)).weaken (fun h => ⟨h.1.2, h.2⟩) ((VR.stab _ _ _).and (AR.stab _ _ _)); clear hE hA2) | (refine (hVars _ _ _ _ H.ltAll H.fact.2).mono ?_; rintro _ w ⟨A8, c8, rfl, hV, hE⟩; replace H := ((H.step hE).add hV (VR.stab _ _ _)).weaken (fun h => ⟨h.1.1, h.2⟩) ((VR.stab _ _ _).and (VR.stab _ _ _)); clear hE hV))
      go_loopw [93] (fun iv wr => ∃ (j : Nat), j ≤ x.length ∧ iv = .int .i64 j ∧ St [] [] w0 wr [] (fun M w => VR A7 c7 (x.map (Value.int .i64)) M w ∧ VR A8 c8 (x.map (Value.int .i64)) M w)) (fun iv _ => x.length - (intOf iv).toNat)
      case atStart => exact ⟨0, Nat.zero_le _, rfl, H⟩
      case round =>
        clear H
        obtain ⟨j, hj, rfl, H⟩ := hrel
        by_cases hlt : j < x.length
        · obtain ⟨b7, o7, rfl, _, _⟩ := H.fact.1.at2 j (by simpa using hlt)
          obtain ⟨b8, o8, rfl, _, _⟩ := H.fact.2.at2 j (by simpa using hlt)
          go_wp2_with (first | ((with_reducible refine wpl_runx_d 7 rfl ?_ ?_); (focus exact rfl); refine ⟨_, runs_alloc H rfl rfl rfl, ?_⟩; clear H; rintro _ w ⟨b7, rfl, hE, H⟩; clear hE) | ((with_reducible refine wpl_runx_d 78 rfl ?_ ?_); (focus exact rfl); refine ⟨_, by apply runs_buildSlice H; iterate 10 rfl, ?_⟩; clear H; rintro _ w ⟨b78, rfl, hE, H⟩; clear hE) | ((with_reducible refine wpl_runx ?_ ?_); (focus exact rfl); refine ⟨_, runs_load H 0 rfl rfl rfl rfl rfl, ?_⟩; rintro _ _ ⟨rfl, rfl⟩) | ((with_reducible refine wpl_runx ?_ ?_); (focus exact rfl); refine ⟨_, runs_load H 1 rfl rfl rfl rfl rfl, ?_⟩; rintro _ _ ⟨rfl, rfl⟩) | ((with_reducible refine wpl_runx ?_ ?_); (focus exact rfl); refine ⟨_, runs_store H 0 rfl rfl rfl rfl rfl rfl rfl rfl rfl, ?_⟩; clear H; rintro _ w ⟨rfl, hE, H⟩; clear hE) | ((with_reducible refine wpl_runx ?_ ?_); (focus exact rfl); refine ⟨_, runs_store H 1 rfl rfl rfl rfl rfl rfl rfl rfl rfl, ?_⟩; clear H; rintro _ w ⟨rfl, hE, H⟩; clear hE))
          refine wp_region_st H [] [[], [], [0, 1], [0, 1, 2], [], [], [4, 5], [4, 5, 6], [0, 1, 2, 3, 4, 5, 6, 7]] [3, 7] [0, 1, 2, 3, 4, 5, 6, 7, 8] [0, 1, 2, 3, 4, 5, 6, 7, 8] (by kernel_rfl) (by kernel_rfl) (fun d v c a w h => by cases d <;> exact h) ?_
          clear H
          intro w H
          have HS := Ext.refl [] w
          have H0 := H
          refine plan_pure (v := ?pv1) rfl (by decide) (by decide) rfl ?ph1 ?_
          case ph1 => (intro w; go_simp; try with_reducible rfl)
          (try simp only [Act.put, List.setIfInBounds_toArray, List.set_cons_succ, List.set_cons_zero])
          refine plan_pure (v := ?pv2) rfl (by decide) (by decide) rfl ?ph2 ?_
          case ph2 => (intro w; go_simp; try with_reducible rfl)
          (try simp only [Act.put, List.setIfInBounds_toArray, List.set_cons_succ, List.set_cons_zero])
          refine plan_pure (v := ?pv3) rfl (by decide) (by decide) rfl ?ph3 ?_
          case ph3 => (intro w; go_simp; try with_reducible rfl)
          (try simp only [Act.put, List.setIfInBounds_toArray, List.set_cons_succ, List.set_cons_zero])
          (obtain ⟨_, _, e8, hb8, hc8⟩ := H0.fact.2.at2 j (by simpa using hlt); cases e8; rw [List.getElem_map] at hc8; refine plan_load_at HS hb8 (by simp) hc8 rfl (by decide) (by decide) rfl rfl rfl rfl rfl ?_; clear hb8 hc8)
          (try simp only [Act.put, List.setIfInBounds_toArray, List.set_cons_succ, List.set_cons_zero])
          refine plan_pure (v := ?pv4) rfl (by decide) (by decide) rfl ?ph4 ?_
          case ph4 => (intro w; go_simp; try with_reducible rfl)
          (try simp only [Act.put, List.setIfInBounds_toArray, List.set_cons_succ, List.set_cons_zero])
          refine plan_pure (v := ?pv5) rfl (by decide) (by decide) rfl ?ph5 ?_
          case ph5 => (intro w; go_simp; try with_reducible rfl)
          (try simp only [Act.put, List.setIfInBounds_toArray, List.set_cons_succ, List.set_cons_zero])
          refine plan_pure (v := ?pv6) rfl (by decide) (by decide) rfl ?ph6 ?_
          case ph6 => (intro w; go_simp; try with_reducible rfl)
          (try simp only [Act.put, List.setIfInBounds_toArray, List.set_cons_succ, List.set_cons_zero])
          (obtain ⟨_, _, e8, hb8, hc8⟩ := H0.fact.1.at2 j (by simpa using hlt); cases e8; rw [List.getElem_map] at hc8; refine plan_load_at HS hb8 (by simp) hc8 rfl (by decide) (by decide) rfl rfl rfl rfl rfl ?_; clear hb8 hc8)
          (try simp only [Act.put, List.setIfInBounds_toArray, List.set_cons_succ, List.set_cons_zero])
          refine plan_pure (v := ?pv7) rfl (by decide) (by decide) rfl ?ph7 ?_
          case ph7 => (intro w; go_simp; try with_reducible rfl)
          (try simp only [Act.put, List.setIfInBounds_toArray, List.set_cons_succ, List.set_cons_zero])
          refine plan_nil ?_
          clear H0 HS
          go_wp2
          go_roundw
          case rel => exact ⟨j + 1, by omega, by go_num, H⟩
          case measure => simp [intOf]; omega
        · obtain rfl : j = x.length := by omega
          go_wp2_with (first | ((with_reducible refine wpl_runx_d 7 rfl ?_ ?_); (focus exact rfl); refine ⟨_, runs_alloc H rfl rfl rfl, ?_⟩; clear H; rintro _ w ⟨b7, rfl, hE, H⟩; clear hE) | ((with_reducible refine wpl_runx_d 78 rfl ?_ ?_); (focus exact rfl); refine ⟨_, by apply runs_buildSlice H; iterate 10 rfl, ?_⟩; clear H; rintro _ w ⟨b78, rfl, hE, H⟩; clear hE) | ((with_reducible refine wpl_runx ?_ ?_); (focus exact rfl); refine ⟨_, runs_load H 0 rfl rfl rfl rfl rfl, ?_⟩; rintro _ _ ⟨rfl, rfl⟩) | ((with_reducible refine wpl_runx ?_ ?_); (focus exact rfl); refine ⟨_, runs_load H 1 rfl rfl rfl rfl rfl, ?_⟩; rintro _ _ ⟨rfl, rfl⟩) | ((with_reducible refine wpl_runx ?_ ?_); (focus exact rfl); refine ⟨_, runs_store H 0 rfl rfl rfl rfl rfl rfl rfl rfl rfl, ?_⟩; clear H; rintro _ w ⟨rfl, hE, H⟩; clear hE) | ((with_reducible refine wpl_runx ?_ ?_); (focus exact rfl); refine ⟨_, runs_store H 1 rfl rfl rfl rfl rfl rfl rfl rfl rfl, ?_⟩; clear H; rintro _ w ⟨rfl, hE, H⟩; clear hE) | (refine (awake_spec _).mono ?_; rintro _ w ⟨rfl, hE⟩; replace H := H.step hE; clear hE))
          go_ret
          exact ⟨rfl, H.ext⟩
end Go.Proofs.Ytbeimnaeaompjaa
