/- Literals of terms, let go; the check that a statement is awake. -/
import Derived.Test.YtfjdekiobggdoaaRename
namespace Go.Proofs.Ytfjdekiobggdoaa
open Go.RowKit
set_option linter.unusedVariables false
set_option linter.unusedSimpArgs false
set_option maxRecDepth 20000
set_option maxHeartbeats 1000000

theorem TsR.cons {M : List Nat} {w : World} {t : Tm} {A : Option Addr} {c : Nat} {rest : List Value} {l : List Tm} (ha : AR A c t.args M w) (h : TsR rest l M w) :
    TsR (.int .i64 t.kind :: .string t.name :: .int .i64 t.int :: .int .u64 t.re :: .int .u64 t.im :: .slice A t.args.length c :: rest) (t :: l) M w := by
  cases t with
  | mk k s n r i a => exact ⟨[.int .i64 k, .string s, .int .i64 n, .int .u64 r, .int .u64 i, .slice A a.length c], rest, rfl, rfl, by unfold TR; exact ⟨A, c, rfl, ha.1, ha.2⟩, h⟩

/-- A literal of terms in a block of the call's own, let go: a slice of terms like any other. -/
theorem St.sealLit {M : List Nat} {w0 w : World} {L : List Res} {F : List Nat → World → Prop} (H : St M [] w0 w L F) (k : Nat) {b : Nat} {xs : List Value} {ty : TypeId} (hk : L[k]? = some (.obj b (.cells xs.toArray ty (0, 0)))) {l : List Tm}
    (hx : ∀ M w, F M w → TsR xs l M w) {L' : List Res} (hL : eraseC L k some = some L') : St M [] w0 w L' fun M w => F M w ∧ AR (some ⟨b, 0, none⟩) l.length l M w := by
  obtain ⟨_, hL⟩ := eraseC_spec _ _ _ hL
  obtain rfl := Option.some.inj hL
  refine H.seal0 k hk (AR.stab _ _ _) (fun _ hF hni => ?_) (H.notM hk)
  have hg := H.get hk
  have hgl : b < w.heap.size := (Array.getElem?_eq_some_iff.1 hg).1
  have hsub := (TsR.stab xs l).sub _ _ _ (fun b hb => by
    have : ∀ b, b ∈ idsOf (L.eraseIdx k) ++ M → b ∈ idsOf L ++ M := by
      intro b hb
      rcases List.mem_append.1 hb with hb | hb
      · refine List.mem_append_left _ ?_
        simp only [idsOf, List.mem_flatMap] at hb ⊢
        obtain ⟨r, hr, hb⟩ := hb
        exact ⟨r, List.mem_of_mem_eraseIdx hr, hb⟩
      · exact List.mem_append_right _ hb
    exact this b hb) (hx _ _ hF)
  exact AR.ofCells hsub (hni b (by simp [Res.ids])) hgl (Nat.le_refl _) (cells_open hg)

/-- The number of the k-th of a row of terms. -/
theorem AR.intAt {b o c : Nat} {l : List Tm} {M : List Nat} {w : World} (h : AR (some ⟨b, o, none⟩) c l M w) (k : Nat) (hk : k < l.length) :
    ∀ j v, [Value.int .i64 (l[k]).int][j]? = some v → w.cell? ⟨b, o + k * 6 + 2 + j, none⟩ = some v := by
  obtain ⟨b', o', _, _, e, _, _, hc, _⟩ := h.at k hk
  cases e
  intro j v hj
  cases j with
  | zero => exact hc 2 v hj
  | succ j => simp at hj

/-- Of three variables renamed. -/
theorem rename3 : renameE (.mk 5 ⟨#[102]⟩ 0 0 0 [varT 7, varT 3, varT 7]) = .mk 5 ⟨#[102]⟩ 0 0 0 [varT 0, varT 1, varT 0] := by kernel_rfl

theorem awake_spec (w0 : World) : Calls Try.prog 7 #[] w0 (RetV w0 (.bool true)) := by
  have H := St.start (M := []) (w := w0) (F := fun _ _ => True) (by simp) (Stab.const True) trivial
  have R : ∀ (A : Option Addr) (c : Nat) (M : List Nat) (w : World), (∀ b ∈ M, b < w.heap.size) → AR A c [varT 7, varT 3, varT 7] M w →
      Calls Try.prog 23 #[.agg #[.int .i64 5, .string ⟨#[102]⟩, .int .i64 0, .int .u64 0, .int .u64 0, .slice A 3 c]] w (RetT M w (.mk 5 ⟨#[102]⟩ 0 0 0 [varT 0, varT 1, varT 0])) := fun A c M w hM hA => by
    have := rename_spec (.mk 5 ⟨#[102]⟩ 0 0 0 [varT 7, varT 3, varT 7]) A c M w hM hA
    rw [rename3] at this
    exact this
  go_enter Try.func7, Try.ntmps7
  go_wp2_with (first | ((with_reducible refine wpl_runx_d 5 rfl ?_ ?_); (focus exact rfl); refine ⟨_, by apply runs_buildSlice H; iterate 10 rfl, ?_⟩; clear H; rintro _ w ⟨b5, rfl, hE, H⟩; clear hE) | ((with_reducible refine wpl_runx_d 1 rfl ?_ ?_); (focus exact rfl); refine ⟨_, runs_alloc H rfl rfl rfl, ?_⟩; clear H; rintro _ w ⟨b1, rfl, hE, H⟩; clear hE) | ((with_reducible refine wpl_runx ?_ ?_); (focus exact rfl); refine ⟨_, runs_load H 0 rfl rfl rfl rfl rfl, ?_⟩; rintro _ _ ⟨rfl, rfl⟩) | ((with_reducible refine wpl_runx ?_ ?_); (focus exact rfl); refine ⟨_, runs_store H 0 rfl rfl rfl rfl rfl rfl rfl rfl rfl, ?_⟩; clear H; rintro _ w ⟨rfl, hE, H⟩; clear hE) | (refine (var_spec _ _ _ H.ltAll).mono ?_; rintro _ w ⟨A1, c1, rfl, hA1, hE⟩; replace H := (H.step hE).add hA1 (AR.stab _ _ _); clear hE hA1) | (replace H := H.sealLit 0 rfl (l := [varT 7, varT 3, varT 7]) (fun M w h => TsR.cons h.1.1.2 (TsR.cons h.1.2 (TsR.cons h.2 (TsR.nil _ _)))) rfl; refine (comp_spec _ _ _ [varT 7, varT 3, varT 7] _ _ H.ltAll H.fact.2).mono ?_; rintro _ w ⟨A1, c1, rfl, hA1, hE⟩; replace H := ((H.step hE).add hA1 (AR.stab _ _ _)).weaken (fun h => h.2) (AR.stab _ _ _); clear hE hA1) | (refine (R _ _ _ _ H.ltAll H.fact).mono ?_; rintro _ w ⟨A2, c2, rfl, hA2, hE⟩; obtain ⟨b, o, _, _, rfl, _⟩ := hA2.at 0 (by decide); replace H := ((H.step hE).add hA2 (AR.stab _ _ _)).weaken (fun h => h.2) (AR.stab _ _ _); clear hE hA2) | ((with_reducible refine wpl_runx ?_ ?_); (focus exact rfl); refine ⟨_, runs_load_at rfl rfl rfl (AR.intAt H.fact 0 (by decide)) rfl, ?_⟩; rintro _ _ ⟨rfl, rfl⟩) | ((with_reducible refine wpl_runx ?_ ?_); (focus exact rfl); refine ⟨_, runs_load_at rfl rfl rfl (AR.intAt H.fact 1 (by decide)) rfl, ?_⟩; rintro _ _ ⟨rfl, rfl⟩) | ((with_reducible refine wpl_runx ?_ ?_); (focus exact rfl); refine ⟨_, runs_load_at rfl rfl rfl (AR.intAt H.fact 2 (by decide)) rfl, ?_⟩; rintro _ _ ⟨rfl, rfl⟩))
  go_ret
  exact ⟨rfl, H.ext⟩
end Go.Proofs.Ytfjdekiobggdoaa
