/- Literals of terms, let go; the check that a statement is awake. -/
import Derived.Test.YtgopldabdheehaaRename
namespace Go.Proofs.Ytgopldabdheehaa
open Go.RowKit
set_option linter.unusedVariables false
set_option linter.unusedSimpArgs false
set_option maxRecDepth 20000
set_option maxHeartbeats 1000000

theorem TsR.cons {M : List Nat} {w : World} {t : Tm} {A : Option Addr} {c : Nat} {rest : List Value} {l : List Tm} (ha : AR A c t.args M w) (h : TsR rest l M w) :
    TsR (.int .i64 t.kind :: .string t.name :: .int .i64 t.int :: .int .u64 t.re :: .int .u64 t.im :: .slice A t.args.length c :: rest) (t :: l) M w := by
  cases t with
  | mk k s n r i a => exact ⟨[.int .i64 k, .string s, .int .i64 n, .int .u64 r, .int .u64 i, .slice A a.length c], rest, rfl, rfl, by unfold TR; exact ⟨A, c, rfl, ha.1, ha.2⟩, h⟩

/-- A literal of terms in a block of the call's own, let go: a slice of terms like any other. -/
theorem St.sealLit {M : List Nat} {w0 w : World} {L : List Res} {F : List Nat → World → Prop} (H : St M [] w0 w L F) (k : Nat) {b : Nat} {xs : List Value} {ty : TypeId} (hk : L[k]? = some (.obj b (.cells xs.toArray ty (0, 0)))) {l : List Tm}
    (hx : ∀ M w, F M w → TsR xs l M w) {L' : List Res} (hL : eraseC L k some = some L') : St M [] w0 w L' fun M w => F M w ∧ AR (some ⟨b, 0, none⟩) l.length l M w := by
  obtain ⟨_, hL⟩ := eraseC_spec _ _ _ hL
  obtain rfl := Option.some.inj hL
  refine H.seal0 k hk (AR.stab _ _ _) (fun _ hF hni => ?_) (H.notM hk)
  have hg := H.get hk
  have hgl : b < w.heap.size := (Array.getElem?_eq_some_iff.1 hg).1
  have hsub := (TsR.stab xs l).sub _ _ _ (fun b hb => by
    have : ∀ b, b ∈ idsOf (L.eraseIdx k) ++ M → b ∈ idsOf L ++ M := by
      intro b hb
      rcases List.mem_append.1 hb with hb | hb
      · refine List.mem_append_left _ ?_
        simp only [idsOf, List.mem_flatMap] at hb ⊢
        obtain ⟨r, hr, hb⟩ := hb
        exact ⟨r, List.mem_of_mem_eraseIdx hr, hb⟩
      · exact List.mem_append_right _ hb
    exact this b hb) (hx _ _ hF)
  exact AR.ofCells hsub (hni b (by simp [Res.ids])) hgl (Nat.le_refl _) (cells_open hg)

/-- The number of the k-th of a row of terms. -/
theorem AR.intAt {b o c : Nat} {l : List Tm} {M : List Nat} {w : World} (h : AR (some ⟨b, o, none⟩) c l M w) (k : Nat) (hk : k < l.length) :
    ∀ j v, [Value.int .i64 (l[k]).int][j]? = some v → w.cell? ⟨b, o + k * 6 + 2 + j, none⟩ = some v := by
  obtain ⟨b', o', _, _, e, _, _, hc, _⟩ := h.at k hk
  cases e
  intro j v hj
  cases j with
  | zero => exact hc 2 v hj
  | succ j => simp at hj

end Go.Proofs.Ytgopldabdheehaa
