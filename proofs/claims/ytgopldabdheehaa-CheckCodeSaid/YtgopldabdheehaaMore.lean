/- More on the state of a walk: a scope with a jump back; rows; what a callee is let turn; slices of plain values. -/
import Derived.Test.YtgopldabdheehaaMp
import Derived.ScopeJumps
import Derived.WalkMore
namespace Go.Proofs.Ytgopldabdheehaa
open Go.RowKit
set_option linter.unusedVariables false
set_option linter.unusedSimpArgs false

/-! ### A scope with a jump back, what holds told by a ghost -/
theorem least {p : Nat → Prop} (h : ∃ n, p n) : ∃ m, p m ∧ ∀ k, p k → m ≤ k := by
  obtain ⟨n, hn⟩ := h
  induction n using Nat.strongRecOn with
  | _ n ih =>
    by_cases hk : ∃ k, k < n ∧ p k
    · obtain ⟨k, h1, h2⟩ := hk; exact ih k h1 h2
    · exact ⟨n, hn, fun k hp => Nat.le_of_not_lt fun h => hk ⟨k, h, hp⟩⟩

theorem wp_scope_ghost {P : Program} {a : Act} {w : World} {Q : Exit → Act → World → Prop} {c rest : Code} {α : Type} (l : Nat) (J : α → Act → World → Prop) (μ : α → Nat) (hf : findLabel c l = some (.seq .skip rest))
    (pass : ∀ x a w, J x a w → rest.wp P (Exit.jump l (fun a' w' => ∃ y, J y a' w' ∧ μ y < μ x) Q) a w)
    (first : (∀ x a w, J x a w → rest.wp P (Exit.jump l (fun a w => ∃ x, J x a w) Q) a w) → c.wp P (Exit.jump l (fun a w => ∃ x, J x a w) Q) a w) : (Code.scope c).wp P Q a w := by
  classical
  have ex : ∀ a w, (∃ x, J x a w) → ∃ n, ∃ x, J x a w ∧ μ x = n := fun a w ⟨x, h⟩ => ⟨_, x, h, rfl⟩
  refine wp_scope_jumps l (fun a w => ∃ x, J x a w) (fun a w => if h : ∃ x, J x a w then Classical.choose (least (ex a w h)) else 0) hf (first fun x a w h => ?_) ?_
  · refine wp_mono (pass x a w h) ?_
    intro e a' w' he
    cases e with
    | goto l' =>
      obtain ⟨e1, y, hy, hlt⟩ := he
      exact ⟨e1, y, hy⟩
    | _ => exact he
  intro a w h
  obtain ⟨⟨x, hx, hm⟩, _⟩ := Classical.choose_spec (least (ex a w h))
  simp only [dif_pos h]
  rw [← hm]
  refine wp_seq (wp_skip ?_)
  refine wp_mono (pass x a w hx) ?_
  intro e a' w' he
  cases e with
  | goto l' =>
    obtain ⟨e1, y, hy, hlt⟩ := he
    refine ⟨e1, ⟨y, hy⟩, ?_⟩
    rw [dif_pos ⟨y, hy⟩]
    exact Nat.lt_of_le_of_lt ((Classical.choose_spec (least (ex a' w' ⟨y, hy⟩))).2 _ ⟨y, hy, rfl⟩) hlt
  | _ => exact he

/-- A frame whose first temporaries are known. -/
def Frame (n : Nat) (pre : List Value) (a : Act) : Prop := ∃ rest : List Value, a = { tmps := (pre ++ rest).toArray, defers := [] } ∧ rest.length = n
theorem list_open {α : Type} {l : List α} {n : Nat} (h : l.length = n + 1) : ∃ a t, l = a :: t ∧ t.length = n := by
  cases l with
  | nil => simp at h
  | cons a t => exact ⟨a, t, rfl, by simpa using h⟩

section
variable {M X : List Nat} {w0 w : World} {L : List Res} {F : List Nat → World → Prop}
/-- A block of the call's own, as a row. -/
theorem St.rowOf (H : St M X w0 w L F) (k : Nat) {b : Nat} {cs : List Value} {ty : TypeId} (hk : L[k]? = some (.obj b (.cells cs.toArray ty (0, 0)))) (n sz : Nat) (hl : cs.length = n * sz) (hn : n ≤ maxLen) {f : Res → List Res} (hL : ∀ r, setC L k r some = some (f r)) :
    St M X w0 w (f (.row (.slice (some ⟨b, 0, none⟩) n n) n cs ty sz)) F := by
  have hf : ∀ r, L.set k r = f r := fun r => Option.some.inj (setC_spec _ _ _ _ (hL r))
  rw [← hf]
  refine H.swap hk ⟨rfl, rfl, rfl, Nat.le_refl _, fun _ _ _ => rfl⟩ ⟨hl, .inr ⟨b, n, cs.toArray, rfl, Nat.zero_le _, H.get hk, Nat.le_refl _, hn, by simpa using hl, by rw [← hl]; simp⟩⟩ (by simp [Res.ids, Value.ownBlock]) (fun c hc => .inl hc)

/-- An own row's cells. -/
theorem St.rowCells (H : St M X w0 w L F) {k : Nat} {v : Value} {n : Nat} {xs : List Value} {ty sz : Nat} (hk : L[k]? = some (.row v n xs ty sz)) (hn : n ≠ 0) :
    ∃ g cap, v = .slice (some ⟨g, 0, none⟩) n cap ∧ n ≤ cap ∧ g < w.heap.size ∧ ∀ j u, xs[j]? = some u → w.cell? ⟨g, j, none⟩ = some u := by
  rcases (H.getRow hk).2 with ⟨_, h0⟩ | ⟨g, cap, cur, rfl, hb, hg, hc, _, hs, ht⟩
  · exact absurd h0 hn
  · refine ⟨g, cap, rfl, hc, (Array.getElem?_eq_some_iff.1 hg).1, fun j u hj => ?_⟩
    have h1 := (H.getRow hk).1
    have hj' : j < n * sz := by rw [← h1]; exact (List.getElem?_eq_some_iff.1 hj).1
    rw [cell_of_row w g j cur ty (0, 0) hg]
    rw [← ht, List.getElem?_take, if_pos hj'] at hj
    simpa using hj

/-- An own row, fewer elements of it. -/
theorem St.shrink (H : St M X w0 w L F) (k : Nat) {g n cap : Nat} {xs : List Value} {ty sz : Nat} (hk : L[k]? = some (.row (.slice (some ⟨g, 0, none⟩) n cap) n xs ty sz)) (m : Nat) (hm : m ≤ n) {f : Res → List Res} (hL : ∀ r, setC L k r some = some (f r)) :
    St M X w0 w (f (.row (.slice (some ⟨g, 0, none⟩) m cap) m (xs.take (m * sz)) ty sz)) F := by
  have hf : ∀ r, L.set k r = f r := fun r => Option.some.inj (setC_spec _ _ _ _ (hL r))
  rw [← hf]
  have hle : m * sz ≤ n * sz := Nat.mul_le_mul_right _ hm
  obtain ⟨h1, h2⟩ := H.getRow hk
  refine H.swap hk ⟨rfl, rfl, rfl, Nat.le_refl _, fun _ _ _ => rfl⟩ ⟨by rw [List.length_take, h1, Nat.min_eq_left hle], ?_⟩ (by simp [Res.ids, Value.ownBlock]) (fun c hc => .inl hc)
  rcases h2 with ⟨h, _⟩ | ⟨g', cap', cur, h, hb, hg, hc, hx, hs, ht⟩
  · cases h
  · simp only [Value.slice.injEq, Option.some.injEq, Addr.mk.injEq, and_true, true_and] at h
    obtain ⟨rfl, rfl⟩ := h
    refine .inr ⟨g, cap, cur, rfl, hb, hg, by omega, hx, hs, ?_⟩
    rw [← ht, List.take_take, Nat.min_eq_left hle]
end

/-- Another of what the call has made, where a callee was let turn it. -/
theorem St.call {M X : List Nat} {w0 w w' : World} {L : List Res} {F : List Nat → World → Prop} (H : St M X w0 w L F) (k : Nat) {r r' : Res} (hk : L[k]? = some r) {M' : List Nat} {G : List Nat → World → Prop} (h : St M' r.ids w w' [r'] G) {f : Res → List Res} (hL : ∀ r, setC L k r some = some (f r)) : St M X w0 w' (f r') F := by
  have hf : ∀ r, L.set k r = f r := fun r => Option.some.inj (setC_spec _ _ _ _ (hL r))
  rw [← hf]
  exact H.swap hk h.ext (h.holds r' (by simp)) (by simpa [idsOf] using h.nodup) (fun b hb => h.own b (by simpa [idsOf] using hb))

theorem idsOf_erase {L : List Res} {k : Nat} {r : Res} (hk : L[k]? = some r) : (∀ b, b ∈ r.ids ++ idsOf (L.eraseIdx k) → b ∈ idsOf L) := by
  intro b hb
  simp only [idsOf, List.mem_append, List.mem_flatMap] at hb ⊢
  rcases hb with hb | ⟨q, hq, hb⟩
  · exact ⟨r, List.mem_of_getElem? hk, hb⟩
  · exact ⟨q, List.mem_of_mem_eraseIdx hq, hb⟩

theorem idsOf_set {L : List Res} {k : Nat} {r' : Res} : (∀ b, b ∈ idsOf (L.set k r') → b ∈ r'.ids ++ idsOf (L.eraseIdx k)) := by
  intro b hb
  simp only [idsOf, List.mem_append, List.mem_flatMap] at hb ⊢
  obtain ⟨q, hq, hb⟩ := hb
  by_cases hkl : k < L.length
  · rw [List.set_eq_take_append_cons_drop, if_pos hkl] at hq
    rw [List.eraseIdx_eq_take_drop_succ]
    simp only [List.mem_append, List.mem_cons] at hq ⊢
    rcases hq with hq | rfl | hq
    · exact .inr ⟨q, .inl hq, hb⟩
    · exact .inl hb
    · exact .inr ⟨q, .inr hq, hb⟩
  · rw [List.set_eq_of_length_le (by omega)] at hq
    rw [List.eraseIdx_of_length_le (by omega)]
    exact .inr ⟨q, hq, hb⟩

/-- What is known, where all but one is told to keep away from. -/
theorem St.rest {M X : List Nat} {w0 w : World} {L : List Res} {F : List Nat → World → Prop} (H : St M X w0 w L F) {k : Nat} {r : Res} (hk : L[k]? = some r) : F (r.ids ++ (idsOf (L.eraseIdx k) ++ M)) w :=
  H.stab.sub _ _ _ (fun b hb => by
    rw [← List.append_assoc] at hb
    rcases List.mem_append.1 hb with hb | hb
    · exact List.mem_append_left _ (idsOf_erase hk b hb)
    · exact List.mem_append_right _ hb) H.fact
theorem St.restLt {M X : List Nat} {w0 w : World} {L : List Res} {F : List Nat → World → Prop} (H : St M X w0 w L F) (k : Nat) {r : Res} (hk : L[k]? = some r) : ∀ b ∈ idsOf (L.eraseIdx k) ++ M, b < w.heap.size := fun b hb => H.ltAll b (by
    rcases List.mem_append.1 hb with hb | hb
    · exact List.mem_append_left _ (idsOf_erase hk b (List.mem_append_right _ hb))
    · exact List.mem_append_right _ hb)

/-- The same, with what the callee tells of it. -/
theorem St.callF {M X : List Nat} {w0 w w' : World} {L : List Res} {F : List Nat → World → Prop} (H : St M X w0 w L F) (k : Nat) {r r' : Res} (hk : L[k]? = some r) {G : List Nat → World → Prop} (h : St (idsOf (L.eraseIdx k) ++ M) r.ids w w' [r'] G) {f : Res → List Res} (hL : ∀ r, setC L k r some = some (f r)) :
    St M X w0 w' (f r') fun M w => F M w ∧ G M w := by
  refine (H.call k hk h hL).add ?_ h.stab
  have hf : ∀ r, L.set k r = f r := fun r => Option.some.inj (setC_spec _ _ _ _ (hL r))
  rw [← hf]
  refine h.stab.sub _ _ _ (fun b hb => ?_) h.fact
  rcases List.mem_append.1 hb with hb | hb
  · rcases List.mem_append.1 (idsOf_set b hb) with hb | hb
    · exact List.mem_append_left _ (by simpa [idsOf] using hb)
    · exact List.mem_append_right _ (List.mem_append_left _ hb)
  · exact List.mem_append_right _ (List.mem_append_right _ hb)

/-! ### Several as one -/
/-- What a call has made, as one. -/
def packR (L : List Res) : Res := .abs (idsOf L) (fun w => ∀ r ∈ L, r.holds w) (fun w w' H h r hr => Res.keep (h r hr) fun b hb => H b (by simp only [idsOf, List.mem_flatMap]; exact ⟨r, hr, hb⟩))
  (fun w h b hb => by simp only [idsOf, List.mem_flatMap] at hb; obtain ⟨r, hr, hb⟩ := hb; exact Res.lt (h r hr) b hb)
theorem idsOf_pack (L R : List Res) : idsOf (packR L :: R) = idsOf (L ++ R) := by simp [idsOf, packR, Res.ids]
theorem St.unpack {M X : List Nat} {w0 w : World} {L R : List Res} {F : List Nat → World → Prop} (H : St M X w0 w (packR L :: R) F) : St M X w0 w (L ++ R) F :=
  ⟨H.ext, fun r hr => by
    rcases List.mem_append.1 hr with hr | hr
    · exact H.holds (packR L) (by simp) r hr
    · exact H.holds r (by simp [hr]), by rw [← idsOf_pack]; exact H.nodup, by rw [← idsOf_pack]; exact H.own, H.low, by rw [← idsOf_pack]; exact H.fact, H.stab⟩
theorem St.pack {M X : List Nat} {w0 w : World} (L : List Res) {R : List Res} {F : List Nat → World → Prop} (H : St M X w0 w (L ++ R) F) : St M X w0 w (packR L :: R) F :=
  ⟨H.ext, fun r hr => by
    rcases List.mem_cons.1 hr with rfl | hr
    · exact fun q hq => H.holds q (by simp [hq])
    · exact H.holds r (by simp [hr]), by rw [idsOf_pack]; exact H.nodup, by rw [idsOf_pack]; exact H.own, H.low, by rw [idsOf_pack]; exact H.fact, H.stab⟩
theorem St.packAll {M X : List Nat} {w0 w : World} {L : List Res} {F : List Nat → World → Prop} (H : St M X w0 w L F) : St M X w0 w [packR L] F := St.pack L (by simpa using H)
theorem St.unpackAll {M X : List Nat} {w0 w : World} {L : List Res} {F : List Nat → World → Prop} (H : St M X w0 w [packR L] F) : St M X w0 w L F := by simpa using H.unpack
theorem St.nodupAt {M X : List Nat} {w0 w : World} {L : List Res} {F : List Nat → World → Prop} (H : St M X w0 w L F) {k : Nat} {r : Res} (hk : L[k]? = some r) : r.ids.Nodup := by
  obtain ⟨hkl, hkr⟩ := List.getElem?_eq_some_iff.1 hk
  have hL : L = L.take k ++ r :: L.drop (k + 1) := by rw [← hkr]; simp
  have h := H.nodup
  rw [hL] at h
  simp only [idsOf, List.flatMap_append, List.flatMap_cons] at h
  exact List.Nodup.sublist (by simp) h
/-- Two neighbours, the other way round. -/
theorem St.perm {M X : List Nat} {w0 w : World} {L L' : List Res} {F : List Nat → World → Prop} (H : St M X w0 w L F) (hp : L.Perm L') : St M X w0 w L' F := by
  have hi : (idsOf L).Perm (idsOf L') := hp.flatMap_right _
  refine ⟨H.ext, fun r hr => H.holds r (hp.mem_iff.2 hr), hi.nodup_iff.1 H.nodup, fun b hb => H.own b (hi.mem_iff.2 hb), H.low, H.stab.sub _ _ _ (fun b hb => ?_) H.fact, H.stab⟩
  rcases List.mem_append.1 hb with hb | hb
  · exact List.mem_append_left _ (hi.mem_iff.2 hb)
  · exact List.mem_append_right _ hb

/-! ### Slices of values of one cell each -/
def VR (A : Option Addr) (cap : Nat) (l : List Value) (M : List Nat) (w : World) : Prop :=
  l.length ≤ cap ∧ (l = [] ∨ ∃ b o, A = some ⟨b, o, none⟩ ∧ b ∉ M ∧ b < w.heap.size ∧ ∀ (j : Nat) (v : Value), l[j]? = some v → w.cell? ⟨b, o + j, none⟩ = some v)
theorem VR.stab (A : Option Addr) (cap : Nat) (l : List Value) : Stab (VR A cap l) := stab_of_to fun M M' w w' H h => ⟨h.1, h.2.imp id fun ⟨b, o, e, hm, hb, hc⟩ =>
  let ⟨k1, k2, k3⟩ := H b hm hb
  ⟨b, o, e, k1, k2, fun j v hj => (cell_same k3 _).trans (hc j v hj)⟩⟩
theorem VR.nil (A : Option Addr) (cap : Nat) (M : List Nat) (w : World) : VR A cap [] M w := ⟨Nat.zero_le _, .inl rfl⟩
theorem VR.at {A : Option Addr} {cap : Nat} {l : List Value} {M : List Nat} {w : World} (h : VR A cap l M w) (j : Nat) (hj : j < l.length) :
    ∃ b o, A = some ⟨b, o, none⟩ ∧ ∀ k v, [l[j]][k]? = some v → w.cell? ⟨b, o + j + k, none⟩ = some v := by
  rcases h.2 with rfl | ⟨b, o, e, _, _, hc⟩
  · simp at hj
  · refine ⟨b, o, e, fun k v hk => ?_⟩
    cases k with
    | zero => exact hc j v (by simpa [List.getElem?_eq_getElem hj] using hk)
    | succ k => simp at hk

/-- An own row of values, let go. -/
theorem St.sealV {M : List Nat} {w0 w : World} {L : List Res} {F : List Nat → World → Prop} (H : St M [] w0 w L F) (k : Nat) {v : Value} {n : Nat} {xs : List Value} {ty : TypeId} (hk : L[k]? = some (.row v n xs ty 1)) :
    ∃ A cap, v = .slice A xs.length cap ∧ St M [] w0 w (L.eraseIdx k) fun M w => F M w ∧ VR A cap xs M w := by
  have hown := H.getRow hk
  have hlen : n = xs.length := by have := hown.1; omega
  subst hlen
  rcases hown.2 with ⟨rfl, h0⟩ | ⟨g, cap, cur, rfl, hb, hg, hn, _, hs, ht⟩
  · have : xs = [] := List.eq_nil_of_length_eq_zero h0
    subst this
    exact ⟨none, 0, rfl, H.seal0 k hk (VR.stab _ _ _) (fun _ _ _ => VR.nil _ _ _ _) (H.notM hk)⟩
  · refine ⟨some ⟨g, 0, none⟩, cap, rfl, H.seal0 k hk (VR.stab _ _ _) (fun _ hF hni => ?_) (H.notM hk)⟩
    have hgl : g < w.heap.size := (Array.getElem?_eq_some_iff.1 hg).1
    refine ⟨hn, .inr ⟨g, 0, rfl, hni g (by simp [Res.ids, Value.ownBlock]), hgl, fun j v hj => ?_⟩⟩
    rw [Nat.zero_add, cell_of_row w g j cur ty (0, 0) hg]
    have hj' : j < xs.length * 1 := by rw [Nat.mul_one]; exact (List.getElem?_eq_some_iff.1 hj).1
    rw [← ht, List.getElem?_take, if_pos hj'] at hj
    simpa using hj
end Go.Proofs.Ytgopldabdheehaa
