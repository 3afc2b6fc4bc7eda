/- Walks: Grow, Concat of two slices of terms. -/
import Derived.Test.YthiionkikammkaaOpens
import Derived.Deep.Upon
import Derived.Lib.AppendZeros
import Derived.Laws.OwnMore
namespace Go.Proofs.Ythiionkikammkaa
open Go.RowKit
set_option linter.unusedVariables false
set_option linter.unusedSimpArgs false
set_option maxRecDepth 20000
set_option maxHeartbeats 4000000

section
variable {P : Program} {ev : Operand → Value} {o : Oper} {w : World} {M X : List Nat} {w0 : World} {L : List Res} {F : List Nat → World → Prop}
/-- append(nil, make([]T, n)...): a row of the call's own, of n zero values. -/
theorem runs_appendZeros (H : St M X w0 w L F) {T Tn : TypeId} {s x : Operand} (ho : o.op = .call { callee := .builtin .append, args := #[s, x], argTypes := #[T, Tn] }) (hs : ev s = .slice none 0 0) {n : Nat} {q : IntKind} (hx : ev x = .int q n)
    {E : TypeId} (hT : P.underlying T = some (.slice E)) {kn : IntKind} (hTn : P.underlying Tn = some (.int kn)) {z : Value} {sz bytes : Nat} (hi : (P.info? E).map (fun i => (i.zero, i.size, i.bytes)) = some (some z, sz, bytes)) (hz : z.cells.size = sz) (hsz : 0 < sz) (h0 : 0 < n) (h63 : n ≤ maxLen) (hb : n * bytes ≤ 140737488355328) :
    Runs P ev o w fun u w' => ∃ g cap xs, u = .slice (some ⟨g, 0, none⟩) n cap ∧ Ext [] w w' ∧ St M X w0 w' (.row (.slice (some ⟨g, 0, none⟩) n cap) n xs E sz :: L) F := by
  obtain ⟨i0, hi0, hz0, hz1, hz2⟩ := info_parts hi
  have hr := Lib.run_append_nil_zeros (P := P) w T Tn o.type E i0 z q kn hT hTn hi0 hz0 n h0 (by rw [hz1]; exact hsz) (by unfold maxLen at h63; omega) (by rw [hz2]; omega)
  generalize hcap : grownCap w n 0 E = cap at hr
  have hge : n ≤ cap := by rw [← hcap]; exact grownCap_ge w _ 0 E
  have hle : cap ≤ maxLen := by rw [← hcap]; exact grownCap_le_maxLen w _ 0 E h63
  generalize hZ : Builtin.zeroCells z.cells n ++ Builtin.zeroCells z.cells (cap - n) = Z at hr
  have hZs : Z.size = cap * sz := by
    rw [← hZ]
    simp only [Array.size_append, size_zeroCells, hz]
    rw [← Nat.add_mul]
    congr 1
    omega
  have HN := (H.drew).new (.cells Z E)
  refine ⟨.value (.slice (some ⟨w.heap.size, 0, none⟩) n cap), w.drew.alloc (.cells Z E), _, ?_, rfl, w.heap.size, cap, Z.toList.take (n * sz), rfl, (Ext.drew w).trans (Ext.new w.drew _), ?_⟩
  · unfold execOp
    simp only [ho, resolve, invoke, builtin, Sem.run_bind, Sem.run_pure, Result.andThen_ok, List.map_toArray, List.map_cons, List.map_nil, hs, hx, hr]
  · have hbl : (w.drew.alloc (.cells Z E)).heap[w.heap.size]? = some (.cells Z E (0, 0)) := HN.get (k := 0) rfl
    refine HN.swap (k := 0) (r' := .row (.slice (some ⟨w.heap.size, 0, none⟩) n cap) n (Z.toList.take (n * sz)) E sz) rfl ⟨rfl, rfl, rfl, Nat.le_refl _, fun _ _ _ => rfl⟩ ⟨?_, .inr ⟨w.heap.size, cap, Z, rfl, Nat.zero_le _, hbl, hge, hle, hZs, rfl⟩⟩ (by simp [Res.ids, Value.ownBlock]) (fun c hc => .inl (by simpa [Res.ids, Value.ownBlock] using hc))
    rw [List.length_take, Array.length_toList, hZs, Nat.min_eq_left]
    exact Nat.mul_le_mul_right _ hge
theorem CellsL.app {α : Type} {sz : Nat} {E : List Value → α → Prop} {ys : List Value} {m : List α} (h : CellsL sz E ys m) : ∀ (l : List α) (xs : List Value), CellsL sz E xs l → CellsL sz E (xs ++ ys) (l ++ m)
  | [], xs, e => by rw [show xs = [] from e]; exact h
  | b :: l, xs, ⟨ds, rest, e, hl, hd, hr⟩ => ⟨ds, rest ++ ys, by rw [e, List.append_assoc], hl, hd, CellsL.app h l rest hr⟩
theorem TsR.app {M : List Nat} {w : World} {xs ys : List Value} {l m : List Tm} (h : TsR xs l M w) (k : TsR ys m M w) : TsR (xs ++ ys) (l ++ m) M w := CellsL.app k l xs h
theorem TsR.one {M : List Nat} {w : World} : ∀ (l : List Tm) (xs : List Value), TsR xs l M w → xs.all Value.oneCell' = true
  | [], xs, h => by
    obtain rfl : xs = [] := h
    rfl
  | t :: l, xs, h => by
    obtain ⟨A, c, rest, rfl, _, h⟩ := h.uncons
    have := TsR.one l rest h
    rw [List.all_append, this]
    rfl
/-- append of a slice of terms: any, also an empty one. -/
theorem runs_appendTs (H : St M X w0 w L F) (k : Nat) {v : Value} {n : Nat} {xs : List Value} {E : TypeId} (hk : L[k]? = some (.row v n xs E 6)) {T : TypeId} {s x : Operand}
    (ho : o.op = .call { callee := .builtin .append, args := #[s, x], argTypes := #[T, T] }) (hs : ev s = v) {A : Option Addr} {c m : Nat} {l : List Tm} (hx : ev x = .slice A m c) (hm : m = l.length) [hA : HasAR F A c l] (hT : P.underlying T = some (.slice E))
    {z : Value} {bytes : Nat} (hi : (P.info? E).map (fun i => (i.zero, i.size, i.bytes)) = some (some z, 6, bytes)) (hz : z.cells.size = 6)
    (h63 : n + m ≤ maxLen) (hbytes : (n + m) * bytes ≤ 140737488355328) {f : Res → List Res} (hL : ∀ r, setC L k r some = some (f r)) :
    Runs P ev o w fun u w' => ∃ A' cap ys, u = .slice A' (n + m) cap ∧ Ext v.ownBlock.toList w w' ∧ St M X w0 w' (f (.row (.slice A' (n + m) cap) (n + m) (xs ++ ys) E 6)) (fun M w => F M w ∧ TsR ys l M w) := by
  subst hm
  by_cases h0 : l = []
  · subst h0
    obtain ⟨i0, hi0, hz0, hz1, hz2⟩ := info_parts hi
    have hf : ∀ r, L.set k r = f r := fun r => Option.some.inj (setC_spec _ _ _ _ (hL r))
    have hsrc : Src P i0.size T (ev x) 0 [] w := by
      rw [hx]
      cases A with
      | none => exact Src.ofNil w hT c
      | some a => exact Src.ofSlice w hT a 0 c [] (by simp) (fun j u h => by simp at h) (fun u h => by cases h)
    have hself : L.set k (.row v n xs E 6) = L := by
      apply List.ext_getElem?
      intro j
      rw [List.getElem?_set]
      split
      · next e => subst e; rw [hk]; split <;> simp_all
      · rfl
    have HH : St M X w0 w L (fun M w => F M w ∧ TsR [] [] M w) := H.add (TsR.nil _ _) (TsR.stab _ _)
    rcases (H.getRow hk).2 with ⟨rfl, rfl⟩ | ⟨g, cap, cur, rfl, _, _, hnc, _⟩
    · have hr := run_append_nothing (P := P) w T T o.type E i0 hT hi0 none 0 0 (Nat.le_refl _) (ev x) hsrc
      refine ⟨.value (.slice none 0 0), w, _, ?_, rfl, none, 0, [], rfl, Ext.refl _ _, ?_⟩
      · unfold execOp
        simp only [ho, resolve, invoke, builtin, Sem.run_bind, Sem.run_pure, Result.andThen_ok, List.map_toArray, List.map_cons, List.map_nil, hs, hr]
      · rw [← hf, List.append_nil]
        refine (?_ : St M X w0 w (L.set k (.row (.slice none 0 0) 0 xs E 6)) _)
        rw [hself]
        exact HH
    · have hr := run_append_nothing (P := P) w T T o.type E i0 hT hi0 (some ⟨g, 0, none⟩) n cap hnc (ev x) hsrc
      refine ⟨.value (.slice (some ⟨g, 0, none⟩) n cap), w, _, ?_, rfl, some ⟨g, 0, none⟩, cap, [], rfl, Ext.refl _ _, ?_⟩
      · unfold execOp
        simp only [ho, resolve, invoke, builtin, Sem.run_bind, Sem.run_pure, Result.andThen_ok, List.map_toArray, List.map_cons, List.map_nil, hs, hr]
      · rw [← hf, List.append_nil]
        refine (?_ : St M X w0 w (L.set k (.row (.slice (some ⟨g, 0, none⟩) n cap) n xs E 6)) _)
        rw [hself]
        exact HH
  · obtain ⟨b, o', ys, rfl, hy, hc⟩ := AR.openL (H.ar (A := A) (c := c) (l := l)) h0
    have HH := H.add hy (TsR.stab _ _)
    obtain ⟨n', w', u, hr, hn, g, cap, hu, hE, H'⟩ := runs_append HH k hk ho hs hx hT hi hz (by decide) (CellsL.length _ _ hy) hc.2.2 (TsR.one _ _ hy) (by cases l; exact absurd rfl h0; simp) h63 hbytes hL
    exact ⟨n', w', u, hr, hn, some ⟨g, 0, none⟩, cap, ys, hu, hE, H'⟩
end
theorem St.sealC {M : List Nat} {w0 w : World} {L : List Res} {F : List Nat → World → Prop} (H : St M [] w0 w L F) (k : Nat) {b : Nat} {cs : List Value} {ty : TypeId} (hk : L[k]? = some (.obj b (.cells cs.toArray ty (0, 0)))) :
    St M [] w0 w (L.eraseIdx k) fun M w => F M w ∧ CellF b 0 cs M w :=
  H.seal0 k hk (CellF.stab _ _ _) (fun hr _ hni => ⟨hni b (by simp [Res.ids]), Res.lt hr b (by simp [Res.ids]), cells_open hr⟩) (H.notM hk)
theorem St.cellOf {M X : List Nat} {w0 w : World} {L : List Res} {F : List Nat → World → Prop} (H : St M X w0 w L F) {b a : Nat} {cs : List Value} [h : HasCell F b a cs] : CellF b a cs (idsOf L ++ M) w := h.get _ _ H.fact
theorem idsOf_apart : ∀ (L : List Res) (k j : Nat) {r q : Res}, (idsOf L).Nodup → L[k]? = some r → L[j]? = some q → k ≠ j → ∀ b, b ∈ r.ids → b ∉ q.ids
  | [], k, _, _, _, _, hk, _, _, _, _ => by simp at hk
  | x :: L, k, j, r, q, hn, hk, hj, hne, b, hb => by
    have e : idsOf (x :: L) = x.ids ++ idsOf L := rfl
    rw [e, List.nodup_append] at hn
    have mem : ∀ {i : Nat} {p : Res}, L[i]? = some p → ∀ b ∈ p.ids, b ∈ idsOf L := fun hi b hb => by
      simp only [idsOf, List.mem_flatMap]; exact ⟨_, List.mem_of_getElem? hi, hb⟩
    intro hq
    cases k with
    | zero =>
      cases j with
      | zero => exact hne rfl
      | succ j =>
        simp only [List.getElem?_cons_zero, Option.some.injEq] at hk
        simp only [List.getElem?_cons_succ] at hj
        subst hk
        exact hn.2.2 b hb b (mem hj b hq) rfl
    | succ k =>
      cases j with
      | zero =>
        simp only [List.getElem?_cons_zero, Option.some.injEq] at hj
        simp only [List.getElem?_cons_succ] at hk
        subst hj
        exact hn.2.2 b hq b (mem hk b hb) rfl
      | succ j =>
        simp only [List.getElem?_cons_succ] at hk hj
        exact idsOf_apart L k j hn.2.1 hk hj (by omega) b hb hq
theorem St.apartAt {M X : List Nat} {w0 w : World} {L : List Res} {F : List Nat → World → Prop} (H : St M X w0 w L F) (k j : Nat) {b : Nat} {o : Obj} {v : Value} {n : Nat} {xs : List Value} {ty : TypeId} {sz : Nat} (hk : L[k]? = some (.obj b o)) (hj : L[j]? = some (.row v n xs ty sz)) (hkj : k ≠ j) : b ∉ v.ownBlock.toList :=
  idsOf_apart L k j H.nodup hk hj hkj b (by simp [Res.ids])
end Go.Proofs.Ythiionkikammkaa
