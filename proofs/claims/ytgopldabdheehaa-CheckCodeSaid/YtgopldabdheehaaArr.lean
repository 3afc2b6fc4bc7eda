/- Own objects whose cells are told by a function: a load, a store, a clear of their first ones. -/
import Derived.Test.YtgopldabdheehaaPlan3
namespace Go.Proofs.Ytgopldabdheehaa
open Go.RowKit
set_option linter.unusedVariables false
set_option linter.unusedSimpArgs false
set_option linter.unnecessarySimpa false
set_option maxRecDepth 20000
set_option maxHeartbeats 1000000
section
variable {P : Program} {ev : Operand → Value} {o : Oper} {M X : List Nat} {w0 w : World} {L : List Res} {F : List Nat → World → Prop}
theorem run_load_one {T : TypeId} {x : Operand} {b off : Nat} {v : Value} (ho : o.op = .load T x) (hx : ev x = .pointer (some ⟨b, off, none⟩)) (hT : tyShape P T = some (false, 1))
    (hv : w.cell? ⟨b, off, none⟩ = some v) : (execOp ev o).run P w = .ok (.value v) w :=
  run_load_at (d := 0) (cs := [v]) ho (by rw [Nat.add_zero]; exact hx) hT (fun j u hj => by
    cases j with
    | zero => simp at hj; subst hj; exact hv
    | succ j => simp at hj) rfl
theorem cell_one {b : Nat} {cs : List Value} {ty : TypeId} (hb : w.heap[b]? = some (.cells cs.toArray ty (0, 0))) {off : Nat} {v : Value} (hv : cs[off]? = some v) : w.cell? ⟨b, off, none⟩ = some v := by
  have := cells_open hb off v hv
  rwa [Nat.zero_add] at this
theorem runs_loadA (H : St M X w0 w L F) (k : Nat) {b : Nat} {cs : List Value} {ty : TypeId} (hk : L[k]? = some (.obj b (.cells cs.toArray ty (0, 0)))) {T : TypeId} {x : Operand} {off : Nat}
    (ho : o.op = .load T x) (hx : ev x = .pointer (some ⟨b, off, none⟩)) (hT : tyShape P T = some (false, 1)) {v : Value} (hv : cs[off]? = some v) : Runs P ev o w fun u w' => u = v ∧ w = w' :=
  ⟨_, _, _, run_load_one ho hx hT (cell_one (H.get hk) hv), rfl, rfl, rfl⟩
/-- .. of an object that is known. -/
theorem runs_loadO {b : Nat} {cs : List Value} {ty : TypeId} (hb : w.heap[b]? = some (.cells cs.toArray ty (0, 0))) {T : TypeId} {x : Operand} {off : Nat}
    (ho : o.op = .load T x) (hx : ev x = .pointer (some ⟨b, off, none⟩)) (hT : tyShape P T = some (false, 1)) {v : Value} (hv : cs[off]? = some v) : Runs P ev o w fun u w' => u = v ∧ w = w' :=
  ⟨_, _, _, run_load_one ho hx hT (cell_one hb hv), rfl, rfl, rfl⟩
theorem st_putA (H : St M X w0 w L F) (k : Nat) {b : Nat} {cs : List Value} {ty : TypeId} (hk : L[k]? = some (.obj b (.cells cs.toArray ty (0, 0)))) (cs' : List Value) {L' : List Res} (hL : setC L k (.obj b (.cells cs'.toArray ty (0, 0))) some = some L') :
    Ext [b] w (w.setRow b cs'.toArray) ∧ St M X w0 (w.setRow b cs'.toArray) L' F := by
  have hL := setC_spec _ _ _ _ hL
  obtain rfl := Option.some.inj hL
  have hb := H.get hk
  have hbl : b < w.heap.size := (Array.getElem?_eq_some_iff.1 hb).1
  have hE : Ext [b] w (w.setRow b cs'.toArray) := ⟨rfl, rfl, rfl, by simp [World.setRow], fun c hc hx => by
    have hne : c ≠ b := fun e => hx (by simp [e])
    simp only [World.setRow, Array.getElem?_modify]
    rw [if_neg (by omega)]⟩
  exact ⟨hE, H.swap hk hE (setRow_heap w b _ _ ty _ hb) (by simp [Res.ids]) (fun c hc => .inl hc)⟩
theorem runs_storeA (H : St M X w0 w L F) (k : Nat) {b : Nat} {cs : List Value} {ty : TypeId} (hk : L[k]? = some (.obj b (.cells cs.toArray ty (0, 0)))) {T : TypeId} {x y : Operand} {off : Nat}
    (ho : o.op = .store T x y) (hx : ev x = .pointer (some ⟨b, off, none⟩)) {v : Value} (hc : cellsC (ev y) = some [v]) (hT : tyShape P T = some (false, 1))
    (h1 : v.oneCell' = true) (hoff : off < cs.length) {cs' : List Value} (hcs : cs.set off v = cs') {L' : List Res} (hL : setC L k (.obj b (.cells cs'.toArray ty (0, 0))) some = some L') :
    Runs P ev o w fun u w' => u = undef ∧ Ext [b] w w' ∧ St M X w0 w' L' F := by
  have hc := cellsC_spec hc
  have hb := H.get hk
  have hst := run_storeCells_at P b off ty [v] 0 cs.toArray w hb (by simp; omega) (by simpa using h1)
  simp only [Nat.add_zero] at hst
  obtain ⟨_, h2⟩ := run_isAgg hT w
  obtain ⟨hE, hS⟩ := st_putA H k hk cs' hL
  refine ⟨.skip, w.setRow b cs'.toArray, undef, ?_, rfl, rfl, hE, hS⟩
  unfold execOp
  have e : (cs.take off ++ [v] ++ cs.drop (off + 1)) = cs' := by rw [← hcs, List.set_eq_take_append_cons_drop, if_pos hoff]; simp
  simp only [ho, Instr.storeAt, Instr.sureAddr, hx, storeVar, hc, Sem.run_bind, Sem.run_pure, Result.andThen_ok, h2, List.size_toArray, List.length_singleton, ne_eq, not_true_eq_false, if_false, List.toList_toArray, hst]
  rw [e]
theorem zeroCells_bool (n : Nat) : (Builtin.zeroCells #[.bool false] n).toList = List.replicate n (.bool false) := by
  unfold Builtin.zeroCells
  refine List.eq_replicate_iff.2 ⟨by simp, fun v hv => ?_⟩
  simp only [Array.mem_toList_iff, Array.mem_map] at hv
  obtain ⟨i, _, rfl⟩ := hv
  have : i % (#[Value.bool false] : Array Value).size = 0 := Nat.mod_one _
  rw [this]; rfl
theorem runs_clearA (H : St M X w0 w L F) (k : Nat) {b : Nat} {cs : List Value} {ty : TypeId} (hk : L[k]? = some (.obj b (.cells cs.toArray ty (0, 0)))) {T tb : TypeId} {s : Operand} {m c : Nat}
    (ho : o.op = .call { callee := .builtin .clear, args := #[s], argTypes := #[T] }) (hs : ev s = .slice (some ⟨b, 0, none⟩) m c) (hT : P.underlying T = some (.slice tb))
    {bytes : Nat} (hi : (P.info? tb).map (fun i => (i.zero, i.size, i.bytes)) = some (some (.bool false), 1, bytes)) (hoff : m ≤ cs.length)
    {cs' : List Value} (hcs : List.replicate m (.bool false) ++ cs.drop m = cs') {L' : List Res} (hL : setC L k (.obj b (.cells cs'.toArray ty (0, 0))) some = some L') :
    Runs P ev o w fun u w' => u = .tuple #[] ∧ Ext [b] w w' ∧ St M X w0 w' L' F := by
  obtain ⟨i0, hi0, hz0, hz1, hz2⟩ := info_parts hi
  have hb := H.get hk
  have hzv : (zeroValue tb).run P w = .ok (.bool false) w := by
    unfold zeroValue
    simp only [Sem.run_bind, run_typeInfo _ hi0, Result.andThen_ok, hz0, Sem.run_pure]
  cases m with
  | zero =>
    have e : cs' = cs := by rw [← hcs]; simp
    subst e
    have hL2 := setC_spec _ _ _ _ hL
    obtain rfl := Option.some.inj hL2
    have e2 : L.set k (.obj b (.cells cs'.toArray ty (0, 0))) = L := by
      obtain ⟨h1, h2⟩ := List.getElem?_eq_some_iff.1 hk
      rw [← h2, List.set_getElem_self]
    rw [e2]
    refine ⟨.value (.tuple #[]), w, .tuple #[], ?_, rfl, rfl, (Ext.refl [] w).any, H⟩
    unfold execOp
    simp only [ho, resolve, invoke, builtin, Sem.run_bind, Sem.run_pure, Result.andThen_ok, List.map_toArray, List.map_cons, List.map_nil, hs, Builtin.clear_, run_underlying hT, List.getElem?_toArray, List.getElem?_cons_zero]
  | succ m =>
    have hst := run_storeCells_at P b 0 ty (List.replicate (m + 1) (.bool false)) 0 cs.toArray w hb (by simp; omega) (by intro u hu; rw [List.eq_of_mem_replicate hu]; rfl)
    simp only [Nat.add_zero, Nat.zero_add, List.take_zero, List.nil_append, List.length_replicate] at hst
    obtain ⟨hE, hS⟩ := st_putA H k hk cs' hL
    refine ⟨.value (.tuple #[]), w.setRow b cs'.toArray, .tuple #[], ?_, rfl, rfl, hE, hS⟩
    unfold execOp
    simp only [ho, resolve, invoke, builtin, Sem.run_bind, Sem.run_pure, Result.andThen_ok, List.map_toArray, List.map_cons, List.map_nil, hs, Builtin.clear_, run_underlying hT, hzv, Value.cells, zeroCells_bool, hst, hcs, List.getElem?_toArray, List.getElem?_cons_zero]
end
section
variable {P : Program} {ops : Array Oper} {Q : Exit → Act → World → Prop} {bef : List (List Nat)} {loads quiet : List Nat} {i : Nat} {rest : PT} {a : Act} {w : World}
/-- A load of an own object's cell, in a region that leaves its order open. -/
theorem T_load_A {M X Y : List Nat} {w0 W : World} {L : List Res} {F : List Nat → World → Prop} (H : St M X w0 W L F) (hS : Ext Y W w) (k : Nat) {b : Nat} {cs : List Value} {ty : TypeId} (hk : L[k]? = some (.obj b (.cells cs.toArray ty (0, 0)))) {off : Nat} {v : Value} (hv : cs[off]? = some v)
    (h : ∃ o, nthC ops.toList i = some o ∧ quiet.contains i = true ∧ loads.contains i = true ∧ wantC ops o a = true ∧ ∃ T x, o.op = .load T x ∧ evC a x = .pointer (some ⟨b, off, none⟩) ∧
      tyShape P T = some (false, 1) ∧ b ∉ Y ∧ wpT P ops Q (Ext Y W) bef loads quiet rest (a.put o.dst v) w) : wpT P ops Q (Ext Y W) bef loads quiet (.step i rest) a w := by
  obtain ⟨o, ho, hq, hl, hg, T, x, hop, hx, hT, hY, h⟩ := h
  rw [evC_eq] at hx
  refine T_load ho hq hl (wantC_ok hg) hS (fun w' hS' => run_load_one hop hx hT ?_) h
  have hb := H.get hk
  exact (cell_same (hS'.block b (Array.getElem?_eq_some_iff.1 hb).1 hY) _).trans (cell_one hb hv)
end
theorem idsOf_apartO : ∀ (L : List Res) (k j : Nat) {r q : Res}, (idsOf L).Nodup → L[k]? = some r → L[j]? = some q → k ≠ j → ∀ b, b ∈ r.ids → b ∉ q.ids
  | [], k, _, _, _, _, hk, _, _, _, _ => by simp at hk
  | x :: L, k, j, r, q, hn, hk, hj, hne, b, hb => by
    have e : idsOf (x :: L) = x.ids ++ idsOf L := rfl
    rw [e, List.nodup_append] at hn
    have mem : ∀ {i : Nat} {p : Res}, L[i]? = some p → ∀ b ∈ p.ids, b ∈ idsOf L := fun hi b hb => by
      simp only [idsOf, List.mem_flatMap]; exact ⟨_, List.mem_of_getElem? hi, hb⟩
    intro hq
    cases k with
    | zero =>
      cases j with
      | zero => exact hne rfl
      | succ j =>
        simp only [List.getElem?_cons_zero, Option.some.injEq] at hk
        simp only [List.getElem?_cons_succ] at hj
        subst hk
        exact hn.2.2 b hb b (mem hj b hq) rfl
    | succ k =>
      cases j with
      | zero =>
        simp only [List.getElem?_cons_zero, Option.some.injEq] at hj
        simp only [List.getElem?_cons_succ] at hk
        subst hj
        exact hn.2.2 b hq b (mem hk b hb) rfl
      | succ j =>
        simp only [List.getElem?_cons_succ] at hk hj
        exact idsOf_apartO L k j hn.2.1 hk hj (by omega) b hb hq
theorem St.apartO {M X : List Nat} {w0 w : World} {L : List Res} {F : List Nat → World → Prop} (H : St M X w0 w L F) (k j : Nat) {b b' : Nat} {o o' : Obj} (hk : L[k]? = some (.obj b o)) (hj : L[j]? = some (.obj b' o')) (hkj : k ≠ j) : b ∉ [b'] :=
  idsOf_apartO L k j H.nodup hk hj hkj b (by simp [Res.ids])
end Go.Proofs.Ytgopldabdheehaa
