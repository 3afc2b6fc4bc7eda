/- Own rows of flat values: copies onto them, appends to their first part, room that is taken. -/
import Derived.Test.YthapmdlminnihaaSRow
import Derived.Lib.AppendZerosOnto
import Derived.Lib.Overlaps
import Derived.Laws.Externs
namespace Go.Proofs.Ythapmdlminnihaa
open Go.RowKit
set_option linter.unusedVariables false
set_option linter.unusedSimpArgs false
set_option maxRecDepth 20000
set_option maxHeartbeats 4000000
section
variable {P : Program} {ev : Operand → Value} {o : Oper} {w : World} {M X : List Nat} {w0 : World} {L : List Res} {F : List Nat → World → Prop}
/-- Another list of what is owned, of the same blocks. -/
theorem St.conv (H : St M X w0 w L F) {L' : List Res} (hi : idsOf L' = idsOf L) (hh : ∀ r ∈ L', r.holds w) : St M X w0 w L' F :=
  ⟨H.ext, hh, by rw [hi]; exact H.nodup, by rw [hi]; exact H.own, H.low, by rw [hi]; exact H.fact, H.stab⟩
theorem st_putRow (H : St M X w0 w L F) (k : Nat) {g n cap : Nat} {xs : List Value} {ty sz : Nat} (hk : L[k]? = some (.row (.slice (some ⟨g, 0, none⟩) n cap) n xs ty sz)) {off : Nat} {vs : List Value} (hoff : off + vs.length ≤ n * sz)
    {cur : Array Value} (hg : w.heap[g]? = some (.cells cur ty (0, 0))) {f : Res → List Res} (hL : ∀ r, setC L k r some = some (f r)) :
    Ext [g] w (w.setRow g (cur.toList.take off ++ vs ++ cur.toList.drop (off + vs.length)).toArray) ∧
    St M X w0 (w.setRow g (cur.toList.take off ++ vs ++ cur.toList.drop (off + vs.length)).toArray) (f (.row (.slice (some ⟨g, 0, none⟩) n cap) n (layL xs off vs) ty sz)) F := by
  have hf : ∀ r, L.set k r = f r := fun r => Option.some.inj (setC_spec _ _ _ _ (hL r))
  obtain ⟨hxl, cur', hg', hc', hm, hs, ht⟩ := H.rowBlock k hk
  rw [hg] at hg'
  cases hg'
  have hle : off + vs.length ≤ cur.size := by rw [hs]; exact Nat.le_trans hoff (Nat.mul_le_mul_right _ hc')
  have hE : Ext [g] w (w.setRow g (cur.toList.take off ++ vs ++ cur.toList.drop (off + vs.length)).toArray) := ⟨rfl, rfl, rfl, by simp [World.setRow], fun c hc hx => by
    have hne : c ≠ g := fun e => hx (by simp [e])
    simp only [World.setRow, Array.getElem?_modify]
    rw [if_neg (by omega)]⟩
  refine ⟨hE, ?_⟩
  rw [← hf]
  refine H.swap hk (by simpa [Res.ids, Value.ownBlock] using hE) ?_ (by simp [Res.ids, Value.ownBlock]) (fun c hc => .inl hc)
  refine ⟨by rw [layL_len (by omega)]; exact hxl, .inr ⟨g, cap, _, rfl, Nat.zero_le _, setRow_heap w g cur _ ty _ hg, hc', hm, ?_, ?_⟩⟩
  · rw [← hs]
    simp only [List.size_toArray, List.length_append, List.length_take, List.length_drop, Array.length_toList]
    omega
  · simp only [List.toList_toArray]
    unfold layL
    rw [← ht, List.take_append, List.take_append, List.take_take, Nat.min_eq_right (by omega), List.length_append, List.length_take, Array.length_toList, Nat.min_eq_left (by omega)]
    rw [List.take_of_length_le (l := vs) (by omega), List.take_take, Nat.min_eq_left (by omega), List.drop_take]
/-- copy onto a part of an own row. -/
theorem runs_copyRow (H : St M X w0 w L F) (k : Nat) {g n cap : Nat} {xs : List Value} {ty sz : Nat} (hk : L[k]? = some (.row (.slice (some ⟨g, 0, none⟩) n cap) n xs ty sz)) {T T2 : TypeId} {d s : Operand} {off dl dc sl sc : Nat} {a : Addr}
    (ho : o.op = .call { callee := .builtin .copy, args := #[d, s], argTypes := #[T, T2] }) (hd : ev d = .slice (some ⟨g, off, none⟩) dl dc) (hs : ev s = .slice (some a) sl sc) (hT : P.underlying T = some (.slice ty))
    {z : Option Value} {bytes : Nat} (hi : (P.info? ty).map (fun i => (i.zero, i.size, i.bytes)) = some (z, sz, bytes)) {m : Nat} (hm : Nat.min sl dl = m) {cs : List Value} (hcs : cs.length = m * sz) (hsrc : ∀ j v, cs[j]? = some v → w.cell? (a.add j) = some v)
    (h1 : ∀ v ∈ cs, v.oneCell' = true) (hoff : off + m * sz ≤ n * sz) {f : Res → List Res} (hL : ∀ r, setC L k r some = some (f r)) :
    Runs P ev o w fun u w' => u = .int .i64 m ∧ Ext [g] w w' ∧ St M X w0 w' (f (.row (.slice (some ⟨g, 0, none⟩) n cap) n (layL xs off cs) ty sz)) F := by
  obtain ⟨hxl, cur, hg, hc', hmx, hsz, ht⟩ := H.rowBlock k hk
  have hle : off + cs.length ≤ cur.size := by rw [hsz, hcs]; exact Nat.le_trans hoff (Nat.mul_le_mul_right _ hc')
  obtain ⟨hE, H'⟩ := st_putRow H k hk (off := off) (vs := cs) (by rw [hcs]; exact hoff) hg hL
  have hl := run_loadCells_list (P := P) w a cs hsrc
  have hst := run_storeCells_at P g off ty cs 0 cur w hg (by simpa using hle) h1
  simp only [Nat.add_zero] at hst
  cases hq : P.info? ty with
  | none => simp [hq] at hi
  | some i =>
    have hi2 : i.size = sz := by simp [hq] at hi; exact hi.2.1
    refine ⟨.value (.int .i64 m), _, .int .i64 m, ?_, rfl, rfl, hE, H'⟩
    unfold execOp
    rw [hcs] at hl
    simp only [ho, resolve, invoke, builtin, Sem.run_bind, Sem.run_pure, Result.andThen_ok, List.map_toArray, List.map_cons, List.map_nil, hd, hs]
    simp [Builtin.copy_, run_underlying hT, Builtin.lenOf, Builtin.firstCells, sizeOf, typeInfo, hq, hi2, hm, hl, hst, goInt]
/-- append to the first part of an own row, where there is room: what stands behind is overwritten. -/
theorem runs_appendIn (H : St M X w0 w L F) (k : Nat) {g n cap : Nat} {xs : List Value} {ty sz : Nat} (hk : L[k]? = some (.row (.slice (some ⟨g, 0, none⟩) n cap) n xs ty sz)) {T : TypeId} {s x : Operand} {i c0 m sc : Nat} {A : Option Addr}
    (ho : o.op = .call { callee := .builtin .append, args := #[s, x], argTypes := #[T, T] }) (hs : ev s = .slice (some ⟨g, 0, none⟩) i c0) (hx : ev x = .slice A m sc) (hT : P.underlying T = some (.slice ty))
    {z : Option Value} {bytes : Nat} (hi : (P.info? ty).map (fun i => (i.zero, i.size, i.bytes)) = some (z, sz, bytes)) {cs : List Value} (hcs : cs.length = m * sz) (hsrc : m = 0 ∨ ∃ a : Addr, A = some a ∧ ∀ j v, cs[j]? = some v → w.cell? (a.add j) = some v)
    (h1 : ∀ v ∈ cs, v.oneCell' = true) (hroom : i + m ≤ c0) (hoff : (i + m) * sz ≤ n * sz) {f : Res → List Res} (hL : ∀ r, setC L k r some = some (f r)) :
    Runs P ev o w fun u w' => u = .slice (some ⟨g, 0, none⟩) (i + m) c0 ∧ Ext [g] w w' ∧ St M X w0 w' (f (.row (.slice (some ⟨g, 0, none⟩) n cap) n (layL xs (i * sz) cs) ty sz)) F := by
  obtain ⟨hxl, cur, hg, hc', hmx, hsz, ht⟩ := H.rowBlock k hk
  rw [Nat.add_mul] at hoff
  have hle : i * sz + cs.length ≤ cur.size := by rw [hsz, hcs]; exact Nat.le_trans hoff (Nat.mul_le_mul_right _ hc')
  obtain ⟨hE, H'⟩ := st_putRow H k hk (off := i * sz) (vs := cs) (by rw [hcs]; exact hoff) hg hL
  have hst := run_storeCells_at P g (i * sz) ty cs 0 cur w hg (by simpa using hle) h1
  simp only [Nat.add_zero] at hst
  cases hq : P.info? ty with
  | none => simp [hq] at hi
  | some i' =>
    have hi2 : i'.size = sz := by simp [hq] at hi; exact hi.2.1
    have hl : (Builtin.firstCells sz m (.slice A m sc)).run P w = .ok cs.toArray w := by
      rcases hsrc with rfl | ⟨a, rfl, hsrc⟩
      · have : cs = [] := List.eq_nil_of_length_eq_zero (by simpa using hcs)
        subst this
        cases A with
        | none => rfl
        | some a => simpa [Builtin.firstCells] using run_loadCells_list (P := P) w a [] (by simp)
      · have := run_loadCells_list (P := P) w a cs hsrc
        rw [hcs] at this
        simpa [Builtin.firstCells] using this
    refine ⟨.value (.slice (some ⟨g, 0, none⟩) (i + m) c0), _, _, ?_, rfl, rfl, hE, H'⟩
    unfold execOp
    simp only [ho, resolve, invoke, builtin, Sem.run_bind, Sem.run_pure, Result.andThen_ok, List.map_toArray, List.map_cons, List.map_nil, hs, hx]
    simp [Builtin.append_, run_underlying hT, sizeOf, typeInfo, hq, hi2, Builtin.lenOf, hroom, hl, Addr.add_lit, hst]
/-- append of zeros to the first part of an own row, where there is no room: a new row. -/
theorem runs_appendGrow (H : St M X w0 w L F) (k : Nat) {g n cap : Nat} {xs : List Value} {ty sz : Nat} (hk : L[k]? = some (.row (.slice (some ⟨g, 0, none⟩) n cap) n xs ty sz)) {T Tn : TypeId} {s x : Operand} {i c0 m : Nat} {q kn : IntKind}
    (ho : o.op = .call { callee := .builtin .append, args := #[s, x], argTypes := #[T, Tn] }) (hs : ev s = .slice (some ⟨g, 0, none⟩) i c0) (hx : ev x = .int q m) (hT : P.underlying T = some (.slice ty)) (hTn : P.underlying Tn = some (.int kn))
    {z : Value} {bytes : Nat} (hi : (P.info? ty).map (fun i => (i.zero, i.size, i.bytes)) = some (some z, sz, bytes)) (hz : z.cells.size = sz) (hsz0 : 0 < sz) (hm : 0 < m) (hin : i ≤ n) (hroom : c0 < i + m) (h63 : i + m ≤ maxLen) (hb : (i + m) * bytes ≤ 140737488355328) :
    Runs P ev o w fun u w' => ∃ g' cap', u = .slice (some ⟨g', 0, none⟩) (i + m) cap' ∧ Ext [] w w' ∧ St M X w0 w' (.row (.slice (some ⟨g', 0, none⟩) (i + m) cap') (i + m) (xs.take (i * sz) ++ (Builtin.zeroCells z.cells m).toList) ty sz :: L) F := by
  obtain ⟨hxl, cur, hg, hc', hmx, hsz, ht⟩ := H.rowBlock k hk
  obtain ⟨i0, hi0, hz0, hz1, hz2⟩ := info_parts hi
  have hil : i * sz ≤ n * sz := Nat.mul_le_mul_right _ hin
  have holds : (xs.take (i * sz)).length = i * sz := by rw [List.length_take, hxl]; omega
  have hold : (Builtin.firstCells i0.size i (.slice (some ⟨g, 0, none⟩) i c0)).run P w.drew = .ok (xs.take (i * sz)).toArray w.drew := by
    refine run_firstCells_some (P := P) w.drew i0.size i ⟨g, 0, none⟩ i c0 (xs.take (i * sz)) (by rw [holds, hz1]) (fun j v hj => ?_)
    rw [add_off, Nat.zero_add, cell_of_row w.drew g j cur ty (0, 0) hg]
    rw [← ht, List.take_take, Nat.min_eq_left hil, List.getElem?_take] at hj
    split at hj
    · simpa using hj
    · cases hj
  have hnc : Builtin.nextslicecap (i + m) c0 * i0.bytes ≤ 281474976710656 := by
    have h2 := nextslicecap_le (need := i + m) (old := c0) hroom
    calc Builtin.nextslicecap (i + m) c0 * i0.bytes ≤ (2 * (i + m)) * i0.bytes := Nat.mul_le_mul_right _ h2
      _ ≤ 281474976710656 := by rw [hz2, Nat.mul_assoc]; omega
  have hmb : m * i0.bytes ≤ 281474976710656 := by
    have : m * bytes ≤ (i + m) * bytes := Nat.mul_le_mul_right _ (by omega)
    rw [hz2]; omega
  have hr := Lib.run_append_grow_zeros (P := P) w T Tn o.type ty i0 z q kn hT hTn hi0 hz0 (some ⟨g, 0, none⟩) i c0 (xs.take (i * sz)) hold m hm (by rw [hz1]; exact hsz0) hroom (by unfold maxLen at h63; omega) hmb hnc
  generalize hcap : grownCap w (i + m) c0 ty = cap' at hr
  have hge : i + m ≤ cap' := by rw [← hcap]; exact grownCap_ge w _ _ ty
  have hle : cap' ≤ maxLen := by rw [← hcap]; exact grownCap_le_maxLen w _ _ ty h63
  have hzl : ∀ n, (Builtin.zeroCells z.cells n).size = n * sz := fun n => by rw [size_zeroCells, hz]
  generalize hZ : (xs.take (i * sz)).toArray ++ Builtin.zeroCells z.cells m ++ Builtin.zeroCells z.cells (cap' - (i + m)) = Z at hr
  have hZs : Z.size = cap' * sz := by
    rw [← hZ]
    simp only [Array.size_append, hzl, List.size_toArray, holds]
    rw [← Nat.add_mul, ← Nat.add_mul]
    congr 1
    omega
  have hZt : Z.toList.take ((i + m) * sz) = xs.take (i * sz) ++ (Builtin.zeroCells z.cells m).toList := by
    rw [← hZ]
    simp only [Array.toList_append]
    rw [List.take_append_of_le_length (by simp only [List.length_append, List.length_take, Array.length_toList, hzl]; rw [hxl, Nat.min_eq_left hil, Nat.add_mul]; omega)]
    rw [List.take_of_length_le]
    simp only [List.length_append, List.length_take, Array.length_toList, hzl]
    rw [hxl, Nat.min_eq_left hil, Nat.add_mul]; omega
  have HN := (H.drew).new (.cells Z ty)
  refine ⟨.value (.slice (some ⟨w.heap.size, 0, none⟩) (i + m) cap'), w.drew.alloc (.cells Z ty), _, ?_, rfl, w.heap.size, cap', rfl, (Ext.drew w).trans (Ext.new w.drew _), ?_⟩
  · unfold execOp
    simp only [ho, resolve, invoke, builtin, Sem.run_bind, Sem.run_pure, Result.andThen_ok, List.map_toArray, List.map_cons, List.map_nil, hs, hx, hr]
  · have hbl : (w.drew.alloc (.cells Z ty)).heap[w.heap.size]? = some (.cells Z ty (0, 0)) := HN.get (k := 0) rfl
    refine HN.swap (k := 0) (r' := .row (.slice (some ⟨w.heap.size, 0, none⟩) (i + m) cap') (i + m) (xs.take (i * sz) ++ (Builtin.zeroCells z.cells m).toList) ty sz) rfl ⟨rfl, rfl, rfl, Nat.le_refl _, fun _ _ _ => rfl⟩ ⟨?_, .inr ⟨w.heap.size, cap', Z, rfl, Nat.zero_le _, hbl, hge, hle, hZs, hZt⟩⟩ (by simp [Res.ids, Value.ownBlock]) (fun c hc => .inl (by simpa [Res.ids, Value.ownBlock] using hc))
    rw [← hZt, List.length_take, Array.length_toList, hZs, Nat.min_eq_left]
    exact Nat.mul_le_mul_right _ hge
/-- Room that an own row has is taken: what lies there is any. -/
theorem St.longer (H : St M X w0 w L F) (k : Nat) {g n cap : Nat} {xs : List Value} {ty sz : Nat} (hk : L[k]? = some (.row (.slice (some ⟨g, 0, none⟩) n cap) n xs ty sz)) {m : Nat} (hm : n + m ≤ cap) {f : Res → List Res} (hL : ∀ r, setC L k r some = some (f r)) :
    ∃ ys : List Value, ys.length = m * sz ∧ St M X w0 w (f (.row (.slice (some ⟨g, 0, none⟩) (n + m) cap) (n + m) (xs ++ ys) ty sz)) F := by
  obtain ⟨hxl, cur, hg, hc', hmx, hsz, ht⟩ := H.rowBlock k hk
  have hf : ∀ r, L.set k r = f r := fun r => Option.some.inj (setC_spec _ _ _ _ (hL r))
  have h1 : (n + m) * sz ≤ cap * sz := Nat.mul_le_mul_right _ hm
  rw [Nat.add_mul] at h1
  have hcl : cur.toList.length = cap * sz := by simpa using hsz
  refine ⟨(cur.toList.drop (n * sz)).take (m * sz), by rw [List.length_take, List.length_drop, hcl]; omega, ?_⟩
  have e : xs ++ (cur.toList.drop (n * sz)).take (m * sz) = cur.toList.take ((n + m) * sz) := by
    rw [← ht, Nat.add_mul, List.take_add]
  rw [e, ← hf]
  refine H.swap hk (Ext.refl _ _) ⟨by rw [List.length_take, hcl, Nat.add_mul]; omega, .inr ⟨g, cap, cur, rfl, Nat.zero_le _, hg, hm, hmx, hsz, rfl⟩⟩ (by simp [Res.ids, Value.ownBlock]) (fun c hc => .inl (by simpa [Res.ids, Value.ownBlock] using hc))
/-- The first elements of an own row are an own row, too. -/
theorem St.shorterAt (H : St M X w0 w L F) (k : Nat) {g n cap : Nat} {xs : List Value} {ty sz : Nat} (hk : L[k]? = some (.row (.slice (some ⟨g, 0, none⟩) n cap) n xs ty sz)) {m : Nat} (hm : m ≤ n) {f : Res → List Res} (hL : ∀ r, setC L k r some = some (f r)) :
    St M X w0 w (f (.row (.slice (some ⟨g, 0, none⟩) m cap) m (xs.take (m * sz)) ty sz)) F := by
  obtain ⟨hxl, cur, hg, hc', hmx, hsz, ht⟩ := H.rowBlock k hk
  have hf : ∀ r, L.set k r = f r := fun r => Option.some.inj (setC_spec _ _ _ _ (hL r))
  have h1 : m * sz ≤ n * sz := Nat.mul_le_mul_right _ hm
  rw [← hf]
  refine H.swap hk (Ext.refl _ _) ⟨by rw [List.length_take, hxl]; omega, .inr ⟨g, cap, cur, rfl, Nat.zero_le _, hg, by omega, hmx, hsz, by rw [← ht, List.take_take, Nat.min_eq_left h1]⟩⟩ (by simp [Res.ids, Value.ownBlock]) (fun c hc => .inl (by simpa [Res.ids, Value.ownBlock] using hc))
theorem zeroCells_lenF (z : Array Value) (n : Nat) : (Builtin.zeroCells z n).toList.length = n * z.size := by
  unfold Builtin.zeroCells
  simp
theorem zeroCells_oneF {z : Array Value} (hz : 0 < z.size) (h : ∀ v ∈ z, v.oneCell' = true) (n : Nat) : ∀ v ∈ (Builtin.zeroCells z n).toList, v.oneCell' = true := by
  intro v hv
  unfold Builtin.zeroCells at hv
  simp only [Array.mem_toList_iff, Array.mem_map] at hv
  obtain ⟨i, _, rfl⟩ := hv
  have hi : i % z.size < z.size := Nat.mod_lt _ hz
  rw [getElem!_pos z _ hi]
  exact h _ (Array.getElem_mem hi)
/-- clear of a part of an own row. -/
theorem runs_clearRowN (H : St M X w0 w L F) (k : Nat) {g n cap : Nat} {xs : List Value} {ty sz : Nat} (hk : L[k]? = some (.row (.slice (some ⟨g, 0, none⟩) n cap) n xs ty sz)) {T : TypeId} {s : Operand} {off m c : Nat}
    (ho : o.op = .call { callee := .builtin .clear, args := #[s], argTypes := #[T] }) (hs : ev s = .slice (some ⟨g, off, none⟩) m c) (hT : P.underlying T = some (.slice ty))
    {z : Value} {bytes : Nat} (hi : (P.info? ty).map (fun i => (i.zero, i.size, i.bytes)) = some (some z, sz, bytes)) (hz : z.cells.size = sz) (hsz0 : 0 < sz) (h1 : ∀ v ∈ z.cells, v.oneCell' = true)
    (hm : 0 < m) (hoff : off + m * sz ≤ n * sz) {f : Res → List Res} (hL : ∀ r, setC L k r some = some (f r)) :
    Runs P ev o w fun u w' => u = .tuple #[] ∧ Ext [g] w w' ∧ St M X w0 w' (f (.row (.slice (some ⟨g, 0, none⟩) n cap) n (layL xs off (Builtin.zeroCells z.cells m).toList) ty sz)) F := by
  obtain ⟨i0, hi0, hz0, hz1, hz2⟩ := info_parts hi
  obtain ⟨hxl, cur, hg, hc', hmx, hsz, ht⟩ := H.rowBlock k hk
  obtain ⟨vs, hvs⟩ : ∃ vs, (Builtin.zeroCells z.cells m).toList = vs := ⟨_, rfl⟩
  have hvl : vs.length = m * sz := by rw [← hvs, zeroCells_lenF, hz]
  have hv1 : ∀ u ∈ vs, u.oneCell' = true := by rw [← hvs]; exact zeroCells_oneF (by rw [hz]; exact hsz0) h1 m
  have hle : off + vs.length ≤ cur.size := by rw [hsz, hvl]; exact Nat.le_trans hoff (Nat.mul_le_mul_right _ hc')
  have hst := run_storeCells_at P g off ty vs 0 cur w hg (by simpa using hle) hv1
  simp only [Nat.add_zero] at hst
  rw [hvs]
  obtain ⟨hE, H'⟩ := st_putRow H k hk (off := off) (vs := vs) (by rw [hvl]; exact hoff) hg hL
  have hzv : (zeroValue ty).run P w = .ok z w := by
    unfold zeroValue
    simp only [Sem.run_bind, run_typeInfo _ hi0, Result.andThen_ok, hz0, Sem.run_pure]
  refine ⟨.value (.tuple #[]), _, .tuple #[], ?_, rfl, rfl, hE, H'⟩
  unfold execOp
  cases m with
  | zero => omega
  | succ m =>
    simp only [ho, resolve, invoke, builtin, Sem.run_bind, Sem.run_pure, Result.andThen_ok, List.map_toArray, List.map_cons, List.map_nil, hs, Builtin.clear_, run_underlying hT, hzv, hvs, hst, List.getElem?_toArray, List.getElem?_cons_zero]
/-- slices.overlaps of a literal and of an own row. -/
theorem runs_overlaps (H : St M X w0 w L F) (k : Nat) {g n cap : Nat} {xs : List Value} {ty sz : Nat} (hk : L[k]? = some (.row (.slice (some ⟨g, 0, none⟩) n cap) n xs ty sz)) {T Tb : TypeId} {cc : Call} {fi : FuncId} {fn : Func} {c off la ca lb cb : Nat} {cs : List Value} {tc : TypeId}
    (hc : ObjF c (.cells cs.toArray tc (0, 0)) (idsOf L ++ M) w) (ho : o.op = .call cc) {x y : Operand} (hcc : cc.callee = .value (.func fi)) (ha : cc.args = #[x, y]) (hv : ev (.func fi) = .func (.func fi) #[] #[])
    (hx : ev x = .slice (some ⟨c, 0, none⟩) la ca) (hy : ev y = .slice (some ⟨g, off, none⟩) lb cb)
    (hf : P.funcs[fi]? = some fn) (hname : (fn.name == "runtime.NumGoroutine") = false) (hb : fn.body.isNone = true) (hn : Extern.findNext fn = none) (he : Extern.find fn = some (Extern.SlicesOverlaps.overlaps #[T, T] #[Tb])) (hT : P.underlying T = some (.slice ty))
    {agg : Bool} (hS : tyShape P ty = some (agg, sz)) (hsz0 : 0 < sz) (hn0 : 0 < n) :
    Runs P ev o w fun u w' => u = .bool false ∧ w = w' := by
  obtain ⟨hxl, cur, hg, hc', hmx, hsz, ht⟩ := H.rowBlock k hk
  have hgm : g ∈ idsOf L := by
    simp only [idsOf, List.mem_flatMap]
    exact ⟨_, List.mem_of_getElem? hk, by simp [Res.ids, Value.ownBlock]⟩
  have hne : c ≠ g := fun e => hc.2 (List.mem_append_left _ (e ▸ hgm))
  have hsz1 : 0 < cap * sz := Nat.mul_pos (by omega) hsz0
  have hcur : cur.size ≠ 0 := by omega
  have hrun := Lib.run_overlaps_apart (P := P) w T Tb ty hT sz (fun w => (run_isAgg hS w).2) ⟨c, 0, none⟩ ⟨g, off, none⟩ la ca lb cb hne tc ty cs.toArray.size cur.size (by simp [World.shape?, hc.1]) (by simp [World.shape?, hg]) hcur (by simp [World.frozen?, hc.1]) (by simp [World.frozen?, hc.1])
  have hcf := run_callFunc_extern hf hname hb hn he #[.slice (some ⟨c, 0, none⟩) la ca, .slice (some ⟨g, off, none⟩) lb cb] w
  rw [hrun] at hcf
  refine ⟨.value (.bool false), w, _, ?_, rfl, rfl, rfl⟩
  unfold execOp
  simp only [ho, resolve, hcc, ha, hv, Deferred.ofValue, invoke, Sem.run_bind, Sem.run_pure, Result.andThen_ok, List.map_toArray, List.map_cons, List.map_nil, hx, hy]
  simpa using hcf
end
end Go.Proofs.Ythapmdlminnihaa
