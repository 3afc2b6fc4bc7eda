/- A call's own maps, as assoc lists. -/
import Derived.Test.YtgopldabdheehaaBack
import Derived.MapKept
namespace Go.Proofs.Ytgopldabdheehaa
open Go.RowKit
set_option linter.unusedVariables false
set_option linter.unusedSimpArgs false

/-- Keys of one kind. -/
structure KeyOk {κ : Type} [DecidableEq κ] (kv : κ → Value) (kd : TypeDesc) : Prop where
  same : ∀ a b, Instr.sameNow kd (kv a) (kv b) = some (decide (a = b))
  bits : ∀ a, Instr.sameBits 10000 (kv a) (kv a) = true
  chk : ∀ (P : Program) K e a w, P.underlying K = some kd → (Instr.checkKey e 10000 K (kv a)).run P w = .ok () w

theorem intKey (q : IntKind) : KeyOk (fun n : Int => Value.int q n) (.int q) where
  same a b := by simp only [Instr.sameNow, if_true, Option.some.injEq]; by_cases h : a = b <;> simp [h]
  bits a := by unfold Instr.sameBits; simp
  chk P K e a w h := by
    unfold Instr.checkKey
    rw [Sem.run_bind, run_underlying h]
    rfl
theorem strKey : KeyOk (fun s : ByteArray => Value.string s) .string where
  same a b := by
    simp only [Instr.sameNow, Option.some.injEq]
    rw [Bool.eq_iff_iff, Go.MapKept.bytes_beq]; simp
  bits a := by unfold Instr.sameBits; exact (Go.MapKept.bytes_beq a a).2 rfl
  chk P K e a w h := by
    unfold Instr.checkKey
    rw [Sem.run_bind, run_underlying h]
    rfl

/-- The value of a key; what is written. -/
def getL {κ : Type} [DecidableEq κ] : List (κ × Value) → κ → Option Value
  | [], _ => none
  | p :: m, k => if k = p.1 then some p.2 else getL m k
def putL {κ : Type} [DecidableEq κ] : List (κ × Value) → κ → Value → List (κ × Value)
  | [], k, v => [(k, v)]
  | p :: m, k, v => if k = p.1 then (k, v) :: m else p :: putL m k v
theorem getL_putL {κ : Type} [DecidableEq κ] : ∀ (m : List (κ × Value)) (k k' : κ) (v : Value), getL (putL m k v) k' = if k' = k then some v else getL m k'
  | [], k, k', v => by simp [putL, getL]
  | p :: m, k, k', v => by
    unfold putL
    by_cases h : k = p.1
    · rw [if_pos h]
      by_cases h2 : k' = k
      · simp [getL, h2]
      · have : ¬ k' = p.1 := fun e => h2 (e.trans h.symm)
        simp [getL, h2, this]
    · rw [if_neg h]
      by_cases h2 : k' = p.1
      · have : ¬ k' = k := fun e => h (e.symm.trans h2)
        simp [getL, h2, this]
        intro e; exact absurd e.symm h
      · simp only [getL, if_neg h2]
        exact getL_putL m k k' v

def mapHolds {κ : Type} (kv : κ → Value) (b : Nat) (m : List (κ × Value)) (w : World) : Prop := ∃ es clock, w.heap[b]? = some (.map es clock) ∧ es.toList.map (fun e => (e.key, e.val)) = m.map fun p => (kv p.1, p.2)
/-- A map of the call's own. -/
def mapR {κ : Type} (kv : κ → Value) (b : Nat) (m : List (κ × Value)) : Res :=
  .abs [b] (mapHolds kv b m) (fun w w' H h => by obtain ⟨es, c, h1, h2⟩ := h; exact ⟨es, c, (H b (by simp)).trans h1, h2⟩) (fun w h c hc => by
    obtain ⟨es, cl, h1, h2⟩ := h
    rw [List.mem_singleton.1 hc]
    exact (Array.getElem?_eq_some_iff.1 h1).1)

theorem findNow_get {κ : Type} [DecidableEq κ] {kv : κ → Value} {kd : TypeDesc} (K : KeyOk kv kd) (k : κ) : ∀ (es : List MapEntry) (m : List (κ × Value)) (i : Nat), es.map (fun e => (e.key, e.val)) = m.map (fun p => (kv p.1, p.2)) →
    (∃ r, Instr.findNow kd (kv k) es i = some r ∧ r.map (·.2) = getL m k ∧ (∀ j v, r = some (j, v) → ∃ n, j = i + n ∧ n < es.length ∧ es[n]?.map (·.key) = some (kv k) ∧ ∀ x, (es.modify n (fun e => { e with key := kv k, val := x })).map (fun e => (e.key, e.val)) = (putL m k x).map (fun p => (kv p.1, p.2))) ∧
      (r = none → ∀ x, putL m k x = m ++ [(k, x)]))
  | [], [], i, _ => ⟨none, rfl, rfl, fun _ _ h => (by cases h), fun _ x => rfl⟩
  | [], _ :: _, _, h => by cases h
  | _ :: _, [], _, h => by cases h
  | e :: es, p :: m, i, h => by
    simp only [List.map_cons, List.cons.injEq, Prod.mk.injEq] at h
    obtain ⟨⟨h1, h2⟩, h3⟩ := h
    obtain ⟨r, hr, hg, hs, hn⟩ := findNow_get K k es m (i + 1) h3
    unfold Instr.findNow
    rw [h1, K.same]
    by_cases hk : k = p.1
    · refine ⟨some (i, e.val), by simp [hk], by simp [getL, hk, h2], fun j v hj => ?_, fun h => by cases h⟩
      cases hj
      refine ⟨0, rfl, by simp, by simp [h1, hk], fun x => ?_⟩
      simp [putL, hk, h3]
    · refine ⟨r, by simp [hk, hr], by simp [getL, hk, hg], fun j v hj => ?_, fun h x => by simp [putL, hk, hn h x]⟩
      obtain ⟨n, rfl, hl, hke, hp⟩ := hs j v hj
      refine ⟨n + 1, by omega, by simpa using hl, by simpa using hke, fun x => ?_⟩
      simp only [putL, if_neg hk, List.modify_succ_cons, List.map_cons, hp x, h1, h2]

section
variable {M X : List Nat} {w0 w : World} {L : List Res} {F : List Nat → World → Prop} {P : Program} {ev : Operand → Value} {o : Oper}

/-- A value, reckoned. -/
def valC : Value → Option Value
  | .agg ⟨l⟩ => some (.agg ⟨l⟩)
  | .bool b => some (.bool b)
  | .int k n => some (.int k n)
  | .float k b => some (.float k b)
  | .complex k r i => some (.complex k r i)
  | .string s => some (.string s)
  | .pointer a => some (.pointer a)
  | .slice a l c => some (.slice a l c)
  | .map r => some (.map r)
  | .chan r => some (.chan r)
  | .func f a c => some (.func f a c)
  | .nilFunc => some .nilFunc
  | .iface t v => some (.iface t v)
  | .nilIface => some .nilIface
  | .tuple vs => some (.tuple vs)
theorem valC_spec {v u : Value} (h : valC v = some u) : v = u := by
  cases v <;> simp [valC] at h <;> exact h

theorem runs_makeMap {κ : Type} (kv : κ → Value) (H : St M X w0 w L F) {T : TypeId} (ho : o.op = .makeMap T none) :
    Runs P ev o w fun u w' => ∃ b, u = .map (some b) ∧ Ext [] w w' ∧ St M X w0 w' (mapR kv b [] :: L) F := by
  have HN := H.new (.map #[] 0)
  have hb : (w.alloc (.map #[] 0)).heap[w.heap.size]? = some (.map #[] 0) := HN.get (k := 0) rfl
  refine ⟨.value (.map (some w.heap.size)), w.alloc (.map #[] 0), .map (some w.heap.size), ?_, rfl, w.heap.size, rfl, Ext.new _ _, ?_⟩
  · unfold execOp
    simp [ho, Instr.makeMap, newObj, Sem.run]
  · exact HN.swap (k := 0) rfl (r' := mapR kv w.heap.size []) ⟨rfl, rfl, rfl, Nat.le_refl _, fun _ _ _ => rfl⟩ ⟨#[], 0, hb, rfl⟩ (by simp [mapR, Res.ids]) (fun c hc => .inl hc)

theorem runs_lookup_at {κ : Type} [DecidableEq κ] {kv : κ → Value} {kd : TypeDesc} (K : KeyOk kv kd) {b : Nat} {m : List (κ × Value)} (hm : mapHolds kv b m w) {T : TypeId} {x y : Operand} {ok : Bool}
    (ho : o.op = .lookup T x y ok) (hx : ev x = .map (some b)) {n : κ} (hy : ev y = kv n) {Kt E : TypeId} (hT : P.underlying T = some (.map Kt E)) (hK : P.underlying Kt = some kd) {z : Value} (hz : tyZero P E = some z) :
    Runs P ev o w fun u w' => u = (if ok then .tuple #[(getL m n).getD z, .bool (getL m n).isSome] else (getL m n).getD z) ∧ w = w' := by
  obtain ⟨es, clock, hb, he⟩ := hm
  obtain ⟨r, hr, hg, _, _⟩ := findNow_get K n es.toList m 0 he
  have hz' : (zeroValue E).run P w = .ok z w := by
    cases hi : P.info? E with
    | none => simp [tyZero, hi] at hz
    | some i =>
      have hz' : i.zero = some z := by simpa [tyZero, hi] using hz
      simp [zeroValue, typeInfo, hi, hz', Sem.run, program]
  have hc := K.chk P Kt es.isEmpty n w hK
  have hgo : Sem.run P (getObj b) w = .ok (.map es clock) w := by simp [getObj, Sem.run, hb]
  have hf : Sem.run P (Instr.findKey Kt (kv n) es.toList) w = .ok r w := by
    unfold Instr.findKey
    rw [Sem.run_bind, run_underlying hK]
    simp only [Result.andThen_ok, hr, Sem.run_pure]
  have hl : Sem.run P (Instr.lookup T (.map (some b)) (kv n) ok) w = .ok (if ok then .tuple #[(getL m n).getD z, .bool (getL m n).isSome] else (getL m n).getD z) w := by
    unfold Instr.lookup
    simp only [Sem.run_bind, run_underlying hT, Result.andThen_ok, hgo, Sem.run_pure, hc, hf]
    rw [← hg]
    cases r with
    | none => simp [Sem.run_bind, hz', Sem.run_pure]
    | some p => simp [Sem.run_bind, Sem.run_pure]
  refine ⟨.value _, w, _, ?_, rfl, rfl, rfl⟩
  unfold execOp
  simp only [ho, hx, hy, Sem.run_bind, hl, Result.andThen_ok, Sem.run_pure]

theorem runs_lookup {κ : Type} [DecidableEq κ] {kv : κ → Value} {kd : TypeDesc} (K : KeyOk kv kd) (H : St M X w0 w L F) (k : Nat) {b : Nat} {m : List (κ × Value)} (hk : L[k]? = some (mapR kv b m)) {T : TypeId} {x y : Operand} {ok : Bool}
    (ho : o.op = .lookup T x y ok) (hx : ev x = .map (some b)) {n : κ} (hy : ev y = kv n) {Kt E : TypeId} (hT : P.underlying T = some (.map Kt E)) (hK : P.underlying Kt = some kd) {z : Value} (hz : tyZero P E = some z) :
    Runs P ev o w fun u w' => u = (if ok then .tuple #[(getL m n).getD z, .bool (getL m n).isSome] else (getL m n).getD z) ∧ w = w' :=
  runs_lookup_at K (H.holds _ (List.mem_of_getElem? hk)) ho hx hy hT hK hz

theorem runs_mapUpdate {κ : Type} [DecidableEq κ] {kv : κ → Value} {kd : TypeDesc} (K : KeyOk kv kd) (H : St M X w0 w L F) (k : Nat) {b : Nat} {m : List (κ × Value)} (hk : L[k]? = some (mapR kv b m)) {T : TypeId} {x y v : Operand}
    (ho : o.op = .mapUpdate T x y v) (hx : ev x = .map (some b)) {n : κ} (hy : ev y = kv n) {vv : Value} (hv : valC (ev v) = some vv) {Kt E : TypeId} (hT : P.underlying T = some (.map Kt E)) (hK : P.underlying Kt = some kd) {f : Res → List Res} (hL : ∀ r, setC L k r some = some (f r)) :
    Runs P ev o w fun u w' => u = undef ∧ Ext [b] w w' ∧ St M X w0 w' (f (mapR kv b (putL m n vv))) F := by
  obtain rfl := valC_spec hv
  have hfL : ∀ r, L.set k r = f r := fun r => Option.some.inj (setC_spec _ _ _ _ (hL r))
  obtain ⟨es, clock, hb, he⟩ : mapHolds kv b m w := H.holds _ (List.mem_of_getElem? hk)
  obtain ⟨r, hr, hg, hs, hn⟩ := findNow_get K n es.toList m 0 he
  have hbl : b < w.heap.size := (Array.getElem?_eq_some_iff.1 hb).1
  have hc := K.chk P Kt false n w hK
  have hgo : Sem.run P (getObj b) w = .ok (.map es clock) w := by simp [getObj, Sem.run, hb]
  have hf : Sem.run P (Instr.findKey Kt (kv n) es.toList) w = .ok r w := by
    unfold Instr.findKey
    rw [Sem.run_bind, run_underlying hK]
    simp only [Result.andThen_ok, hr, Sem.run_pure]
  have key : ∃ es' clock', Sem.run P (Instr.mapUpdate T (.map (some b)) (kv n) (ev v)) w = .ok () (w.putObj b (.map es' clock')) ∧ es'.toList.map (fun e => (e.key, e.val)) = (putL m n (ev v)).map fun p => (kv p.1, p.2) := by
    unfold Instr.mapUpdate
    simp only [Sem.run_bind, run_underlying hT, Result.andThen_ok, hgo, hc, hf]
    cases r with
    | none =>
      refine ⟨es.push { key := kv n, val := ev v, born := clock }, clock + 1, by simp [setObj, Sem.run, World.putObj, hb], ?_⟩
      rw [hn rfl (ev v)]
      simp [he]
    | some p =>
      obtain ⟨i, v0⟩ := p
      obtain ⟨j, rfl, hj, hke, hp⟩ := hs i v0 rfl
      have hold : ((es[0 + j]?).map (·.key)).getD (kv n) = kv n := by
        rw [Nat.zero_add, ← Array.getElem?_toList, hke]; rfl
      refine ⟨es.modify (0 + j) (fun e => { e with key := kv n, val := ev v }), clock, ?_, ?_⟩
      · simp only [hold, Instr.keyThatStays, K.bits, if_true, Sem.run_bind, Sem.run_pure, Result.andThen_ok]
        simp [setObj, Sem.run, World.putObj, hb]
      · rw [Array.toList_modify, Nat.zero_add]
        exact hp (ev v)
  obtain ⟨es', clock', hrun, hes⟩ := key
  have hE : Ext [b] w (w.putObj b (.map es' clock')) := ⟨rfl, rfl, rfl, by simp [World.putObj], fun c _ hx => World.putObj_heap_other (fun e => hx (by simp [e]))⟩
  refine ⟨.skip, _, undef, ?_, rfl, rfl, hE, ?_⟩
  · unfold execOp
    simp only [ho, hx, hy, Sem.run_bind, hrun, Result.andThen_ok, Sem.run_pure]
  · rw [← hfL]
    refine H.swap hk hE ⟨es', clock', ?_, hes⟩ (by simp [mapR, Res.ids]) (fun c hc => .inl hc)
    simp [World.putObj, hbl]
end

/-! ### What stays as it is: a block; a map -/
def ObjF (b : Nat) (o : Obj) (M : List Nat) (w : World) : Prop := w.heap[b]? = some o ∧ b ∉ M
theorem ObjF.stab (b : Nat) (o : Obj) : Stab (ObjF b o) := stab_of_to fun M M' w w' H h => by
  have hl : b < w.heap.size := (Array.getElem?_eq_some_iff.1 h.1).1
  obtain ⟨k1, k2, k3⟩ := H b h.2 hl
  exact ⟨k3.trans h.1, k1⟩
def MapF {κ : Type} (kv : κ → Value) (b : Nat) (m : List (κ × Value)) (M : List Nat) (w : World) : Prop := mapHolds kv b m w ∧ b ∉ M
theorem MapF.stab {κ : Type} (kv : κ → Value) (b : Nat) (m : List (κ × Value)) : Stab (MapF kv b m) := stab_of_to fun M M' w w' H h => by
  obtain ⟨⟨es, c, h1, h2⟩, h3⟩ := h
  have hl : b < w.heap.size := (Array.getElem?_eq_some_iff.1 h1).1
  obtain ⟨k1, k2, k3⟩ := H b h3 hl
  exact ⟨⟨es, c, k3.trans h1, h2⟩, k1⟩
theorem St.sealObj {M : List Nat} {w0 w : World} {L : List Res} {F : List Nat → World → Prop} (H : St M [] w0 w L F) (k : Nat) {b : Nat} {o : Obj} (hk : L[k]? = some (.obj b o)) : St M [] w0 w (L.eraseIdx k) fun M w => F M w ∧ ObjF b o M w :=
  H.seal0 k hk (ObjF.stab b o) (fun h _ hn => ⟨h, hn b (by simp [Res.ids])⟩) (H.notM hk)
theorem St.sealMap {κ : Type} {kv : κ → Value} {M : List Nat} {w0 w : World} {L : List Res} {F : List Nat → World → Prop} (H : St M [] w0 w L F) (k : Nat) {b : Nat} {m : List (κ × Value)} (hk : L[k]? = some (mapR kv b m)) : St M [] w0 w (L.eraseIdx k) fun M w => F M w ∧ MapF kv b m M w :=
  H.seal0 k hk (MapF.stab kv b m) (fun h _ hn => ⟨h, hn b (by simp [mapR, Res.ids])⟩) (H.notM hk)
end Go.Proofs.Ytgopldabdheehaa
