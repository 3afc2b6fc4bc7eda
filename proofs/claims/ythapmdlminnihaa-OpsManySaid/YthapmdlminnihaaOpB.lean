/- Operators: how they lie in memory; what they are told apart by. -/
import Derived.Test.YthapmdlminnihaaFRow
import Derived.Test.YthapmdlminnihaaCmp
namespace Go.Proofs.Ythapmdlminnihaa
open Go.RowKit
set_option linter.unusedVariables false
set_option linter.unusedSimpArgs false
set_option maxRecDepth 20000
set_option maxHeartbeats 4000000

/-- An operator. -/
structure OpT where
  name : ByteArray
  ty : Int
  pr : Int
theorem OpT.eta (o : OpT) : OpT.mk o.name o.ty o.pr = o := rfl
def oc (o : OpT) : List Value := [.string o.name, .int .i64 o.ty, .int .i64 o.pr]
def opsL : List OpT → List Value
  | [] => []
  | o :: l => oc o ++ opsL l
theorem opsL_len : ∀ l : List OpT, (opsL l).length = l.length * 3
  | [] => rfl
  | o :: l => by simp only [opsL, List.length_append, opsL_len l, List.length_cons, oc, List.length_nil]; omega
theorem opsL_app : ∀ l m : List OpT, opsL (l ++ m) = opsL l ++ opsL m
  | [], m => rfl
  | o :: l, m => by simp only [List.cons_append, opsL, opsL_app l m, List.append_assoc]
theorem opsL_rc : ∀ (l : List OpT) (j : Nat) {x : OpT}, l[j]? = some x → RC (opsL l) (j * 3) (oc x)
  | [], j, x, h => by simp at h
  | o :: l, 0, x, h => by
    simp only [List.getElem?_cons_zero, Option.some.injEq] at h
    subst h
    intro q v hq
    have hql := (List.getElem?_eq_some_iff.1 hq).1
    simp only [opsL, Nat.zero_mul, Nat.zero_add]
    rw [List.getElem?_append_left hql]
    exact hq
  | o :: l, j + 1, x, h => by
    intro q v hq
    have ih := opsL_rc l j (by simpa using h) q v hq
    simp only [opsL]
    rw [List.getElem?_append_right (by simp [oc]; omega), ← ih]
    congr 1
    simp [oc]
    omega
theorem opsL_one : ∀ (l : List OpT) (v : Value), v ∈ opsL l → v.oneCell' = true
  | [], v, h => by simp [opsL] at h
  | o :: l, v, h => by
    simp only [opsL, List.mem_append, oc, List.mem_cons, List.not_mem_nil, or_false] at h
    rcases h with (rfl | rfl | rfl) | h
    · rfl
    · rfl
    · rfl
    · exact opsL_one l v h
theorem opsL_take (l : List OpT) (n : Nat) : opsL (l.take n) = (opsL l).take (n * 3) := by
  by_cases h : n ≤ l.length
  · have e : opsL l = opsL (l.take n) ++ opsL (l.drop n) := by rw [← opsL_app, List.take_append_drop]
    rw [e, List.take_append_of_le_length (by rw [opsL_len, List.length_take]; omega), List.take_of_length_le (l := opsL (l.take n)) (by rw [opsL_len, List.length_take]; omega)]
  · rw [List.take_of_length_le (l := l) (by omega), List.take_of_length_le (l := opsL l) (by rw [opsL_len]; omega)]
theorem opsL_drop (l : List OpT) (n : Nat) : opsL (l.drop n) = (opsL l).drop (n * 3) := by
  by_cases h : n ≤ l.length
  · have e : opsL l = opsL (l.take n) ++ opsL (l.drop n) := by rw [← opsL_app, List.take_append_drop]
    rw [e, List.drop_append_of_le_length (by rw [opsL_len, List.length_take]; omega), List.drop_eq_nil_of_le (show (opsL (l.take n)).length ≤ n * 3 by rw [opsL_len, List.length_take]; omega), List.nil_append]
  · rw [List.drop_eq_nil_of_le (show l.length ≤ n by omega), List.drop_eq_nil_of_le (show (opsL l).length ≤ n * 3 by rw [opsL_len]; omega)]; rfl
theorem opsL_cons (o : OpT) (l : List OpT) : opsL (o :: l) = oc o ++ opsL l := rfl

/-- A slice of operators that stays. -/
def OR (A : Option Addr) (cap : Nat) (l : List OpT) (M : List Nat) (w : World) : Prop := l.length ≤ cap ∧ (l = [] ∨ ∃ b o, A = some ⟨b, o, none⟩ ∧ CellF b o (opsL l) M w)
theorem OR.stab (A : Option Addr) (cap : Nat) (l : List OpT) : Stab (OR A cap l) := stab_of_to fun M M' w w' H h => ⟨h.1, h.2.imp id fun ⟨b, o, e, hm, hb, hc⟩ =>
  let ⟨k1, k2, k3⟩ := H b hm hb
  ⟨b, o, e, k1, k2, fun j v hj => (cell_same k3 _).trans (hc j v hj)⟩⟩
theorem OR.nil (A : Option Addr) (cap : Nat) (M : List Nat) (w : World) : OR A cap [] M w := ⟨Nat.zero_le _, .inl rfl⟩
theorem OR.at {A : Option Addr} {cap : Nat} {l : List OpT} {M : List Nat} {w : World} (h : OR A cap l M w) {j : Nat} {x : OpT} (hj : l[j]? = some x) : ∃ b o, A = some ⟨b, o, none⟩ ∧ CellF b (o + j * 3) (oc x) M w := by
  rcases h.2 with rfl | ⟨b, o, e, h1, h2, hc⟩
  · simp at hj
  · refine ⟨b, o, e, h1, h2, fun q v hq => ?_⟩
    rw [Nat.add_assoc]
    exact hc _ v (opsL_rc l j hj q v hq)
class HasOR (F : List Nat → World → Prop) (A : Option Addr) (c : Nat) (l : outParam (List OpT)) : Prop where
  get : ∀ M w, F M w → OR A c l M w
instance (priority := low) HasOR.nil {F : List Nat → World → Prop} {c : Nat} : HasOR F none c [] := ⟨fun M w _ => OR.nil _ _ _ _⟩
instance HasOR.left {F G : List Nat → World → Prop} {A : Option Addr} {c : Nat} {l : List OpT} [h : HasOR F A c l] : HasOR (fun M w => F M w ∧ G M w) A c l := ⟨fun M w k => h.get M w k.1⟩
instance HasOR.right {F G : List Nat → World → Prop} {A : Option Addr} {c : Nat} {l : List OpT} [h : HasOR G A c l] : HasOR (fun M w => F M w ∧ G M w) A c l := ⟨fun M w k => h.get M w k.2⟩
instance (priority := high) HasOR.here {A : Option Addr} {c : Nat} {l : List OpT} : HasOR (OR A c l) A c l := ⟨fun M w h => h⟩
theorem St.opr {M X : List Nat} {w0 w : World} {L : List Res} {F : List Nat → World → Prop} (H : St M X w0 w L F) {A : Option Addr} {c : Nat} {l : List OpT} [h : HasOR F A c l] : OR A c l (idsOf L ++ M) w := h.get _ _ H.fact

theorem Try.tyOp : tyShape Try.prog 32 = some (true, 3) := by kernel_rfl
theorem Try.infoOp : (Try.prog.info? 32).map (fun i => (i.zero, i.size, i.bytes)) = some (some (.agg #[.string ⟨#[]⟩, .int .i64 0, .int .i64 0]), 3, 32) := by kernel_rfl

/-- An own row of operators, let go. -/
theorem St.sealO {M : List Nat} {w0 w : World} {L : List Res} {F : List Nat → World → Prop} (H : St M [] w0 w L F) (k : Nat) {v : Value} {n : Nat} {ty : TypeId} {l : List OpT} (hk : L[k]? = some (.row v n (opsL l) ty 3)) :
    ∃ A cap, v = .slice A l.length cap ∧ St M [] w0 w (L.eraseIdx k) fun M w => F M w ∧ OR A cap l M w := by
  have hown := H.getRow hk
  have hlen : n = l.length := by have := hown.1; rw [opsL_len] at this; omega
  subst hlen
  rcases hown.2 with ⟨rfl, h0⟩ | ⟨g, cap, cur, rfl, hb, hg, hn, _, hs, ht⟩
  · have : l = [] := List.eq_nil_of_length_eq_zero h0
    subst this
    exact ⟨none, 0, rfl, H.seal0 k hk (OR.stab _ _ _) (fun _ _ _ => OR.nil _ _ _ _) (H.notM hk)⟩
  · refine ⟨some ⟨g, 0, none⟩, cap, rfl, H.seal0 k hk (OR.stab _ _ _) (fun _ hF hni => ?_) (H.notM hk)⟩
    have hgl : g < w.heap.size := (Array.getElem?_eq_some_iff.1 hg).1
    refine ⟨hn, .inr ⟨g, 0, rfl, hni g (by simp [Res.ids, Value.ownBlock]), hgl, fun j v hj => ?_⟩⟩
    rw [Nat.zero_add, cell_of_row w g j cur ty (0, 0) hg]
    have hj' : j < l.length * 3 := by rw [← opsL_len]; exact (List.getElem?_eq_some_iff.1 hj).1
    rw [← ht, List.getElem?_take, if_pos hj'] at hj
    simpa using hj
/-- What a row holds, looked at from without. -/
theorem OR.ofRow {w : World} {v : Value} {n : Nat} {ty : TypeId} {l : List OpT} (hown : w.ownsRow 0 ty 3 v n (opsL l)) {M : List Nat} (hM : ∀ b ∈ v.ownBlock.toList, b ∉ M) : ∃ A cap, v = .slice A l.length cap ∧ OR A cap l M w := by
  have hlen : n = l.length := by have := hown.1; rw [opsL_len] at this; omega
  subst hlen
  rcases hown.2 with ⟨rfl, h0⟩ | ⟨g, cap, cur, rfl, hb, hg, hn, _, hs, ht⟩
  · have : l = [] := List.eq_nil_of_length_eq_zero h0
    subst this
    exact ⟨none, 0, rfl, OR.nil _ _ _ _⟩
  · have hgl : g < w.heap.size := (Array.getElem?_eq_some_iff.1 hg).1
    refine ⟨some ⟨g, 0, none⟩, cap, rfl, hn, .inr ⟨g, 0, rfl, hM g (by simp [Value.ownBlock]), hgl, fun j v hj => ?_⟩⟩
    rw [Nat.zero_add, cell_of_row w g j cur ty (0, 0) hg]
    have hj' : j < l.length * 3 := by rw [← opsL_len]; exact (List.getElem?_eq_some_iff.1 hj).1
    rw [← ht, List.getElem?_take, if_pos hj'] at hj
    simpa using hj

/-! ### What operators are told apart by -/
def infE (k : Int) : Bool := k == 1 || k == 2 || k == 3
def placeE (b : Bool) : Int := if b then 1 else 0
def cmpO (a : OpT) (s : ByteArray) (btw : Bool) : Int := orI (cmpS a.name s) (cmpI (placeE (infE a.ty)) (placeE btw))
def frontE (k : Int) : Bool := k == 4 || k == 5
def mayO (o : OpT) : Bool := !(decide (o.ty < 1) || decide (5 < o.ty)) && !(decide (o.pr < 0) || decide (1200 < o.pr)) && !(o.name.toList == [] || decide (200 < (o.name.size : Int))) && !(o.name.toList == [44]) && !(o.name.toList == [124]) && !(o.name.toList == [91, 93])
end Go.Proofs.Ythapmdlminnihaa
