/- Terms as trees, and how they lie in memory. -/
import Derived.Test.YtgopldabdheehaaPlan
namespace Go.Proofs.Ytgopldabdheehaa
open Go.RowKit
set_option linter.unusedVariables false
set_option linter.unusedSimpArgs false

/-- A term as a tree: kind, name, number, two words, arguments. -/
inductive Tm where
  | mk (kind : Int) (name : ByteArray) (int re im : Int) (args : List Tm)

namespace Tm
def kind : Tm → Int | mk k _ _ _ _ _ => k
def name : Tm → ByteArray | mk _ s _ _ _ _ => s
def int : Tm → Int | mk _ _ n _ _ _ => n
def re : Tm → Int | mk _ _ _ r _ _ => r
def im : Tm → Int | mk _ _ _ _ i _ => i
def args : Tm → List Tm | mk _ _ _ _ _ l => l
/-- The zero term. -/
def zero : Tm := mk 0 ⟨#[]⟩ 0 0 0 []
theorem eta : ∀ t : Tm, mk t.kind t.name t.int t.re t.im t.args = t
  | mk _ _ _ _ _ _ => rfl
theorem ind {p : Tm → Prop} (h : ∀ k s n r i l, (∀ t ∈ l, p t) → p (.mk k s n r i l)) : ∀ t, p t
  | .mk k s n r i l => h k s n r i l (fun t _ => ind h t)
end Tm
instance : Inhabited Tm := ⟨Tm.zero⟩

mutual
/-- The six cells of a term's value, its arguments in memory, in blocks that are none of M. -/
def TR (M : List Nat) (w : World) : List Value → Tm → Prop
  | cs, .mk k s n r i l => ∃ A cap, cs = [.int .i64 k, .string s, .int .i64 n, .int .u64 r, .int .u64 i, .slice A l.length cap] ∧ l.length ≤ cap ∧ RowR M w A 0 l
/-- The terms of a row from the i-th on. -/
def RowR (M : List Nat) (w : World) (A : Option Addr) : Nat → List Tm → Prop
  | _, [] => True
  | i, t :: ts => (∃ b o cs, A = some ⟨b, o, none⟩ ∧ b ∉ M ∧ b < w.heap.size ∧ cs.length = 6 ∧ (∀ j v, cs[j]? = some v → w.cell? ⟨b, o + (i * 6 + j), none⟩ = some v) ∧ TR M w cs t) ∧ RowR M w A (i + 1) ts
end

mutual
theorem TR.to {M M' : List Nat} {w w' : World} (H : ∀ b, b ∉ M → b < w.heap.size → b ∉ M' ∧ b < w'.heap.size ∧ w'.heap[b]? = w.heap[b]?) :
    ∀ (cs : List Value) (t : Tm), TR M w cs t → TR M' w' cs t
  | cs, .mk k s n r i l, h => by
    unfold TR at h ⊢
    obtain ⟨A, cap, e, hc, hr⟩ := h
    exact ⟨A, cap, e, hc, RowR.to H A 0 l hr⟩
theorem RowR.to {M M' : List Nat} {w w' : World} (H : ∀ b, b ∉ M → b < w.heap.size → b ∉ M' ∧ b < w'.heap.size ∧ w'.heap[b]? = w.heap[b]?) (A : Option Addr) :
    ∀ (i : Nat) (l : List Tm), RowR M w A i l → RowR M' w' A i l
  | _, [], _ => by unfold RowR; trivial
  | i, t :: ts, h => by
    unfold RowR at h ⊢
    obtain ⟨⟨b, o, cs, e, hk, hb, hl, hc, ht⟩, hr⟩ := h
    obtain ⟨k1, k2, k3⟩ := H b hk hb
    exact ⟨⟨b, o, cs, e, k1, k2, hl, fun j v hj => (cell_same k3 _).trans (hc j v hj), TR.to H cs t ht⟩, RowR.to H A (i + 1) ts hr⟩
end

theorem stab_of_to {F : List Nat → World → Prop} (h : ∀ M M' w w', (∀ b, b ∉ M → b < w.heap.size → b ∉ M' ∧ b < w'.heap.size ∧ w'.heap[b]? = w.heap[b]?) → F M w → F M' w') : Stab F :=
  ⟨fun M w w' e => h M M w w' fun b h1 h2 => ⟨h1, Nat.lt_of_lt_of_le h2 e.size, e.block b h2 h1⟩,
   fun M M' w s => h M M' w w fun b h1 h2 => ⟨fun h => h1 (s b h), h2, rfl⟩,
   fun M w b hb => h M (b :: M) w w fun c h1 h2 => ⟨fun h => by rcases List.mem_cons.1 h with rfl | h; exact absurd h2 (Nat.not_lt.2 hb); exact h1 h, h2, rfl⟩⟩

/-- A slice of terms, by its address, its room. -/
def AR (A : Option Addr) (cap : Nat) (l : List Tm) (M : List Nat) (w : World) : Prop := l.length ≤ cap ∧ RowR M w A 0 l
theorem AR.stab (A : Option Addr) (cap : Nat) (l : List Tm) : Stab (AR A cap l) := stab_of_to fun _ _ _ _ H h => ⟨h.1, RowR.to H A 0 l h.2⟩
theorem AR.nil (A : Option Addr) (cap : Nat) (M : List Nat) (w : World) : AR A cap [] M w := ⟨Nat.zero_le _, trivial⟩

theorem RowR.get {M : List Nat} {w : World} {A : Option Addr} : ∀ (l : List Tm) (i k : Nat), RowR M w A i l → (h : k < l.length) →
    ∃ b o cs, A = some ⟨b, o, none⟩ ∧ b ∉ M ∧ b < w.heap.size ∧ cs.length = 6 ∧ (∀ j v, cs[j]? = some v → w.cell? ⟨b, o + ((i + k) * 6 + j), none⟩ = some v) ∧ TR M w cs l[k]
  | [], _, _, _, h => absurd h (by simp)
  | t :: ts, i, 0, hr, _ => by
    unfold RowR at hr
    simpa using hr.1
  | t :: ts, i, k + 1, hr, h => by
    unfold RowR at hr
    have := RowR.get ts (i + 1) k hr.2 (by simpa using h)
    rw [show i + 1 + k = i + (k + 1) by omega] at this
    simpa using this

/-- The six cells of a term. -/
def cellsT (k : Int) (s : ByteArray) (n r i : Int) (A : Option Addr) (len cap : Nat) : List Value := [.int .i64 k, .string s, .int .i64 n, .int .u64 r, .int .u64 i, .slice A len cap]

/-- The k-th of a row of terms: its cells, and its own arguments. -/
theorem AR.at {A : Option Addr} {c : Nat} {l : List Tm} {M : List Nat} {w : World} (hr : AR A c l M w) (k : Nat) (h : k < l.length) :
    ∃ b o A' cap, A = some ⟨b, o, none⟩ ∧ b ∉ M ∧ b < w.heap.size ∧
      (∀ j v, (cellsT (l[k]).kind (l[k]).name (l[k]).int (l[k]).re (l[k]).im A' (l[k]).args.length cap)[j]? = some v → w.cell? ⟨b, o + k * 6 + j, none⟩ = some v) ∧ AR A' cap (l[k]).args M w := by
  obtain ⟨b, o, cs, rfl, hk, hb, _, hc, ht⟩ := RowR.get l 0 k hr.2 h
  rw [Nat.zero_add] at hc
  generalize l[k] = t at ht ⊢
  cases t with
  | mk kd s n r i ar =>
    unfold TR at ht
    obtain ⟨A', cap, rfl, h1, h2⟩ := ht
    exact ⟨b, o, A', cap, rfl, hk, hb, fun j v hj => by rw [Nat.add_assoc]; exact hc j v hj, ⟨h1, h2⟩⟩

/-- Cells in a row, element by element. -/
def CellsL {α : Type} (sz : Nat) (E : List Value → α → Prop) : List Value → List α → Prop
  | xs, [] => xs = []
  | xs, a :: l => ∃ cs rest, xs = cs ++ rest ∧ cs.length = sz ∧ E cs a ∧ CellsL sz E rest l

theorem CellsL.mono {α : Type} {sz : Nat} {E E' : List Value → α → Prop} (H : ∀ cs a, E cs a → E' cs a) : ∀ (l : List α) (xs : List Value), CellsL sz E xs l → CellsL sz E' xs l
  | [], _, h => h
  | _ :: l, _, ⟨cs, rest, e, hl, he, hr⟩ => ⟨cs, rest, e, hl, H _ _ he, CellsL.mono H l rest hr⟩

theorem CellsL.snoc {α : Type} {sz : Nat} {E : List Value → α → Prop} {cs : List Value} {a : α} (hc : cs.length = sz) (he : E cs a) :
    ∀ (l : List α) (xs : List Value), CellsL sz E xs l → CellsL sz E (xs ++ cs) (l ++ [a])
  | [], xs, h => ⟨cs, [], by rw [show xs = [] from h]; simp, hc, he, rfl⟩
  | b :: l, xs, ⟨ds, rest, e, hl, hd, hr⟩ => ⟨ds, rest ++ cs, by rw [e, List.append_assoc], hl, hd, CellsL.snoc hc he l rest hr⟩

theorem CellsL.get {α : Type} {sz : Nat} {E : List Value → α → Prop} : ∀ (l : List α) (xs : List Value) (k : Nat), CellsL sz E xs l → (h : k < l.length) →
    ∃ cs, cs.length = sz ∧ E cs l[k] ∧ ∀ j, j < sz → xs[k * sz + j]? = cs[j]?
  | [], _, _, _, h => absurd h (by simp)
  | _ :: _, _, 0, ⟨cs, rest, e, hl, he, _⟩, _ => ⟨cs, hl, he, fun j hj => by rw [e, List.getElem?_append_left (by omega)]; simp⟩
  | _ :: l, _, k + 1, ⟨cs, rest, e, hl, _, hr⟩, h => by
    obtain ⟨ds, h1, h2, h3⟩ := CellsL.get l rest k hr (by simpa using h)
    exact ⟨ds, h1, by simpa using h2, fun j hj => by rw [e, List.getElem?_append_right (by rw [Nat.succ_mul]; omega), ← h3 j hj]; congr 1; rw [Nat.succ_mul]; omega⟩

theorem CellsL.length {α : Type} {sz : Nat} {E : List Value → α → Prop} : ∀ (l : List α) (xs : List Value), CellsL sz E xs l → xs.length = l.length * sz
  | [], _, h => by rw [show _ = _ from h]; simp
  | _ :: l, _, ⟨cs, rest, e, hl, _, hr⟩ => by rw [e, List.length_append, hl, CellsL.length l rest hr, List.length_cons, Nat.succ_mul]; omega

theorem CellsL.dropLast {α : Type} {sz : Nat} {E : List Value → α → Prop} : ∀ (l : List α) (xs : List Value) (n : Nat), CellsL sz E xs l → CellsL sz E (xs.take (n * sz)) (l.take n)
  | [], _, n, h => by rw [show _ = _ from h]; simp [CellsL]
  | _ :: _, _, 0, _ => by simp [CellsL]
  | _ :: l, _, n + 1, ⟨cs, rest, e, hl, he, hr⟩ => ⟨cs, rest.take (n * sz), by rw [e, List.take_append, List.take_of_length_le (by rw [hl, Nat.succ_mul]; omega)]; congr 2; rw [hl, Nat.succ_mul]; omega, hl, he, CellsL.dropLast l rest n hr⟩

/-- The cells of a row of terms. -/
def TsR (xs : List Value) (l : List Tm) (M : List Nat) (w : World) : Prop := CellsL 6 (TR M w) xs l
theorem TsR.stab (xs : List Value) (l : List Tm) : Stab (TsR xs l) := stab_of_to fun _ _ _ _ H h => CellsL.mono (fun cs t => TR.to H cs t) l xs h
theorem TsR.nil (M : List Nat) (w : World) : TsR [] [] M w := rfl
theorem TsR.snoc {xs : List Value} {l : List Tm} {M : List Nat} {w : World} (h : TsR xs l M w) {k : Int} {s : ByteArray} {n r i : Int} {A : Option Addr} {c : Nat} {a : List Tm} (ha : AR A c a M w) :
    TsR (xs ++ [.int .i64 k, .string s, .int .i64 n, .int .u64 r, .int .u64 i, .slice A a.length c]) (l ++ [.mk k s n r i a]) M w :=
  CellsL.snoc (sz := 6) rfl (by unfold TR; exact ⟨A, c, rfl, ha.1, ha.2⟩) _ _ h

/-- Terms whose cells lie in a row. -/
theorem AR.ofCells {l : List Tm} {xs : List Value} {M : List Nat} {w : World} (h : TsR xs l M w) {b o cap : Nat} (hb : b ∉ M) (hl : b < w.heap.size) (hc : l.length ≤ cap) (hx : ∀ j v, xs[j]? = some v → w.cell? ⟨b, o + j, none⟩ = some v) :
    AR (some ⟨b, o, none⟩) cap l M w := by
  refine ⟨hc, ?_⟩
  have key : ∀ (m : List Tm) (i : Nat), i + m.length = l.length → m = l.drop i → RowR M w (some ⟨b, o, none⟩) i m := by
    intro m
    induction m with
    | nil => intro i _ _; unfold RowR; trivial
    | cons a m ih =>
      intro i hi hm
      have hil : i < l.length := by simp at hi; omega
      have hd := List.drop_eq_getElem_cons hil
      rw [← hm] at hd
      obtain ⟨cs, hl6, he, hxs⟩ := CellsL.get l xs i h hil
      unfold RowR
      refine ⟨⟨b, o, cs, rfl, hb, hl, hl6, fun j v hj => ?_, ?_⟩, ih (i + 1) (by simp at hi; omega) (List.cons.inj hd).2⟩
      · have : j < 6 := by rw [← hl6]; exact (List.getElem?_eq_some_iff.1 hj).1
        exact hx _ v (by rw [hxs j this]; exact hj)
      · rw [(List.cons.inj hd).1]; exact he
  exact key l 0 (by simp) (by simp)

/-- An owned row of terms, let go: a slice of terms like any other. -/
theorem St.sealT {M : List Nat} {w0 w : World} {L : List Res} {F : List Nat → World → Prop} (H : St M [] w0 w L F) (k : Nat) {v : Value} {n : Nat} {xs : List Value} {l : List Tm} (hk : L[k]? = some (.row v n xs 25 6))
    (hx : ∀ M w, F M w → TsR xs l M w) : ∃ A cap, v = .slice A l.length cap ∧ St M [] w0 w (L.eraseIdx k) fun M w => F M w ∧ AR A cap l M w := by
  have hown := H.getRow hk
  have hlen : n = l.length := by
    have h1 := hown.1
    rw [CellsL.length _ _ (hx _ _ H.fact)] at h1
    omega
  subst hlen
  rcases hown.2 with ⟨rfl, h0⟩ | ⟨g, cap, cur, rfl, hb, hg, hn, _, hs, ht⟩
  · have : l = [] := List.eq_nil_of_length_eq_zero h0
    subst this
    exact ⟨none, 0, rfl, H.seal0 k hk (AR.stab _ _ _) (fun _ _ _ => AR.nil _ _ _ _) (H.notM hk)⟩
  · refine ⟨some ⟨g, 0, none⟩, cap, rfl, H.seal0 k hk (AR.stab _ _ _) (fun _ hF hni => ?_) (H.notM hk)⟩
    have hgl : g < w.heap.size := (Array.getElem?_eq_some_iff.1 hg).1
    have hsub := (TsR.stab xs l).sub _ _ _ (fun b hb => by
      have : ∀ b, b ∈ idsOf (L.eraseIdx k) ++ M → b ∈ idsOf L ++ M := by
        intro b hb
        rcases List.mem_append.1 hb with hb | hb
        · refine List.mem_append_left _ ?_
          simp only [idsOf, List.mem_flatMap] at hb ⊢
          obtain ⟨r, hr, hb⟩ := hb
          exact ⟨r, List.mem_of_mem_eraseIdx hr, hb⟩
        · exact List.mem_append_right _ hb
      exact this b hb) (hx _ _ hF)
    refine AR.ofCells hsub (hni g (by simp [Res.ids, Value.ownBlock])) hgl hn fun j v hj => ?_
    rw [Nat.zero_add, cell_of_row w g j cur 25 (0, 0) hg]
    have hj' : j < l.length * 6 := by rw [← hown.1]; exact (List.getElem?_eq_some_iff.1 hj).1
    rw [← ht, List.getElem?_take, if_pos hj'] at hj
    simpa using hj

/-! ### The types -/
theorem Try.tyT : tyShape Try.prog 25 = some (true, 6) := by kernel_rfl
theorem Try.tzT : tyZero Try.prog 25 = some (.agg #[.int .i64 0, .string ⟨#[]⟩, .int .i64 0, .int .u64 0, .int .u64 0, .slice none 0 0]) := by kernel_rfl
theorem Try.tyI : tyShape Try.prog 3 = some (false, 1) := by kernel_rfl
theorem Try.tyI64 : tyShape Try.prog 2 = some (false, 1) := by kernel_rfl
theorem Try.tyU64 : tyShape Try.prog 22 = some (false, 1) := by kernel_rfl
theorem Try.tyS : tyShape Try.prog 9 = some (false, 1) := by kernel_rfl
theorem Try.tyTs : tyShape Try.prog 23 = some (false, 1) := by kernel_rfl
theorem Try.infoT : (Try.prog.info? 25).map (fun i => (i.zero, i.size, i.bytes)) = some (some (.agg #[.int .i64 0, .string ⟨#[]⟩, .int .i64 0, .int .u64 0, .int .u64 0, .slice none 0 0]), 6, 72) := by kernel_rfl
end Go.Proofs.Ytgopldabdheehaa
