/- The base of all walks: terms as trees, how they lie in memory; the state of a walk: what the call has made so far, and what of older memory it knows. -/
import Derived.Test.YthapmdlminnihaaProg
import Derived.WalkKit
import Derived.KernelRfl
import Derived.Lib.Hide
import Derived.Outline
import Derived.Deep.AppendLies
import Derived.Deep.RegionHeld3
import Derived.WalkLawsBesides
import Derived.WalkSpells
import Derived.Laws.CopyRow
import Derived.Laws.Rows
namespace Go.Proofs.Ythapmdlminnihaa
open Go.RowKit
set_option linter.unusedVariables false
set_option linter.unusedSimpArgs false

/-! ### Worlds -/
/-- From w to w' nothing that was there has turned but the blocks of X. -/
structure Ext (X : List Nat) (w w' : World) : Prop where
  os : w'.os = w.os
  tape : w'.tape = w.tape
  output : w'.output = w.output
  size : w.heap.size ≤ w'.heap.size
  block : ∀ k, k < w.heap.size → k ∉ X → w'.heap[k]? = w.heap[k]?

theorem Ext.refl (X : List Nat) (w : World) : Ext X w w := ⟨rfl, rfl, rfl, Nat.le_refl _, fun _ _ _ => rfl⟩
theorem Ext.trans {X : List Nat} {a b c : World} (h : Ext X a b) (k : Ext X b c) : Ext X a c :=
  ⟨k.os.trans h.os, k.tape.trans h.tape, k.output.trans h.output, Nat.le_trans h.size k.size, fun i hi hx => (k.block i (Nat.lt_of_lt_of_le hi h.size) hx).trans (h.block i hi hx)⟩
/-- Fewer blocks that may turn: whatever is among the old ones. -/
theorem Ext.mono {X Y : List Nat} {w w' : World} (h : Ext X w w') (H : ∀ b, b < w.heap.size → b ∈ X → b ∈ Y) : Ext Y w w' :=
  ⟨h.os, h.tape, h.output, h.size, fun k hk hx => h.block k hk fun hm => hx (H k hk hm)⟩
theorem Ext.any {X : List Nat} {w w' : World} (h : Ext [] w w') : Ext X w w' := h.mono fun _ _ hb => by cases hb
theorem Ext.below {w w' : World} (h : Ext [] w w') : Below w.heap.size w w' := ⟨h.os, h.tape, h.output, h.size, fun k hk => h.block k hk (by simp)⟩
theorem Ext.ofBelow {w w' : World} (h : Below w.heap.size w w') : Ext [] w w' := ⟨h.os, h.tape, h.output, h.size, fun k hk _ => h.block k hk⟩
theorem Ext.new (w : World) (o : Obj) : Ext [] w (w.alloc o) := ⟨rfl, rfl, rfl, by simp, fun k hk _ => Below.heap_alloc w o k hk⟩
theorem Ext.drew (w : World) : Ext [] w w.drew := ⟨rfl, rfl, rfl, Nat.le_refl _, fun _ _ _ => rfl⟩
theorem Ext.drewN (w : World) (n : Nat) : Ext [] w (w.drewN n) := ⟨rfl, rfl, rfl, Nat.le_refl _, fun _ _ _ => rfl⟩
theorem Ext.grown {w w' : World} {row : Option Nat} (h : w.grownBy w' row) : Ext row.toList w w' :=
  ⟨h.os, h.tape, h.output, h.size, fun k hk hx => h.block k hk (by rintro e; exact hx (by rw [← e]; simp))⟩

theorem cell_same {w w' : World} {b : Nat} (h : w'.heap[b]? = w.heap[b]?) (o : Nat) : w'.cell? ⟨b, o, none⟩ = w.cell? ⟨b, o, none⟩ := by
  simp [World.cell?, h]

/-! ### What lasts -/
/-- A fact on memory that lasts as long as its own blocks do, none of which is one of M. -/
structure Stab (F : List Nat → World → Prop) : Prop where
  ext : ∀ M w w', Ext M w w' → F M w → F M w'
  sub : ∀ M M' w, (∀ b, b ∈ M' → b ∈ M) → F M w → F M' w
  fresh : ∀ M w b, w.heap.size ≤ b → F M w → F (b :: M) w

theorem Stab.and {F G : List Nat → World → Prop} (hF : Stab F) (hG : Stab G) : Stab fun M w => F M w ∧ G M w :=
  ⟨fun M w w' e h => ⟨hF.ext M w w' e h.1, hG.ext M w w' e h.2⟩, fun M M' w s h => ⟨hF.sub M M' w s h.1, hG.sub M M' w s h.2⟩, fun M w b hb h => ⟨hF.fresh M w b hb h.1, hG.fresh M w b hb h.2⟩⟩
theorem Stab.const (p : Prop) : Stab fun _ _ => p := ⟨fun _ _ _ _ h => h, fun _ _ _ _ h => h, fun _ _ _ _ h => h⟩
theorem Stab.all {α : Sort _} {F : α → List Nat → World → Prop} (h : ∀ x, Stab (F x)) : Stab fun M w => ∀ x, F x M w :=
  ⟨fun M w w' e k x => (h x).ext M w w' e (k x), fun M M' w s k x => (h x).sub M M' w s (k x), fun M w b hb k x => (h x).fresh M w b hb (k x)⟩
theorem Stab.imp {p : Prop} {F : List Nat → World → Prop} (h : Stab F) : Stab fun M w => p → F M w :=
  ⟨fun M w w' e k x => h.ext M w w' e (k x), fun M M' w s k x => h.sub M M' w s (k x), fun M w b hb k x => h.fresh M w b hb (k x)⟩
theorem Stab.ex {α : Sort _} {F : α → List Nat → World → Prop} (h : ∀ x, Stab (F x)) : Stab fun M w => ∃ x, F x M w :=
  ⟨fun M w w' e ⟨x, k⟩ => ⟨x, (h x).ext M w w' e k⟩, fun M M' w s ⟨x, k⟩ => ⟨x, (h x).sub M M' w s k⟩, fun M w b hb ⟨x, k⟩ => ⟨x, (h x).fresh M w b hb k⟩⟩

/-! ### What the call has made and may still turn -/
inductive Res where
  | obj (b : Nat) (o : Obj)
  | row (v : Value) (n : Nat) (xs : List Value) (ty : TypeId) (sz : Nat)
  | abs (B : List Nat) (p : World → Prop) (hp : ∀ w w' : World, (∀ b ∈ B, w'.heap[b]? = w.heap[b]?) → p w → p w') (hlt : ∀ w, p w → ∀ b ∈ B, b < w.heap.size)

namespace Res
def ids : Res → List Nat
  | obj b _ => [b]
  | row v _ _ _ _ => v.ownBlock.toList
  | abs B _ _ _ => B
def holds (w : World) : Res → Prop
  | obj b o => w.heap[b]? = some o
  | row v n xs ty sz => w.ownsRow 0 ty sz v n xs
  | abs _ p _ _ => p w
end Res

def idsOf (L : List Res) : List Nat := L.flatMap Res.ids

theorem Res.lt {w : World} : ∀ {r : Res}, r.holds w → ∀ b ∈ r.ids, b < w.heap.size
  | .obj b o, h, c, hc => by
    simp only [Res.ids, List.mem_singleton] at hc
    subst hc
    exact (Array.getElem?_eq_some_iff.1 h).1
  | .row v n xs ty sz, h, c, hc => by
    simp only [Res.ids, Option.mem_toList] at hc
    exact (World.ownsRow.lt h c hc).2
  | .abs B p hp hlt, h, c, hc => hlt w h c hc

theorem Res.keep {w w' : World} {r : Res} (h : r.holds w) (H : ∀ b ∈ r.ids, w'.heap[b]? = w.heap[b]?) : r.holds w' := by
  cases r with
  | obj b o => exact (H b (by simp [Res.ids])).trans h
  | row v n xs ty sz =>
    obtain ⟨h1, h2⟩ := h
    refine ⟨h1, ?_⟩
    rcases h2 with h2 | ⟨g, cap, cur, rfl, hb, hg, hn⟩
    · exact .inl h2
    · exact .inr ⟨g, cap, cur, rfl, hb, (H g (by simp [Res.ids, Value.ownBlock])).trans hg, hn⟩
  | abs B p hp hlt => exact hp w w' H h

/-- THE STATE OF A WALK. w0: the world at the call; X: older blocks that the call may turn; M: older blocks that it stays away from; L: what it has made (or may turn); F: what it knows of all else. -/
structure St (M X : List Nat) (w0 w : World) (L : List Res) (F : List Nat → World → Prop) : Prop where
  ext : Ext X w0 w
  holds : ∀ r ∈ L, r.holds w
  nodup : (idsOf L).Nodup
  own : ∀ b ∈ idsOf L, b ∈ X ∨ w0.heap.size ≤ b
  low : ∀ b ∈ M, b < w0.heap.size
  fact : F (idsOf L ++ M) w
  stab : Stab F

theorem St.lt {M X : List Nat} {w0 w : World} {L : List Res} {F : List Nat → World → Prop} (H : St M X w0 w L F) : ∀ b ∈ idsOf L, b < w.heap.size := by
  intro b hb
  simp only [idsOf, List.mem_flatMap] at hb
  obtain ⟨r, hr, hb⟩ := hb
  exact Res.lt (H.holds r hr) b hb

theorem St.ltAll {M X : List Nat} {w0 w : World} {L : List Res} {F : List Nat → World → Prop} (H : St M X w0 w L F) : ∀ b ∈ idsOf L ++ M, b < w.heap.size := by
  intro b hb
  rcases List.mem_append.1 hb with hb | hb
  · exact H.lt b hb
  · exact Nat.lt_of_lt_of_le (H.low b hb) H.ext.size

/-- The start. -/
theorem St.start {M : List Nat} {w : World} {F : List Nat → World → Prop} (hM : ∀ b ∈ M, b < w.heap.size) (hS : Stab F) (h : F M w) : St M [] w w [] F :=
  ⟨Ext.refl _ _, fun _ h => (by cases h), List.nodup_nil, fun _ h => (by cases h), hM, h, hS⟩

/-- The start, with one older block that may be turned. -/
theorem St.start1 {M : List Nat} {w : World} {F : List Nat → World → Prop} {b : Nat} {o : Obj} (hM : ∀ b ∈ M, b < w.heap.size) (hS : Stab F) (hb : w.heap[b]? = some o) (h : F (b :: M) w) : St M [b] w w [.obj b o] F :=
  ⟨Ext.refl _ _, fun r hr => by rw [List.mem_singleton.1 hr]; exact hb, by simp [idsOf, Res.ids], fun c hc => .inl (by simpa [idsOf, Res.ids] using hc), hM, by simpa [idsOf, Res.ids] using h, hS⟩

/-- The start, with a resource that may be turned. -/
theorem St.startR {M : List Nat} {w : World} {F : List Nat → World → Prop} {r : Res} (hM : ∀ b ∈ M, b < w.heap.size) (hS : Stab F) (hr : r.holds w) (hn : r.ids.Nodup) (h : F (r.ids ++ M) w) : St M r.ids w w [r] F :=
  ⟨Ext.refl _ _, fun q hq => by rw [List.mem_singleton.1 hq]; exact hr, by simpa [idsOf] using hn, fun c hc => .inl (by simpa [idsOf] using hc), hM, by simpa [idsOf] using h, hS⟩

section
variable {M X : List Nat} {w0 w w' : World} {L : List Res} {F : List Nat → World → Prop}

/-- What a callee does that turns nothing. -/
theorem St.step (H : St M X w0 w L F) (e : Ext [] w w') : St M X w0 w' L F where
  ext := H.ext.trans e.any
  holds r hr := Res.keep (H.holds r hr) fun b hb => e.block b (Res.lt (H.holds r hr) b hb) (by simp)
  nodup := H.nodup
  own := H.own
  low := H.low
  fact := H.stab.ext _ _ _ e.any H.fact
  stab := H.stab

theorem St.drew (H : St M X w0 w L F) : St M X w0 w.drew L F := H.step (Ext.drew w)

/-- One fact more. -/
theorem St.add (H : St M X w0 w L F) {G : List Nat → World → Prop} (h : G (idsOf L ++ M) w) (hG : Stab G) : St M X w0 w L fun M w => F M w ∧ G M w :=
  { H with fact := ⟨H.fact, h⟩, stab := H.stab.and hG }

/-- The facts, otherwise told. -/
theorem St.weaken (H : St M X w0 w L F) {G : List Nat → World → Prop} (h : F (idsOf L ++ M) w → G (idsOf L ++ M) w) (hG : Stab G) : St M X w0 w L G :=
  { H with fact := h H.fact, stab := hG }

/-- A new block. -/
theorem St.new (H : St M X w0 w L F) (o : Obj) : St M X w0 (w.alloc o) (.obj w.heap.size o :: L) F where
  ext := H.ext.trans (Ext.new w o).any
  holds r hr := by
    rcases List.mem_cons.1 hr with rfl | hr
    · exact heap_alloc_new w o
    · exact Res.keep (H.holds r hr) fun b hb => Below.heap_alloc w o b (Res.lt (H.holds r hr) b hb)
  nodup := by
    show (idsOf (.obj w.heap.size o :: L)).Nodup
    simp only [idsOf, List.flatMap_cons, Res.ids, List.singleton_append, List.nodup_cons]
    exact ⟨fun h => Nat.lt_irrefl _ (H.lt _ h), H.nodup⟩
  own b hb := by
    simp only [idsOf, List.flatMap_cons, Res.ids, List.singleton_append, List.mem_cons] at hb
    rcases hb with rfl | hb
    · exact .inr H.ext.size
    · exact H.own b hb
  low := H.low
  fact := H.stab.ext _ _ _ (Ext.new w o).any (H.stab.fresh _ _ _ (Nat.le_refl _) H.fact)
  stab := H.stab

/-- The resource at place k gives way to another, whose blocks are its own or new ones. -/
theorem St.swap (H : St M X w0 w L F) {k : Nat} {r r' : Res} (hk : L[k]? = some r) (e : Ext r.ids w w') (hr : r'.holds w') (hn : r'.ids.Nodup)
    (hi : ∀ b ∈ r'.ids, b ∈ r.ids ∨ w.heap.size ≤ b) : St M X w0 w' (L.set k r') F := by
  obtain ⟨hkl, hkr⟩ := List.getElem?_eq_some_iff.1 hk
  have hL : L = L.take k ++ r :: L.drop (k + 1) := by rw [← hkr]; simp
  have hL' : L.set k r' = L.take k ++ r' :: L.drop (k + 1) := by rw [List.set_eq_take_append_cons_drop]; simp [hkl]
  generalize L.take k = A at hL hL'
  generalize L.drop (k + 1) = B at hL hL'
  rw [hL']
  subst hL
  have hlt := H.lt
  have hnd := H.nodup
  have hown := H.own
  have hh := H.holds
  have hf := H.fact
  simp only [idsOf, List.flatMap_append, List.flatMap_cons] at hlt hnd hown hf
  have far : ∀ q, (q ∈ A ∨ q ∈ B) → ∀ b ∈ q.ids, b < w.heap.size ∧ b ∉ r.ids := by
    intro q hq b hb
    rw [List.nodup_append] at hnd
    obtain ⟨h1, h2, h3⟩ := hnd
    rw [List.nodup_append] at h2
    obtain ⟨h4, h5, h6⟩ := h2
    refine ⟨Res.lt (hh q (by rcases hq with hq | hq <;> simp [hq])) b hb, fun hr => ?_⟩
    rcases hq with hq | hq
    · exact h3 b (List.mem_flatMap.2 ⟨q, hq, hb⟩) b (by simp [hr]) rfl
    · exact h6 b hr b (List.mem_flatMap.2 ⟨q, hq, hb⟩) rfl
  refine ⟨?_, ?_, ?_, ?_, H.low, ?_, H.stab⟩
  · refine ⟨e.os.trans H.ext.os, e.tape.trans H.ext.tape, e.output.trans H.ext.output, Nat.le_trans H.ext.size e.size, fun i hi hx => ?_⟩
    refine (e.block i (Nat.lt_of_lt_of_le hi H.ext.size) fun hm => ?_).trans (H.ext.block i hi hx)
    rcases hown i (by simp [hm]) with h | h
    · exact hx h
    · omega
  · intro q hq
    simp only [List.mem_append, List.mem_cons] at hq
    rcases hq with hq | rfl | hq
    · exact Res.keep (hh q (by simp [hq])) fun b hb => e.block b (far q (.inl hq) b hb).1 (far q (.inl hq) b hb).2
    · exact hr
    · exact Res.keep (hh q (by simp [hq])) fun b hb => e.block b (far q (.inr hq) b hb).1 (far q (.inr hq) b hb).2
  · simp only [idsOf, List.flatMap_append, List.flatMap_cons]
    rw [List.nodup_append] at hnd ⊢
    obtain ⟨h1, h2, h3⟩ := hnd
    rw [List.nodup_append] at h2 ⊢
    obtain ⟨h4, h5, h6⟩ := h2
    refine ⟨h1, ⟨hn, h5, ?_⟩, ?_⟩
    · rintro b hb c hc rfl
      rcases hi b hb with h | h
      · exact h6 b h b hc rfl
      · have := hlt b (by simp only [List.mem_append]; exact .inr (.inr hc)); omega
    · rintro b hb c hc rfl
      simp only [List.mem_append] at hc
      rcases hc with hc | hc
      · rcases hi b hc with h | h
        · exact h3 b hb b (by simp [h]) rfl
        · have := hlt b (by simp only [List.mem_append]; exact .inl hb); omega
      · exact h3 b hb b (by simp only [List.mem_append]; exact .inr hc) rfl
  · intro b hb
    simp only [idsOf, List.flatMap_append, List.flatMap_cons, List.mem_append] at hb
    rcases hb with hb | hb | hb
    · exact hown b (by simp only [List.mem_append]; exact .inl hb)
    · rcases hi b hb with h | h
      · exact hown b (by simp only [List.mem_append]; exact .inr (.inl h))
      · exact .inr (Nat.le_trans H.ext.size h)
    · exact hown b (by simp only [List.mem_append]; exact .inr (.inr hb))
  · have step1 : F ((A.flatMap Res.ids ++ (r.ids ++ B.flatMap Res.ids)) ++ M) w' := H.stab.ext _ _ _ (e.mono fun b _ hb => by simp [hb]) hf
    have news : ∀ (N : List Nat), (∀ b ∈ N, b ∈ r.ids ∨ w.heap.size ≤ b) → F (N ++ ((A.flatMap Res.ids ++ (r.ids ++ B.flatMap Res.ids)) ++ M)) w := by
      intro N
      induction N with
      | nil => intro _; exact hf
      | cons b N ih =>
        intro hN
        have h0 := ih fun c hc => hN c (by simp [hc])
        rcases hN b (by simp) with h | h
        · exact H.stab.sub _ _ _ (fun c hc => by
            rcases List.mem_cons.1 hc with rfl | hc
            · simp [h]
            · exact hc) h0
        · exact H.stab.fresh _ _ _ h h0
    have h2 := H.stab.ext _ _ _ (e.mono (Y := r'.ids ++ ((A.flatMap Res.ids ++ (r.ids ++ B.flatMap Res.ids)) ++ M)) fun b _ hb => by simp [hb]) (news _ hi)
    refine H.stab.sub _ _ _ (fun b hb => ?_) h2
    simp only [idsOf, List.flatMap_append, List.flatMap_cons, List.mem_append] at hb ⊢
    rcases hb with (hb | hb | hb) | hb <;> simp [hb]

/-- The resource at place k is let go: nobody turns it any more; what is known of it becomes a fact. -/
theorem St.seal0 (H : St M X w0 w L F) (k : Nat) {r : Res} (hk : L[k]? = some r) {G : List Nat → World → Prop} (hG : Stab G)
    (h : r.holds w → F (idsOf L ++ M) w → (∀ b ∈ r.ids, b ∉ idsOf (L.eraseIdx k) ++ M) → G (idsOf (L.eraseIdx k) ++ M) w) (hX : ∀ b ∈ r.ids, b ∉ M) : St M X w0 w (L.eraseIdx k) fun M w => F M w ∧ G M w := by
  obtain ⟨hkl, hkr⟩ := List.getElem?_eq_some_iff.1 hk
  have hL : L = L.take k ++ r :: L.drop (k + 1) := by rw [← hkr]; simp
  have hL' : L.eraseIdx k = L.take k ++ L.drop (k + 1) := List.eraseIdx_eq_take_drop_succ _ _
  rw [hL'] at h ⊢
  generalize L.take k = A at hL h
  generalize L.drop (k + 1) = B at hL h
  subst hL
  have hnd := H.nodup
  simp only [idsOf, List.flatMap_append, List.flatMap_cons] at hnd
  have hsub : ∀ b, b ∈ idsOf (A ++ B) ++ M → b ∈ idsOf (A ++ r :: B) ++ M := by
    intro b hb
    simp only [idsOf, List.flatMap_append, List.flatMap_cons, List.mem_append] at hb ⊢
    rcases hb with (hb | hb) | hb <;> simp [hb]
  refine ⟨H.ext, fun q hq => H.holds q (by simp only [List.mem_append, List.mem_cons] at hq ⊢; rcases hq with hq | hq <;> simp [hq]), ?_, fun b hb => H.own b ?_, H.low, ⟨H.stab.sub _ _ _ hsub H.fact, ?_⟩, H.stab.and hG⟩
  · simp only [idsOf, List.flatMap_append]
    exact List.Nodup.sublist (by simp) hnd
  · simp only [idsOf, List.flatMap_append, List.flatMap_cons, List.mem_append] at hb ⊢
    rcases hb with hb | hb <;> simp [hb]
  · refine h (H.holds r (by simp)) H.fact fun b hb hm => ?_
    simp only [idsOf, List.flatMap_append, List.mem_append] at hm
    rw [List.nodup_append] at hnd
    obtain ⟨_, h2, h3⟩ := hnd
    rw [List.nodup_append] at h2
    rcases hm with (hm | hm) | hm
    · exact h3 b hm b (by simp [hb]) rfl
    · exact h2.2.2 b hb b hm rfl
    · exact hX b hb hm

theorem St.notM (H : St M [] w0 w L F) {k : Nat} {r : Res} (hk : L[k]? = some r) : ∀ b ∈ r.ids, b ∉ M := by
  intro b hb hm
  have h1 := H.low b hm
  have h2 := H.own b (by simp only [idsOf, List.mem_flatMap]; exact ⟨r, List.mem_of_getElem? hk, hb⟩)
  simp at h2
  omega

theorem St.get (H : St M X w0 w L F) {k : Nat} {b : Nat} {o : Obj} (hk : L[k]? = some (.obj b o)) : w.heap[b]? = some o := H.holds _ (List.mem_of_getElem? hk)
theorem St.getRow (H : St M X w0 w L F) {k : Nat} {v : Value} {n : Nat} {xs : List Value} {ty sz : Nat} (hk : L[k]? = some (.row v n xs ty sz)) : w.ownsRow 0 ty sz v n xs := H.holds _ (List.mem_of_getElem? hk)

/-- An owned row that is empty. -/
theorem St.nilRow (H : St M X w0 w L F) (ty sz : Nat) : St M X w0 w (.row (.slice none 0 0) 0 [] ty sz :: L) F where
  ext := H.ext
  holds r hr := by
    rcases List.mem_cons.1 hr with rfl | hr
    · exact World.ownsRow_nil w 0 ty sz
    · exact H.holds r hr
  nodup := by simpa [idsOf, Res.ids, Value.ownBlock] using H.nodup
  own b hb := H.own b (by simpa [idsOf, Res.ids, Value.ownBlock] using hb)
  low := H.low
  fact := by simpa [idsOf, Res.ids, Value.ownBlock] using H.fact
  stab := H.stab
end

end Go.Proofs.Ythapmdlminnihaa
