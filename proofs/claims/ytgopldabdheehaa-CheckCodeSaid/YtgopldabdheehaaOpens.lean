/- Rows of one, two, three terms: what lies in their cells. -/
import Derived.Test.YtgopldabdheehaaStd
import Derived.Test.YtgopldabdheehaaPlan3
namespace Go.Proofs.Ytgopldabdheehaa
open Go.RowKit
set_option linter.unusedVariables false
set_option linter.unusedSimpArgs false
set_option maxRecDepth 20000
set_option maxHeartbeats 4000000

theorem AR.open2 {A : Option Addr} {c : Nat} {p q : Tm} {M : List Nat} {w : World} (h : AR A c [p, q] M w) : ∃ b o A1 c1 A2 c2, A = some ⟨b, o, none⟩ ∧
    CellF b o [.int .i64 p.kind, .string p.name, .int .i64 p.int, .int .u64 p.re, .int .u64 p.im, .slice A1 p.args.length c1, .int .i64 q.kind, .string q.name, .int .i64 q.int, .int .u64 q.re, .int .u64 q.im, .slice A2 q.args.length c2] M w ∧ AR A1 c1 p.args M w ∧ AR A2 c2 q.args M w := by
  obtain ⟨b, o, A1, c1, rfl, hm, hb, hc1, h1⟩ := h.at 0 (by simp)
  obtain ⟨b', o', A2, c2, e, _, _, hc2, h2⟩ := h.at 1 (by simp)
  cases e
  refine ⟨b, o, A1, c1, A2, c2, rfl, ⟨hm, hb, fun j v hj => ?_⟩, h1, h2⟩
  by_cases hj6 : j < 6
  · have := hc1 j v (by
      have : ∀ (l m : List Value), l.length = 6 → (l ++ m)[j]? = some v → l[j]? = some v := fun l m hl h => by rw [List.getElem?_append_left (by omega)] at h; exact h
      exact this _ _ rfl hj)
    simpa using this
  · have := hc2 (j - 6) v (by
      have : ∀ (l m : List Value), l.length = 6 → (l ++ m)[j]? = some v → m[j - 6]? = some v := fun l m hl h => by rw [List.getElem?_append_right (by omega), hl] at h; exact h
      exact this (cellsT _ _ _ _ _ _ _ _) _ rfl hj)
    rw [← this]
    congr 2
    omega
theorem St.open2 {M X : List Nat} {w0 w : World} {L : List Res} {F : List Nat → World → Prop} (H : St M X w0 w L F) {A : Option Addr} {c : Nat} {p q : Tm} [h : HasAR F A c [p, q]] : ∃ b o A1 c1 A2 c2, A = some ⟨b, o, none⟩ ∧
    St M X w0 w L (fun M w => ((F M w ∧ CellF b o [.int .i64 p.kind, .string p.name, .int .i64 p.int, .int .u64 p.re, .int .u64 p.im, .slice A1 p.args.length c1, .int .i64 q.kind, .string q.name, .int .i64 q.int, .int .u64 q.re, .int .u64 q.im, .slice A2 q.args.length c2] M w) ∧ AR A1 c1 p.args M w) ∧ AR A2 c2 q.args M w) := by
  obtain ⟨b, o, A1, c1, A2, c2, e, hc, h1, h2⟩ := AR.open2 (H.ar (A := A) (c := c) (l := [p, q]))
  exact ⟨b, o, A1, c1, A2, c2, e, ((H.add hc (CellF.stab _ _ _)).add h1 (AR.stab _ _ _)).add h2 (AR.stab _ _ _)⟩

theorem AR.openL {A : Option Addr} {c : Nat} {l : List Tm} {M : List Nat} {w : World} (h : AR A c l M w) (h0 : l ≠ []) : ∃ b o xs, A = some ⟨b, o, none⟩ ∧ TsR xs l M w ∧ CellF b o xs M w := by
  obtain ⟨b, o, A', c', rfl, hm, hb, _, _⟩ := h.at 0 (by cases l; exact absurd rfl h0; simp)
  have key : ∀ (m : List Tm) (i : Nat), RowR M w (some ⟨b, o, none⟩) i m → ∃ xs, TsR xs m M w ∧ ∀ j v, xs[j]? = some v → w.cell? ⟨b, o + (i * 6 + j), none⟩ = some v := by
    intro m
    induction m with
    | nil => intro i _; exact ⟨[], rfl, fun j v h => by simp at h⟩
    | cons t m ih =>
      intro i hr
      unfold RowR at hr
      obtain ⟨⟨b', o', cs, e, _, _, hl, hc, ht⟩, hr⟩ := hr
      cases e
      obtain ⟨xs, hx, hcx⟩ := ih (i + 1) hr
      refine ⟨cs ++ xs, ⟨cs, xs, rfl, hl, ht, hx⟩, fun j v hj => ?_⟩
      by_cases hj6 : j < 6
      · rw [List.getElem?_append_left (by omega)] at hj
        exact hc j v hj
      · rw [List.getElem?_append_right (by omega), hl] at hj
        have := hcx (j - 6) v hj
        rw [← this]
        congr 2
        omega
  obtain ⟨xs, hx, hc⟩ := key l 0 h.2
  exact ⟨b, o, xs, rfl, hx, hm, hb, fun j v hj => by have := hc j v hj; rw [Nat.zero_mul, Nat.zero_add] at this; exact this⟩
theorem TsR.uncons {M : List Nat} {w : World} {xs : List Value} {t : Tm} {l : List Tm} (h : TsR xs (t :: l) M w) : ∃ A c rest, xs = [.int .i64 (t).kind, .string (t).name, .int .i64 (t).int, .int .u64 (t).re, .int .u64 (t).im, .slice A (t).args.length c] ++ rest ∧ AR A c t.args M w ∧ TsR rest l M w := by
  obtain ⟨cs, rest, rfl, hl, ht, hr⟩ := h
  cases t with
  | mk k s n r i a =>
    unfold TR at ht
    obtain ⟨A, c, rfl, h1, h2⟩ := ht
    exact ⟨A, c, rest, rfl, ⟨h1, h2⟩, hr⟩
theorem St.open1 {M X : List Nat} {w0 w : World} {L : List Res} {F : List Nat → World → Prop} (H : St M X w0 w L F) (A : Option Addr) (c : Nat) (p : Tm) [h : HasAR F A c [p]] : ∃ b o A1 c1, A = some ⟨b, o, none⟩ ∧
    St M X w0 w L (fun M w => (F M w ∧ CellF b o ([.int .i64 (p).kind, .string (p).name, .int .i64 (p).int, .int .u64 (p).re, .int .u64 (p).im, .slice A1 (p).args.length c1]) M w) ∧ AR A1 c1 p.args M w) := by
  obtain ⟨b, o, xs, e, hx, hc⟩ := AR.openL (H.ar (A := A) (c := c) (l := [p])) (by simp)
  obtain ⟨A1, c1, r1, rfl, h1, hx⟩ := hx.uncons
  obtain rfl : r1 = [] := hx
  exact ⟨b, o, A1, c1, e, (H.add hc (CellF.stab _ _ _)).add h1 (AR.stab _ _ _)⟩
theorem St.open3 {M X : List Nat} {w0 w : World} {L : List Res} {F : List Nat → World → Prop} (H : St M X w0 w L F) (A : Option Addr) (c : Nat) (p q r : Tm) [h : HasAR F A c [p, q, r]] : ∃ b o A1 c1 A2 c2 A3 c3, A = some ⟨b, o, none⟩ ∧
    St M X w0 w L (fun M w => (((F M w ∧ CellF b o ([.int .i64 (p).kind, .string (p).name, .int .i64 (p).int, .int .u64 (p).re, .int .u64 (p).im, .slice A1 (p).args.length c1] ++ ([.int .i64 (q).kind, .string (q).name, .int .i64 (q).int, .int .u64 (q).re, .int .u64 (q).im, .slice A2 (q).args.length c2] ++ [.int .i64 (r).kind, .string (r).name, .int .i64 (r).int, .int .u64 (r).re, .int .u64 (r).im, .slice A3 (r).args.length c3])) M w) ∧ AR A1 c1 p.args M w) ∧ AR A2 c2 q.args M w) ∧ AR A3 c3 r.args M w) := by
  obtain ⟨b, o, xs, e, hx, hc⟩ := AR.openL (H.ar (A := A) (c := c) (l := [p, q, r])) (by simp)
  obtain ⟨A1, c1, r1, rfl, h1, hx⟩ := hx.uncons
  obtain ⟨A2, c2, r2, rfl, h2, hx⟩ := hx.uncons
  obtain ⟨A3, c3, r3, rfl, h3, hx⟩ := hx.uncons
  obtain rfl : r3 = [] := hx
  exact ⟨b, o, A1, c1, A2, c2, A3, c3, e, (((H.add hc (CellF.stab _ _ _)).add h1 (AR.stab _ _ _)).add h2 (AR.stab _ _ _)).add h3 (AR.stab _ _ _)⟩

theorem two_of' : ∀ (l : List Tm), (l.length : Int) = 2 → ∃ p q, l = [p, q]
  | [p, q], _ => ⟨p, q, rfl⟩
  | [], h => by simp at h
  | [a], h => by simp at h
  | a :: b :: d :: l, h => by simp at h; omega

end Go.Proofs.Ytgopldabdheehaa
