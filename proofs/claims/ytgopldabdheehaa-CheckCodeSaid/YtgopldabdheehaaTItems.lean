/- Walks: Items. -/
import Derived.Test.YtgopldabdheehaaTList
import Derived.Test.YtgopldabdheehaaMore
import Derived.Test.YtgopldabdheehaaSame
namespace Go.Proofs.Ytgopldabdheehaa
open Go.RowKit
set_option linter.unusedVariables false
set_option linter.unusedSimpArgs false
set_option maxRecDepth 20000
set_option maxHeartbeats 2000000

mutual
theorem szT_turn : ∀ t : Tm, okT t → szT (turnT varT t) = nT t
  | .mk k s n r i l, h => by
    unfold okT at h
    by_cases h5 : k = 5
    · subst h5
      have e : turnT varT (.mk 5 s n r i l) = .mk 5 s 0 0 0 (turnL varT l) := by simp [turnT]
      rw [e, szT, nT, if_pos rfl, szL_turn l (h.2 rfl)]
    · rw [nT, if_neg h5]
      unfold turnT varT
      split
      · simp [szT, szL]
      · split
        · simp [szT, szL]
        · split
          · simp [szT, szL]
          · split
            · simp [szT, szL]
            · simp [szT, szL]
theorem szL_turn : ∀ l : List Tm, okL l → szL (turnL varT l) = nL l
  | [], _ => by simp [turnL, szL, nL]
  | t :: ts, h => by
    unfold okL at h
    rw [turnL, szL, nL, szT_turn t h.1, szL_turn ts h.2]
end
theorem szT_plain (t : Tm) : szT (plainE t) ≤ 2000 := by
  unfold plainE
  split
  · rename_i h
    obtain ⟨a, b, _⟩ := mayE_ok.1 h
    rw [szT_turn t a]; exact b
  · simp [Tm.zero, szT, szL]

/-- A list's items, if it is one. -/
def itemsL : Tm → Option (List Tm)
  | .mk k s n r i l => if k = 2 ∧ s.toList = [91, 93] then some [] else match l with
    | [a, b] => if k = 5 ∧ s.toList = [46] then (itemsL b).map (a :: ·) else none
    | _ => none
def itemsE (t : Tm) : Option (List Tm) := itemsL (plainE t)
/-- A call answers terms, and whether. -/
def RetO (M : List Nat) (w : World) (o : Option (List Tm)) (e : Ending) (w' : World) : Prop :=
  ∃ A c, e = .returned (.tuple #[.slice A (o.getD []).length c, .bool o.isSome]) ∧ AR A c (o.getD []) M w' ∧ Ext [] w w'

/-- An own row's value: a slice of that length. -/
theorem St.rowVal0 {M X : List Nat} {w0 w : World} {L : List Res} {F : List Nat → World → Prop} (H : St M X w0 w L F) {k : Nat} {v : Value} {n : Nat} {xs : List Value} {ty sz : Nat} (hk : L[k]? = some (.row v n xs ty sz)) : ∃ a c, v = .slice a n c := by
  rcases (H.getRow hk).2 with ⟨rfl, h0⟩ | ⟨g, cap, cur, rfl, _⟩
  · subst h0; exact ⟨_, _, rfl⟩
  · exact ⟨_, _, rfl⟩

theorem TsR.snocT {xs : List Value} {l : List Tm} {M : List Nat} {w : World} (h : TsR xs l M w) {t : Tm} {A : Option Addr} {c : Nat} (ha : AR A c t.args M w) :
    TsR (xs ++ [.int .i64 t.kind, .string t.name, .int .i64 t.int, .int .u64 t.re, .int .u64 t.im, .slice A t.args.length c]) (l ++ [t]) M w := by
  cases t with | mk k s n r i a => exact h.snoc ha

structure IG where
  t : Tm
  acc : List Tm
def IJ (t : Tm) (A : Option Addr) (c : Nat) (M : List Nat) (w0 : World) (b1 : Nat) (y : IG) (a : Act) (w : World) : Prop :=
  ∃ v xs A1 c1 len, Frame 38 [.agg #[.int .i64 (t).kind, .string (t).name, .int .i64 (t).int, .int .u64 (t).re, .int .u64 (t).im, .slice A (t).args.length c], .pointer (some ⟨b1, 0, none⟩), .slice none 0 0, .bool false, v] a ∧
    St M [] w0 w [.row v len xs 25 6, .obj b1 (.cells #[.int .i64 (y.t).kind, .string (y.t).name, .int .i64 (y.t).int, .int .u64 (y.t).re, .int .u64 (y.t).im, .slice A1 (y.t).args.length c1] 25 (0, 0))] (fun M w => AR A1 c1 y.t.args M w ∧ TsR xs y.acc M w) ∧ (itemsL y.t).map (y.acc ++ ·) = itemsE t ∧ szT y.t + y.acc.length ≤ szT (plainE t) ∧ len = y.acc.length

end Go.Proofs.Ytgopldabdheehaa
