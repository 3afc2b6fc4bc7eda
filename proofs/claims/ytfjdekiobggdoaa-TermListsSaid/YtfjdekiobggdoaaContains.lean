/- Walks: IndexFunc, ContainsFunc over terms, with a function that keeps a state. -/
import Derived.Test.YtfjdekiobggdoaaTm
import Derived.Test.YtfjdekiobggdoaaMore
import Derived.Test.YtfjdekiobggdoaaSame
namespace Go.Proofs.Ytfjdekiobggdoaa
open Go.RowKit
set_option linter.unusedVariables false
set_option linter.unusedSimpArgs false
set_option maxRecDepth 20000
set_option maxHeartbeats 2000000

/-- The first element that the function takes; its state behind it. -/
def anyF {σ : Type} (f : σ → Tm → Bool × σ) : List Tm → σ → Bool × σ
  | [], x => (false, x)
  | t :: ts, x => if (f x t).1 = true then (true, (f x t).2) else anyF f ts (f x t).2

/-- A function value of a term that answers a bool and keeps a state, for the terms of a list. -/
def FnB {σ : Type} (G : List Nat → World → Prop) (g : FuncId) (caps : Array Value) (f : σ → Tm → Bool × σ) (R : σ → Res → Prop) (I : σ → Prop) (l : List Tm) : Prop :=
  (∀ args w, Sem.run Try.prog (callFunc g args) w = .ok (.enter g args) w) ∧ Stab G ∧ (∀ x t, I x → t ∈ l → (f x t).1 = false → I (f x t).2) ∧
  ∀ (x : σ) (r : Res) (t : Tm) (A : Option Addr) (c : Nat) (M : List Nat) (w : World), t ∈ l → I x → R x r → (∀ b ∈ M, b < w.heap.size) → r.holds w → r.ids.Nodup → AR A c t.args (r.ids ++ M) w → G (r.ids ++ M) w →
    Calls Try.prog g (#[.agg #[.int .i64 t.kind, .string t.name, .int .i64 t.int, .int .u64 t.re, .int .u64 t.im, .slice A t.args.length c]] ++ caps) w fun e w' => e = .returned (.bool (f x t).1) ∧ ∃ r', R (f x t).2 r' ∧ St M r.ids w w' [r'] fun _ _ => True

/-- What a search leaves: the answer, the state. -/
inductive RAny {σ : Type} (R : σ → Res → Prop) (M : List Nat) (r0 : Res) (w0 : World) (q : Value) (y : σ) : Ending → World → Prop
  | mk {w' : World} (r' : Res) (h : R y r') (H : St M r0.ids w0 w' [r'] fun _ _ => True) : RAny R M r0 w0 q y (.returned q) w'

theorem index_spec {σ : Type} (G : List Nat → World → Prop) (g : FuncId) (caps : Array Value) (f : σ → Tm → Bool × σ) (R : σ → Res → Prop) (I : σ → Prop) (l : List Tm) (hf : FnB G g caps f R I l) (hl : l.length ≤ 1000000)
    (A : Option Addr) (c : Nat) (x0 : σ) (r0 : Res) (hI : I x0) (hR0 : R x0 r0) (hn : r0.ids.Nodup) (M : List Nat) (w0 : World) (hM : ∀ b ∈ M, b < w0.heap.size) (hr : r0.holds w0) (hA : AR A c l (r0.ids ++ M) w0) (hG : G (r0.ids ++ M) w0) :
    Calls Try.prog 56 #[.slice A l.length c, .func (.func g) #[] caps] w0 fun e w' => ∃ q : Int, (decide (0 ≤ q) = (anyF f l x0).1) ∧ RAny R M r0 w0 (.int .i64 q) (anyF f l x0).2 e w' := by
  have H := St.startR hM ((AR.stab A c l).and hf.2.1) hr hn ⟨hA, hG⟩
  clear hA hG
  have hcf := hf.1
  have hF := Lib.hid hf; clear hf
  obtain ⟨q0, hq0⟩ : ∃ q, anyF f l x0 = q := ⟨_, rfl⟩
  rw [hq0]
  go_enter Try.func56, Try.ntmps56
  go_wp2_with (first | ((with_reducible refine wpl_runx ?_ ?_); (focus exact rfl); refine ⟨_, runs_load H 0 rfl rfl rfl rfl rfl, ?_⟩; rintro _ _ ⟨rfl, rfl⟩) | ((with_reducible refine wpl_runx ?_ ?_); (focus exact rfl); refine ⟨_, runs_load H 1 rfl rfl rfl rfl rfl, ?_⟩; rintro _ _ ⟨rfl, rfl⟩) | ((with_reducible refine wpl_runx ?_ ?_); (focus exact rfl); refine ⟨_, runs_store H 0 rfl rfl rfl rfl rfl rfl rfl rfl rfl, ?_⟩; clear H; rintro _ w ⟨rfl, hE, H⟩; clear hE) | ((with_reducible refine wpl_runx ?_ ?_); (focus exact rfl); refine ⟨_, runs_store H 1 rfl rfl rfl rfl rfl rfl rfl rfl rfl, ?_⟩; clear H; rintro _ w ⟨rfl, hE, H⟩; clear hE))
  go_loopw [8] (fun iv wr => ∃ (j : Nat) (x : σ) (r : Res), j ≤ l.length ∧ iv = .int .i64 j ∧ anyF f (l.drop j) x = q0 ∧ I x ∧ R x r ∧ St M r0.ids w0 wr [r] (fun M w => AR A c l M w ∧ G M w)) (fun iv _ => l.length - (intOf iv).toNat)
  case atStart => exact ⟨0, x0, r0, Nat.zero_le _, rfl, by simpa using hq0, hI, hR0, H⟩
  case round =>
    clear H
    obtain ⟨j, x, r, hj, rfl, hq, hIx, hR, H⟩ := hrel
    by_cases hlt : j < l.length
    · obtain ⟨b, o, A1, c1, rfl, hbm, hbl, hcs, hA1⟩ := H.fact.1.at j hlt
      replace H := H.add hA1 (AR.stab _ _ _)
      clear hA1 hbm hbl
      have HC := Lib.hid hcs; clear hcs
      rw [List.drop_eq_getElem_cons hlt, anyF] at hq
      obtain ⟨D, hD⟩ : ∃ D, (f x l[j]).1 = D := ⟨_, rfl⟩
      have hC := fun (A : Option Addr) (c : Nat) (M : List Nat) (w : World) => hF.out.2.2.2 x r l[j] A c M w (List.getElem_mem hlt) hIx hR
      have hI' := hF.out.2.2.1 x l[j] hIx (List.getElem_mem hlt)
      rw [hD] at hq hC hI'
      replace hq := Lib.hid hq
      replace hI' := Lib.hid hI'
      cases D
      · go_wp2_with (first | ((with_reducible refine wpl_runx ?_ ?_); (focus exact rfl); refine ⟨_, runs_load H 0 rfl rfl rfl rfl rfl, ?_⟩; rintro _ _ ⟨rfl, rfl⟩) | ((with_reducible refine wpl_runx ?_ ?_); (focus exact rfl); refine ⟨_, runs_load H 1 rfl rfl rfl rfl rfl, ?_⟩; rintro _ _ ⟨rfl, rfl⟩) | ((with_reducible refine wpl_runx ?_ ?_); (focus exact rfl); refine ⟨_, runs_store H 0 rfl rfl rfl rfl rfl rfl rfl rfl rfl, ?_⟩; clear H; rintro _ w ⟨rfl, hE, H⟩; clear hE) | ((with_reducible refine wpl_runx ?_ ?_); (focus exact rfl); refine ⟨_, runs_store H 1 rfl rfl rfl rfl rfl rfl rfl rfl rfl, ?_⟩; clear H; rintro _ w ⟨rfl, hE, H⟩; clear hE) | ((with_reducible refine wpl_runx ?_ ?_); (focus exact rfl); refine ⟨_, runs_load_at rfl rfl rfl HC.out rfl, ?_⟩; rintro _ _ ⟨rfl, rfl⟩) | (refine (hC _ _ _ _ (H.restLt 0 rfl) (H.holds _ (by simp)) (H.nodupAt (k := 0) rfl) (H.rest (k := 0) rfl).2 (H.rest (k := 0) rfl).1.2).mono ?_; rintro _ w ⟨rfl, r', hR', h⟩; replace H := H.call 0 rfl h (fun r => rfl); clear h))
        clear HC
        go_roundw
        case rel =>
          have hq := hq.out
          rw [if_neg (by simp)] at hq
          exact ⟨j + 1, _, r', by omega, by go_num, hq, hI'.out (by trivial), hR', H.weaken (fun h => h.1) ((AR.stab _ _ _).and hF.out.2.1)⟩
        case measure => simp [intOf]; omega
      · go_wp2_with (first | ((with_reducible refine wpl_runx ?_ ?_); (focus exact rfl); refine ⟨_, runs_load H 0 rfl rfl rfl rfl rfl, ?_⟩; rintro _ _ ⟨rfl, rfl⟩) | ((with_reducible refine wpl_runx ?_ ?_); (focus exact rfl); refine ⟨_, runs_load H 1 rfl rfl rfl rfl rfl, ?_⟩; rintro _ _ ⟨rfl, rfl⟩) | ((with_reducible refine wpl_runx ?_ ?_); (focus exact rfl); refine ⟨_, runs_store H 0 rfl rfl rfl rfl rfl rfl rfl rfl rfl, ?_⟩; clear H; rintro _ w ⟨rfl, hE, H⟩; clear hE) | ((with_reducible refine wpl_runx ?_ ?_); (focus exact rfl); refine ⟨_, runs_store H 1 rfl rfl rfl rfl rfl rfl rfl rfl rfl, ?_⟩; clear H; rintro _ w ⟨rfl, hE, H⟩; clear hE) | ((with_reducible refine wpl_runx ?_ ?_); (focus exact rfl); refine ⟨_, runs_load_at rfl rfl rfl HC.out rfl, ?_⟩; rintro _ _ ⟨rfl, rfl⟩) | (refine (hC _ _ _ _ (H.restLt 0 rfl) (H.holds _ (by simp)) (H.nodupAt (k := 0) rfl) (H.rest (k := 0) rfl).2 (H.rest (k := 0) rfl).1.2).mono ?_; rintro _ w ⟨rfl, r', hR', h⟩; replace H := H.call 0 rfl h (fun r => rfl); clear h))
        go_ret
        have hq := hq.out
        rw [if_pos (by trivial)] at hq
        subst hq
        exact ⟨j, by simp, .mk r' hR' (H.weaken (fun _ => trivial) (Stab.const _))⟩
    · obtain rfl : j = l.length := by omega
      rw [List.drop_length, anyF] at hq
      go_wp2_with (first | ((with_reducible refine wpl_runx ?_ ?_); (focus exact rfl); refine ⟨_, runs_load H 0 rfl rfl rfl rfl rfl, ?_⟩; rintro _ _ ⟨rfl, rfl⟩) | ((with_reducible refine wpl_runx ?_ ?_); (focus exact rfl); refine ⟨_, runs_load H 1 rfl rfl rfl rfl rfl, ?_⟩; rintro _ _ ⟨rfl, rfl⟩) | ((with_reducible refine wpl_runx ?_ ?_); (focus exact rfl); refine ⟨_, runs_store H 0 rfl rfl rfl rfl rfl rfl rfl rfl rfl, ?_⟩; clear H; rintro _ w ⟨rfl, hE, H⟩; clear hE) | ((with_reducible refine wpl_runx ?_ ?_); (focus exact rfl); refine ⟨_, runs_store H 1 rfl rfl rfl rfl rfl rfl rfl rfl rfl, ?_⟩; clear H; rintro _ w ⟨rfl, hE, H⟩; clear hE))
      go_ret
      subst hq
      exact ⟨-1, by simp, .mk r hR (H.weaken (fun _ => trivial) (Stab.const _))⟩

theorem contains_spec {σ : Type} (G : List Nat → World → Prop) (g : FuncId) (caps : Array Value) (f : σ → Tm → Bool × σ) (R : σ → Res → Prop) (I : σ → Prop) (l : List Tm) (hf : FnB G g caps f R I l) (hl : l.length ≤ 1000000)
    (A : Option Addr) (c : Nat) (x0 : σ) (r0 : Res) (hI : I x0) (hR0 : R x0 r0) (hn : r0.ids.Nodup) (M : List Nat) (w0 : World) (hM : ∀ b ∈ M, b < w0.heap.size) (hr : r0.holds w0) (hA : AR A c l (r0.ids ++ M) w0) (hG : G (r0.ids ++ M) w0) :
    Calls Try.prog 50 #[.slice A l.length c, .func (.func g) #[] caps] w0 (RAny R M r0 w0 (.bool (anyF f l x0).1) (anyF f l x0).2) := by
  have H := St.startR hM ((AR.stab A c l).and hf.2.1) hr hn ⟨hA, hG⟩
  clear hA hG
  have hX := fun (M : List Nat) (w : World) => index_spec G g caps f R I l hf hl A c x0 r0 hI hR0 hn M w
  obtain ⟨q0, hq0⟩ : ∃ q, anyF f l x0 = q := ⟨_, rfl⟩
  rw [hq0] at hX ⊢
  go_enter Try.func50, Try.ntmps50
  go_wp2_with (first | ((with_reducible refine wpl_runx ?_ ?_); (focus exact rfl); refine ⟨_, runs_load H 0 rfl rfl rfl rfl rfl, ?_⟩; rintro _ _ ⟨rfl, rfl⟩) | ((with_reducible refine wpl_runx ?_ ?_); (focus exact rfl); refine ⟨_, runs_load H 1 rfl rfl rfl rfl rfl, ?_⟩; rintro _ _ ⟨rfl, rfl⟩) | ((with_reducible refine wpl_runx ?_ ?_); (focus exact rfl); refine ⟨_, runs_store H 0 rfl rfl rfl rfl rfl rfl rfl rfl rfl, ?_⟩; clear H; rintro _ w ⟨rfl, hE, H⟩; clear hE) | ((with_reducible refine wpl_runx ?_ ?_); (focus exact rfl); refine ⟨_, runs_store H 1 rfl rfl rfl rfl rfl rfl rfl rfl rfl, ?_⟩; clear H; rintro _ w ⟨rfl, hE, H⟩; clear hE) | (refine (hX _ _ (H.restLt 0 rfl) (H.holds _ (by simp)) (H.rest (k := 0) rfl).1 (H.rest (k := 0) rfl).2).mono ?_; rintro _ w ⟨q, hq, r', hR', h⟩; replace H := H.call 0 rfl h (fun r => rfl); clear h))
  go_ret
  rw [← hq]
  exact .mk r' hR' (H.weaken (fun _ => trivial) (Stab.const _))
end Go.Proofs.Ytfjdekiobggdoaa
