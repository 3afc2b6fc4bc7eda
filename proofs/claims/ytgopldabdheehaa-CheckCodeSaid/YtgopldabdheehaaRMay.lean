/- Walks of the document's own answers: may, May, Nodes. -/
import Derived.Test.YtgopldabdheehaaW1
import Derived.Test.YtgopldabdheehaaMore
namespace Go.Proofs.Ytgopldabdheehaa
open Go.RowKit
set_option linter.unusedVariables false
set_option linter.unusedSimpArgs false
set_option maxRecDepth 20000
set_option maxHeartbeats 2000000

mutual
/-- Is a term gone through without fault, from a depth and a count on? -/
def mayS : Tm → Int → Int → Except Int Int
  | .mk k s ni r i l, d, n => if n = 2000 ∨ 500 < d then .error 3 else if oneE (.mk k s ni r i l) ≠ 0 then .error (oneE (.mk k s ni r i l)) else if k = 5 then mayLS l (d + 1) (n + 1) else .ok (n + 1)
def mayLS : List Tm → Int → Int → Except Int Int
  | [], _, n => .ok n
  | t :: ts, d, n => match mayS t d n with
    | .error e => .error e
    | .ok n' => mayLS ts d n'
end
mutual
theorem mayS_chk {σ : Type} (f : σ → Tm → σ) : ∀ (t : Tm) (d n m : Int) (x : σ), mayS t d n = match chkG f t d n m x with | .error e => .error e | .ok (c, _, _) => .ok c
  | .mk k s ni r i l, d, n, m, x => by
    unfold mayS chkG
    split
    · rfl
    · split
      · rfl
      · split
        · exact mayLS_chk f l (d + 1) (n + 1) (max m d) _
        · rfl
theorem mayLS_chk {σ : Type} (f : σ → Tm → σ) : ∀ (l : List Tm) (d n m : Int) (x : σ), mayLS l d n = match chkGL f l d n m x with | .error e => .error e | .ok (c, _, _) => .ok c
  | [], d, n, m, x => rfl
  | t :: ts, d, n, m, x => by
    unfold mayLS chkGL
    rw [mayS_chk f t d n m x]
    cases hc : chkG f t d n m x with
    | error e => rfl
    | ok p => obtain ⟨c2, m2, x2⟩ := p; exact mayLS_chk f ts d c2 m2 x2
end
theorem mayE_S (t : Tm) : mayE t = match mayS t 1 0 with | .error e => e | .ok _ => 0 := by
  rw [mayS_chk (fun (x : Unit) _ => x) t 1 0 0 ()]
  unfold mayE chk0
  split <;> rename_i h <;> simp only [h]
theorem nodesE_S (t : Tm) : nodesE t = match mayS t 1 0 with | .error _ => 0 | .ok n => n := by
  rw [mayS_chk (fun (x : Unit) _ => x) t 1 0 0 ()]
  unfold nodesE chk0
  split <;> rename_i h <;> simp only [h]

theorem Try.tyW : tyShape Try.prog 93 = some (true, 2) := by kernel_rfl
theorem Try.tyE : tyShape Try.prog 35 = some (false, 1) := by kernel_rfl

/-- What may leaves behind: the count n', the fault e' in the record b. -/
inductive RMay (t : Tm) (d n e : Int) (b : Nat) (M : List Nat) (w0 : World) : Ending → World → Prop
  | mk {v : Value} {w' : World} (n' e' : Int) (h0 : 0 ≤ n') (h1 : n' ≤ 2001) (h2 : e' = 0 → n' ≤ 2000)
    (h3 : if e = 0 then (match mayS t d n with | .error x => e' = x ∧ x ≠ 0 | .ok k => e' = 0 ∧ n' = k) else e' = e ∧ n' = n)
    (h4 : St M [b] w0 w' [.obj b (.cells #[.int .i64 n', .int .i64 e'] 93 (0, 0))] fun _ _ => True) : RMay t d n e b M w0 (.returned v) w'

theorem rmay_spec : ∀ (t : Tm) (A : Option Addr) (c : Nat) (d n e : Int) (b : Nat) (M : List Nat) (w0 : World), slim t → 0 ≤ d → d ≤ 1000 → 0 ≤ n → n ≤ 2001 → (e = 0 → n ≤ 2000) → (∀ b ∈ M, b < w0.heap.size) → w0.heap[b]? = some (.cells #[.int .i64 n, .int .i64 e] 93 (0, 0)) → AR A c t.args (b :: M) w0 →
    Calls Try.prog 43 #[.pointer (some ⟨b, 0, none⟩), .agg #[.int .i64 t.kind, .string t.name, .int .i64 t.int, .int .u64 t.re, .int .u64 t.im, .slice A t.args.length c], .int .i64 d] w0 (RMay t d n e b M w0) := by
  intro t
  induction t using Tm.ind with | _ k s ni r i l IH
  intro A c d n e b M w0 hs hd0 hd1 hn0 hn1 hne hM hb hA
  simp only [Tm.kind, Tm.name, Tm.int, Tm.re, Tm.im, Tm.args] at hA ⊢
  have H := St.start1 hM (AR.stab A c l) hb hA
  clear hA hb
  have IH' := Lib.hid IH; clear IH
  by_cases he : e = 0
  · subst he
    replace hne := hne rfl
    by_cases h1 : n = 2000
    · subst h1
      go_enter Try.func43, Try.ntmps43
      go_wp2_with (first | ((with_reducible refine wpl_runx_d 4 rfl ?_ ?_); (focus exact rfl); refine ⟨_, runs_box H rfl rfl, ?_⟩; clear H; rintro _ w ⟨b4, rfl, hE, H⟩; clear hE) | ((with_reducible refine wpl_runx_d 7 rfl ?_ ?_); (focus exact rfl); refine ⟨_, runs_alloc H rfl rfl rfl, ?_⟩; clear H; rintro _ w ⟨b7, rfl, hE, H⟩; clear hE) | ((with_reducible refine wpl_runx ?_ ?_); (focus exact rfl); refine ⟨_, runs_load H 0 rfl rfl rfl rfl rfl, ?_⟩; rintro _ _ ⟨rfl, rfl⟩) | ((with_reducible refine wpl_runx ?_ ?_); (focus exact rfl); refine ⟨_, runs_load H 1 rfl rfl rfl rfl rfl, ?_⟩; rintro _ _ ⟨rfl, rfl⟩) | ((with_reducible refine wpl_runx ?_ ?_); (focus exact rfl); refine ⟨_, runs_load H 2 rfl rfl rfl rfl rfl, ?_⟩; rintro _ _ ⟨rfl, rfl⟩) | ((with_reducible refine wpl_runx ?_ ?_); (focus exact rfl); refine ⟨_, runs_store H 0 rfl rfl rfl rfl rfl rfl rfl rfl rfl, ?_⟩; clear H; rintro _ w ⟨rfl, hE, H⟩; clear hE) | ((with_reducible refine wpl_runx ?_ ?_); (focus exact rfl); refine ⟨_, runs_store H 1 rfl rfl rfl rfl rfl rfl rfl rfl rfl, ?_⟩; clear H; rintro _ w ⟨rfl, hE, H⟩; clear hE) | ((with_reducible refine wpl_runx ?_ ?_); (focus exact rfl); refine ⟨_, runs_store H 2 rfl rfl rfl rfl rfl rfl rfl rfl rfl, ?_⟩; clear H; rintro _ w ⟨rfl, hE, H⟩; clear hE))
      go_end0
      exact .mk (2001) (3) (by omega) (by omega) (by omega) (by rw [if_pos rfl]; simp [mayS, ]) ((H.drop 0 rfl).weaken (fun _ => trivial) (Stab.const _))
    have h1' : ¬ 2000 < n + 1 := by omega
    by_cases h2 : 500 < d
    · go_enter Try.func43, Try.ntmps43
      go_wp2_with (first | ((with_reducible refine wpl_runx_d 4 rfl ?_ ?_); (focus exact rfl); refine ⟨_, runs_box H rfl rfl, ?_⟩; clear H; rintro _ w ⟨b4, rfl, hE, H⟩; clear hE) | ((with_reducible refine wpl_runx_d 7 rfl ?_ ?_); (focus exact rfl); refine ⟨_, runs_alloc H rfl rfl rfl, ?_⟩; clear H; rintro _ w ⟨b7, rfl, hE, H⟩; clear hE) | ((with_reducible refine wpl_runx ?_ ?_); (focus exact rfl); refine ⟨_, runs_load H 0 rfl rfl rfl rfl rfl, ?_⟩; rintro _ _ ⟨rfl, rfl⟩) | ((with_reducible refine wpl_runx ?_ ?_); (focus exact rfl); refine ⟨_, runs_load H 1 rfl rfl rfl rfl rfl, ?_⟩; rintro _ _ ⟨rfl, rfl⟩) | ((with_reducible refine wpl_runx ?_ ?_); (focus exact rfl); refine ⟨_, runs_load H 2 rfl rfl rfl rfl rfl, ?_⟩; rintro _ _ ⟨rfl, rfl⟩) | ((with_reducible refine wpl_runx ?_ ?_); (focus exact rfl); refine ⟨_, runs_store H 0 rfl rfl rfl rfl rfl rfl rfl rfl rfl, ?_⟩; clear H; rintro _ w ⟨rfl, hE, H⟩; clear hE) | ((with_reducible refine wpl_runx ?_ ?_); (focus exact rfl); refine ⟨_, runs_store H 1 rfl rfl rfl rfl rfl rfl rfl rfl rfl, ?_⟩; clear H; rintro _ w ⟨rfl, hE, H⟩; clear hE) | ((with_reducible refine wpl_runx ?_ ?_); (focus exact rfl); refine ⟨_, runs_store H 2 rfl rfl rfl rfl rfl rfl rfl rfl rfl, ?_⟩; clear H; rintro _ w ⟨rfl, hE, H⟩; clear hE))
      go_end0
      exact .mk (n + 1) (3) (by omega) (by omega) (by omega) (by rw [if_pos rfl]; simp [mayS, h2]) ((H.drop 0 rfl).weaken (fun _ => trivial) (Stab.const _))
    by_cases k1 : k < 1
    · have q1 : k ≠ 1 := by omega
      have q2 : k ≠ 2 := by omega
      have q3 : k ≠ 3 := by omega
      have q4 : k ≠ 4 := by omega
      have q5 : k ≠ 5 := by omega
      have o1 : oneE (.mk k s ni r i l) = 1 := by simp [oneE, q1, q2, q3, q4, q5]
      have e5 : (k == 5) = false := by simpa using q5
      go_enter Try.func43, Try.ntmps43
      go_wp2_with (first | ((with_reducible refine wpl_runx_d 4 rfl ?_ ?_); (focus exact rfl); refine ⟨_, runs_box H rfl rfl, ?_⟩; clear H; rintro _ w ⟨b4, rfl, hE, H⟩; clear hE) | ((with_reducible refine wpl_runx_d 7 rfl ?_ ?_); (focus exact rfl); refine ⟨_, runs_alloc H rfl rfl rfl, ?_⟩; clear H; rintro _ w ⟨b7, rfl, hE, H⟩; clear hE) | ((with_reducible refine wpl_runx ?_ ?_); (focus exact rfl); refine ⟨_, runs_load H 0 rfl rfl rfl rfl rfl, ?_⟩; rintro _ _ ⟨rfl, rfl⟩) | ((with_reducible refine wpl_runx ?_ ?_); (focus exact rfl); refine ⟨_, runs_load H 1 rfl rfl rfl rfl rfl, ?_⟩; rintro _ _ ⟨rfl, rfl⟩) | ((with_reducible refine wpl_runx ?_ ?_); (focus exact rfl); refine ⟨_, runs_load H 2 rfl rfl rfl rfl rfl, ?_⟩; rintro _ _ ⟨rfl, rfl⟩) | ((with_reducible refine wpl_runx ?_ ?_); (focus exact rfl); refine ⟨_, runs_store H 0 rfl rfl rfl rfl rfl rfl rfl rfl rfl, ?_⟩; clear H; rintro _ w ⟨rfl, hE, H⟩; clear hE) | ((with_reducible refine wpl_runx ?_ ?_); (focus exact rfl); refine ⟨_, runs_store H 1 rfl rfl rfl rfl rfl rfl rfl rfl rfl, ?_⟩; clear H; rintro _ w ⟨rfl, hE, H⟩; clear hE) | ((with_reducible refine wpl_runx ?_ ?_); (focus exact rfl); refine ⟨_, runs_store H 2 rfl rfl rfl rfl rfl rfl rfl rfl rfl, ?_⟩; clear H; rintro _ w ⟨rfl, hE, H⟩; clear hE))
      go_end0
      exact .mk (n + 1) (1) (by omega) (by omega) (by omega) (by rw [if_pos rfl]; simp [mayS, h1, show ¬ 500 < d by omega, o1]) ((H.drop 0 rfl).weaken (fun _ => trivial) (Stab.const _))
    by_cases k2 : 5 < k
    · have q1 : k ≠ 1 := by omega
      have q2 : k ≠ 2 := by omega
      have q3 : k ≠ 3 := by omega
      have q4 : k ≠ 4 := by omega
      have q5 : k ≠ 5 := by omega
      have o1 : oneE (.mk k s ni r i l) = 1 := by simp [oneE, q1, q2, q3, q4, q5]
      have e5 : (k == 5) = false := by simpa using q5
      go_enter Try.func43, Try.ntmps43
      go_wp2_with (first | ((with_reducible refine wpl_runx_d 4 rfl ?_ ?_); (focus exact rfl); refine ⟨_, runs_box H rfl rfl, ?_⟩; clear H; rintro _ w ⟨b4, rfl, hE, H⟩; clear hE) | ((with_reducible refine wpl_runx_d 7 rfl ?_ ?_); (focus exact rfl); refine ⟨_, runs_alloc H rfl rfl rfl, ?_⟩; clear H; rintro _ w ⟨b7, rfl, hE, H⟩; clear hE) | ((with_reducible refine wpl_runx ?_ ?_); (focus exact rfl); refine ⟨_, runs_load H 0 rfl rfl rfl rfl rfl, ?_⟩; rintro _ _ ⟨rfl, rfl⟩) | ((with_reducible refine wpl_runx ?_ ?_); (focus exact rfl); refine ⟨_, runs_load H 1 rfl rfl rfl rfl rfl, ?_⟩; rintro _ _ ⟨rfl, rfl⟩) | ((with_reducible refine wpl_runx ?_ ?_); (focus exact rfl); refine ⟨_, runs_load H 2 rfl rfl rfl rfl rfl, ?_⟩; rintro _ _ ⟨rfl, rfl⟩) | ((with_reducible refine wpl_runx ?_ ?_); (focus exact rfl); refine ⟨_, runs_store H 0 rfl rfl rfl rfl rfl rfl rfl rfl rfl, ?_⟩; clear H; rintro _ w ⟨rfl, hE, H⟩; clear hE) | ((with_reducible refine wpl_runx ?_ ?_); (focus exact rfl); refine ⟨_, runs_store H 1 rfl rfl rfl rfl rfl rfl rfl rfl rfl, ?_⟩; clear H; rintro _ w ⟨rfl, hE, H⟩; clear hE) | ((with_reducible refine wpl_runx ?_ ?_); (focus exact rfl); refine ⟨_, runs_store H 2 rfl rfl rfl rfl rfl rfl rfl rfl rfl, ?_⟩; clear H; rintro _ w ⟨rfl, hE, H⟩; clear hE))
      go_end0
      exact .mk (n + 1) (1) (by omega) (by omega) (by omega) (by rw [if_pos rfl]; simp [mayS, h1, show ¬ 500 < d by omega, o1]) ((H.drop 0 rfl).weaken (fun _ => trivial) (Stab.const _))
    have hk : k = 1 ∨ k = 2 ∨ k = 3 ∨ k = 4 ∨ k = 5 := by omega
    clear k1 k2
    rcases hk with rfl | rfl | rfl | rfl | rfl
    · by_cases h3 : ni < 0
      · have o1 : oneE (.mk 1 s ni r i l) = 1 := by simp [oneE, h3]
        go_enter Try.func43, Try.ntmps43
        go_wp2_with (first | ((with_reducible refine wpl_runx_d 4 rfl ?_ ?_); (focus exact rfl); refine ⟨_, runs_box H rfl rfl, ?_⟩; clear H; rintro _ w ⟨b4, rfl, hE, H⟩; clear hE) | ((with_reducible refine wpl_runx_d 7 rfl ?_ ?_); (focus exact rfl); refine ⟨_, runs_alloc H rfl rfl rfl, ?_⟩; clear H; rintro _ w ⟨b7, rfl, hE, H⟩; clear hE) | ((with_reducible refine wpl_runx ?_ ?_); (focus exact rfl); refine ⟨_, runs_load H 0 rfl rfl rfl rfl rfl, ?_⟩; rintro _ _ ⟨rfl, rfl⟩) | ((with_reducible refine wpl_runx ?_ ?_); (focus exact rfl); refine ⟨_, runs_load H 1 rfl rfl rfl rfl rfl, ?_⟩; rintro _ _ ⟨rfl, rfl⟩) | ((with_reducible refine wpl_runx ?_ ?_); (focus exact rfl); refine ⟨_, runs_load H 2 rfl rfl rfl rfl rfl, ?_⟩; rintro _ _ ⟨rfl, rfl⟩) | ((with_reducible refine wpl_runx ?_ ?_); (focus exact rfl); refine ⟨_, runs_store H 0 rfl rfl rfl rfl rfl rfl rfl rfl rfl, ?_⟩; clear H; rintro _ w ⟨rfl, hE, H⟩; clear hE) | ((with_reducible refine wpl_runx ?_ ?_); (focus exact rfl); refine ⟨_, runs_store H 1 rfl rfl rfl rfl rfl rfl rfl rfl rfl, ?_⟩; clear H; rintro _ w ⟨rfl, hE, H⟩; clear hE) | ((with_reducible refine wpl_runx ?_ ?_); (focus exact rfl); refine ⟨_, runs_store H 2 rfl rfl rfl rfl rfl rfl rfl rfl rfl, ?_⟩; clear H; rintro _ w ⟨rfl, hE, H⟩; clear hE))
        go_end0
        exact .mk (n + 1) (1) (by omega) (by omega) (by omega) (by rw [if_pos rfl]; simp [mayS, h1, show ¬ 500 < d by omega, o1]) ((H.drop 0 rfl).weaken (fun _ => trivial) (Stab.const _))
      · have o1 : oneE (.mk 1 s ni r i l) = 0 := by simp [oneE, h3]
        go_enter Try.func43, Try.ntmps43
        go_wp2_with (first | ((with_reducible refine wpl_runx_d 4 rfl ?_ ?_); (focus exact rfl); refine ⟨_, runs_box H rfl rfl, ?_⟩; clear H; rintro _ w ⟨b4, rfl, hE, H⟩; clear hE) | ((with_reducible refine wpl_runx_d 7 rfl ?_ ?_); (focus exact rfl); refine ⟨_, runs_alloc H rfl rfl rfl, ?_⟩; clear H; rintro _ w ⟨b7, rfl, hE, H⟩; clear hE) | ((with_reducible refine wpl_runx ?_ ?_); (focus exact rfl); refine ⟨_, runs_load H 0 rfl rfl rfl rfl rfl, ?_⟩; rintro _ _ ⟨rfl, rfl⟩) | ((with_reducible refine wpl_runx ?_ ?_); (focus exact rfl); refine ⟨_, runs_load H 1 rfl rfl rfl rfl rfl, ?_⟩; rintro _ _ ⟨rfl, rfl⟩) | ((with_reducible refine wpl_runx ?_ ?_); (focus exact rfl); refine ⟨_, runs_load H 2 rfl rfl rfl rfl rfl, ?_⟩; rintro _ _ ⟨rfl, rfl⟩) | ((with_reducible refine wpl_runx ?_ ?_); (focus exact rfl); refine ⟨_, runs_store H 0 rfl rfl rfl rfl rfl rfl rfl rfl rfl, ?_⟩; clear H; rintro _ w ⟨rfl, hE, H⟩; clear hE) | ((with_reducible refine wpl_runx ?_ ?_); (focus exact rfl); refine ⟨_, runs_store H 1 rfl rfl rfl rfl rfl rfl rfl rfl rfl, ?_⟩; clear H; rintro _ w ⟨rfl, hE, H⟩; clear hE) | ((with_reducible refine wpl_runx ?_ ?_); (focus exact rfl); refine ⟨_, runs_store H 2 rfl rfl rfl rfl rfl rfl rfl rfl rfl, ?_⟩; clear H; rintro _ w ⟨rfl, hE, H⟩; clear hE))
        go_end0
        exact .mk (n + 1) (0) (by omega) (by omega) (fun _ => by omega) (by rw [if_pos rfl]; simp [mayS, h1, show ¬ 500 < d by omega, o1]) ((H.drop 0 rfl).weaken (fun _ => trivial) (Stab.const _))
    · by_cases h3 : 200 < s.size
      · have o1 : oneE (.mk 2 s ni r i l) = 3 := by simp [oneE, h3]
        go_enter Try.func43, Try.ntmps43
        go_wp2_with (first | ((with_reducible refine wpl_runx_d 4 rfl ?_ ?_); (focus exact rfl); refine ⟨_, runs_box H rfl rfl, ?_⟩; clear H; rintro _ w ⟨b4, rfl, hE, H⟩; clear hE) | ((with_reducible refine wpl_runx_d 7 rfl ?_ ?_); (focus exact rfl); refine ⟨_, runs_alloc H rfl rfl rfl, ?_⟩; clear H; rintro _ w ⟨b7, rfl, hE, H⟩; clear hE) | ((with_reducible refine wpl_runx ?_ ?_); (focus exact rfl); refine ⟨_, runs_load H 0 rfl rfl rfl rfl rfl, ?_⟩; rintro _ _ ⟨rfl, rfl⟩) | ((with_reducible refine wpl_runx ?_ ?_); (focus exact rfl); refine ⟨_, runs_load H 1 rfl rfl rfl rfl rfl, ?_⟩; rintro _ _ ⟨rfl, rfl⟩) | ((with_reducible refine wpl_runx ?_ ?_); (focus exact rfl); refine ⟨_, runs_load H 2 rfl rfl rfl rfl rfl, ?_⟩; rintro _ _ ⟨rfl, rfl⟩) | ((with_reducible refine wpl_runx ?_ ?_); (focus exact rfl); refine ⟨_, runs_store H 0 rfl rfl rfl rfl rfl rfl rfl rfl rfl, ?_⟩; clear H; rintro _ w ⟨rfl, hE, H⟩; clear hE) | ((with_reducible refine wpl_runx ?_ ?_); (focus exact rfl); refine ⟨_, runs_store H 1 rfl rfl rfl rfl rfl rfl rfl rfl rfl, ?_⟩; clear H; rintro _ w ⟨rfl, hE, H⟩; clear hE) | ((with_reducible refine wpl_runx ?_ ?_); (focus exact rfl); refine ⟨_, runs_store H 2 rfl rfl rfl rfl rfl rfl rfl rfl rfl, ?_⟩; clear H; rintro _ w ⟨rfl, hE, H⟩; clear hE))
        go_end0
        exact .mk (n + 1) (3) (by omega) (by omega) (by omega) (by rw [if_pos rfl]; simp [mayS, h1, show ¬ 500 < d by omega, o1]) ((H.drop 0 rfl).weaken (fun _ => trivial) (Stab.const _))
      · have o1 : oneE (.mk 2 s ni r i l) = 0 := by simp [oneE, h3]
        have d3 : decide ((200 : Int) < (s.size : Int)) = false := by simp; omega
        go_enter Try.func43, Try.ntmps43
        go_wp2_with (first | ((with_reducible refine wpl_runx_d 4 rfl ?_ ?_); (focus exact rfl); refine ⟨_, runs_box H rfl rfl, ?_⟩; clear H; rintro _ w ⟨b4, rfl, hE, H⟩; clear hE) | ((with_reducible refine wpl_runx_d 7 rfl ?_ ?_); (focus exact rfl); refine ⟨_, runs_alloc H rfl rfl rfl, ?_⟩; clear H; rintro _ w ⟨b7, rfl, hE, H⟩; clear hE) | ((with_reducible refine wpl_runx ?_ ?_); (focus exact rfl); refine ⟨_, runs_load H 0 rfl rfl rfl rfl rfl, ?_⟩; rintro _ _ ⟨rfl, rfl⟩) | ((with_reducible refine wpl_runx ?_ ?_); (focus exact rfl); refine ⟨_, runs_load H 1 rfl rfl rfl rfl rfl, ?_⟩; rintro _ _ ⟨rfl, rfl⟩) | ((with_reducible refine wpl_runx ?_ ?_); (focus exact rfl); refine ⟨_, runs_load H 2 rfl rfl rfl rfl rfl, ?_⟩; rintro _ _ ⟨rfl, rfl⟩) | ((with_reducible refine wpl_runx ?_ ?_); (focus exact rfl); refine ⟨_, runs_store H 0 rfl rfl rfl rfl rfl rfl rfl rfl rfl, ?_⟩; clear H; rintro _ w ⟨rfl, hE, H⟩; clear hE) | ((with_reducible refine wpl_runx ?_ ?_); (focus exact rfl); refine ⟨_, runs_store H 1 rfl rfl rfl rfl rfl rfl rfl rfl rfl, ?_⟩; clear H; rintro _ w ⟨rfl, hE, H⟩; clear hE) | ((with_reducible refine wpl_runx ?_ ?_); (focus exact rfl); refine ⟨_, runs_store H 2 rfl rfl rfl rfl rfl rfl rfl rfl rfl, ?_⟩; clear H; rintro _ w ⟨rfl, hE, H⟩; clear hE))
        go_end0
        exact .mk (n + 1) (0) (by omega) (by omega) (fun _ => by omega) (by rw [if_pos rfl]; simp [mayS, h1, show ¬ 500 < d by omega, o1]) ((H.drop 0 rfl).weaken (fun _ => trivial) (Stab.const _))
    · have o1 : oneE (.mk 3 s ni r i l) = 0 := by simp [oneE]
      go_enter Try.func43, Try.ntmps43
      go_wp2_with (first | ((with_reducible refine wpl_runx_d 4 rfl ?_ ?_); (focus exact rfl); refine ⟨_, runs_box H rfl rfl, ?_⟩; clear H; rintro _ w ⟨b4, rfl, hE, H⟩; clear hE) | ((with_reducible refine wpl_runx_d 7 rfl ?_ ?_); (focus exact rfl); refine ⟨_, runs_alloc H rfl rfl rfl, ?_⟩; clear H; rintro _ w ⟨b7, rfl, hE, H⟩; clear hE) | ((with_reducible refine wpl_runx ?_ ?_); (focus exact rfl); refine ⟨_, runs_load H 0 rfl rfl rfl rfl rfl, ?_⟩; rintro _ _ ⟨rfl, rfl⟩) | ((with_reducible refine wpl_runx ?_ ?_); (focus exact rfl); refine ⟨_, runs_load H 1 rfl rfl rfl rfl rfl, ?_⟩; rintro _ _ ⟨rfl, rfl⟩) | ((with_reducible refine wpl_runx ?_ ?_); (focus exact rfl); refine ⟨_, runs_load H 2 rfl rfl rfl rfl rfl, ?_⟩; rintro _ _ ⟨rfl, rfl⟩) | ((with_reducible refine wpl_runx ?_ ?_); (focus exact rfl); refine ⟨_, runs_store H 0 rfl rfl rfl rfl rfl rfl rfl rfl rfl, ?_⟩; clear H; rintro _ w ⟨rfl, hE, H⟩; clear hE) | ((with_reducible refine wpl_runx ?_ ?_); (focus exact rfl); refine ⟨_, runs_store H 1 rfl rfl rfl rfl rfl rfl rfl rfl rfl, ?_⟩; clear H; rintro _ w ⟨rfl, hE, H⟩; clear hE) | ((with_reducible refine wpl_runx ?_ ?_); (focus exact rfl); refine ⟨_, runs_store H 2 rfl rfl rfl rfl rfl rfl rfl rfl rfl, ?_⟩; clear H; rintro _ w ⟨rfl, hE, H⟩; clear hE))
      go_end0
      exact .mk (n + 1) (0) (by omega) (by omega) (fun _ => by omega) (by rw [if_pos rfl]; simp [mayS, h1, show ¬ 500 < d by omega, o1]) ((H.drop 0 rfl).weaken (fun _ => trivial) (Stab.const _))
    · have o1 : oneE (.mk 4 s ni r i l) = 0 := by simp [oneE]
      go_enter Try.func43, Try.ntmps43
      go_wp2_with (first | ((with_reducible refine wpl_runx_d 4 rfl ?_ ?_); (focus exact rfl); refine ⟨_, runs_box H rfl rfl, ?_⟩; clear H; rintro _ w ⟨b4, rfl, hE, H⟩; clear hE) | ((with_reducible refine wpl_runx_d 7 rfl ?_ ?_); (focus exact rfl); refine ⟨_, runs_alloc H rfl rfl rfl, ?_⟩; clear H; rintro _ w ⟨b7, rfl, hE, H⟩; clear hE) | ((with_reducible refine wpl_runx ?_ ?_); (focus exact rfl); refine ⟨_, runs_load H 0 rfl rfl rfl rfl rfl, ?_⟩; rintro _ _ ⟨rfl, rfl⟩) | ((with_reducible refine wpl_runx ?_ ?_); (focus exact rfl); refine ⟨_, runs_load H 1 rfl rfl rfl rfl rfl, ?_⟩; rintro _ _ ⟨rfl, rfl⟩) | ((with_reducible refine wpl_runx ?_ ?_); (focus exact rfl); refine ⟨_, runs_load H 2 rfl rfl rfl rfl rfl, ?_⟩; rintro _ _ ⟨rfl, rfl⟩) | ((with_reducible refine wpl_runx ?_ ?_); (focus exact rfl); refine ⟨_, runs_store H 0 rfl rfl rfl rfl rfl rfl rfl rfl rfl, ?_⟩; clear H; rintro _ w ⟨rfl, hE, H⟩; clear hE) | ((with_reducible refine wpl_runx ?_ ?_); (focus exact rfl); refine ⟨_, runs_store H 1 rfl rfl rfl rfl rfl rfl rfl rfl rfl, ?_⟩; clear H; rintro _ w ⟨rfl, hE, H⟩; clear hE) | ((with_reducible refine wpl_runx ?_ ?_); (focus exact rfl); refine ⟨_, runs_store H 2 rfl rfl rfl rfl rfl rfl rfl rfl rfl, ?_⟩; clear H; rintro _ w ⟨rfl, hE, H⟩; clear hE))
      go_end0
      exact .mk (n + 1) (0) (by omega) (by omega) (fun _ => by omega) (by rw [if_pos rfl]; simp [mayS, h1, show ¬ 500 < d by omega, o1]) ((H.drop 0 rfl).weaken (fun _ => trivial) (Stab.const _))
    · by_cases h3 : l.length = 0
      · have o1 : oneE (.mk 5 s ni r i l) = 1 := by simp [oneE, h3]
        have hl0 : l = [] := List.eq_nil_of_length_eq_zero h3
        subst hl0
        go_enter Try.func43, Try.ntmps43
        go_wp2_with (first | ((with_reducible refine wpl_runx_d 4 rfl ?_ ?_); (focus exact rfl); refine ⟨_, runs_box H rfl rfl, ?_⟩; clear H; rintro _ w ⟨b4, rfl, hE, H⟩; clear hE) | ((with_reducible refine wpl_runx_d 7 rfl ?_ ?_); (focus exact rfl); refine ⟨_, runs_alloc H rfl rfl rfl, ?_⟩; clear H; rintro _ w ⟨b7, rfl, hE, H⟩; clear hE) | ((with_reducible refine wpl_runx ?_ ?_); (focus exact rfl); refine ⟨_, runs_load H 0 rfl rfl rfl rfl rfl, ?_⟩; rintro _ _ ⟨rfl, rfl⟩) | ((with_reducible refine wpl_runx ?_ ?_); (focus exact rfl); refine ⟨_, runs_load H 1 rfl rfl rfl rfl rfl, ?_⟩; rintro _ _ ⟨rfl, rfl⟩) | ((with_reducible refine wpl_runx ?_ ?_); (focus exact rfl); refine ⟨_, runs_load H 2 rfl rfl rfl rfl rfl, ?_⟩; rintro _ _ ⟨rfl, rfl⟩) | ((with_reducible refine wpl_runx ?_ ?_); (focus exact rfl); refine ⟨_, runs_store H 0 rfl rfl rfl rfl rfl rfl rfl rfl rfl, ?_⟩; clear H; rintro _ w ⟨rfl, hE, H⟩; clear hE) | ((with_reducible refine wpl_runx ?_ ?_); (focus exact rfl); refine ⟨_, runs_store H 1 rfl rfl rfl rfl rfl rfl rfl rfl rfl, ?_⟩; clear H; rintro _ w ⟨rfl, hE, H⟩; clear hE) | ((with_reducible refine wpl_runx ?_ ?_); (focus exact rfl); refine ⟨_, runs_store H 2 rfl rfl rfl rfl rfl rfl rfl rfl rfl, ?_⟩; clear H; rintro _ w ⟨rfl, hE, H⟩; clear hE))
        go_end0
        exact .mk (n + 1) (1) (by omega) (by omega) (by omega) (by rw [if_pos rfl]; simp [mayS, h1, show ¬ 500 < d by omega, o1]) ((H.drop 0 rfl).weaken (fun _ => trivial) (Stab.const _))
      have h3' : ((l.length : Int) == 0) = false := by simp; intro h; simp [h] at h3
      by_cases h4 : 200 < s.size
      · have o1 : oneE (.mk 5 s ni r i l) = 3 := by simp [oneE, h3, h4]
        go_enter Try.func43, Try.ntmps43
        go_wp2_with (first | ((with_reducible refine wpl_runx_d 4 rfl ?_ ?_); (focus exact rfl); refine ⟨_, runs_box H rfl rfl, ?_⟩; clear H; rintro _ w ⟨b4, rfl, hE, H⟩; clear hE) | ((with_reducible refine wpl_runx_d 7 rfl ?_ ?_); (focus exact rfl); refine ⟨_, runs_alloc H rfl rfl rfl, ?_⟩; clear H; rintro _ w ⟨b7, rfl, hE, H⟩; clear hE) | ((with_reducible refine wpl_runx ?_ ?_); (focus exact rfl); refine ⟨_, runs_load H 0 rfl rfl rfl rfl rfl, ?_⟩; rintro _ _ ⟨rfl, rfl⟩) | ((with_reducible refine wpl_runx ?_ ?_); (focus exact rfl); refine ⟨_, runs_load H 1 rfl rfl rfl rfl rfl, ?_⟩; rintro _ _ ⟨rfl, rfl⟩) | ((with_reducible refine wpl_runx ?_ ?_); (focus exact rfl); refine ⟨_, runs_load H 2 rfl rfl rfl rfl rfl, ?_⟩; rintro _ _ ⟨rfl, rfl⟩) | ((with_reducible refine wpl_runx ?_ ?_); (focus exact rfl); refine ⟨_, runs_store H 0 rfl rfl rfl rfl rfl rfl rfl rfl rfl, ?_⟩; clear H; rintro _ w ⟨rfl, hE, H⟩; clear hE) | ((with_reducible refine wpl_runx ?_ ?_); (focus exact rfl); refine ⟨_, runs_store H 1 rfl rfl rfl rfl rfl rfl rfl rfl rfl, ?_⟩; clear H; rintro _ w ⟨rfl, hE, H⟩; clear hE) | ((with_reducible refine wpl_runx ?_ ?_); (focus exact rfl); refine ⟨_, runs_store H 2 rfl rfl rfl rfl rfl rfl rfl rfl rfl, ?_⟩; clear H; rintro _ w ⟨rfl, hE, H⟩; clear hE))
        go_end0
        exact .mk (n + 1) (3) (by omega) (by omega) (by omega) (by rw [if_pos rfl]; simp [mayS, h1, show ¬ 500 < d by omega, o1]) ((H.drop 0 rfl).weaken (fun _ => trivial) (Stab.const _))
      have d4 : decide ((200 : Int) < (s.size : Int)) = false := by simp; omega
      by_cases h6 : 20 < l.length
      · have o1 : oneE (.mk 5 s ni r i l) = 3 := by simp [oneE, h3, h4, h6]
        go_enter Try.func43, Try.ntmps43
        go_wp2_with (first | ((with_reducible refine wpl_runx_d 4 rfl ?_ ?_); (focus exact rfl); refine ⟨_, runs_box H rfl rfl, ?_⟩; clear H; rintro _ w ⟨b4, rfl, hE, H⟩; clear hE) | ((with_reducible refine wpl_runx_d 7 rfl ?_ ?_); (focus exact rfl); refine ⟨_, runs_alloc H rfl rfl rfl, ?_⟩; clear H; rintro _ w ⟨b7, rfl, hE, H⟩; clear hE) | ((with_reducible refine wpl_runx ?_ ?_); (focus exact rfl); refine ⟨_, runs_load H 0 rfl rfl rfl rfl rfl, ?_⟩; rintro _ _ ⟨rfl, rfl⟩) | ((with_reducible refine wpl_runx ?_ ?_); (focus exact rfl); refine ⟨_, runs_load H 1 rfl rfl rfl rfl rfl, ?_⟩; rintro _ _ ⟨rfl, rfl⟩) | ((with_reducible refine wpl_runx ?_ ?_); (focus exact rfl); refine ⟨_, runs_load H 2 rfl rfl rfl rfl rfl, ?_⟩; rintro _ _ ⟨rfl, rfl⟩) | ((with_reducible refine wpl_runx ?_ ?_); (focus exact rfl); refine ⟨_, runs_store H 0 rfl rfl rfl rfl rfl rfl rfl rfl rfl, ?_⟩; clear H; rintro _ w ⟨rfl, hE, H⟩; clear hE) | ((with_reducible refine wpl_runx ?_ ?_); (focus exact rfl); refine ⟨_, runs_store H 1 rfl rfl rfl rfl rfl rfl rfl rfl rfl, ?_⟩; clear H; rintro _ w ⟨rfl, hE, H⟩; clear hE) | ((with_reducible refine wpl_runx ?_ ?_); (focus exact rfl); refine ⟨_, runs_store H 2 rfl rfl rfl rfl rfl rfl rfl rfl rfl, ?_⟩; clear H; rintro _ w ⟨rfl, hE, H⟩; clear hE))
        go_end0
        exact .mk (n + 1) (3) (by omega) (by omega) (by omega) (by rw [if_pos rfl]; simp [mayS, h1, show ¬ 500 < d by omega, o1]) ((H.drop 0 rfl).weaken (fun _ => trivial) (Stab.const _))
      have o1 : oneE (.mk 5 s ni r i l) = 0 := by simp [oneE, h3, h4, h6]
      have d6 : decide ((20 : Int) < (l.length : Int)) = false := by simp; omega
      go_enter Try.func43, Try.ntmps43
      go_wp2_with (first | ((with_reducible refine wpl_runx_d 4 rfl ?_ ?_); (focus exact rfl); refine ⟨_, runs_box H rfl rfl, ?_⟩; clear H; rintro _ w ⟨b4, rfl, hE, H⟩; clear hE) | ((with_reducible refine wpl_runx_d 7 rfl ?_ ?_); (focus exact rfl); refine ⟨_, runs_alloc H rfl rfl rfl, ?_⟩; clear H; rintro _ w ⟨b7, rfl, hE, H⟩; clear hE) | ((with_reducible refine wpl_runx ?_ ?_); (focus exact rfl); refine ⟨_, runs_load H 0 rfl rfl rfl rfl rfl, ?_⟩; rintro _ _ ⟨rfl, rfl⟩) | ((with_reducible refine wpl_runx ?_ ?_); (focus exact rfl); refine ⟨_, runs_load H 1 rfl rfl rfl rfl rfl, ?_⟩; rintro _ _ ⟨rfl, rfl⟩) | ((with_reducible refine wpl_runx ?_ ?_); (focus exact rfl); refine ⟨_, runs_load H 2 rfl rfl rfl rfl rfl, ?_⟩; rintro _ _ ⟨rfl, rfl⟩) | ((with_reducible refine wpl_runx ?_ ?_); (focus exact rfl); refine ⟨_, runs_store H 0 rfl rfl rfl rfl rfl rfl rfl rfl rfl, ?_⟩; clear H; rintro _ w ⟨rfl, hE, H⟩; clear hE) | ((with_reducible refine wpl_runx ?_ ?_); (focus exact rfl); refine ⟨_, runs_store H 1 rfl rfl rfl rfl rfl rfl rfl rfl rfl, ?_⟩; clear H; rintro _ w ⟨rfl, hE, H⟩; clear hE) | ((with_reducible refine wpl_runx ?_ ?_); (focus exact rfl); refine ⟨_, runs_store H 2 rfl rfl rfl rfl rfl rfl rfl rfl rfl, ?_⟩; clear H; rintro _ w ⟨rfl, hE, H⟩; clear hE))
      go_loopw [108] (fun iv wr => ∃ (j : Nat) (n' e' : Int), j ≤ l.length ∧ iv = .int .i64 j ∧ 0 ≤ n' ∧ n' ≤ 2001 ∧ (e' = 0 → n' ≤ 2000) ∧ (if e' = 0 then mayLS (l.drop j) (d + 1) n' = mayLS l (d + 1) (n + 1) else mayLS l (d + 1) (n + 1) = .error e') ∧
        St M [b] w0 wr [.obj b4 (.cells #[.int .i64 5, .string s, .int .i64 ni, .int .u64 r, .int .u64 i, .slice A l.length c] 25 (0, 0)), .obj b (.cells #[.int .i64 n', .int .i64 e'] 93 (0, 0))] (AR A c l)) (fun iv _ => l.length - (intOf iv).toNat)
      case atStart => exact ⟨0, n + 1, 0, Nat.zero_le _, rfl, by omega, by omega, fun _ => by omega, by simp, H⟩
      case round =>
        clear H
        obtain ⟨j, n', e', hj, rfl, hn0', hn1', hne', hS, H⟩ := hrel
        by_cases hlt : j < l.length
        · obtain ⟨b2, o2, A1, c1, hAe, hbn, hbl, hcs, hA1⟩ := H.fact.at j hlt
          subst hAe
          replace H := H.add hA1 (AR.stab _ _ _)
          clear hA1 hbn hbl
          have HC := Lib.hid hcs; clear hcs
          go_wp2_with (first | ((with_reducible refine wpl_runx_d 4 rfl ?_ ?_); (focus exact rfl); refine ⟨_, runs_box H rfl rfl, ?_⟩; clear H; rintro _ w ⟨b4, rfl, hE, H⟩; clear hE) | ((with_reducible refine wpl_runx_d 7 rfl ?_ ?_); (focus exact rfl); refine ⟨_, runs_alloc H rfl rfl rfl, ?_⟩; clear H; rintro _ w ⟨b7, rfl, hE, H⟩; clear hE) | ((with_reducible refine wpl_runx ?_ ?_); (focus exact rfl); refine ⟨_, runs_load H 0 rfl rfl rfl rfl rfl, ?_⟩; rintro _ _ ⟨rfl, rfl⟩) | ((with_reducible refine wpl_runx ?_ ?_); (focus exact rfl); refine ⟨_, runs_load H 1 rfl rfl rfl rfl rfl, ?_⟩; rintro _ _ ⟨rfl, rfl⟩) | ((with_reducible refine wpl_runx ?_ ?_); (focus exact rfl); refine ⟨_, runs_load H 2 rfl rfl rfl rfl rfl, ?_⟩; rintro _ _ ⟨rfl, rfl⟩) | ((with_reducible refine wpl_runx ?_ ?_); (focus exact rfl); refine ⟨_, runs_store H 0 rfl rfl rfl rfl rfl rfl rfl rfl rfl, ?_⟩; clear H; rintro _ w ⟨rfl, hE, H⟩; clear hE) | ((with_reducible refine wpl_runx ?_ ?_); (focus exact rfl); refine ⟨_, runs_store H 1 rfl rfl rfl rfl rfl rfl rfl rfl rfl, ?_⟩; clear H; rintro _ w ⟨rfl, hE, H⟩; clear hE) | ((with_reducible refine wpl_runx ?_ ?_); (focus exact rfl); refine ⟨_, runs_store H 2 rfl rfl rfl rfl rfl rfl rfl rfl rfl, ?_⟩; clear H; rintro _ w ⟨rfl, hE, H⟩; clear hE) | ((with_reducible refine wpl_runx ?_ ?_); (focus exact rfl); refine ⟨_, runs_load_at rfl rfl rfl HC.out rfl, ?_⟩; rintro _ _ ⟨rfl, rfl⟩) | (refine (IH'.out l[j] (List.getElem_mem hlt) _ _ (d + 1) n' e' b _ _ (slimL_mem (hs rfl).2 (List.getElem_mem hlt)) (by omega) (by omega) hn0' hn1' hne' (H.restLt 2 rfl) (H.get (k := 2) rfl) (H.rest (k := 2) rfl).2).mono ?_; rintro _ w ⟨n2, e2, hn20, hn21, hne2, hS2, h⟩; replace H := H.call 2 rfl h (fun r => rfl); clear h))
          clear HC
          go_roundw
          case rel =>
            refine ⟨j + 1, n2, e2, by omega, by go_num, hn20, hn21, hne2, ?_, (H.drop 0 rfl).weaken (fun h => h.1) (AR.stab _ _ _)⟩
            by_cases he' : e' = 0
            · subst he'
              simp only [if_true] at hS hS2
              rw [List.drop_eq_getElem_cons hlt, mayLS] at hS
              cases hm : mayS l[j] (d + 1) n' with
              | error x =>
                simp only [hm] at hS hS2
                obtain ⟨rfl, hx⟩ := hS2
                rw [if_neg hx]; exact hS.symm
              | ok x =>
                simp only [hm] at hS hS2
                obtain ⟨rfl, rfl⟩ := hS2
                simpa using hS
            · rw [if_neg he'] at hS hS2
              obtain ⟨rfl, rfl⟩ := hS2
              rw [if_neg he']; exact hS
          case measure => simp [intOf]; omega
        · obtain rfl : j = l.length := by omega
          go_wp2_with (first | ((with_reducible refine wpl_runx_d 4 rfl ?_ ?_); (focus exact rfl); refine ⟨_, runs_box H rfl rfl, ?_⟩; clear H; rintro _ w ⟨b4, rfl, hE, H⟩; clear hE) | ((with_reducible refine wpl_runx_d 7 rfl ?_ ?_); (focus exact rfl); refine ⟨_, runs_alloc H rfl rfl rfl, ?_⟩; clear H; rintro _ w ⟨b7, rfl, hE, H⟩; clear hE) | ((with_reducible refine wpl_runx ?_ ?_); (focus exact rfl); refine ⟨_, runs_load H 0 rfl rfl rfl rfl rfl, ?_⟩; rintro _ _ ⟨rfl, rfl⟩) | ((with_reducible refine wpl_runx ?_ ?_); (focus exact rfl); refine ⟨_, runs_load H 1 rfl rfl rfl rfl rfl, ?_⟩; rintro _ _ ⟨rfl, rfl⟩) | ((with_reducible refine wpl_runx ?_ ?_); (focus exact rfl); refine ⟨_, runs_load H 2 rfl rfl rfl rfl rfl, ?_⟩; rintro _ _ ⟨rfl, rfl⟩) | ((with_reducible refine wpl_runx ?_ ?_); (focus exact rfl); refine ⟨_, runs_store H 0 rfl rfl rfl rfl rfl rfl rfl rfl rfl, ?_⟩; clear H; rintro _ w ⟨rfl, hE, H⟩; clear hE) | ((with_reducible refine wpl_runx ?_ ?_); (focus exact rfl); refine ⟨_, runs_store H 1 rfl rfl rfl rfl rfl rfl rfl rfl rfl, ?_⟩; clear H; rintro _ w ⟨rfl, hE, H⟩; clear hE) | ((with_reducible refine wpl_runx ?_ ?_); (focus exact rfl); refine ⟨_, runs_store H 2 rfl rfl rfl rfl rfl rfl rfl rfl rfl, ?_⟩; clear H; rintro _ w ⟨rfl, hE, H⟩; clear hE))
          go_end0
          refine .mk n' e' hn0' hn1' hne' ?_ ((H.drop 0 rfl).weaken (fun _ => trivial) (Stab.const _))
          rw [if_pos rfl]
          rw [List.drop_length] at hS
          unfold mayS
          rw [if_neg (by omega), if_neg (by simp [o1]), if_pos rfl]
          by_cases he' : e' = 0
          · rw [if_pos he'] at hS
            rw [← hS]
            exact ⟨he', rfl⟩
          · rw [if_neg he'] at hS
            rw [hS]
            exact ⟨rfl, he'⟩
  · have e0 : (e == 0) = false := by simpa using he
    go_enter Try.func43, Try.ntmps43
    go_wp2_with (first | ((with_reducible refine wpl_runx_d 4 rfl ?_ ?_); (focus exact rfl); refine ⟨_, runs_box H rfl rfl, ?_⟩; clear H; rintro _ w ⟨b4, rfl, hE, H⟩; clear hE) | ((with_reducible refine wpl_runx_d 7 rfl ?_ ?_); (focus exact rfl); refine ⟨_, runs_alloc H rfl rfl rfl, ?_⟩; clear H; rintro _ w ⟨b7, rfl, hE, H⟩; clear hE) | ((with_reducible refine wpl_runx ?_ ?_); (focus exact rfl); refine ⟨_, runs_load H 0 rfl rfl rfl rfl rfl, ?_⟩; rintro _ _ ⟨rfl, rfl⟩) | ((with_reducible refine wpl_runx ?_ ?_); (focus exact rfl); refine ⟨_, runs_load H 1 rfl rfl rfl rfl rfl, ?_⟩; rintro _ _ ⟨rfl, rfl⟩) | ((with_reducible refine wpl_runx ?_ ?_); (focus exact rfl); refine ⟨_, runs_load H 2 rfl rfl rfl rfl rfl, ?_⟩; rintro _ _ ⟨rfl, rfl⟩) | ((with_reducible refine wpl_runx ?_ ?_); (focus exact rfl); refine ⟨_, runs_store H 0 rfl rfl rfl rfl rfl rfl rfl rfl rfl, ?_⟩; clear H; rintro _ w ⟨rfl, hE, H⟩; clear hE) | ((with_reducible refine wpl_runx ?_ ?_); (focus exact rfl); refine ⟨_, runs_store H 1 rfl rfl rfl rfl rfl rfl rfl rfl rfl, ?_⟩; clear H; rintro _ w ⟨rfl, hE, H⟩; clear hE) | ((with_reducible refine wpl_runx ?_ ?_); (focus exact rfl); refine ⟨_, runs_store H 2 rfl rfl rfl rfl rfl rfl rfl rfl rfl, ?_⟩; clear H; rintro _ w ⟨rfl, hE, H⟩; clear hE))
    refine bodyPost_ret (results_none rfl _ _ _) rfl ?_
    exact .mk n e hn0 hn1 hne (by rw [if_neg he]; exact ⟨rfl, rfl⟩) ((H.drop 0 rfl).weaken (fun _ => trivial) (Stab.const _))
end Go.Proofs.Ytgopldabdheehaa
