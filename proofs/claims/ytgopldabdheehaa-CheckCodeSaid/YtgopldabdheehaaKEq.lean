/- The reference's check is the program's, as functions of code. -/
import Derived.Test.YtgopldabdheehaaChk7
import Derived.Test.YtgopldabdheehaaChk12
namespace Go.Proofs.Ytgopldabdheehaa
open Go.RowKit
set_option linter.unusedVariables false
set_option linter.unusedSimpArgs false
set_option maxRecDepth 20000
set_option maxHeartbeats 4000000
/-- The reference's steps over code. -/
def rrunE (r : Int) (n : Nat) : WK → List Ins → Nat → Option Nat
  | _, [], _ => none
  | s, x :: l, i => if (stepE r s x (i + 1 == n)).1 then rrunE r n (stepE r s x (i + 1 == n)).2 l (i + 1) else some i
def rcodeE (m : ByteArray) (a r : Int) (l : List Ins) : Int × Int :=
  if decide (200 < r) || decide ((40000 : Int) < (l.length : Int)) then (0, 3) else if !withinE a 0 20 || decide (r < a) || longE m then (0, 1) else
    match rrunE r l.length (iniE (baseE a l) a.toNat) l 0 with
    | some i => (i, 2)
    | none => match l.getLast? with
      | none => (l.length, 2)
      | some x => if x.op == 18 then (0, 0) else (l.length, 2)
/-- No register from r on is known. -/
def Low (r : Int) (s : WK) : Prop := ∀ i : Nat, r ≤ (i : Int) → s.f i = false
theorem low_put {r : Int} {s : WK} {n : Nat} (h : Low r s) (hn : (n : Int) < r) : Low r (s.put n) := fun i hi => by
  unfold WK.put
  simp only
  rw [if_neg (by omega)]
  exact h i hi
theorem low_clr {r : Int} {s : WK} {n : Nat} (h : Low r s) : Low r (s.clr n) := fun i hi => by
  unfold WK.clr
  simp only
  split
  · rfl
  · exact h i hi
theorem clr_same {r : Int} {s : WK} (h : Low r s) (hb : 0 ≤ s.base) (hr : r ≤ 200) : s.clr (min s.base r).toNat = s.clr (min s.base 200).toNat := by
  unfold WK.clr
  congr
  funext i
  by_cases g : i < (min s.base r).toNat
  · rw [if_pos g, if_pos (by omega)]
  · rw [if_neg g]
    by_cases g2 : i < (min s.base 200).toNat
    · rw [if_pos g2]
      exact h i (by omega)
    · rw [if_neg g2]
theorem low_range {f : Nat → Bool} {n : Nat} (hn : n ≤ 200) : hasE f (List.range n) = (List.range n).all f := by
  unfold hasE
  rw [Bool.eq_iff_iff]
  simp only [List.all_eq_true, List.mem_range, Bool.and_eq_true, decide_eq_true_eq]
  exact ⟨fun h i hi => (h i hi).2, fun h i hi => ⟨by omega, h i hi⟩⟩
theorem has1 {f : Nat → Bool} {n : Nat} (h : n < 200) : hasE f [n] = f n := by simp [hasE, h]
theorem has2 {f : Nat → Bool} {n m : Nat} (h : n < 200) (h' : m < 200) : hasE f [n, m] = (f n && f m) := by simp [hasE, h, h']
theorem flow_same {r : Int} {s s1 : WK} {x : Ins} {last : Bool} (hl : Low r s) (hb : 0 ≤ s.base) (hr : r ≤ 200) (hf : fitsE x r = true)
    (h1 : s1 = if x.op = 4 then { s with unify := x.ar } else if x.op = 11 then { s with set := x.ar } else s) :
    (readE s1.f x = false → (flowE r s x last).1 = false) ∧ (readE s1.f x = true → x.op = 18 → (flowE r s x last).1 = last) ∧
    (readE s1.f x = true → x.op ≠ 18 → flowE r s x last = (true, writeE s1 x) ∧ Low r (writeE s1 x) ∧ 0 ≤ (writeE s1 x).base) := by
  obtain ⟨k1, k2, k3, k4, k5⟩ := fits_ok hf
  clear hf
  obtain ⟨op, a, b', name, ar, con⟩ := x
  simp only at k1 k2 k3 k4 k5 h1 ⊢
  have hop : op = 1 ∨ op = 2 ∨ (op = 3 ∨ op = 6 ∨ op = 13) ∨ op = 4 ∨ (op = 5 ∨ op = 12 ∨ op = 10) ∨ op = 8 ∨ op = 9 ∨ op = 11 ∨ op = 15 ∨ op = 16 ∨ op = 17 ∨ op = 18 ∨ (op = 7 ∨ op = 14) := by
    unfold shOk at k1
    simp at k1
    omega
  rcases hop with rfl | rfl | hop | rfl | hop | rfl | rfl | rfl | rfl | rfl | rfl | rfl | hop
  · obtain ⟨na, rfl, ha, ha'⟩ := below_nat (k2 rfl) hr
    obtain ⟨nb, rfl, hb', hb''⟩ := below_nat (k3 rfl) hr
    simp only [Int.reduceEq, if_false] at h1
    subst h1
    simp only [readE, flowE, writeE, Int.reduceEq, Int.toNat_natCast, if_true, if_false, or_true, true_or, or_false, false_or, reduceIte, has1 ha]
    cases q : s1.f na <;> simp [q, low_put hl hb'', put_base, hb]
  · obtain ⟨na, rfl, ha, ha'⟩ := below_nat (k2 rfl) hr
    obtain ⟨nb, rfl, hb', hb''⟩ := below_nat (k3 rfl) hr
    simp only [Int.reduceEq, if_false] at h1
    subst h1
    simp only [readE, flowE, writeE, Int.reduceEq, Int.toNat_natCast, if_true, if_false, or_true, true_or, or_false, false_or, reduceIte, has2 ha hb']
    cases q : s1.f na <;> cases q2 : s1.f nb <;> simp [q, q2, hl, hb]
  · rcases hop with rfl | rfl | rfl
    all_goals
      obtain ⟨na, rfl, ha, ha'⟩ := below_nat (k2 rfl) hr
      simp only [Int.reduceEq, if_false] at h1
      subst h1
      simp only [readE, flowE, writeE, Int.reduceEq, Int.toNat_natCast, if_true, if_false, or_true, true_or, or_false, false_or, reduceIte, has1 ha]
      cases q : s1.f na <;> simp [q, hl, hb]
  · obtain ⟨na, rfl, ha, ha'⟩ := below_nat (k2 rfl) hr
    simp only [if_true] at h1
    subst h1
    simp only [readE, flowE, writeE, Int.reduceEq, Int.toNat_natCast, if_true, if_false, or_true, true_or, or_false, false_or, reduceIte, has1 ha]
    have hl2 : Low r { s with unify := ar } := hl
    cases q : s.f na <;> simp [q, hl2, hb]
  · rcases hop with rfl | rfl | rfl
    all_goals
      obtain ⟨na, rfl, ha, ha'⟩ := below_nat (k2 rfl) hr
      simp only [Int.reduceEq, if_false] at h1
      subst h1
      simp only [readE, flowE, writeE, Int.reduceEq, Int.toNat_natCast, if_true, if_false, or_true, true_or, or_false, false_or, reduceIte]
      simp [low_put hl ha', put_base, hb]
  · obtain ⟨na, rfl, ha, ha'⟩ := below_nat (k2 rfl) hr
    obtain ⟨nb, rfl, hb', hb''⟩ := below_nat (k3 rfl) hr
    simp only [Int.reduceEq, if_false] at h1
    subst h1
    simp only [readE, flowE, writeE, Int.reduceEq, Int.toNat_natCast, if_true, if_false, or_true, true_or, or_false, false_or, reduceIte]
    simp [low_put (low_put hl ha') hb'', put_base, hb]
  · obtain ⟨na, rfl, ha, ha'⟩ := below_nat (k2 rfl) hr
    obtain ⟨nb, rfl, hb', hb''⟩ := below_nat (k3 rfl) hr
    simp only [Int.reduceEq, if_false] at h1
    subst h1
    simp only [readE, flowE, writeE, Int.reduceEq, Int.toNat_natCast, if_true, if_false, or_true, true_or, or_false, false_or, reduceIte, has1 hb']
    cases q : s1.f nb <;> simp [q, low_put hl ha', put_base, hb]
  · obtain ⟨na, rfl, ha, ha'⟩ := below_nat (k2 rfl) hr
    simp only [Int.reduceEq, if_false, if_true] at h1
    subst h1
    simp only [readE, flowE, writeE, Int.reduceEq, Int.toNat_natCast, if_true, if_false, or_true, true_or, or_false, false_or, reduceIte]
    have hl2 : Low r (({ s with set := ar } : WK).put na) := low_put (s := { s with set := ar }) hl ha'
    have e : ({ s.put na with set := ar } : WK) = ({ s with set := ar } : WK).put na := rfl
    simp [e, hl2, put_base, hb]
    rfl
  · obtain ⟨nn, rfl, hn, _⟩ := within_nat (k5 rfl) (by decide) (by decide)
    simp only [Int.reduceEq, if_false] at h1
    subst h1
    simp only [readE, flowE, writeE, callE, Int.reduceEq, Int.toNat_natCast, if_true, if_false, or_true, true_or, or_false, false_or, reduceIte, low_range (f := s1.f) (show nn ≤ 200 by omega)]
    have hc := clr_same hl hb hr
    have hlc : Low r (s1.clr (min s1.base 200).toNat) := low_clr hl
    have hbc : 0 ≤ (s1.clr (min s1.base 200).toNat).base := hb
    by_cases q : (List.range nn).all s1.f = true
    · simp only [q, if_true, hc, hlc, hbc, Int.reduceNe]
      simp
    · have q2 : (List.range nn).all s1.f = false := by simpa using q
      simp only [q2]
      simp
  · simp only [Int.reduceEq, if_false] at h1
    subst h1
    simp only [readE, flowE, writeE, callE, Int.reduceEq, Int.toNat_natCast, if_true, if_false, or_true, true_or, or_false, false_or, reduceIte, has1 (f := s1.f) (show 0 < 200 by decide)]
    have hc := clr_same hl hb hr
    have hlc : Low r (s1.clr (min s1.base 200).toNat) := low_clr hl
    have hbc : 0 ≤ (s1.clr (min s1.base 200).toNat).base := hb
    have hr1 : (List.range 1).all s1.f = s1.f 0 := by simp [List.range_succ]
    rw [hr1]
    cases q : s1.f 0
    · simp
    · simp [hc, hlc, hbc]
  · simp only [Int.reduceEq, if_false] at h1
    subst h1
    simp only [readE, flowE, writeE, callE, Int.reduceEq, Int.toNat_natCast, if_true, if_false, or_true, true_or, or_false, false_or, reduceIte]
    have hc := clr_same hl hb hr
    have hlc : Low r (s1.clr (min s1.base 200).toNat) := low_clr hl
    have hbc : 0 ≤ (s1.clr (min s1.base 200).toNat).base := hb
    have hr0 : (List.range 0).all s1.f = true := rfl
    rw [hr0]
    simp [hc, hlc, hbc]
  · simp only [Int.reduceEq, if_false] at h1
    subst h1
    simp [readE, flowE, writeE]
  · rcases hop with rfl | rfl
    all_goals
      simp only [Int.reduceEq, if_false] at h1
      subst h1
      simp [readE, flowE, writeE, hl, hb]
theorem step_same {r : Int} {s : WK} {x : Ins} {last : Bool} (hl : Low r s) (hb : 0 ≤ s.base) (hf : fitsE x r = true) :
    (placeE s x = none → (stepE r s x last).1 = false) ∧ ∀ s1, placeE s x = some s1 → ∃ s2, stepE r s x last = flowE r s2 x last ∧ Low r s2 ∧ 0 ≤ s2.base ∧ s1 = (if x.op = 4 then { s2 with unify := x.ar } else if x.op = 11 then { s2 with set := x.ar } else s2) := by
  unfold stepE placeE
  have hnf : ¬ (fitsE x r = false) := by simp [hf]
  simp only [if_neg hnf]
  by_cases c1 : decide (0 < s.unify) = !isU x.op
  · simp only [if_pos c1]
    first | exact ⟨fun _ => rfl, fun s1 h => by cases h⟩ | exact ⟨fun _ => trivial, fun s1 h => by cases h⟩ | simp
  simp only [if_neg c1]
  by_cases c2 : decide (0 < s.set) = !isS x.op
  · simp only [if_pos c2]
    first | exact ⟨fun _ => rfl, fun s1 h => by cases h⟩ | exact ⟨fun _ => trivial, fun s1 h => by cases h⟩ | simp
  simp only [if_neg c2]
  by_cases c3 : (isG x.op && s.body) = true
  · simp only [if_pos c3]
    first | exact ⟨fun _ => rfl, fun s1 h => by cases h⟩ | exact ⟨fun _ => trivial, fun s1 h => by cases h⟩ | simp
  simp only [if_neg c3]
  suffices h0 : ∀ s1, s.turn x = s1 → s1 = (if x.op = 4 then { (⟨s.f, s.base, if isU x.op then wrap64 (s.unify - 1) else s.unify, if isS x.op then wrap64 (s.set - 1) else s.set, s.body || isB x.op⟩ : WK) with unify := x.ar } else if x.op = 11 then { (⟨s.f, s.base, if isU x.op then wrap64 (s.unify - 1) else s.unify, if isS x.op then wrap64 (s.set - 1) else s.set, s.body || isB x.op⟩ : WK) with set := x.ar } else ⟨s.f, s.base, if isU x.op then wrap64 (s.unify - 1) else s.unify, if isS x.op then wrap64 (s.set - 1) else s.set, s.body || isB x.op⟩) by
    first
    | exact ⟨fun h => (by cases h), fun s1 h => ⟨_, rfl, hl, hb, h0 s1 (Option.some.inj h)⟩⟩
    | exact fun s1 h => ⟨_, rfl, hl, hb, h0 s1 (by simpa using h)⟩
    | exact ⟨trivial, fun s1 h => ⟨_, rfl, hl, hb, h0 s1 (by simpa using h)⟩⟩
    | exact ⟨fun h => (by cases h), fun s1 h => ⟨_, rfl, hl, hb, h0 s1 (by simpa using h)⟩⟩
  rintro s1 rfl
  unfold WK.turn
  by_cases h4 : x.op = 4
  · simp [h4, isU, isS, isB]
  · by_cases h11 : x.op = 11
    · simp [h11, isU, isS, isB]
    · simp [h4, h11]
theorem last_cons (x : Ins) (l : List Ins) : (x :: l).getLast? = match l.getLast? with | none => some x | some y => some y := by
  cases l with
  | nil => rfl
  | cons y l =>
    rw [List.getLast?_cons_cons]
    cases h : (y :: l).getLast? with
    | none => simp at h
    | some z => rfl
/-- What the reference makes of its steps. -/
def outE (N : Nat) (l : List Ins) : Option Nat → Int × Int
  | some k => ((k : Int), 2)
  | none => match l.getLast? with
    | none => ((N : Int), 2)
    | some x => if x.op == 18 then (0, 0) else ((N : Int), 2)
theorem run_same {r : Int} (hr : r ≤ 200) (N : Nat) : ∀ (l : List Ins) (s : WK) (i : Nat), Low r s → 0 ≤ s.base → i + l.length = N → runE r s l i = outE N l (rrunE r N s l i)
  | [], s, i, hl, hb, hN => by
    simp only [List.length_nil, Nat.add_zero] at hN
    subst hN
    rfl
  | x :: l, s, i, hl, hb, hN => by
    rw [runE, rrunE]
    cases hf : fitsE x r with
    | false =>
      have e : stepE r s x (i + 1 == N) = (false, s) := by unfold stepE; rw [if_pos hf]
      simp [e, outE]
    | true =>
      obtain ⟨h1, h2⟩ := step_same (last := (i + 1 == N)) hl hb hf
      cases hp : placeE s x with
      | none => simp [h1 hp, outE]
      | some s1 =>
        obtain ⟨s2, e, hl2, hb2, h3⟩ := h2 s1 hp
        obtain ⟨f1, f2, f3⟩ := flow_same (last := (i + 1 == N)) hl2 hb2 hr hf h3
        rw [e]
        cases hrd : readE s1.f x with
        | false => simp [f1 hrd, hrd, outE]
        | true =>
          by_cases h18 : x.op = 18
          · have h18' : (x.op == 18) = true := by simpa using h18
            rw [f2 hrd h18]
            cases l with
            | nil =>
              simp only [List.length_cons, List.length_nil] at hN
              have : (i + 1 == N) = true := by simp; omega
              simp [hrd, h18', this, rrunE, outE]
            | cons y l =>
              simp only [List.length_cons] at hN
              have : (i + 1 == N) = false := by simp; omega
              simp [hrd, h18', this, outE]
          · have h18' : (x.op == 18) = false := by simpa using h18
            obtain ⟨e2, hl3, hb3⟩ := f3 hrd h18
            rw [e2]
            have ih := run_same hr N l (writeE s1 x) (i + 1) hl3 hb3 (by simp only [List.length_cons] at hN; omega)
            simp only [hrd, h18', if_true, Bool.false_eq_true, if_false]
            rw [ih]
            cases rrunE r N (writeE s1 x) l (i + 1) with
            | some k => rfl
            | none =>
              unfold outE
              rw [last_cons]
              cases l.getLast? with
              | none => simp [h18']
              | some y => rfl
theorem low_ini {r b : Int} {n : Nat} (h : (n : Int) ≤ r) : Low r (iniE b n) := fun i hi => by
  unfold iniE
  simp only [decide_eq_false_iff_not]
  omega
theorem rcode_eq (m : ByteArray) (a r : Int) (l : List Ins) : rcodeE m a r l = codeE m a r l := by
  unfold rcodeE codeE
  split
  · rfl
  · split
    · rfl
    · rename_i h1 h2
      simp only [Bool.or_eq_true, decide_eq_true_eq, not_or, Bool.not_eq_true', Bool.not_eq_true] at h1 h2
      have hw : 0 ≤ a := by
        have := h2.1.1
        unfold withinE at this
        simp at this
        omega
      have := run_same (r := r) (by omega) l.length l (iniE (baseE a l) a.toNat) 0 (low_ini (by omega)) (Int.le_trans hw (baseE_le l a)) (by omega)
      rw [this]
      rfl
end Go.Proofs.Ytgopldabdheehaa
