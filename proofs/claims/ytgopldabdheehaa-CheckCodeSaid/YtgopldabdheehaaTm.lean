/- What the layer 'term' reckons, on trees: no program here. -/
import Derived.Test.YtgopldabdheehaaBack
namespace Go.Proofs.Ytgopldabdheehaa
open Go.RowKit
set_option linter.unusedVariables false
set_option linter.unusedSimpArgs false

theorem take_map_snoc {α β : Type} {l : List α} {j : Nat} (h : j < l.length) (f : α → β) : (l.take (j + 1)).map f = (l.take j).map f ++ [f l[j]] := by
  rw [List.take_succ_eq_append_getElem h, List.map_append]; rfl

mutual
/-- No row of a compound's arguments is too long to be appended to. -/
def slim : Tm → Prop
  | .mk k _ _ _ _ l => k = 5 → l.length ≤ 1000000 ∧ slimL l
def slimL : List Tm → Prop
  | [] => True
  | t :: ts => slim t ∧ slimL ts
end
theorem slimL_mem : ∀ {l : List Tm} {t : Tm}, slimL l → t ∈ l → slim t
  | _ :: _, _, h, .head _ => h.1
  | _ :: _, _, h, .tail _ m => slimL_mem h.2 m

/-- A call answers a term. -/
def RetT (M : List Nat) (w : World) (t : Tm) (e : Ending) (w' : World) : Prop :=
  ∃ A c, e = .returned (.agg #[.int .i64 t.kind, .string t.name, .int .i64 t.int, .int .u64 t.re, .int .u64 t.im, .slice A t.args.length c]) ∧ AR A c t.args M w' ∧ Ext [] w w'

/-! ### Each variable by a function -/
mutual
def turnT (F : Int → Tm) : Tm → Tm
  | .mk k s n r i l => if k = 1 then F n else if k = 2 then .mk k s 0 0 0 [] else if k = 3 then .mk k ⟨#[]⟩ n 0 0 [] else if k = 4 then .mk k ⟨#[]⟩ 0 r i [] else if k = 5 then .mk k s 0 0 0 (turnL F l) else .mk k ⟨#[]⟩ 0 0 0 []
def turnL (F : Int → Tm) : List Tm → List Tm
  | [] => []
  | t :: ts => turnT F t :: turnL F ts
end
theorem turnL_map (F : Int → Tm) : ∀ l, turnL F l = l.map (turnT F)
  | [] => rfl
  | t :: ts => by rw [turnL, turnL_map F ts]; rfl

/-- A variable. -/
def varT (n : Int) : Tm := .mk 1 ⟨#[]⟩ n 0 0 []

/-! ### May a term be? -/
/-- What is wrong with a term, its arguments aside. -/
def oneE : Tm → Int
  | .mk k s n _ _ l => if k = 1 then (if n < 0 then 1 else 0) else if k = 2 then (if 200 < s.size then 3 else 0)
    else if k = 5 then (if l.length = 0 then 1 else if 200 < s.size then 3 else if 20 < l.length then 3 else 0) else if k = 3 then 0 else if k = 4 then 0 else 1

mutual
/-- A term gone through from depth d on, c nodes having come, m the deepest; each node handed to f. -/
def chkG {σ : Type} (f : σ → Tm → σ) : Tm → Int → Int → Int → σ → Except Int (Int × Int × σ)
  | .mk k s n r i l, d, c, m, x => if c = 2000 ∨ 500 < d then .error 3 else if oneE (.mk k s n r i l) ≠ 0 then .error (oneE (.mk k s n r i l)) else
    if k = 5 then chkGL f l (d + 1) (c + 1) (max m d) (f x (.mk k s n r i l)) else .ok (c + 1, max m d, f x (.mk k s n r i l))
def chkGL {σ : Type} (f : σ → Tm → σ) : List Tm → Int → Int → Int → σ → Except Int (Int × Int × σ)
  | [], _, c, m, x => .ok (c, m, x)
  | t :: ts, d, c, m, x => match chkG f t d c m x with
    | .error e => .error e
    | .ok (c', m', x') => chkGL f ts d c' m' x'
end
/-- The same, over a stack. -/
def chkS {σ : Type} (f : σ → Tm → σ) : List (Tm × Int) → Int → Int → σ → Except Int (Int × Int × σ)
  | [], c, m, x => .ok (c, m, x)
  | (t, d) :: st, c, m, x => match chkG f t d c m x with
    | .error e => .error e
    | .ok (c', m', x') => chkS f st c' m' x'

theorem chkS_map {σ : Type} (f : σ → Tm → σ) (d : Int) (st : List (Tm × Int)) : ∀ (l : List Tm) (c m : Int) (x : σ),
    chkS f (l.map (fun t => (t, d)) ++ st) c m x = match chkGL f l d c m x with
      | .error e => .error e
      | .ok (c', m', x') => chkS f st c' m' x'
  | [], c, m, x => by simp [chkGL]
  | t :: ts, c, m, x => by
    simp only [List.map_cons, List.cons_append, chkS, chkGL]
    cases chkG f t d c m x with
    | error e => rfl
    | ok y => exact chkS_map f d st ts y.1 y.2.1 y.2.2

/-- What comes onto the stack behind a term. -/
def kids : Tm → Int → List (Tm × Int)
  | .mk k _ _ _ _ l, d => if k = 5 then l.map (fun a => (a, d)) else []

/-- One step of the stack. -/
theorem chkS_step {σ : Type} (f : σ → Tm → σ) (t : Tm) (d : Int) (st : List (Tm × Int)) (c m : Int) (x : σ) :
    chkS f ((t, d) :: st) c m x = if c = 2000 ∨ 500 < d then .error 3 else if oneE t ≠ 0 then .error (oneE t) else
      chkS f (kids t (d + 1) ++ st) (c + 1) (max m d) (f x t) := by
  cases t with
  | mk k s n r i l =>
    simp only [chkS, chkG, kids]
    by_cases h1 : c = 2000 ∨ 500 < d
    · rw [if_pos h1, if_pos h1]
    · rw [if_neg h1, if_neg h1]
      by_cases h2 : oneE (.mk k s n r i l) ≠ 0
      · rw [if_pos h2, if_pos h2]
      · rw [if_neg h2, if_neg h2]
        by_cases h3 : k = 5
        · rw [if_pos h3, if_pos h3, chkS_map]
        · rw [if_neg h3, if_neg h3]
          rfl

/-- Without anything handed on. -/
def chk0 (t : Tm) : Except Int (Int × Int × Unit) := chkG (fun x _ => x) t 1 0 0 ()
def mayE (t : Tm) : Int := match chk0 t with | .error e => e | .ok _ => 0
def nodesE (t : Tm) : Int := match chk0 t with | .error _ => 0 | .ok (c, _, _) => c
def depthE (t : Tm) : Int := match chk0 t with | .error _ => 0 | .ok (_, m, _) => m
def plainE (t : Tm) : Tm := if mayE t = 0 then turnT varT t else Tm.zero

mutual
/-- How many nodes there are in all. -/
def szT : Tm → Nat
  | .mk _ _ _ _ _ l => 1 + szL l
def szL : List Tm → Nat
  | [] => 0
  | t :: ts => szT t + szL ts
end
def szS (st : List (Tm × Int)) : Nat := szL (st.map (·.1))
theorem szL_append : ∀ (l m : List Tm), szL (l ++ m) = szL l + szL m
  | [], m => by simp [szL]
  | t :: l, m => by simp [szL, szL_append l m]; omega
theorem szS_step (t : Tm) (d d' : Int) (st : List (Tm × Int)) : szS (kids t d' ++ st) < szS ((t, d) :: st) := by
  cases t with
  | mk k s n r i l =>
    simp only [szS, List.map_append, List.map_cons, szL, szT, szL_append, kids]
    by_cases h : k = 5
    · rw [if_pos h]
      have : (l.map (fun a => (a, d'))).map (·.1) = l := by simp [List.map_map, Function.comp_def]
      rw [this]; omega
    · rw [if_neg h]
      simp only [List.map_nil, szL]
      omega
theorem oneE_err (t : Tm) : oneE t = 0 ∨ oneE t = 1 ∨ oneE t = 3 := by
  cases t with
  | mk k s n r i l =>
    unfold oneE
    repeat' split
    all_goals simp

/-! ### What a term that may be is -/
mutual
def nT : Tm → Nat
  | .mk k _ _ _ _ l => if k = 5 then 1 + nL l else 1
def nL : List Tm → Nat
  | [] => 0
  | t :: ts => nT t + nL ts
end
mutual
def hT : Tm → Nat
  | .mk k _ _ _ _ l => if k = 5 then 1 + hL l else 1
def hL : List Tm → Nat
  | [] => 0
  | t :: ts => max (hT t) (hL ts)
end
mutual
def okT : Tm → Prop
  | .mk k s n r i l => oneE (.mk k s n r i l) = 0 ∧ (k = 5 → okL l)
def okL : List Tm → Prop
  | [] => True
  | t :: ts => okT t ∧ okL ts
end
mutual
def foldT {σ : Type} (f : σ → Tm → σ) : Tm → σ → σ
  | .mk k s n r i l, x => if k = 5 then foldL f l (f x (.mk k s n r i l)) else f x (.mk k s n r i l)
def foldL {σ : Type} (f : σ → Tm → σ) : List Tm → σ → σ
  | [], x => x
  | t :: ts, x => foldL f ts (foldT f t x)
end
theorem nT_pos (t : Tm) : 1 ≤ nT t := by
  cases t with | mk k s n r i l => unfold nT; split <;> omega
theorem hT_pos (t : Tm) : 1 ≤ hT t := by
  cases t with | mk k s n r i l => unfold hT; split <;> omega

mutual
theorem chkG_of_ok {σ : Type} (f : σ → Tm → σ) : ∀ (t : Tm) (d c m : Int) (x : σ), okT t → c + nT t ≤ 2000 → d + hT t ≤ 501 → chkG f t d c m x = .ok (c + nT t, max m (d + hT t - 1), foldT f t x)
  | .mk k s n r i l, d, c, m, x, ho, hn, hh => by
    unfold okT at ho
    have h1 := nT_pos (.mk k s n r i l)
    have h2 := hT_pos (.mk k s n r i l)
    unfold chkG
    rw [if_neg (by omega), if_neg (by rw [ho.1]; simp)]
    unfold nT at hn ⊢
    unfold hT at hh ⊢
    unfold foldT
    by_cases h5 : k = 5
    · rw [if_pos h5] at hn hh ⊢
      rw [if_pos h5, if_pos h5, if_pos h5, chkGL_of_ok f l (d + 1) (c + 1) (max m d) _ (ho.2 h5) (by omega) (by omega) (by omega)]
      congr 2
      · omega
      · congr 1; omega
    · rw [if_neg h5] at hn hh ⊢
      rw [if_neg h5, if_neg h5, if_neg h5]
      congr 2
      congr 1; omega
theorem chkGL_of_ok {σ : Type} (f : σ → Tm → σ) : ∀ (l : List Tm) (d c m : Int) (x : σ), okL l → c + nL l ≤ 2000 → d + hL l ≤ 501 → d - 1 ≤ m → chkGL f l d c m x = .ok (c + nL l, max m (d + hL l - 1), foldL f l x)
  | [], d, c, m, x, _, _, _, hm => by
    simp only [chkGL, nL, hL, foldL]
    congr 2
    · omega
    · congr 1; omega
  | t :: ts, d, c, m, x, ho, hn, hh, hm => by
    unfold okL at ho
    unfold nL at hn ⊢
    unfold hL at hh ⊢
    have h1 := nT_pos t
    have h2 := hT_pos t
    simp only [chkGL, foldL]
    rw [chkG_of_ok f t d c m x ho.1 (by omega) (by omega)]
    simp only
    rw [chkGL_of_ok f ts d _ _ _ ho.2 (by omega) (by omega) (by omega)]
    congr 2
    · omega
    · congr 1; omega
end
mutual
theorem ok_of_chkG {σ : Type} (f : σ → Tm → σ) : ∀ (t : Tm) (d c m : Int) (x : σ) (q : Int × Int × σ), c ≤ 2000 → chkG f t d c m x = .ok q → okT t ∧ c + nT t ≤ 2000 ∧ d + hT t ≤ 501 ∧ q.1 = c + nT t
  | .mk k s n r i l, d, c, m, x, q, hc, h => by
    unfold chkG at h
    split at h
    · cases h
    · rename_i h1
      split at h
      · cases h
      · rename_i h2
        have ho : oneE (.mk k s n r i l) = 0 := by simpa using h2
        unfold okT nT hT
        split at h
        · rename_i h5
          obtain ⟨a, b, e, e2⟩ := ok_of_chkGL f l _ _ _ _ q (by omega) h
          rw [if_pos h5, if_pos h5]
          refine ⟨⟨ho, fun _ => a⟩, by omega, ?_, by omega⟩
          by_cases hl : l = []
          · subst hl; simp only [hL]; omega
          · have := e hl; omega
        · rename_i h5
          rw [if_neg h5, if_neg h5]
          cases h
          exact ⟨⟨ho, fun h => absurd h h5⟩, by omega, by omega, by simp⟩
theorem ok_of_chkGL {σ : Type} (f : σ → Tm → σ) : ∀ (l : List Tm) (d c m : Int) (x : σ) (q : Int × Int × σ), c ≤ 2000 → chkGL f l d c m x = .ok q → okL l ∧ c + nL l ≤ 2000 ∧ (l ≠ [] → d + hL l ≤ 501) ∧ q.1 = c + nL l
  | [], d, c, m, x, q, hc, h => by
    unfold chkGL at h
    cases h
    unfold okL nL
    exact ⟨trivial, by omega, fun h => absurd rfl h, by simp⟩
  | t :: ts, d, c, m, x, q, hc, h => by
    unfold chkGL at h
    split at h
    · cases h
    · rename_i c' m' x' h1
      obtain ⟨a, b, e, e2⟩ := ok_of_chkG f t d c m x _ hc h1
      simp only at e2
      obtain ⟨a2, b2, e3, e4⟩ := ok_of_chkGL f ts _ _ _ _ q (by omega) h
      unfold okL nL hL
      refine ⟨⟨a, a2⟩, by omega, fun _ => ?_, by omega⟩
      by_cases hts : ts = []
      · subst hts; simp only [hL]; omega
      · have := e3 hts; omega
end

theorem mayE_ok {t : Tm} : mayE t = 0 ↔ okT t ∧ nT t ≤ 2000 ∧ hT t ≤ 500 := by
  constructor
  · intro h
    unfold mayE chk0 at h
    split at h
    · rename_i e he
      exfalso
      cases t with
      | mk k s n r i l =>
        have key : ∀ {σ : Type} (f : σ → Tm → σ) (t : Tm) (d c m : Int) (x : σ), chkG f t d c m x ≠ .error 0 := by
          intro σ f t
          have : ∀ N, (∀ t : Tm, szT t ≤ N → ∀ d c m x, chkG f t d c m x ≠ .error 0) ∧ (∀ l : List Tm, szL l ≤ N → ∀ d c m x, chkGL f l d c m x ≠ .error 0) := by
            intro N
            induction N with
            | zero => exact ⟨fun t ht => by cases t; simp [szT] at ht, fun l hl => by
                cases l with
                | nil => intro d c m x; simp [chkGL]
                | cons t ts => cases t; simp [szL, szT] at hl⟩
            | succ N ih =>
              have h1 : ∀ t : Tm, szT t ≤ N + 1 → ∀ d c m x, chkG f t d c m x ≠ .error 0 := by
                intro t ht d c m x
                cases t with
                | mk k s n r i l =>
                  unfold chkG
                  split
                  · simp
                  · split
                    · rename_i h2
                      intro h
                      exact h2 (by injection h)
                    · split
                      · exact ih.2 l (by simp [szT] at ht; omega) _ _ _ _
                      · simp
              refine ⟨h1, fun l => ?_⟩
              induction l with
              | nil => intro _ d c m x; simp [chkGL]
              | cons t ts ihl =>
                intro hl d c m x
                simp only [szL] at hl
                unfold chkGL
                split
                · rename_i e he
                  intro h; cases h
                  exact h1 t (by omega) _ _ _ _ he
                · exact ihl (by omega) _ _ _ _
          exact (this _).1 t (Nat.le_refl _)
        exact key _ _ _ _ _ _ (h ▸ he)
    · rename_i q he
      obtain ⟨a, b, c, _⟩ := ok_of_chkG _ _ _ _ _ _ _ (by decide) he
      exact ⟨a, by omega, by omega⟩
  · rintro ⟨a, b, c⟩
    unfold mayE chk0
    rw [chkG_of_ok _ t 1 0 0 () a (by omega) (by omega)]
theorem nodesE_ok {t : Tm} (h : mayE t = 0) : nodesE t = nT t := by
  obtain ⟨a, b, c⟩ := mayE_ok.1 h
  unfold nodesE chk0
  rw [chkG_of_ok _ t 1 0 0 () a (by omega) (by omega)]
  simp
theorem depthE_ok {t : Tm} (h : mayE t = 0) : depthE t = hT t := by
  obtain ⟨a, b, c⟩ := mayE_ok.1 h
  unfold depthE chk0
  rw [chkG_of_ok _ t 1 0 0 () a (by omega) (by omega)]
  simp only
  omega
theorem nodesE_err {t : Tm} (h : mayE t ≠ 0) : nodesE t = 0 := by
  unfold nodesE
  unfold mayE at h
  split at h
  · rename_i e he; rw [he]
  · exact absurd rfl h
theorem depthE_err {t : Tm} (h : mayE t ≠ 0) : depthE t = 0 := by
  unfold depthE
  unfold mayE at h
  split at h
  · rename_i e he; rw [he]
  · exact absurd rfl h

theorem oneE_args {t : Tm} (h : oneE t = 0) (hk : t.kind = 5) : t.args.length ≤ 20 := by
  cases t with
  | mk k s n r i l =>
    simp only [Tm.kind] at hk
    subst hk
    simp only [Tm.args]
    unfold oneE at h
    simp only [Int.reduceEq, if_true, if_false] at h
    split at h
    · simp at h
    · split at h
      · simp at h
      · split at h
        · simp at h
        · omega
mutual
theorem slim_of_ok : ∀ t : Tm, okT t → slim t
  | .mk k s n r i l, h => by
    unfold okT at h
    unfold slim
    exact fun h5 => ⟨Nat.le_trans (oneE_args h.1 h5) (by decide), slimL_of_ok l (h.2 h5)⟩
theorem slimL_of_ok : ∀ l : List Tm, okL l → slimL l
  | [], _ => trivial
  | t :: ts, h => ⟨slim_of_ok t h.1, slimL_of_ok ts h.2⟩
end
theorem mayE_slim {t : Tm} (h : mayE t = 0) : slim t := slim_of_ok t (mayE_ok.1 h).1
end Go.Proofs.Ytgopldabdheehaa
