/- Walks: a scope with a jump back; walk, with any function value for its nodes. -/
import Derived.Test.YtgopldabdheehaaPush
import Derived.Test.YtgopldabdheehaaW1
import Derived.Test.YtgopldabdheehaaMore
namespace Go.Proofs.Ytgopldabdheehaa
open Go.RowKit
set_option linter.unusedVariables false
set_option linter.unusedSimpArgs false
set_option maxRecDepth 20000
set_option maxHeartbeats 1000000
attribute [local go_sem] Oper.semAt_some

/-- The last of a stack: its cells. -/
theorem AtR.last {xs : List Value} {l : List (Tm × Int)} {t : Tm} {d : Int} {M : List Nat} {w : World} (h : AtR xs (l ++ [(t, d)]) M w) :
    ∃ A c, (∀ j u, [Value.int .i64 t.kind, .string t.name, .int .i64 t.int, .int .u64 t.re, .int .u64 t.im, .slice A t.args.length c, .int .i64 d][j]? = some u → xs[l.length * 7 + j]? = some u) ∧ AR A c t.args M w ∧ AtR (xs.take (l.length * 7)) l M w := by
  obtain ⟨cs, h7, ⟨cs6, hcs, h6, ht⟩, hx⟩ := CellsL.get _ _ l.length h (by simp)
  simp only [List.getElem_concat_length] at hcs ht
  have hd := CellsL.dropLast _ _ l.length h
  rw [List.take_left] at hd
  cases t with
  | mk k s n r i a =>
    unfold TR at ht
    obtain ⟨A, c, rfl, h1, h2⟩ := ht
    subst hcs
    exact ⟨A, c, fun j u hj => by rw [hx j (by have := (List.getElem?_eq_some_iff.1 hj).1; simpa using this)]; exact hj, ⟨h1, h2⟩, hd⟩

/-- What walk hands each node to. -/
def EachOk {σ : Type} (G : List Nat → World → Prop) (each : Value) (f : σ → Tm → σ) (R : σ → Res → Prop) (sz : σ → Nat) : Prop :=
  Stab G ∧ (∀ x t, sz (f x t) ≤ sz x + 1) ∧ ((each = .nilFunc ∧ ∀ x t, f x t = x) ∨ ∃ g caps, each = .func (.func g) #[] caps ∧ (∀ args w, Sem.run Try.prog (callFunc g args) w = .ok (.enter g args) w) ∧
    ∀ (x : σ) (r : Res) (t : Tm) (A : Option Addr) (c : Nat) (M : List Nat) (w : World), R x r → sz x ≤ 2000 → (∀ b ∈ M, b < w.heap.size) → r.holds w → r.ids.Nodup → AR A c t.args (r.ids ++ M) w → G (r.ids ++ M) w →
      Calls Try.prog g (#[.agg #[.int .i64 t.kind, .string t.name, .int .i64 t.int, .int .u64 t.re, .int .u64 t.im, .slice A t.args.length c]] ++ caps) w fun e w' => (∃ v, e = .returned v) ∧ ∃ r', R (f x t) r' ∧ St M r.ids w w' [r'] fun _ _ => True)

/-- What walk answers. -/
def RetW {σ : Type} (M : List Nat) (f : σ → Tm → σ) (R : σ → Res → Prop) (t : Tm) (x0 : σ) (r0 : Res) (w : World) (e : Ending) (w' : World) : Prop :=
  ∃ n d er x r, e = .returned (.tuple #[.int .i64 n, .int .i64 d, .int .i64 er]) ∧ (chkG f t 1 0 0 x0 = .ok (n, d, x) ∧ er = 0 ∨ chkG f t 1 0 0 x0 = .error er ∧ er ≠ 0 ∧ n = 0 ∧ d = 0) ∧ R x r ∧ St M r0.ids w w' [r] fun _ _ => True

theorem chkS_nil {σ : Type} (f : σ → Tm → σ) (c m : Int) (x : σ) : chkS f [] c m x = .ok (c, m, x) := rfl

theorem neq_nil (w : World) : Sem.run Try.prog (binOp .neq 86 .nilFunc .nilFunc) w = .ok (.bool false) w := rfl
theorem neq_fn (g : FuncId) (caps : Array Value) (w : World) : Sem.run Try.prog (binOp .neq 86 (.func (.func g) #[] caps) .nilFunc) w = .ok (.bool true) w := rfl

theorem kids_len {t : Tm} {d : Int} (h : oneE t = 0) : (kids t d).length ≤ 20 := by
  cases t with
  | mk k s n r i l =>
    simp only [kids]
    by_cases hk : k = 5
    · rw [if_pos hk]; simpa [Tm.args] using oneE_args h hk
    · rw [if_neg hk]; simp
theorem kids_mem {t : Tm} {d : Int} {p : Tm × Int} (h : p ∈ kids t d) : p.2 = d := by
  cases t with
  | mk k s n r i l =>
    simp only [kids] at h
    by_cases hk : k = 5
    · rw [if_pos hk] at h; obtain ⟨a, _, rfl⟩ := List.mem_map.1 h; rfl
    · rw [if_neg hk] at h; cases h

structure WG (σ : Type) where
  st : List (Tm × Int)
  c : Int
  m : Int
  x : σ
/-- What holds at the label. -/
def WJ {σ : Type} (G : List Nat → World → Prop) (each : Value) (f : σ → Tm → σ) (R : σ → Res → Prop) (sz : σ → Nat) (t : Tm) (A : Option Addr) (c : Nat) (x0 : σ) (r0 : Res) (M : List Nat) (w0 : World) (b2 : Nat) (y : WG σ) (a : Act) (w : World) : Prop :=
  ∃ v xs junk e0 r, Frame 47 [.agg #[.int .i64 t.kind, .string t.name, .int .i64 t.int, .int .u64 t.re, .int .u64 t.im, .slice A t.args.length c], each, .pointer (some ⟨b2, 0, none⟩), undef, .int .i64 y.c, .int .i64 y.m, e0, v, junk] a ∧
    R y.x r ∧ St M r0.ids w0 w [.row v y.st.length xs 103 7, r] (fun M w => AtR xs y.st.reverse M w ∧ G M w) ∧ chkS f y.st y.c y.m y.x = chkG f t 1 0 0 x0 ∧ 0 ≤ y.c ∧ y.c ≤ 2000 ∧ 0 ≤ y.m ∧ y.m ≤ 500 ∧ (∀ p ∈ y.st, 1 ≤ p.2 ∧ p.2 ≤ 501) ∧ y.st.length ≤ 1 + 20 * y.c.toNat ∧ sz y.x ≤ y.c.toNat

theorem walk_spec {σ : Type} (G : List Nat → World → Prop) (each : Value) (f : σ → Tm → σ) (R : σ → Res → Prop) (sz : σ → Nat) (hE : EachOk G each f R sz) (t : Tm) (A : Option Addr) (c : Nat) (x0 : σ) (r0 : Res) (hR0 : R x0 r0) (hsz0 : sz x0 = 0) (hRn : r0.ids.Nodup) (M : List Nat) (w0 : World) (hM : ∀ b ∈ M, b < w0.heap.size)
    (hR : r0.holds w0) (hA : AR A c t.args (r0.ids ++ M) w0) (hG : G (r0.ids ++ M) w0) :
    Calls Try.prog 49 #[.agg #[.int .i64 t.kind, .string t.name, .int .i64 t.int, .int .u64 t.re, .int .u64 t.im, .slice A t.args.length c], each] w0 (RetW M f R t x0 r0 w0) := by
  have H := St.startR hM (hE.1.and (AR.stab A c t.args)) hR hRn ⟨hG, hA⟩
  clear hG hA
  go_enter Try.func49, Try.ntmps49
  go_wp2_with (first | ((with_reducible refine wpl_runx_d 2 rfl ?_ ?_); (focus exact rfl); refine ⟨_, runs_box H rfl rfl, ?_⟩; clear H; rintro _ w ⟨b2, rfl, hE, H⟩; clear hE) | ((with_reducible refine wpl_runx_d 11 rfl ?_ ?_); (focus exact rfl); refine ⟨_, by apply runs_buildSlice H; iterate 10 rfl, ?_⟩; clear H; rintro _ w ⟨b11, rfl, hE, H⟩; clear hE) | ((with_reducible refine wpl_runx_d 8 rfl ?_ ?_); (focus exact rfl); refine ⟨_, runs_alloc H rfl rfl rfl, ?_⟩; clear H; rintro _ w ⟨b8, rfl, hE, H⟩; clear hE) | ((with_reducible refine wpl_runx ?_ ?_); (focus exact rfl); refine ⟨_, runs_load H 0 rfl rfl rfl rfl rfl, ?_⟩; rintro _ _ ⟨rfl, rfl⟩) | ((with_reducible refine wpl_runx ?_ ?_); (focus exact rfl); refine ⟨_, runs_load H 1 rfl rfl rfl rfl rfl, ?_⟩; rintro _ _ ⟨rfl, rfl⟩) | ((with_reducible refine wpl_runx ?_ ?_); (focus exact rfl); refine ⟨_, runs_load H 2 rfl rfl rfl rfl rfl, ?_⟩; rintro _ _ ⟨rfl, rfl⟩) | ((with_reducible refine wpl_runx ?_ ?_); (focus exact rfl); refine ⟨_, runs_store H 0 rfl rfl rfl rfl rfl rfl rfl rfl rfl, ?_⟩; clear H; rintro _ w ⟨rfl, hE, H⟩; clear hE) | ((with_reducible refine wpl_runx ?_ ?_); (focus exact rfl); refine ⟨_, runs_store H 1 rfl rfl rfl rfl rfl rfl rfl rfl rfl, ?_⟩; clear H; rintro _ w ⟨rfl, hE, H⟩; clear hE) | ((with_reducible refine wpl_runx ?_ ?_); (focus exact rfl); refine ⟨_, runs_store H 2 rfl rfl rfl rfl rfl rfl rfl rfl rfl, ?_⟩; clear H; rintro _ w ⟨rfl, hE, H⟩; clear hE))
  refine wp_scope_ghost 0 (WJ G each f R sz t A c x0 r0 M w0 b2) (fun y => szS y.st) rfl ?_ ?_
  · rintro ⟨st, c, m, x⟩ a w ⟨v, xs, junk, e0, r, ⟨rest, rfl, hr⟩, hRx, HS, hc, hc0, hc1, hm0, hm1, hd, hlen, hsz⟩
    simp only at HS hc hc0 hc1 hm0 hm1 hd hlen hsz
    simp only [List.cons_append, List.nil_append]
    clear H
    have H := HS; clear HS
    obtain ⟨_, rest1, rfl, hr1⟩ := list_open hr; clear hr; obtain ⟨_, rest2, rfl, hr2⟩ := list_open hr1; clear hr1; obtain ⟨_, rest3, rfl, hr3⟩ := list_open hr2; clear hr2; obtain ⟨_, rest4, rfl, hr4⟩ := list_open hr3; clear hr3; obtain ⟨_, rest5, rfl, hr5⟩ := list_open hr4; clear hr4; obtain ⟨_, rest6, rfl, hr6⟩ := list_open hr5; clear hr5; obtain ⟨_, rest7, rfl, hr7⟩ := list_open hr6; clear hr6; obtain ⟨_, rest8, rfl, hr8⟩ := list_open hr7; clear hr7; obtain ⟨_, rest9, rfl, hr9⟩ := list_open hr8; clear hr8; obtain ⟨_, rest10, rfl, hr10⟩ := list_open hr9; clear hr9; obtain ⟨_, rest11, rfl, hr11⟩ := list_open hr10; clear hr10; obtain ⟨_, rest12, rfl, hr12⟩ := list_open hr11; clear hr11; obtain ⟨_, rest13, rfl, hr13⟩ := list_open hr12; clear hr12; obtain ⟨_, rest14, rfl, hr14⟩ := list_open hr13; clear hr13; obtain ⟨_, rest15, rfl, hr15⟩ := list_open hr14; clear hr14; obtain ⟨_, rest16, rfl, hr16⟩ := list_open hr15; clear hr15; obtain ⟨_, rest17, rfl, hr17⟩ := list_open hr16; clear hr16; obtain ⟨_, rest18, rfl, hr18⟩ := list_open hr17; clear hr17; obtain ⟨_, rest19, rfl, hr19⟩ := list_open hr18; clear hr18; obtain ⟨_, rest20, rfl, hr20⟩ := list_open hr19; clear hr19; obtain ⟨_, rest21, rfl, hr21⟩ := list_open hr20; clear hr20; obtain ⟨_, rest22, rfl, hr22⟩ := list_open hr21; clear hr21; obtain ⟨_, rest23, rfl, hr23⟩ := list_open hr22; clear hr22; obtain ⟨_, rest24, rfl, hr24⟩ := list_open hr23; clear hr23; obtain ⟨_, rest25, rfl, hr25⟩ := list_open hr24; clear hr24; obtain ⟨_, rest26, rfl, hr26⟩ := list_open hr25; clear hr25; obtain ⟨_, rest27, rfl, hr27⟩ := list_open hr26; clear hr26; obtain ⟨_, rest28, rfl, hr28⟩ := list_open hr27; clear hr27; obtain ⟨_, rest29, rfl, hr29⟩ := list_open hr28; clear hr28; obtain ⟨_, rest30, rfl, hr30⟩ := list_open hr29; clear hr29; obtain ⟨_, rest31, rfl, hr31⟩ := list_open hr30; clear hr30; obtain ⟨_, rest32, rfl, hr32⟩ := list_open hr31; clear hr31; obtain ⟨_, rest33, rfl, hr33⟩ := list_open hr32; clear hr32; obtain ⟨_, rest34, rfl, hr34⟩ := list_open hr33; clear hr33; obtain ⟨_, rest35, rfl, hr35⟩ := list_open hr34; clear hr34; obtain ⟨_, rest36, rfl, hr36⟩ := list_open hr35; clear hr35; obtain ⟨_, rest37, rfl, hr37⟩ := list_open hr36; clear hr36; obtain ⟨_, rest38, rfl, hr38⟩ := list_open hr37; clear hr37; obtain ⟨_, rest39, rfl, hr39⟩ := list_open hr38; clear hr38; obtain ⟨_, rest40, rfl, hr40⟩ := list_open hr39; clear hr39; obtain ⟨_, rest41, rfl, hr41⟩ := list_open hr40; clear hr40; obtain ⟨_, rest42, rfl, hr42⟩ := list_open hr41; clear hr41; obtain ⟨_, rest43, rfl, hr43⟩ := list_open hr42; clear hr42; obtain ⟨_, rest44, rfl, hr44⟩ := list_open hr43; clear hr43; obtain ⟨_, rest45, rfl, hr45⟩ := list_open hr44; clear hr44; obtain ⟨_, rest46, rfl, hr46⟩ := list_open hr45; clear hr45; obtain ⟨_, rest47, rfl, hr47⟩ := list_open hr46; clear hr46; obtain rfl := List.eq_nil_of_length_eq_zero hr47; clear hr47
    cases st with
    | nil =>
      obtain ⟨A1, c1, rfl⟩ : ∃ A c, v = .slice A 0 c := by rcases (H.getRow (k := 0) rfl).2 with ⟨h, _⟩ | ⟨g, cap, cur, h, _⟩ <;> exact ⟨_, _, h⟩
      go_wp2_with (first | ((with_reducible refine wpl_runx_d 2 rfl ?_ ?_); (focus exact rfl); refine ⟨_, runs_box H rfl rfl, ?_⟩; clear H; rintro _ w ⟨b2, rfl, hE, H⟩; clear hE) | ((with_reducible refine wpl_runx_d 11 rfl ?_ ?_); (focus exact rfl); refine ⟨_, by apply runs_buildSlice H; iterate 10 rfl, ?_⟩; clear H; rintro _ w ⟨b11, rfl, hE, H⟩; clear hE) | ((with_reducible refine wpl_runx_d 8 rfl ?_ ?_); (focus exact rfl); refine ⟨_, runs_alloc H rfl rfl rfl, ?_⟩; clear H; rintro _ w ⟨b8, rfl, hE, H⟩; clear hE) | ((with_reducible refine wpl_runx ?_ ?_); (focus exact rfl); refine ⟨_, runs_load H 0 rfl rfl rfl rfl rfl, ?_⟩; rintro _ _ ⟨rfl, rfl⟩) | ((with_reducible refine wpl_runx ?_ ?_); (focus exact rfl); refine ⟨_, runs_load H 1 rfl rfl rfl rfl rfl, ?_⟩; rintro _ _ ⟨rfl, rfl⟩) | ((with_reducible refine wpl_runx ?_ ?_); (focus exact rfl); refine ⟨_, runs_load H 2 rfl rfl rfl rfl rfl, ?_⟩; rintro _ _ ⟨rfl, rfl⟩) | ((with_reducible refine wpl_runx ?_ ?_); (focus exact rfl); refine ⟨_, runs_store H 0 rfl rfl rfl rfl rfl rfl rfl rfl rfl, ?_⟩; clear H; rintro _ w ⟨rfl, hE, H⟩; clear hE) | ((with_reducible refine wpl_runx ?_ ?_); (focus exact rfl); refine ⟨_, runs_store H 1 rfl rfl rfl rfl rfl rfl rfl rfl rfl, ?_⟩; clear H; rintro _ w ⟨rfl, hE, H⟩; clear hE) | ((with_reducible refine wpl_runx ?_ ?_); (focus exact rfl); refine ⟨_, runs_store H 2 rfl rfl rfl rfl rfl rfl rfl rfl rfl, ?_⟩; clear H; rintro _ w ⟨rfl, hE, H⟩; clear hE))
      go_ret3
      exact ⟨c, m, 0, x, r, rfl, .inl ⟨hc.symm, rfl⟩, hRx, (H.drop 0 rfl).weaken (fun _ => trivial) (Stab.const _)⟩
    | cons p st =>
      obtain ⟨t1, d⟩ := p
      obtain ⟨g, cap, rfl, hcap, hgl, hcell⟩ := H.rowCells (k := 0) rfl (by simp)
      have hF := H.fact.1
      rw [List.reverse_cons] at hF
      obtain ⟨A1, c1, hcs, hA1, hX1⟩ := AtR.last hF
      rw [List.length_reverse] at hcs hX1
      replace H := (H.add hA1 (AR.stab _ _ _)).add hX1 (AtR.stab _ _)
      have HC : ∀ j u, [Value.int .i64 t1.kind, .string t1.name, .int .i64 t1.int, .int .u64 t1.re, .int .u64 t1.im, .slice A1 t1.args.length c1, .int .i64 d][j]? = some u → w.cell? ⟨g, st.length * 7 + j, none⟩ = some u := fun j u hj => hcell _ _ (hcs j u hj)
      clear hF hcs hA1 hX1 hcell
      replace HC := Lib.hid HC
      have hd1 := hd (t1, d) (by simp)
      simp only at hd1
      simp only [List.length_cons] at H hlen
      have hlt : st.length ≤ 40020 := by omega
      simp only [List.length_cons] at hcap
      have hcap2 : (st.length : Int) ≤ cap := by omega
      by_cases h1 : c = 2000
      · subst h1
        go_wp2_with (first | ((with_reducible refine wpl_runx_d 2 rfl ?_ ?_); (focus exact rfl); refine ⟨_, runs_box H rfl rfl, ?_⟩; clear H; rintro _ w ⟨b2, rfl, hE, H⟩; clear hE) | ((with_reducible refine wpl_runx_d 11 rfl ?_ ?_); (focus exact rfl); refine ⟨_, by apply runs_buildSlice H; iterate 10 rfl, ?_⟩; clear H; rintro _ w ⟨b11, rfl, hE, H⟩; clear hE) | ((with_reducible refine wpl_runx_d 8 rfl ?_ ?_); (focus exact rfl); refine ⟨_, runs_alloc H rfl rfl rfl, ?_⟩; clear H; rintro _ w ⟨b8, rfl, hE, H⟩; clear hE) | ((with_reducible refine wpl_runx ?_ ?_); (focus exact rfl); refine ⟨_, runs_load H 0 rfl rfl rfl rfl rfl, ?_⟩; rintro _ _ ⟨rfl, rfl⟩) | ((with_reducible refine wpl_runx ?_ ?_); (focus exact rfl); refine ⟨_, runs_load H 1 rfl rfl rfl rfl rfl, ?_⟩; rintro _ _ ⟨rfl, rfl⟩) | ((with_reducible refine wpl_runx ?_ ?_); (focus exact rfl); refine ⟨_, runs_load H 2 rfl rfl rfl rfl rfl, ?_⟩; rintro _ _ ⟨rfl, rfl⟩) | ((with_reducible refine wpl_runx ?_ ?_); (focus exact rfl); refine ⟨_, runs_store H 0 rfl rfl rfl rfl rfl rfl rfl rfl rfl, ?_⟩; clear H; rintro _ w ⟨rfl, hE, H⟩; clear hE) | ((with_reducible refine wpl_runx ?_ ?_); (focus exact rfl); refine ⟨_, runs_store H 1 rfl rfl rfl rfl rfl rfl rfl rfl rfl, ?_⟩; clear H; rintro _ w ⟨rfl, hE, H⟩; clear hE) | ((with_reducible refine wpl_runx ?_ ?_); (focus exact rfl); refine ⟨_, runs_store H 2 rfl rfl rfl rfl rfl rfl rfl rfl rfl, ?_⟩; clear H; rintro _ w ⟨rfl, hE, H⟩; clear hE) | ((with_reducible refine wpl_runx ?_ ?_); (focus exact rfl); refine ⟨_, runs_load_at rfl rfl rfl HC.out rfl, ?_⟩; rintro _ _ ⟨rfl, rfl⟩))
        go_ret3
        exact ⟨0, 0, 3, x, r, rfl, .inr ⟨by rw [← hc, chkS_step]; simp, by decide, rfl, rfl⟩, hRx, (((H.drop 0 rfl).drop 0 rfl).weaken (fun _ => trivial) (Stab.const _))⟩
      have e1 : (c == 2000) = false := by simpa using h1
      by_cases h2 : 500 < d
      · go_wp2_with (first | ((with_reducible refine wpl_runx_d 2 rfl ?_ ?_); (focus exact rfl); refine ⟨_, runs_box H rfl rfl, ?_⟩; clear H; rintro _ w ⟨b2, rfl, hE, H⟩; clear hE) | ((with_reducible refine wpl_runx_d 11 rfl ?_ ?_); (focus exact rfl); refine ⟨_, by apply runs_buildSlice H; iterate 10 rfl, ?_⟩; clear H; rintro _ w ⟨b11, rfl, hE, H⟩; clear hE) | ((with_reducible refine wpl_runx_d 8 rfl ?_ ?_); (focus exact rfl); refine ⟨_, runs_alloc H rfl rfl rfl, ?_⟩; clear H; rintro _ w ⟨b8, rfl, hE, H⟩; clear hE) | ((with_reducible refine wpl_runx ?_ ?_); (focus exact rfl); refine ⟨_, runs_load H 0 rfl rfl rfl rfl rfl, ?_⟩; rintro _ _ ⟨rfl, rfl⟩) | ((with_reducible refine wpl_runx ?_ ?_); (focus exact rfl); refine ⟨_, runs_load H 1 rfl rfl rfl rfl rfl, ?_⟩; rintro _ _ ⟨rfl, rfl⟩) | ((with_reducible refine wpl_runx ?_ ?_); (focus exact rfl); refine ⟨_, runs_load H 2 rfl rfl rfl rfl rfl, ?_⟩; rintro _ _ ⟨rfl, rfl⟩) | ((with_reducible refine wpl_runx ?_ ?_); (focus exact rfl); refine ⟨_, runs_store H 0 rfl rfl rfl rfl rfl rfl rfl rfl rfl, ?_⟩; clear H; rintro _ w ⟨rfl, hE, H⟩; clear hE) | ((with_reducible refine wpl_runx ?_ ?_); (focus exact rfl); refine ⟨_, runs_store H 1 rfl rfl rfl rfl rfl rfl rfl rfl rfl, ?_⟩; clear H; rintro _ w ⟨rfl, hE, H⟩; clear hE) | ((with_reducible refine wpl_runx ?_ ?_); (focus exact rfl); refine ⟨_, runs_store H 2 rfl rfl rfl rfl rfl rfl rfl rfl rfl, ?_⟩; clear H; rintro _ w ⟨rfl, hE, H⟩; clear hE) | ((with_reducible refine wpl_runx ?_ ?_); (focus exact rfl); refine ⟨_, runs_load_at rfl rfl rfl HC.out rfl, ?_⟩; rintro _ _ ⟨rfl, rfl⟩))
        go_ret3
        exact ⟨0, 0, 3, x, r, rfl, .inr ⟨by rw [← hc, chkS_step, if_pos (.inr h2)], by decide, rfl, rfl⟩, hRx, (((H.drop 0 rfl).drop 0 rfl).weaken (fun _ => trivial) (Stab.const _))⟩
      by_cases h3 : oneE t1 = 0
      · have e3 : (oneE t1 == 0) = true := by simpa using h3
        have hk20 : t1.kind = 5 → t1.args.length ≤ 1000000 := fun h => Nat.le_trans (oneE_args h3 h) (by decide)
        have hn1 := neq_nil
        obtain ⟨hG, hfsz, hE⟩ := hE
        have hfs := hfsz x t1
        obtain ⟨rfl, hfx⟩ | ⟨eg, caps, rfl, hcf, hEach⟩ := hE
        · have hx := hfx x t1
          go_wp2_with (first | ((with_reducible refine wpl_runx_d 2 rfl ?_ ?_); (focus exact rfl); refine ⟨_, runs_box H rfl rfl, ?_⟩; clear H; rintro _ w ⟨b2, rfl, hE, H⟩; clear hE) | ((with_reducible refine wpl_runx_d 11 rfl ?_ ?_); (focus exact rfl); refine ⟨_, by apply runs_buildSlice H; iterate 10 rfl, ?_⟩; clear H; rintro _ w ⟨b11, rfl, hE, H⟩; clear hE) | ((with_reducible refine wpl_runx_d 8 rfl ?_ ?_); (focus exact rfl); refine ⟨_, runs_alloc H rfl rfl rfl, ?_⟩; clear H; rintro _ w ⟨b8, rfl, hE, H⟩; clear hE) | ((with_reducible refine wpl_runx ?_ ?_); (focus exact rfl); refine ⟨_, runs_load H 0 rfl rfl rfl rfl rfl, ?_⟩; rintro _ _ ⟨rfl, rfl⟩) | ((with_reducible refine wpl_runx ?_ ?_); (focus exact rfl); refine ⟨_, runs_load H 1 rfl rfl rfl rfl rfl, ?_⟩; rintro _ _ ⟨rfl, rfl⟩) | ((with_reducible refine wpl_runx ?_ ?_); (focus exact rfl); refine ⟨_, runs_load H 2 rfl rfl rfl rfl rfl, ?_⟩; rintro _ _ ⟨rfl, rfl⟩) | ((with_reducible refine wpl_runx ?_ ?_); (focus exact rfl); refine ⟨_, runs_store H 0 rfl rfl rfl rfl rfl rfl rfl rfl rfl, ?_⟩; clear H; rintro _ w ⟨rfl, hE, H⟩; clear hE) | ((with_reducible refine wpl_runx ?_ ?_); (focus exact rfl); refine ⟨_, runs_store H 1 rfl rfl rfl rfl rfl rfl rfl rfl rfl, ?_⟩; clear H; rintro _ w ⟨rfl, hE, H⟩; clear hE) | ((with_reducible refine wpl_runx ?_ ?_); (focus exact rfl); refine ⟨_, runs_store H 2 rfl rfl rfl rfl rfl rfl rfl rfl rfl, ?_⟩; clear H; rintro _ w ⟨rfl, hE, H⟩; clear hE) | ((with_reducible refine wpl_runx ?_ ?_); (focus exact rfl); refine ⟨_, runs_load_at rfl rfl rfl HC.out rfl, ?_⟩; rintro _ _ ⟨rfl, rfl⟩) | (refine (one_spec t1 A1 c1 _).mono ?_; rintro _ w ⟨rfl, hE⟩; replace H := H.step hE; clear hE) | (replace H := H.shrink 1 rfl st.length (by omega) (fun r => rfl); refine (push_spec t1 A1 c1 d _ st.length _ st.reverse _ _ (H.restLt 1 rfl) hk20 (by omega) (by omega) (H.getRow (k := 1) rfl) (H.rest (k := 1) rfl).1.2 (H.rest (k := 1) rfl).2).mono ?_; rintro _ w ⟨v2, n2, xs2, rfl, hn2, h⟩; replace H := H.callF 1 rfl h (fun r => rfl); clear h) | go_step3)
          all_goals
            have hnl : n2 = (kids t1 (d + 1) ++ st).length := by
              have h1 := (H.getRow (k := 1) rfl).1
              rw [CellsL.length _ _ H.fact.2] at h1
              simp only [List.length_append, List.length_reverse] at h1 ⊢
              omega
            have hk1 := kids_len (d := d + 1) h3
            subst hnl
            refine ⟨rfl, ⟨kids t1 (d + 1) ++ st, c + 1, _, x⟩, ⟨_, _, _, _, _, ⟨_, rfl, rfl⟩, hRx, ((H.drop 0 rfl).weaken (fun h => ⟨by simpa using h.2, h.1.1.1.2⟩) ((AtR.stab _ _).and hG)), ?_, by simp only; omega, by simp only; omega, by simp only; omega, by simp only; omega, ?_, ?_, ?_⟩, szS_step t1 d (d + 1) st⟩
            · simp only
              rw [← hc, chkS_step, if_neg (by simp [h1, h2]), if_neg (by simp [h3])]
              rw [hx]; congr 1
              omega
            · intro p hp
              simp only at hp
              rcases List.mem_append.1 hp with hp | hp
              · have := kids_mem hp; omega
              · exact hd p (by simp [hp])
            · simp only [List.length_append]; omega
            · simp only; omega

        · have hn2 := neq_fn eg caps
          go_wp2_with (first | ((with_reducible refine wpl_runx_d 2 rfl ?_ ?_); (focus exact rfl); refine ⟨_, runs_box H rfl rfl, ?_⟩; clear H; rintro _ w ⟨b2, rfl, hE, H⟩; clear hE) | ((with_reducible refine wpl_runx_d 11 rfl ?_ ?_); (focus exact rfl); refine ⟨_, by apply runs_buildSlice H; iterate 10 rfl, ?_⟩; clear H; rintro _ w ⟨b11, rfl, hE, H⟩; clear hE) | ((with_reducible refine wpl_runx_d 8 rfl ?_ ?_); (focus exact rfl); refine ⟨_, runs_alloc H rfl rfl rfl, ?_⟩; clear H; rintro _ w ⟨b8, rfl, hE, H⟩; clear hE) | ((with_reducible refine wpl_runx ?_ ?_); (focus exact rfl); refine ⟨_, runs_load H 0 rfl rfl rfl rfl rfl, ?_⟩; rintro _ _ ⟨rfl, rfl⟩) | ((with_reducible refine wpl_runx ?_ ?_); (focus exact rfl); refine ⟨_, runs_load H 1 rfl rfl rfl rfl rfl, ?_⟩; rintro _ _ ⟨rfl, rfl⟩) | ((with_reducible refine wpl_runx ?_ ?_); (focus exact rfl); refine ⟨_, runs_load H 2 rfl rfl rfl rfl rfl, ?_⟩; rintro _ _ ⟨rfl, rfl⟩) | ((with_reducible refine wpl_runx ?_ ?_); (focus exact rfl); refine ⟨_, runs_store H 0 rfl rfl rfl rfl rfl rfl rfl rfl rfl, ?_⟩; clear H; rintro _ w ⟨rfl, hE, H⟩; clear hE) | ((with_reducible refine wpl_runx ?_ ?_); (focus exact rfl); refine ⟨_, runs_store H 1 rfl rfl rfl rfl rfl rfl rfl rfl rfl, ?_⟩; clear H; rintro _ w ⟨rfl, hE, H⟩; clear hE) | ((with_reducible refine wpl_runx ?_ ?_); (focus exact rfl); refine ⟨_, runs_store H 2 rfl rfl rfl rfl rfl rfl rfl rfl rfl, ?_⟩; clear H; rintro _ w ⟨rfl, hE, H⟩; clear hE) | ((with_reducible refine wpl_runx ?_ ?_); (focus exact rfl); refine ⟨_, runs_load_at rfl rfl rfl HC.out rfl, ?_⟩; rintro _ _ ⟨rfl, rfl⟩) | (refine (one_spec t1 A1 c1 _).mono ?_; rintro _ w ⟨rfl, hE⟩; replace H := H.step hE; clear hE) | (refine (hEach x r t1 A1 c1 _ _ hRx (by omega) (H.restLt 2 rfl) (H.holds _ (by simp)) (H.nodupAt (k := 2) rfl) (H.rest (k := 2) rfl).1.2 (H.rest (k := 2) rfl).1.1.2).mono ?_; rintro _ w ⟨⟨_, rfl⟩, r', hRx', h⟩; replace H := H.call 2 rfl h (fun r => rfl); clear h) | (replace H := H.shrink 1 rfl st.length (by omega) (fun r => rfl); refine (push_spec t1 A1 c1 d _ st.length _ st.reverse _ _ (H.restLt 1 rfl) hk20 (by omega) (by omega) (H.getRow (k := 1) rfl) (H.rest (k := 1) rfl).1.2 (H.rest (k := 1) rfl).2).mono ?_; rintro _ w ⟨v2, n2, xs2, rfl, hn2, h⟩; replace H := H.callF 1 rfl h (fun r => rfl); clear h) | go_step3)
          all_goals
            have hnl : n2 = (kids t1 (d + 1) ++ st).length := by
              have h1 := (H.getRow (k := 1) rfl).1
              rw [CellsL.length _ _ H.fact.2] at h1
              simp only [List.length_append, List.length_reverse] at h1 ⊢
              omega
            have hk1 := kids_len (d := d + 1) h3
            subst hnl
            refine ⟨rfl, ⟨kids t1 (d + 1) ++ st, c + 1, _, f x t1⟩, ⟨_, _, _, _, _, ⟨_, rfl, rfl⟩, hRx', ((H.drop 0 rfl).weaken (fun h => ⟨by simpa using h.2, h.1.1.1.2⟩) ((AtR.stab _ _).and hG)), ?_, by simp only; omega, by simp only; omega, by simp only; omega, by simp only; omega, ?_, ?_, ?_⟩, szS_step t1 d (d + 1) st⟩
            · simp only
              rw [← hc, chkS_step, if_neg (by simp [h1, h2]), if_neg (by simp [h3])]
              congr 1
              omega
            · intro p hp
              simp only at hp
              rcases List.mem_append.1 hp with hp | hp
              · have := kids_mem hp; omega
              · exact hd p (by simp [hp])
            · simp only [List.length_append]; omega
            · simp only; omega

      · have e3 : (oneE t1 == 0) = false := by simpa using h3
        go_wp2_with (first | ((with_reducible refine wpl_runx_d 2 rfl ?_ ?_); (focus exact rfl); refine ⟨_, runs_box H rfl rfl, ?_⟩; clear H; rintro _ w ⟨b2, rfl, hE, H⟩; clear hE) | ((with_reducible refine wpl_runx_d 11 rfl ?_ ?_); (focus exact rfl); refine ⟨_, by apply runs_buildSlice H; iterate 10 rfl, ?_⟩; clear H; rintro _ w ⟨b11, rfl, hE, H⟩; clear hE) | ((with_reducible refine wpl_runx_d 8 rfl ?_ ?_); (focus exact rfl); refine ⟨_, runs_alloc H rfl rfl rfl, ?_⟩; clear H; rintro _ w ⟨b8, rfl, hE, H⟩; clear hE) | ((with_reducible refine wpl_runx ?_ ?_); (focus exact rfl); refine ⟨_, runs_load H 0 rfl rfl rfl rfl rfl, ?_⟩; rintro _ _ ⟨rfl, rfl⟩) | ((with_reducible refine wpl_runx ?_ ?_); (focus exact rfl); refine ⟨_, runs_load H 1 rfl rfl rfl rfl rfl, ?_⟩; rintro _ _ ⟨rfl, rfl⟩) | ((with_reducible refine wpl_runx ?_ ?_); (focus exact rfl); refine ⟨_, runs_load H 2 rfl rfl rfl rfl rfl, ?_⟩; rintro _ _ ⟨rfl, rfl⟩) | ((with_reducible refine wpl_runx ?_ ?_); (focus exact rfl); refine ⟨_, runs_store H 0 rfl rfl rfl rfl rfl rfl rfl rfl rfl, ?_⟩; clear H; rintro _ w ⟨rfl, hE, H⟩; clear hE) | ((with_reducible refine wpl_runx ?_ ?_); (focus exact rfl); refine ⟨_, runs_store H 1 rfl rfl rfl rfl rfl rfl rfl rfl rfl, ?_⟩; clear H; rintro _ w ⟨rfl, hE, H⟩; clear hE) | ((with_reducible refine wpl_runx ?_ ?_); (focus exact rfl); refine ⟨_, runs_store H 2 rfl rfl rfl rfl rfl rfl rfl rfl rfl, ?_⟩; clear H; rintro _ w ⟨rfl, hE, H⟩; clear hE) | ((with_reducible refine wpl_runx ?_ ?_); (focus exact rfl); refine ⟨_, runs_load_at rfl rfl rfl HC.out rfl, ?_⟩; rintro _ _ ⟨rfl, rfl⟩) | (refine (one_spec t1 A1 c1 _).mono ?_; rintro _ w ⟨rfl, hE⟩; replace H := H.step hE; clear hE))
        go_ret3
        exact ⟨0, 0, oneE t1, x, r, rfl, .inr ⟨by rw [← hc, chkS_step, if_neg (by simp [h1, h2]), if_pos h3], h3, rfl, rfl⟩, hRx, (((H.drop 0 rfl).drop 0 rfl).weaken (fun _ => trivial) (Stab.const _))⟩
  · intro key
    go_wp2_with (first | ((with_reducible refine wpl_runx_d 2 rfl ?_ ?_); (focus exact rfl); refine ⟨_, runs_box H rfl rfl, ?_⟩; clear H; rintro _ w ⟨b2, rfl, hE, H⟩; clear hE) | ((with_reducible refine wpl_runx_d 11 rfl ?_ ?_); (focus exact rfl); refine ⟨_, by apply runs_buildSlice H; iterate 10 rfl, ?_⟩; clear H; rintro _ w ⟨b11, rfl, hE, H⟩; clear hE) | ((with_reducible refine wpl_runx_d 8 rfl ?_ ?_); (focus exact rfl); refine ⟨_, runs_alloc H rfl rfl rfl, ?_⟩; clear H; rintro _ w ⟨b8, rfl, hE, H⟩; clear hE) | ((with_reducible refine wpl_runx ?_ ?_); (focus exact rfl); refine ⟨_, runs_load H 0 rfl rfl rfl rfl rfl, ?_⟩; rintro _ _ ⟨rfl, rfl⟩) | ((with_reducible refine wpl_runx ?_ ?_); (focus exact rfl); refine ⟨_, runs_load H 1 rfl rfl rfl rfl rfl, ?_⟩; rintro _ _ ⟨rfl, rfl⟩) | ((with_reducible refine wpl_runx ?_ ?_); (focus exact rfl); refine ⟨_, runs_load H 2 rfl rfl rfl rfl rfl, ?_⟩; rintro _ _ ⟨rfl, rfl⟩) | ((with_reducible refine wpl_runx ?_ ?_); (focus exact rfl); refine ⟨_, runs_store H 0 rfl rfl rfl rfl rfl rfl rfl rfl rfl, ?_⟩; clear H; rintro _ w ⟨rfl, hE, H⟩; clear hE) | ((with_reducible refine wpl_runx ?_ ?_); (focus exact rfl); refine ⟨_, runs_store H 1 rfl rfl rfl rfl rfl rfl rfl rfl rfl, ?_⟩; clear H; rintro _ w ⟨rfl, hE, H⟩; clear hE) | ((with_reducible refine wpl_runx ?_ ?_); (focus exact rfl); refine ⟨_, runs_store H 2 rfl rfl rfl rfl rfl rfl rfl rfl rfl, ?_⟩; clear H; rintro _ w ⟨rfl, hE, H⟩; clear hE))
    refine wp_label ?_
    dsimp only [Exit.then]
    apply_assumption
    refine key ⟨[(t, 1)], 0, 0, x0⟩ _ _ ⟨_, _, _, _, _, ⟨_, rfl, rfl⟩, hR0, ((H.rowOf 0 rfl 1 7 rfl (by decide) (fun r => rfl)).drop 1 rfl).weaken ?_ ((AtR.stab _ _).and hE.1), by simp only [chkS]; cases chkG f t 1 0 0 x0 <;> rfl, by simp, by simp, by simp, by simp, by simp, by simp, by simp [hsz0]⟩
    exact fun h => ⟨by have := (AtR.nil _ _).snoc (k := t.kind) (s := t.name) (n := t.int) (r := t.re) (i := t.im) 1 h.2; rw [Tm.eta] at this; exact this, h.1⟩
end Go.Proofs.Ytgopldabdheehaa
