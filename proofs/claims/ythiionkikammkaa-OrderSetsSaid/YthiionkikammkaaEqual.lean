/- Walks: Same, Equal of the reference. -/
import Derived.Test.YthiionkikammkaaLike
namespace Go.Proofs.Ythiionkikammkaa
open Go.RowKit
set_option linter.unusedVariables false
set_option linter.unusedSimpArgs false
set_option maxRecDepth 20000
set_option maxHeartbeats 4000000

theorem slim_of_slimA : ∀ t : Tm, slimA t → slim t
  | .mk k s n r i l, h => by
    unfold slimA at h
    unfold slim
    exact fun _ => ⟨h.1, slimL_of_slimA l h.2⟩
where slimL_of_slimA : ∀ l : List Tm, slimAL l → slimL l
  | [], _ => trivial
  | t :: ts, h => ⟨slim_of_slimA t h.1, slimL_of_slimA ts h.2⟩

def rSameE (t u : Tm) : Bool := mayE t == 0 && (mayE u == 0 && likeE t u)
theorem rSame_spec (t u : Tm) (A A' : Option Addr) (c c' : Nat) (w0 : World) (hs : slimA t) (hs' : slim u) (hA : AR A c t.args [] w0) (hA' : AR A' c' u.args [] w0) :
    Calls Try.prog 18 #[.agg #[.int .i64 t.kind, .string t.name, .int .i64 t.int, .int .u64 t.re, .int .u64 t.im, .slice A t.args.length c], .agg #[.int .i64 u.kind, .string u.name, .int .i64 u.int, .int .u64 u.re, .int .u64 u.im, .slice A' u.args.length c']] w0 (RetV w0 (.bool (rSameE t u))) := by
  have H := St.start (M := []) (by simp) ((AR.stab A c t.args).and (AR.stab A' c' u.args)) ⟨hA, hA'⟩
  clear hA hA'
  obtain ⟨E, hE⟩ : ∃ E, mayE t = E := ⟨_, rfl⟩
  obtain ⟨E', hE'⟩ : ∃ E, mayE u = E := ⟨_, rfl⟩
  obtain ⟨B, hB⟩ : ∃ B, likeE t u = B := ⟨_, rfl⟩
  have h1 : ∀ w, AR A c t.args [] w → Calls Try.prog 14 #[.agg #[.int .i64 t.kind, .string t.name, .int .i64 t.int, .int .u64 t.re, .int .u64 t.im, .slice A t.args.length c]] w (RetV w (.int .i64 E)) := fun w h => by rw [← hE]; exact rMay_spec t A c w (slim_of_slimA t hs) h
  have h2 : ∀ w, AR A' c' u.args [] w → Calls Try.prog 14 #[.agg #[.int .i64 u.kind, .string u.name, .int .i64 u.int, .int .u64 u.re, .int .u64 u.im, .slice A' u.args.length c']] w (RetV w (.int .i64 E')) := fun w h => by rw [← hE']; exact rMay_spec u A' c' w hs' h
  have h3 : ∀ w, AR A c t.args [] w → AR A' c' u.args [] w → Calls Try.prog 32 #[.agg #[.int .i64 t.kind, .string t.name, .int .i64 t.int, .int .u64 t.re, .int .u64 t.im, .slice A t.args.length c], .agg #[.int .i64 u.kind, .string u.name, .int .i64 u.int, .int .u64 u.re, .int .u64 u.im, .slice A' u.args.length c']] w (RetV w (.bool B)) := fun w h k => by rw [← hB]; exact Like_spec t u A A' c c' w hs h k
  rw [show rSameE t u = (E == 0 && (E' == 0 && B)) by unfold rSameE; rw [hE, hE', hB]]
  clear hE hE' hB
  cases e1 : (E == 0) with
  | false =>
    go_enter Try.func18, Try.ntmps18
    go_wp2_with (first | ((with_reducible refine wpl_runx_d 2 rfl ?_ ?_); (focus exact rfl); refine ⟨_, runs_box H rfl rfl, ?_⟩; clear H; rintro _ w ⟨b2, rfl, hE, H⟩; clear hE) | ((with_reducible refine wpl_runx_d 3 rfl ?_ ?_); (focus exact rfl); refine ⟨_, runs_box H rfl rfl, ?_⟩; clear H; rintro _ w ⟨b3, rfl, hE, H⟩; clear hE) | ((with_reducible refine wpl_runx ?_ ?_); (focus exact rfl); refine ⟨_, runs_load H 0 rfl rfl rfl rfl rfl, ?_⟩; rintro _ _ ⟨rfl, rfl⟩) | ((with_reducible refine wpl_runx ?_ ?_); (focus exact rfl); refine ⟨_, runs_load H 1 rfl rfl rfl rfl rfl, ?_⟩; rintro _ _ ⟨rfl, rfl⟩) | ((with_reducible refine wpl_runx ?_ ?_); (focus exact rfl); refine ⟨_, runs_store H 0 rfl rfl rfl rfl rfl rfl rfl rfl rfl, ?_⟩; clear H; rintro _ w ⟨rfl, hE, H⟩; clear hE) | ((with_reducible refine wpl_runx ?_ ?_); (focus exact rfl); refine ⟨_, runs_store H 1 rfl rfl rfl rfl rfl rfl rfl rfl rfl, ?_⟩; clear H; rintro _ w ⟨rfl, hE, H⟩; clear hE) | ((with_reducible refine Calls.mono (h1 _ ?_) ?_); (focus exact H.out.1); rintro _ w ⟨rfl, hE⟩; replace H := H.step hE; clear hE))
    go_ret
    exact ⟨rfl, H.ext⟩
  | true =>
    cases e2 : (E' == 0) with
    | false =>
      go_enter Try.func18, Try.ntmps18
      go_wp2_with (first | ((with_reducible refine wpl_runx_d 2 rfl ?_ ?_); (focus exact rfl); refine ⟨_, runs_box H rfl rfl, ?_⟩; clear H; rintro _ w ⟨b2, rfl, hE, H⟩; clear hE) | ((with_reducible refine wpl_runx_d 3 rfl ?_ ?_); (focus exact rfl); refine ⟨_, runs_box H rfl rfl, ?_⟩; clear H; rintro _ w ⟨b3, rfl, hE, H⟩; clear hE) | ((with_reducible refine wpl_runx ?_ ?_); (focus exact rfl); refine ⟨_, runs_load H 0 rfl rfl rfl rfl rfl, ?_⟩; rintro _ _ ⟨rfl, rfl⟩) | ((with_reducible refine wpl_runx ?_ ?_); (focus exact rfl); refine ⟨_, runs_load H 1 rfl rfl rfl rfl rfl, ?_⟩; rintro _ _ ⟨rfl, rfl⟩) | ((with_reducible refine wpl_runx ?_ ?_); (focus exact rfl); refine ⟨_, runs_store H 0 rfl rfl rfl rfl rfl rfl rfl rfl rfl, ?_⟩; clear H; rintro _ w ⟨rfl, hE, H⟩; clear hE) | ((with_reducible refine wpl_runx ?_ ?_); (focus exact rfl); refine ⟨_, runs_store H 1 rfl rfl rfl rfl rfl rfl rfl rfl rfl, ?_⟩; clear H; rintro _ w ⟨rfl, hE, H⟩; clear hE) | ((with_reducible refine Calls.mono (h1 _ ?_) ?_); (focus exact H.out.1); rintro _ w ⟨rfl, hE⟩; replace H := H.step hE; clear hE) | ((with_reducible refine Calls.mono (h2 _ ?_) ?_); (focus exact H.out.2); rintro _ w ⟨rfl, hE⟩; replace H := H.step hE; clear hE))
      go_ret
      exact ⟨rfl, H.ext⟩
    | true =>
      go_enter Try.func18, Try.ntmps18
      go_wp2_with (first | ((with_reducible refine wpl_runx_d 2 rfl ?_ ?_); (focus exact rfl); refine ⟨_, runs_box H rfl rfl, ?_⟩; clear H; rintro _ w ⟨b2, rfl, hE, H⟩; clear hE) | ((with_reducible refine wpl_runx_d 3 rfl ?_ ?_); (focus exact rfl); refine ⟨_, runs_box H rfl rfl, ?_⟩; clear H; rintro _ w ⟨b3, rfl, hE, H⟩; clear hE) | ((with_reducible refine wpl_runx ?_ ?_); (focus exact rfl); refine ⟨_, runs_load H 0 rfl rfl rfl rfl rfl, ?_⟩; rintro _ _ ⟨rfl, rfl⟩) | ((with_reducible refine wpl_runx ?_ ?_); (focus exact rfl); refine ⟨_, runs_load H 1 rfl rfl rfl rfl rfl, ?_⟩; rintro _ _ ⟨rfl, rfl⟩) | ((with_reducible refine wpl_runx ?_ ?_); (focus exact rfl); refine ⟨_, runs_store H 0 rfl rfl rfl rfl rfl rfl rfl rfl rfl, ?_⟩; clear H; rintro _ w ⟨rfl, hE, H⟩; clear hE) | ((with_reducible refine wpl_runx ?_ ?_); (focus exact rfl); refine ⟨_, runs_store H 1 rfl rfl rfl rfl rfl rfl rfl rfl rfl, ?_⟩; clear H; rintro _ w ⟨rfl, hE, H⟩; clear hE) | ((with_reducible refine Calls.mono (h1 _ ?_) ?_); (focus exact H.out.1); rintro _ w ⟨rfl, hE⟩; replace H := H.step hE; clear hE) | ((with_reducible refine Calls.mono (h2 _ ?_) ?_); (focus exact H.out.2); rintro _ w ⟨rfl, hE⟩; replace H := H.step hE; clear hE) | ((with_reducible refine Calls.mono (h3 _ ?_ ?_) ?_); (focus exact H.out.1); (focus exact H.out.2); rintro _ w ⟨rfl, hE⟩; replace H := H.step hE; clear hE))
      go_ret
      exact ⟨rfl, H.ext⟩

def EqualE (t u : Tm) : Bool := if t.kind = 0 ∨ u.kind = 0 then (t.kind == u.kind && (((t.args.length : Int) + (u.args.length : Int) == 0) && (t.name.toList == u.name.toList && (t.int == u.int && (t.re == u.re && t.im == u.im))))) else rSameE t u
theorem Equal_spec (t u : Tm) (A A' : Option Addr) (c c' : Nat) (w0 : World) (hs : slimA t) (hs' : slimA u) (hA : AR A c t.args [] w0) (hA' : AR A' c' u.args [] w0) :
    Calls Try.prog 33 #[.agg #[.int .i64 t.kind, .string t.name, .int .i64 t.int, .int .u64 t.re, .int .u64 t.im, .slice A t.args.length c], .agg #[.int .i64 u.kind, .string u.name, .int .i64 u.int, .int .u64 u.re, .int .u64 u.im, .slice A' u.args.length c']] w0 (RetV w0 (.bool (EqualE t u))) := by
  obtain ⟨B, hB⟩ : ∃ B, rSameE t u = B := ⟨_, rfl⟩
  have h3 : ∀ w, AR A c t.args [] w → AR A' c' u.args [] w → Calls Try.prog 18 #[.agg #[.int .i64 t.kind, .string t.name, .int .i64 t.int, .int .u64 t.re, .int .u64 t.im, .slice A t.args.length c], .agg #[.int .i64 u.kind, .string u.name, .int .i64 u.int, .int .u64 u.re, .int .u64 u.im, .slice A' u.args.length c']] w (RetV w (.bool B)) := fun w h k => by rw [← hB]; exact rSame_spec t u A A' c c' w hs (slim_of_slimA u hs') h k
  cases t with
  | mk k s n r i l =>
  cases u with
  | mk k' s' n' r' i' l' =>
  simp only [Tm.kind, Tm.name, Tm.int, Tm.re, Tm.im, Tm.args] at hA hA' h3 ⊢
  unfold slimA at hs hs'
  have hl1 := hs.1
  have hl2 := hs'.1
  have H := St.start (M := []) (by simp) ((AR.stab A c l).and (AR.stab A' c' l')) ⟨hA, hA'⟩
  clear hA hA' hs hs'
  by_cases hk : k = 0
  · subst hk
    rw [show EqualE (.mk 0 s n r i l) (.mk k' s' n' r' i' l') = ((0 : Int) == k' && (((l.length : Int) + (l'.length : Int) == 0) && (s.toList == s'.toList && (n == n' && (r == r' && i == i'))))) from if_pos (Or.inl rfl)]
    clear hB
    cases q1 : ((0 : Int) == k') with
    | false =>
      go_enter Try.func33, Try.ntmps33
      go_wp2_with (first | ((with_reducible refine wpl_runx_d 2 rfl ?_ ?_); (focus exact rfl); refine ⟨_, runs_box H rfl rfl, ?_⟩; clear H; rintro _ w ⟨b2, rfl, hE, H⟩; clear hE) | ((with_reducible refine wpl_runx_d 3 rfl ?_ ?_); (focus exact rfl); refine ⟨_, runs_box H rfl rfl, ?_⟩; clear H; rintro _ w ⟨b3, rfl, hE, H⟩; clear hE) | ((with_reducible refine wpl_runx ?_ ?_); (focus exact rfl); refine ⟨_, runs_load H 0 rfl rfl rfl rfl rfl, ?_⟩; rintro _ _ ⟨rfl, rfl⟩) | ((with_reducible refine wpl_runx ?_ ?_); (focus exact rfl); refine ⟨_, runs_load H 1 rfl rfl rfl rfl rfl, ?_⟩; rintro _ _ ⟨rfl, rfl⟩) | ((with_reducible refine wpl_runx ?_ ?_); (focus exact rfl); refine ⟨_, runs_store H 0 rfl rfl rfl rfl rfl rfl rfl rfl rfl, ?_⟩; clear H; rintro _ w ⟨rfl, hE, H⟩; clear hE) | ((with_reducible refine wpl_runx ?_ ?_); (focus exact rfl); refine ⟨_, runs_store H 1 rfl rfl rfl rfl rfl rfl rfl rfl rfl, ?_⟩; clear H; rintro _ w ⟨rfl, hE, H⟩; clear hE))
      go_ret
      exact ⟨rfl, H.ext⟩
    | true =>
    cases q2 : ((l.length : Int) + (l'.length : Int) == 0) with
    | false =>
      go_enter Try.func33, Try.ntmps33
      go_wp2_with (first | ((with_reducible refine wpl_runx_d 2 rfl ?_ ?_); (focus exact rfl); refine ⟨_, runs_box H rfl rfl, ?_⟩; clear H; rintro _ w ⟨b2, rfl, hE, H⟩; clear hE) | ((with_reducible refine wpl_runx_d 3 rfl ?_ ?_); (focus exact rfl); refine ⟨_, runs_box H rfl rfl, ?_⟩; clear H; rintro _ w ⟨b3, rfl, hE, H⟩; clear hE) | ((with_reducible refine wpl_runx ?_ ?_); (focus exact rfl); refine ⟨_, runs_load H 0 rfl rfl rfl rfl rfl, ?_⟩; rintro _ _ ⟨rfl, rfl⟩) | ((with_reducible refine wpl_runx ?_ ?_); (focus exact rfl); refine ⟨_, runs_load H 1 rfl rfl rfl rfl rfl, ?_⟩; rintro _ _ ⟨rfl, rfl⟩) | ((with_reducible refine wpl_runx ?_ ?_); (focus exact rfl); refine ⟨_, runs_store H 0 rfl rfl rfl rfl rfl rfl rfl rfl rfl, ?_⟩; clear H; rintro _ w ⟨rfl, hE, H⟩; clear hE) | ((with_reducible refine wpl_runx ?_ ?_); (focus exact rfl); refine ⟨_, runs_store H 1 rfl rfl rfl rfl rfl rfl rfl rfl rfl, ?_⟩; clear H; rintro _ w ⟨rfl, hE, H⟩; clear hE))
      go_ret
      exact ⟨rfl, H.ext⟩
    | true =>
    cases q3 : (s.toList == s'.toList) with
    | false =>
      go_enter Try.func33, Try.ntmps33
      go_wp2_with (first | ((with_reducible refine wpl_runx_d 2 rfl ?_ ?_); (focus exact rfl); refine ⟨_, runs_box H rfl rfl, ?_⟩; clear H; rintro _ w ⟨b2, rfl, hE, H⟩; clear hE) | ((with_reducible refine wpl_runx_d 3 rfl ?_ ?_); (focus exact rfl); refine ⟨_, runs_box H rfl rfl, ?_⟩; clear H; rintro _ w ⟨b3, rfl, hE, H⟩; clear hE) | ((with_reducible refine wpl_runx ?_ ?_); (focus exact rfl); refine ⟨_, runs_load H 0 rfl rfl rfl rfl rfl, ?_⟩; rintro _ _ ⟨rfl, rfl⟩) | ((with_reducible refine wpl_runx ?_ ?_); (focus exact rfl); refine ⟨_, runs_load H 1 rfl rfl rfl rfl rfl, ?_⟩; rintro _ _ ⟨rfl, rfl⟩) | ((with_reducible refine wpl_runx ?_ ?_); (focus exact rfl); refine ⟨_, runs_store H 0 rfl rfl rfl rfl rfl rfl rfl rfl rfl, ?_⟩; clear H; rintro _ w ⟨rfl, hE, H⟩; clear hE) | ((with_reducible refine wpl_runx ?_ ?_); (focus exact rfl); refine ⟨_, runs_store H 1 rfl rfl rfl rfl rfl rfl rfl rfl rfl, ?_⟩; clear H; rintro _ w ⟨rfl, hE, H⟩; clear hE))
      go_ret
      exact ⟨rfl, H.ext⟩
    | true =>
    cases q4 : (n == n') with
    | false =>
      go_enter Try.func33, Try.ntmps33
      go_wp2_with (first | ((with_reducible refine wpl_runx_d 2 rfl ?_ ?_); (focus exact rfl); refine ⟨_, runs_box H rfl rfl, ?_⟩; clear H; rintro _ w ⟨b2, rfl, hE, H⟩; clear hE) | ((with_reducible refine wpl_runx_d 3 rfl ?_ ?_); (focus exact rfl); refine ⟨_, runs_box H rfl rfl, ?_⟩; clear H; rintro _ w ⟨b3, rfl, hE, H⟩; clear hE) | ((with_reducible refine wpl_runx ?_ ?_); (focus exact rfl); refine ⟨_, runs_load H 0 rfl rfl rfl rfl rfl, ?_⟩; rintro _ _ ⟨rfl, rfl⟩) | ((with_reducible refine wpl_runx ?_ ?_); (focus exact rfl); refine ⟨_, runs_load H 1 rfl rfl rfl rfl rfl, ?_⟩; rintro _ _ ⟨rfl, rfl⟩) | ((with_reducible refine wpl_runx ?_ ?_); (focus exact rfl); refine ⟨_, runs_store H 0 rfl rfl rfl rfl rfl rfl rfl rfl rfl, ?_⟩; clear H; rintro _ w ⟨rfl, hE, H⟩; clear hE) | ((with_reducible refine wpl_runx ?_ ?_); (focus exact rfl); refine ⟨_, runs_store H 1 rfl rfl rfl rfl rfl rfl rfl rfl rfl, ?_⟩; clear H; rintro _ w ⟨rfl, hE, H⟩; clear hE))
      go_ret
      exact ⟨rfl, H.ext⟩
    | true =>
    cases q5 : (r == r') with
    | false =>
      go_enter Try.func33, Try.ntmps33
      go_wp2_with (first | ((with_reducible refine wpl_runx_d 2 rfl ?_ ?_); (focus exact rfl); refine ⟨_, runs_box H rfl rfl, ?_⟩; clear H; rintro _ w ⟨b2, rfl, hE, H⟩; clear hE) | ((with_reducible refine wpl_runx_d 3 rfl ?_ ?_); (focus exact rfl); refine ⟨_, runs_box H rfl rfl, ?_⟩; clear H; rintro _ w ⟨b3, rfl, hE, H⟩; clear hE) | ((with_reducible refine wpl_runx ?_ ?_); (focus exact rfl); refine ⟨_, runs_load H 0 rfl rfl rfl rfl rfl, ?_⟩; rintro _ _ ⟨rfl, rfl⟩) | ((with_reducible refine wpl_runx ?_ ?_); (focus exact rfl); refine ⟨_, runs_load H 1 rfl rfl rfl rfl rfl, ?_⟩; rintro _ _ ⟨rfl, rfl⟩) | ((with_reducible refine wpl_runx ?_ ?_); (focus exact rfl); refine ⟨_, runs_store H 0 rfl rfl rfl rfl rfl rfl rfl rfl rfl, ?_⟩; clear H; rintro _ w ⟨rfl, hE, H⟩; clear hE) | ((with_reducible refine wpl_runx ?_ ?_); (focus exact rfl); refine ⟨_, runs_store H 1 rfl rfl rfl rfl rfl rfl rfl rfl rfl, ?_⟩; clear H; rintro _ w ⟨rfl, hE, H⟩; clear hE))
      go_ret
      exact ⟨rfl, H.ext⟩
    | true =>
      go_enter Try.func33, Try.ntmps33
      go_wp2_with (first | ((with_reducible refine wpl_runx_d 2 rfl ?_ ?_); (focus exact rfl); refine ⟨_, runs_box H rfl rfl, ?_⟩; clear H; rintro _ w ⟨b2, rfl, hE, H⟩; clear hE) | ((with_reducible refine wpl_runx_d 3 rfl ?_ ?_); (focus exact rfl); refine ⟨_, runs_box H rfl rfl, ?_⟩; clear H; rintro _ w ⟨b3, rfl, hE, H⟩; clear hE) | ((with_reducible refine wpl_runx ?_ ?_); (focus exact rfl); refine ⟨_, runs_load H 0 rfl rfl rfl rfl rfl, ?_⟩; rintro _ _ ⟨rfl, rfl⟩) | ((with_reducible refine wpl_runx ?_ ?_); (focus exact rfl); refine ⟨_, runs_load H 1 rfl rfl rfl rfl rfl, ?_⟩; rintro _ _ ⟨rfl, rfl⟩) | ((with_reducible refine wpl_runx ?_ ?_); (focus exact rfl); refine ⟨_, runs_store H 0 rfl rfl rfl rfl rfl rfl rfl rfl rfl, ?_⟩; clear H; rintro _ w ⟨rfl, hE, H⟩; clear hE) | ((with_reducible refine wpl_runx ?_ ?_); (focus exact rfl); refine ⟨_, runs_store H 1 rfl rfl rfl rfl rfl rfl rfl rfl rfl, ?_⟩; clear H; rintro _ w ⟨rfl, hE, H⟩; clear hE))
      go_ret
      exact ⟨rfl, H.ext⟩
  have ek : (k == 0) = false := by simpa using hk
  by_cases hk' : k' = 0
  · subst hk'
    rw [show EqualE (.mk k s n r i l) (.mk 0 s' n' r' i' l') = (k == (0 : Int) && (((l.length : Int) + (l'.length : Int) == 0) && (s.toList == s'.toList && (n == n' && (r == r' && i == i'))))) from if_pos (Or.inr rfl), ek]
    clear hB
    go_enter Try.func33, Try.ntmps33
    go_wp2_with (first | ((with_reducible refine wpl_runx_d 2 rfl ?_ ?_); (focus exact rfl); refine ⟨_, runs_box H rfl rfl, ?_⟩; clear H; rintro _ w ⟨b2, rfl, hE, H⟩; clear hE) | ((with_reducible refine wpl_runx_d 3 rfl ?_ ?_); (focus exact rfl); refine ⟨_, runs_box H rfl rfl, ?_⟩; clear H; rintro _ w ⟨b3, rfl, hE, H⟩; clear hE) | ((with_reducible refine wpl_runx ?_ ?_); (focus exact rfl); refine ⟨_, runs_load H 0 rfl rfl rfl rfl rfl, ?_⟩; rintro _ _ ⟨rfl, rfl⟩) | ((with_reducible refine wpl_runx ?_ ?_); (focus exact rfl); refine ⟨_, runs_load H 1 rfl rfl rfl rfl rfl, ?_⟩; rintro _ _ ⟨rfl, rfl⟩) | ((with_reducible refine wpl_runx ?_ ?_); (focus exact rfl); refine ⟨_, runs_store H 0 rfl rfl rfl rfl rfl rfl rfl rfl rfl, ?_⟩; clear H; rintro _ w ⟨rfl, hE, H⟩; clear hE) | ((with_reducible refine wpl_runx ?_ ?_); (focus exact rfl); refine ⟨_, runs_store H 1 rfl rfl rfl rfl rfl rfl rfl rfl rfl, ?_⟩; clear H; rintro _ w ⟨rfl, hE, H⟩; clear hE))
    go_ret
    exact ⟨rfl, H.ext⟩
  have ek' : (k' == 0) = false := by simpa using hk'
  rw [show EqualE (.mk k s n r i l) (.mk k' s' n' r' i' l') = rSameE (.mk k s n r i l) (.mk k' s' n' r' i' l') from if_neg (by simp only [Tm.kind]; omega), hB]
  clear hB
  go_enter Try.func33, Try.ntmps33
  go_wp2_with (first | ((with_reducible refine wpl_runx_d 2 rfl ?_ ?_); (focus exact rfl); refine ⟨_, runs_box H rfl rfl, ?_⟩; clear H; rintro _ w ⟨b2, rfl, hE, H⟩; clear hE) | ((with_reducible refine wpl_runx_d 3 rfl ?_ ?_); (focus exact rfl); refine ⟨_, runs_box H rfl rfl, ?_⟩; clear H; rintro _ w ⟨b3, rfl, hE, H⟩; clear hE) | ((with_reducible refine wpl_runx ?_ ?_); (focus exact rfl); refine ⟨_, runs_load H 0 rfl rfl rfl rfl rfl, ?_⟩; rintro _ _ ⟨rfl, rfl⟩) | ((with_reducible refine wpl_runx ?_ ?_); (focus exact rfl); refine ⟨_, runs_load H 1 rfl rfl rfl rfl rfl, ?_⟩; rintro _ _ ⟨rfl, rfl⟩) | ((with_reducible refine wpl_runx ?_ ?_); (focus exact rfl); refine ⟨_, runs_store H 0 rfl rfl rfl rfl rfl rfl rfl rfl rfl, ?_⟩; clear H; rintro _ w ⟨rfl, hE, H⟩; clear hE) | ((with_reducible refine wpl_runx ?_ ?_); (focus exact rfl); refine ⟨_, runs_store H 1 rfl rfl rfl rfl rfl rfl rfl rfl rfl, ?_⟩; clear H; rintro _ w ⟨rfl, hE, H⟩; clear hE) | ((with_reducible refine Calls.mono (h3 _ ?_ ?_) ?_); (focus exact H.out.1); (focus exact H.out.2); rintro _ w ⟨rfl, hE⟩; replace H := H.step hE; clear hE))
  go_ret
  exact ⟨rfl, H.ext⟩

end Go.Proofs.Ythiionkikammkaa
