/- Walks: Items. -/
import Derived.Test.YtfjdekiobggdoaaTList
import Derived.Test.YtfjdekiobggdoaaMore
import Derived.Test.YtfjdekiobggdoaaSame
namespace Go.Proofs.Ytfjdekiobggdoaa
open Go.RowKit
set_option linter.unusedVariables false
set_option linter.unusedSimpArgs false
set_option maxRecDepth 20000
set_option maxHeartbeats 2000000

mutual
theorem szT_turn : ∀ t : Tm, okT t → szT (turnT varT t) = nT t
  | .mk k s n r i l, h => by
    unfold okT at h
    by_cases h5 : k = 5
    · subst h5
      have e : turnT varT (.mk 5 s n r i l) = .mk 5 s 0 0 0 (turnL varT l) := by simp [turnT]
      rw [e, szT, nT, if_pos rfl, szL_turn l (h.2 rfl)]
    · rw [nT, if_neg h5]
      unfold turnT varT
      split
      · simp [szT, szL]
      · split
        · simp [szT, szL]
        · split
          · simp [szT, szL]
          · split
            · simp [szT, szL]
            · simp [szT, szL]
theorem szL_turn : ∀ l : List Tm, okL l → szL (turnL varT l) = nL l
  | [], _ => by simp [turnL, szL, nL]
  | t :: ts, h => by
    unfold okL at h
    rw [turnL, szL, nL, szT_turn t h.1, szL_turn ts h.2]
end
theorem szT_plain (t : Tm) : szT (plainE t) ≤ 2000 := by
  unfold plainE
  split
  · rename_i h
    obtain ⟨a, b, _⟩ := mayE_ok.1 h
    rw [szT_turn t a]; exact b
  · simp [Tm.zero, szT, szL]

/-- A list's items, if it is one. -/
def itemsL : Tm → Option (List Tm)
  | .mk k s n r i l => if k = 2 ∧ s.toList = [91, 93] then some [] else match l with
    | [a, b] => if k = 5 ∧ s.toList = [46] then (itemsL b).map (a :: ·) else none
    | _ => none
def itemsE (t : Tm) : Option (List Tm) := itemsL (plainE t)
/-- A call answers terms, and whether. -/
def RetO (M : List Nat) (w : World) (o : Option (List Tm)) (e : Ending) (w' : World) : Prop :=
  ∃ A c, e = .returned (.tuple #[.slice A (o.getD []).length c, .bool o.isSome]) ∧ AR A c (o.getD []) M w' ∧ Ext [] w w'

/-- An own row's value: a slice of that length. -/
theorem St.rowVal0 {M X : List Nat} {w0 w : World} {L : List Res} {F : List Nat → World → Prop} (H : St M X w0 w L F) {k : Nat} {v : Value} {n : Nat} {xs : List Value} {ty sz : Nat} (hk : L[k]? = some (.row v n xs ty sz)) : ∃ a c, v = .slice a n c := by
  rcases (H.getRow hk).2 with ⟨rfl, h0⟩ | ⟨g, cap, cur, rfl, _⟩
  · subst h0; exact ⟨_, _, rfl⟩
  · exact ⟨_, _, rfl⟩

theorem TsR.snocT {xs : List Value} {l : List Tm} {M : List Nat} {w : World} (h : TsR xs l M w) {t : Tm} {A : Option Addr} {c : Nat} (ha : AR A c t.args M w) :
    TsR (xs ++ [.int .i64 t.kind, .string t.name, .int .i64 t.int, .int .u64 t.re, .int .u64 t.im, .slice A t.args.length c]) (l ++ [t]) M w := by
  cases t with | mk k s n r i a => exact h.snoc ha

structure IG where
  t : Tm
  acc : List Tm
def IJ (t : Tm) (A : Option Addr) (c : Nat) (M : List Nat) (w0 : World) (b1 : Nat) (y : IG) (a : Act) (w : World) : Prop :=
  ∃ v xs A1 c1 len, Frame 38 [.agg #[.int .i64 (t).kind, .string (t).name, .int .i64 (t).int, .int .u64 (t).re, .int .u64 (t).im, .slice A (t).args.length c], .pointer (some ⟨b1, 0, none⟩), .slice none 0 0, .bool false, v] a ∧
    St M [] w0 w [.row v len xs 25 6, .obj b1 (.cells #[.int .i64 (y.t).kind, .string (y.t).name, .int .i64 (y.t).int, .int .u64 (y.t).re, .int .u64 (y.t).im, .slice A1 (y.t).args.length c1] 25 (0, 0))] (fun M w => AR A1 c1 y.t.args M w ∧ TsR xs y.acc M w) ∧ (itemsL y.t).map (y.acc ++ ·) = itemsE t ∧ szT y.t + y.acc.length ≤ szT (plainE t) ∧ len = y.acc.length

theorem Items_spec (t : Tm) (A : Option Addr) (c : Nat) (M : List Nat) (w0 : World) (hM : ∀ b ∈ M, b < w0.heap.size) (hA : AR A c t.args M w0) :
    Calls Try.prog 14 #[.agg #[.int .i64 (t).kind, .string (t).name, .int .i64 (t).int, .int .u64 (t).re, .int .u64 (t).im, .slice A (t).args.length c]] w0 (RetO M w0 (itemsE t)) := by
  have H := St.start hM (AR.stab A c t.args) hA
  clear hA
  have hsz := szT_plain t
  go_enter Try.func14, Try.ntmps14
  go_wp2_with (first | ((with_reducible refine wpl_runx_d 1 rfl ?_ ?_); (focus exact rfl); refine ⟨_, runs_box H rfl rfl, ?_⟩; clear H; rintro _ w ⟨b1, rfl, hE, H⟩; clear hE) | ((with_reducible refine wpl_runx_d 37 rfl ?_ ?_); (focus exact rfl); refine ⟨_, by apply runs_buildSlice H; iterate 10 rfl, ?_⟩; clear H; rintro _ w ⟨b37, rfl, hE, H⟩; clear hE) | ((with_reducible refine wpl_runx ?_ ?_); (focus exact rfl); refine ⟨_, runs_load H 0 rfl rfl rfl rfl rfl, ?_⟩; rintro _ _ ⟨rfl, rfl⟩) | ((with_reducible refine wpl_runx ?_ ?_); (focus exact rfl); refine ⟨_, runs_load H 1 rfl rfl rfl rfl rfl, ?_⟩; rintro _ _ ⟨rfl, rfl⟩) | ((with_reducible refine wpl_runx ?_ ?_); (focus exact rfl); refine ⟨_, runs_load H 2 rfl rfl rfl rfl rfl, ?_⟩; rintro _ _ ⟨rfl, rfl⟩) | ((with_reducible refine wpl_runx ?_ ?_); (focus exact rfl); refine ⟨_, runs_store H 0 rfl rfl rfl rfl rfl rfl rfl rfl rfl, ?_⟩; clear H; rintro _ w ⟨rfl, hE, H⟩; clear hE) | ((with_reducible refine wpl_runx ?_ ?_); (focus exact rfl); refine ⟨_, runs_store H 1 rfl rfl rfl rfl rfl rfl rfl rfl rfl, ?_⟩; clear H; rintro _ w ⟨rfl, hE, H⟩; clear hE) | ((with_reducible refine wpl_runx ?_ ?_); (focus exact rfl); refine ⟨_, runs_store H 2 rfl rfl rfl rfl rfl rfl rfl rfl rfl, ?_⟩; clear H; rintro _ w ⟨rfl, hE, H⟩; clear hE))
  refine wp_scope_ghost 0 (IJ t A c M w0 b1) (fun y => szT y.t) rfl ?_ ?_
  · rintro ⟨t1, acc⟩ a w ⟨v, xs, A1, c1, len, ⟨rest, rfl, hr⟩, HS, hi, hsz1, hlen⟩
    simp only at HS hi hsz1 hlen
    subst hlen
    simp only [List.cons_append, List.nil_append]
    clear H
    have H := HS; clear HS
    obtain ⟨_, rest1, rfl, hr1⟩ := list_open hr; clear hr; obtain ⟨_, rest2, rfl, hr2⟩ := list_open hr1; clear hr1; obtain ⟨_, rest3, rfl, hr3⟩ := list_open hr2; clear hr2; obtain ⟨_, rest4, rfl, hr4⟩ := list_open hr3; clear hr3; obtain ⟨_, rest5, rfl, hr5⟩ := list_open hr4; clear hr4; obtain ⟨_, rest6, rfl, hr6⟩ := list_open hr5; clear hr5; obtain ⟨_, rest7, rfl, hr7⟩ := list_open hr6; clear hr6; obtain ⟨_, rest8, rfl, hr8⟩ := list_open hr7; clear hr7; obtain ⟨_, rest9, rfl, hr9⟩ := list_open hr8; clear hr8; obtain ⟨_, rest10, rfl, hr10⟩ := list_open hr9; clear hr9; obtain ⟨_, rest11, rfl, hr11⟩ := list_open hr10; clear hr10; obtain ⟨_, rest12, rfl, hr12⟩ := list_open hr11; clear hr11; obtain ⟨_, rest13, rfl, hr13⟩ := list_open hr12; clear hr12; obtain ⟨_, rest14, rfl, hr14⟩ := list_open hr13; clear hr13; obtain ⟨_, rest15, rfl, hr15⟩ := list_open hr14; clear hr14; obtain ⟨_, rest16, rfl, hr16⟩ := list_open hr15; clear hr15; obtain ⟨_, rest17, rfl, hr17⟩ := list_open hr16; clear hr16; obtain ⟨_, rest18, rfl, hr18⟩ := list_open hr17; clear hr17; obtain ⟨_, rest19, rfl, hr19⟩ := list_open hr18; clear hr18; obtain ⟨_, rest20, rfl, hr20⟩ := list_open hr19; clear hr19; obtain ⟨_, rest21, rfl, hr21⟩ := list_open hr20; clear hr20; obtain ⟨_, rest22, rfl, hr22⟩ := list_open hr21; clear hr21; obtain ⟨_, rest23, rfl, hr23⟩ := list_open hr22; clear hr22; obtain ⟨_, rest24, rfl, hr24⟩ := list_open hr23; clear hr23; obtain ⟨_, rest25, rfl, hr25⟩ := list_open hr24; clear hr24; obtain ⟨_, rest26, rfl, hr26⟩ := list_open hr25; clear hr25; obtain ⟨_, rest27, rfl, hr27⟩ := list_open hr26; clear hr26; obtain ⟨_, rest28, rfl, hr28⟩ := list_open hr27; clear hr27; obtain ⟨_, rest29, rfl, hr29⟩ := list_open hr28; clear hr28; obtain ⟨_, rest30, rfl, hr30⟩ := list_open hr29; clear hr29; obtain ⟨_, rest31, rfl, hr31⟩ := list_open hr30; clear hr30; obtain ⟨_, rest32, rfl, hr32⟩ := list_open hr31; clear hr31; obtain ⟨_, rest33, rfl, hr33⟩ := list_open hr32; clear hr32; obtain ⟨_, rest34, rfl, hr34⟩ := list_open hr33; clear hr33; obtain ⟨_, rest35, rfl, hr35⟩ := list_open hr34; clear hr34; obtain ⟨_, rest36, rfl, hr36⟩ := list_open hr35; clear hr35; obtain ⟨_, rest37, rfl, hr37⟩ := list_open hr36; clear hr36; obtain ⟨_, rest38, rfl, hr38⟩ := list_open hr37; clear hr37; obtain rfl := List.eq_nil_of_length_eq_zero hr38; clear hr38
    obtain ⟨a4, k4, rfl⟩ := H.rowVal0 (k := 0) rfl
    cases t1 with
    | mk k s n r i l =>
    simp only [Tm.kind, Tm.name, Tm.int, Tm.re, Tm.im, Tm.args] at H
    by_cases h2 : k = 2
    · subst h2
      cases en : (s.toList == [91, 93]) with
      | true =>
        have hn : itemsL (.mk 2 s n r i l) = some [] := by unfold itemsL; rw [if_pos ⟨rfl, by simpa using en⟩]
        have hi' : itemsE t = some acc := by rw [← hi, hn]; simp
        obtain ⟨A5, c5, e5, H'⟩ := H.sealT 0 (l := acc) rfl (fun M w h => h.2)
        simp only [Value.slice.injEq, true_and] at e5
        obtain ⟨rfl, rfl⟩ := e5
        clear H
        have H := H'; clear H'
        simp only [List.eraseIdx_zero, List.tail_cons] at H
        go_wp2_with (first | ((with_reducible refine wpl_runx_d 1 rfl ?_ ?_); (focus exact rfl); refine ⟨_, runs_box H rfl rfl, ?_⟩; clear H; rintro _ w ⟨b1, rfl, hE, H⟩; clear hE) | ((with_reducible refine wpl_runx_d 37 rfl ?_ ?_); (focus exact rfl); refine ⟨_, by apply runs_buildSlice H; iterate 10 rfl, ?_⟩; clear H; rintro _ w ⟨b37, rfl, hE, H⟩; clear hE) | ((with_reducible refine wpl_runx ?_ ?_); (focus exact rfl); refine ⟨_, runs_load H 0 rfl rfl rfl rfl rfl, ?_⟩; rintro _ _ ⟨rfl, rfl⟩) | ((with_reducible refine wpl_runx ?_ ?_); (focus exact rfl); refine ⟨_, runs_load H 1 rfl rfl rfl rfl rfl, ?_⟩; rintro _ _ ⟨rfl, rfl⟩) | ((with_reducible refine wpl_runx ?_ ?_); (focus exact rfl); refine ⟨_, runs_load H 2 rfl rfl rfl rfl rfl, ?_⟩; rintro _ _ ⟨rfl, rfl⟩) | ((with_reducible refine wpl_runx ?_ ?_); (focus exact rfl); refine ⟨_, runs_store H 0 rfl rfl rfl rfl rfl rfl rfl rfl rfl, ?_⟩; clear H; rintro _ w ⟨rfl, hE, H⟩; clear hE) | ((with_reducible refine wpl_runx ?_ ?_); (focus exact rfl); refine ⟨_, runs_store H 1 rfl rfl rfl rfl rfl rfl rfl rfl rfl, ?_⟩; clear H; rintro _ w ⟨rfl, hE, H⟩; clear hE) | ((with_reducible refine wpl_runx ?_ ?_); (focus exact rfl); refine ⟨_, runs_store H 2 rfl rfl rfl rfl rfl rfl rfl rfl rfl, ?_⟩; clear H; rintro _ w ⟨rfl, hE, H⟩; clear hE))
        go_ret2
        exact ⟨a4, k4, by rw [hi']; rfl, by rw [hi']; exact H.out.2, H.ext⟩
      | false =>
        have hn : itemsL (.mk 2 s n r i l) = none := by
          unfold itemsL
          rw [if_neg (by rintro ⟨_, h⟩; simp [h] at en)]
          split
          · rw [if_neg (by simp)]
          · rfl
        go_wp2_with (first | ((with_reducible refine wpl_runx_d 1 rfl ?_ ?_); (focus exact rfl); refine ⟨_, runs_box H rfl rfl, ?_⟩; clear H; rintro _ w ⟨b1, rfl, hE, H⟩; clear hE) | ((with_reducible refine wpl_runx_d 37 rfl ?_ ?_); (focus exact rfl); refine ⟨_, by apply runs_buildSlice H; iterate 10 rfl, ?_⟩; clear H; rintro _ w ⟨b37, rfl, hE, H⟩; clear hE) | ((with_reducible refine wpl_runx ?_ ?_); (focus exact rfl); refine ⟨_, runs_load H 0 rfl rfl rfl rfl rfl, ?_⟩; rintro _ _ ⟨rfl, rfl⟩) | ((with_reducible refine wpl_runx ?_ ?_); (focus exact rfl); refine ⟨_, runs_load H 1 rfl rfl rfl rfl rfl, ?_⟩; rintro _ _ ⟨rfl, rfl⟩) | ((with_reducible refine wpl_runx ?_ ?_); (focus exact rfl); refine ⟨_, runs_load H 2 rfl rfl rfl rfl rfl, ?_⟩; rintro _ _ ⟨rfl, rfl⟩) | ((with_reducible refine wpl_runx ?_ ?_); (focus exact rfl); refine ⟨_, runs_store H 0 rfl rfl rfl rfl rfl rfl rfl rfl rfl, ?_⟩; clear H; rintro _ w ⟨rfl, hE, H⟩; clear hE) | ((with_reducible refine wpl_runx ?_ ?_); (focus exact rfl); refine ⟨_, runs_store H 1 rfl rfl rfl rfl rfl rfl rfl rfl rfl, ?_⟩; clear H; rintro _ w ⟨rfl, hE, H⟩; clear hE) | ((with_reducible refine wpl_runx ?_ ?_); (focus exact rfl); refine ⟨_, runs_store H 2 rfl rfl rfl rfl rfl rfl rfl rfl rfl, ?_⟩; clear H; rintro _ w ⟨rfl, hE, H⟩; clear hE))
        go_ret2
        exact ⟨none, 0, by rw [← hi, hn]; rfl, by rw [← hi, hn]; exact AR.nil _ _ _ _, H.ext⟩
    have e2 : (k == 2) = false := by simpa using h2
    by_cases h5 : k = 5
    · subst h5
      cases es : (s.toList == [46]) with
      | false =>
        have es' : (s.toList != [46]) = true := by simp [bne, es]
        have hn : itemsL (.mk 5 s n r i l) = none := by
          unfold itemsL
          rw [if_neg (by simp)]
          split
          · rw [if_neg (by rintro ⟨_, h⟩; simp [h] at es)]
          · rfl
        go_wp2_with (first | ((with_reducible refine wpl_runx_d 1 rfl ?_ ?_); (focus exact rfl); refine ⟨_, runs_box H rfl rfl, ?_⟩; clear H; rintro _ w ⟨b1, rfl, hE, H⟩; clear hE) | ((with_reducible refine wpl_runx_d 37 rfl ?_ ?_); (focus exact rfl); refine ⟨_, by apply runs_buildSlice H; iterate 10 rfl, ?_⟩; clear H; rintro _ w ⟨b37, rfl, hE, H⟩; clear hE) | ((with_reducible refine wpl_runx ?_ ?_); (focus exact rfl); refine ⟨_, runs_load H 0 rfl rfl rfl rfl rfl, ?_⟩; rintro _ _ ⟨rfl, rfl⟩) | ((with_reducible refine wpl_runx ?_ ?_); (focus exact rfl); refine ⟨_, runs_load H 1 rfl rfl rfl rfl rfl, ?_⟩; rintro _ _ ⟨rfl, rfl⟩) | ((with_reducible refine wpl_runx ?_ ?_); (focus exact rfl); refine ⟨_, runs_load H 2 rfl rfl rfl rfl rfl, ?_⟩; rintro _ _ ⟨rfl, rfl⟩) | ((with_reducible refine wpl_runx ?_ ?_); (focus exact rfl); refine ⟨_, runs_store H 0 rfl rfl rfl rfl rfl rfl rfl rfl rfl, ?_⟩; clear H; rintro _ w ⟨rfl, hE, H⟩; clear hE) | ((with_reducible refine wpl_runx ?_ ?_); (focus exact rfl); refine ⟨_, runs_store H 1 rfl rfl rfl rfl rfl rfl rfl rfl rfl, ?_⟩; clear H; rintro _ w ⟨rfl, hE, H⟩; clear hE) | ((with_reducible refine wpl_runx ?_ ?_); (focus exact rfl); refine ⟨_, runs_store H 2 rfl rfl rfl rfl rfl rfl rfl rfl rfl, ?_⟩; clear H; rintro _ w ⟨rfl, hE, H⟩; clear hE))
        go_ret2
        exact ⟨none, 0, by rw [← hi, hn]; rfl, by rw [← hi, hn]; exact AR.nil _ _ _ _, H.ext⟩
      | true =>
        have es' : (s.toList != [46]) = false := by simp [bne, es]
        by_cases hl : l.length = 2
        · obtain ⟨p, q, rfl⟩ : ∃ p q, l = [p, q] := by
            match l, hl with
            | [p, q], _ => exact ⟨p, q, rfl⟩
          obtain ⟨b, o, A2, c2, rfl, hm0, hl0, hc0, hA0⟩ := H.fact.1.at 0 (by simp)
          obtain ⟨b', o', A3, c3, eb, hm1, hl1, hc1, hA1⟩ := H.fact.1.at 1 (by simp)
          cases eb
          have C0 : CellF b (o + 0 * 6) _ _ _ := ⟨hm0, hl0, hc0⟩
          have C1 : CellF b (o + 1 * 6) _ _ _ := ⟨hm1, hl1, hc1⟩
          replace H := (((H.add hA0 (AR.stab _ _ _)).add hA1 (AR.stab _ _ _)).add C0 (CellF.stab _ _ _)).add C1 (CellF.stab _ _ _)
          clear hm0 hl0 hc0 hA0 hm1 hl1 hc1 hA1 C0 C1
          have hz : szT (.mk 5 s n r i [p, q]) = 1 + (szT p + (szT q + 0)) := by simp [szT, szL]
          have hac : acc.length ≤ 2000 := by omega
          go_wp2_with (first | ((with_reducible refine wpl_runx_d 1 rfl ?_ ?_); (focus exact rfl); refine ⟨_, runs_box H rfl rfl, ?_⟩; clear H; rintro _ w ⟨b1, rfl, hE, H⟩; clear hE) | ((with_reducible refine wpl_runx_d 37 rfl ?_ ?_); (focus exact rfl); refine ⟨_, by apply runs_buildSlice H; iterate 10 rfl, ?_⟩; clear H; rintro _ w ⟨b37, rfl, hE, H⟩; clear hE) | ((with_reducible refine wpl_runx ?_ ?_); (focus exact rfl); refine ⟨_, runs_load H 0 rfl rfl rfl rfl rfl, ?_⟩; rintro _ _ ⟨rfl, rfl⟩) | ((with_reducible refine wpl_runx ?_ ?_); (focus exact rfl); refine ⟨_, runs_load H 1 rfl rfl rfl rfl rfl, ?_⟩; rintro _ _ ⟨rfl, rfl⟩) | ((with_reducible refine wpl_runx ?_ ?_); (focus exact rfl); refine ⟨_, runs_load H 2 rfl rfl rfl rfl rfl, ?_⟩; rintro _ _ ⟨rfl, rfl⟩) | ((with_reducible refine wpl_runx ?_ ?_); (focus exact rfl); refine ⟨_, runs_load H 3 rfl rfl rfl rfl rfl, ?_⟩; rintro _ _ ⟨rfl, rfl⟩) | ((with_reducible refine wpl_runx ?_ ?_); (focus exact rfl); refine ⟨_, runs_store H 0 rfl rfl rfl rfl rfl rfl rfl rfl rfl, ?_⟩; clear H; rintro _ w ⟨rfl, hE, H⟩; clear hE) | ((with_reducible refine wpl_runx ?_ ?_); (focus exact rfl); refine ⟨_, runs_store H 1 rfl rfl rfl rfl rfl rfl rfl rfl rfl, ?_⟩; clear H; rintro _ w ⟨rfl, hE, H⟩; clear hE) | ((with_reducible refine wpl_runx ?_ ?_); (focus exact rfl); refine ⟨_, runs_store H 2 rfl rfl rfl rfl rfl rfl rfl rfl rfl, ?_⟩; clear H; rintro _ w ⟨rfl, hE, H⟩; clear hE) | ((with_reducible refine wpl_runx ?_ ?_); (focus exact rfl); refine ⟨_, runs_store H 3 rfl rfl rfl rfl rfl rfl rfl rfl rfl, ?_⟩; clear H; rintro _ w ⟨rfl, hE, H⟩; clear hE) | ((with_reducible refine wpl_runx ?_ ?_); (focus exact rfl); refine ⟨_, runs_load_at rfl rfl rfl H.fact.1.2.2.2 rfl, ?_⟩; rintro _ _ ⟨rfl, rfl⟩) | ((with_reducible refine wpl_runx ?_ ?_); (focus exact rfl); refine ⟨_, runs_load_at rfl rfl rfl H.fact.2.2.2 rfl, ?_⟩; rintro _ _ ⟨rfl, rfl⟩) | ((with_reducible refine wpl_runx ?_ ?_); (focus exact rfl); refine ⟨_, runs_append1 H 1 rfl rfl rfl rfl rfl Try.infoT rfl (by decide) 0 rfl rfl rfl (by decide) (by unfold maxLen; omega) (by omega) (fun r => rfl), ?_⟩; clear H; rintro _ w ⟨g', cap', rfl, hE, H⟩; clear hE))
          refine wp_goto ?_
          show Exit.jump 0 (fun a' w' => ∃ y, IJ t A c M w0 b1 y a' w' ∧ szT y.t < szT (.mk 5 s n r i [p, q])) _ _ _ _
          have hn : itemsL (.mk 5 s n r i [p, q]) = (itemsL q).map (p :: ·) := by rw [itemsL, if_neg (by simp)]; simp; intro h; simp [h] at es
          have hp : 1 ≤ szT p := by cases p; unfold szT; omega
          have H' := (H.drop 0 rfl).weaken (G := fun M w => AR A3 c3 q.args M w ∧ TsR (xs ++ [.int .i64 p.kind, .string p.name, .int .i64 p.int, .int .u64 p.re, .int .u64 p.im, .slice A2 p.args.length c2]) (acc ++ [p]) M w) (fun h => ⟨h.1.1.2, TsR.snocT h.1.1.1.1.2 h.1.1.1.2⟩) ((AR.stab _ _ _).and (TsR.stab _ _))
          refine ⟨rfl, ⟨q, acc ++ [p]⟩, ⟨_, _, A3, c3, _, ⟨_, rfl, rfl⟩, H', ?_, ?_, ?_⟩, ?_⟩
          · rw [← hi, hn]
            cases itemsL q <;> simp
          · simp only [List.length_append, List.length_cons, List.length_nil]
            omega
          · simp
          · simp only
            omega
        · have el : ((l.length : Int) != 2) = true := by simp; omega
          have hn : itemsL (.mk 5 s n r i l) = none := by
            unfold itemsL
            rw [if_neg (by simp)]
            split
            · simp at hl
            · rfl
          go_wp2_with (first | ((with_reducible refine wpl_runx_d 1 rfl ?_ ?_); (focus exact rfl); refine ⟨_, runs_box H rfl rfl, ?_⟩; clear H; rintro _ w ⟨b1, rfl, hE, H⟩; clear hE) | ((with_reducible refine wpl_runx_d 37 rfl ?_ ?_); (focus exact rfl); refine ⟨_, by apply runs_buildSlice H; iterate 10 rfl, ?_⟩; clear H; rintro _ w ⟨b37, rfl, hE, H⟩; clear hE) | ((with_reducible refine wpl_runx ?_ ?_); (focus exact rfl); refine ⟨_, runs_load H 0 rfl rfl rfl rfl rfl, ?_⟩; rintro _ _ ⟨rfl, rfl⟩) | ((with_reducible refine wpl_runx ?_ ?_); (focus exact rfl); refine ⟨_, runs_load H 1 rfl rfl rfl rfl rfl, ?_⟩; rintro _ _ ⟨rfl, rfl⟩) | ((with_reducible refine wpl_runx ?_ ?_); (focus exact rfl); refine ⟨_, runs_load H 2 rfl rfl rfl rfl rfl, ?_⟩; rintro _ _ ⟨rfl, rfl⟩) | ((with_reducible refine wpl_runx ?_ ?_); (focus exact rfl); refine ⟨_, runs_store H 0 rfl rfl rfl rfl rfl rfl rfl rfl rfl, ?_⟩; clear H; rintro _ w ⟨rfl, hE, H⟩; clear hE) | ((with_reducible refine wpl_runx ?_ ?_); (focus exact rfl); refine ⟨_, runs_store H 1 rfl rfl rfl rfl rfl rfl rfl rfl rfl, ?_⟩; clear H; rintro _ w ⟨rfl, hE, H⟩; clear hE) | ((with_reducible refine wpl_runx ?_ ?_); (focus exact rfl); refine ⟨_, runs_store H 2 rfl rfl rfl rfl rfl rfl rfl rfl rfl, ?_⟩; clear H; rintro _ w ⟨rfl, hE, H⟩; clear hE))
          go_ret2
          exact ⟨none, 0, by rw [← hi, hn]; rfl, by rw [← hi, hn]; exact AR.nil _ _ _ _, H.ext⟩
    · have e5 : (k == 5) = false := by simpa using h5
      have e5' : (k != 5) = true := by simpa using h5
      have hn : itemsL (.mk k s n r i l) = none := by
        unfold itemsL
        rw [if_neg (by simp [h2])]
        split
        · rw [if_neg (by simp [h5])]
        · rfl
      go_wp2_with (first | ((with_reducible refine wpl_runx_d 1 rfl ?_ ?_); (focus exact rfl); refine ⟨_, runs_box H rfl rfl, ?_⟩; clear H; rintro _ w ⟨b1, rfl, hE, H⟩; clear hE) | ((with_reducible refine wpl_runx_d 37 rfl ?_ ?_); (focus exact rfl); refine ⟨_, by apply runs_buildSlice H; iterate 10 rfl, ?_⟩; clear H; rintro _ w ⟨b37, rfl, hE, H⟩; clear hE) | ((with_reducible refine wpl_runx ?_ ?_); (focus exact rfl); refine ⟨_, runs_load H 0 rfl rfl rfl rfl rfl, ?_⟩; rintro _ _ ⟨rfl, rfl⟩) | ((with_reducible refine wpl_runx ?_ ?_); (focus exact rfl); refine ⟨_, runs_load H 1 rfl rfl rfl rfl rfl, ?_⟩; rintro _ _ ⟨rfl, rfl⟩) | ((with_reducible refine wpl_runx ?_ ?_); (focus exact rfl); refine ⟨_, runs_load H 2 rfl rfl rfl rfl rfl, ?_⟩; rintro _ _ ⟨rfl, rfl⟩) | ((with_reducible refine wpl_runx ?_ ?_); (focus exact rfl); refine ⟨_, runs_store H 0 rfl rfl rfl rfl rfl rfl rfl rfl rfl, ?_⟩; clear H; rintro _ w ⟨rfl, hE, H⟩; clear hE) | ((with_reducible refine wpl_runx ?_ ?_); (focus exact rfl); refine ⟨_, runs_store H 1 rfl rfl rfl rfl rfl rfl rfl rfl rfl, ?_⟩; clear H; rintro _ w ⟨rfl, hE, H⟩; clear hE) | ((with_reducible refine wpl_runx ?_ ?_); (focus exact rfl); refine ⟨_, runs_store H 2 rfl rfl rfl rfl rfl rfl rfl rfl rfl, ?_⟩; clear H; rintro _ w ⟨rfl, hE, H⟩; clear hE))
      go_ret2
      exact ⟨none, 0, by rw [← hi, hn]; rfl, by rw [← hi, hn]; exact AR.nil _ _ _ _, H.ext⟩
  · intro key
    go_wp2_with (first | ((with_reducible refine wpl_runx_d 1 rfl ?_ ?_); (focus exact rfl); refine ⟨_, runs_box H rfl rfl, ?_⟩; clear H; rintro _ w ⟨b1, rfl, hE, H⟩; clear hE) | ((with_reducible refine wpl_runx_d 37 rfl ?_ ?_); (focus exact rfl); refine ⟨_, by apply runs_buildSlice H; iterate 10 rfl, ?_⟩; clear H; rintro _ w ⟨b37, rfl, hE, H⟩; clear hE) | ((with_reducible refine wpl_runx ?_ ?_); (focus exact rfl); refine ⟨_, runs_load H 0 rfl rfl rfl rfl rfl, ?_⟩; rintro _ _ ⟨rfl, rfl⟩) | ((with_reducible refine wpl_runx ?_ ?_); (focus exact rfl); refine ⟨_, runs_load H 1 rfl rfl rfl rfl rfl, ?_⟩; rintro _ _ ⟨rfl, rfl⟩) | ((with_reducible refine wpl_runx ?_ ?_); (focus exact rfl); refine ⟨_, runs_load H 2 rfl rfl rfl rfl rfl, ?_⟩; rintro _ _ ⟨rfl, rfl⟩) | ((with_reducible refine wpl_runx ?_ ?_); (focus exact rfl); refine ⟨_, runs_store H 0 rfl rfl rfl rfl rfl rfl rfl rfl rfl, ?_⟩; clear H; rintro _ w ⟨rfl, hE, H⟩; clear hE) | ((with_reducible refine wpl_runx ?_ ?_); (focus exact rfl); refine ⟨_, runs_store H 1 rfl rfl rfl rfl rfl rfl rfl rfl rfl, ?_⟩; clear H; rintro _ w ⟨rfl, hE, H⟩; clear hE) | ((with_reducible refine wpl_runx ?_ ?_); (focus exact rfl); refine ⟨_, runs_store H 2 rfl rfl rfl rfl rfl rfl rfl rfl rfl, ?_⟩; clear H; rintro _ w ⟨rfl, hE, H⟩; clear hE) | (refine (plain_spec t A c _ _ H.ltAll H.fact).mono ?_; rintro _ w ⟨A2, c2, rfl, hA2, hE⟩; replace H := (H.step hE).add hA2 (AR.stab _ _ _); clear hE hA2))
    refine wp_label ?_
    dsimp only [Exit.then]
    apply_assumption
    exact key ⟨plainE t, []⟩ _ _ ⟨_, [], _, _, 0, ⟨_, rfl, rfl⟩, (H.nilRow 25 6).weaken (fun h => ⟨h.2, TsR.nil _ _⟩) ((AR.stab _ _ _).and (TsR.stab _ _)), by simp [itemsE], by simp, rfl⟩
end Go.Proofs.Ytfjdekiobggdoaa
