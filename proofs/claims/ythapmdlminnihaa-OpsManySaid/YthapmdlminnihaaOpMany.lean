/- Walks: OpsMany. -/
import Derived.Test.YthapmdlminnihaaOpSame
import Derived.Test.YthapmdlminnihaaOpM
namespace Go.Proofs.Ythapmdlminnihaa
open Go.RowKit
set_option linter.unusedVariables false
set_option linter.unusedSimpArgs false
set_option maxRecDepth 20000
set_option maxHeartbeats 4000000
/-- A string of an own slice of bytes. -/
theorem runs_ownStr {P : Program} {ev : Operand → Value} {o : Oper} {M X : List Nat} {w0 w : World} {L : List Res} {F : List Nat → World → Prop} (H : St M X w0 w L F) (k : Nat) {b n cap : Nat} {s d e : TypeId} {x : Operand} (xs : List Int) {ty : TypeId}
    (hk : L[k]? = some (.obj b (.cells (xs.map (Value.int .u8)).toArray ty (0, 0)))) (ho : o.op = .convert s d x) (hx : ev x = .slice (some ⟨b, 0, none⟩) n cap) (hn : xs.length = n)
    (hs : P.underlying s = some (.slice e)) (he : P.underlying e = some (.int .u8)) (hd : P.underlying d = some .string) : Runs P ev o w fun u w' => u = .string (strOfNums xs) ∧ w = w' := by
  refine ⟨.value (.string (strOfNums xs)), w, .string (strOfNums xs), ?_, rfl, rfl, rfl⟩
  have h := run_convert_bytes_arg (P := P) w s e hs he b 0 n cap xs hn (fun i hi => by
    refine cells_open (H.get hk) i _ ?_
    have hl : i < xs.length := by omega
    simp [List.getD, List.getElem?_eq_getElem hl]) d hd
  unfold execOp
  simp only [ho, hx, Sem.run_bind, h, Result.andThen_ok]
  rfl
theorem tabM_0 : tabM 0 = newL := rfl
theorem tabM_s (k : Nat) : tabM (k + 1) = (setO (tabM k) (opM k)).2 := rfl
theorem nmM_int (k : Nat) : strOfNums [97, 97 + (k : Int) / 26, 97 + (k : Int) % 26] = nmM k := by
  unfold nmM
  simp
attribute [local irreducible] infE placeE mayO cmpO putO setO findO newL tabM
theorem opsMany_spec (i : Int) (w0 : World) : Calls Try.prog 4 #[.int .i64 i] w0 (RetV w0 (.bool true)) := by
  have H := St.start (M := []) (w := w0) (by simp) (Stab.const True) trivial
  go_enter Try.func4, Try.ntmps4
  go_wp2_with (first | ((with_reducible refine wpl_runx_d 37 rfl ?_ ?_); (focus exact rfl); refine ⟨_, by apply runs_buildSlice H; iterate 10 rfl, ?_⟩; clear H; rintro _ w ⟨b37, rfl, hE, H⟩; clear hE) | ((with_reducible refine wpl_runx_d 8 rfl ?_ ?_); (focus exact rfl); refine ⟨_, runs_alloc H rfl rfl rfl, ?_⟩; clear H; rintro _ w ⟨b8, rfl, hE, H⟩; clear hE) | ((with_reducible refine wpl_runx_d 11 rfl ?_ ?_); (focus exact rfl); refine ⟨_, runs_alloc H rfl rfl rfl, ?_⟩; clear H; rintro _ w ⟨b11, rfl, hE, H⟩; clear hE) | ((with_reducible refine wpl_runx ?_ ?_); (focus exact rfl); refine ⟨_, runs_load H 0 rfl rfl rfl rfl rfl, ?_⟩; rintro _ _ ⟨rfl, rfl⟩) | ((with_reducible refine wpl_runx ?_ ?_); (focus exact rfl); refine ⟨_, runs_load H 1 rfl rfl rfl rfl rfl, ?_⟩; rintro _ _ ⟨rfl, rfl⟩) | ((with_reducible refine wpl_runx ?_ ?_); (focus exact rfl); refine ⟨_, runs_load H 2 rfl rfl rfl rfl rfl, ?_⟩; rintro _ _ ⟨rfl, rfl⟩) | ((with_reducible refine wpl_runx ?_ ?_); (focus exact rfl); refine ⟨_, runs_load H 3 rfl rfl rfl rfl rfl, ?_⟩; rintro _ _ ⟨rfl, rfl⟩) | ((with_reducible refine wpl_runx ?_ ?_); (focus exact rfl); refine ⟨_, runs_load_cell H rfl rfl rfl rfl, ?_⟩; rintro _ _ ⟨rfl, rfl⟩) | ((with_reducible refine wpl_runx ?_ ?_); (focus exact rfl); refine ⟨_, runs_load_cell0 H rfl rfl rfl rfl, ?_⟩; rintro _ _ ⟨rfl, rfl⟩) | ((with_reducible refine wpl_runx ?_ ?_); (focus exact rfl); refine ⟨_, runs_load_obj H rfl rfl rfl rfl, ?_⟩; rintro _ _ ⟨rfl, rfl⟩) | ((with_reducible refine wpl_runx ?_ ?_); (focus exact rfl); refine ⟨_, runs_store H 0 rfl rfl rfl rfl rfl rfl rfl rfl rfl, ?_⟩; clear H; rintro _ w ⟨rfl, hE, H⟩; clear hE) | ((with_reducible refine wpl_runx ?_ ?_); (focus exact rfl); refine ⟨_, runs_store H 1 rfl rfl rfl rfl rfl rfl rfl rfl rfl, ?_⟩; clear H; rintro _ w ⟨rfl, hE, H⟩; clear hE) | ((with_reducible refine wpl_runx ?_ ?_); (focus exact rfl); refine ⟨_, runs_store H 2 rfl rfl rfl rfl rfl rfl rfl rfl rfl, ?_⟩; clear H; rintro _ w ⟨rfl, hE, H⟩; clear hE) | ((with_reducible refine wpl_runx ?_ ?_); (focus exact rfl); refine ⟨_, runs_store H 3 rfl rfl rfl rfl rfl rfl rfl rfl rfl, ?_⟩; clear H; rintro _ w ⟨rfl, hE, H⟩; clear hE) | (go_at_call 9; refine Calls.mono (new_spec _) ?_; rintro _ w ⟨b_1, v_1, rfl, h⟩; replace H := H.addNew h; clear h) | (go_at_call 12; refine Calls.mono (all_spec newL (Nat.le_trans new_len (by decide)) _ _ _ _ (H.tab 0 rfl)) ?_; rintro _ w ⟨v3, rfl, h⟩; replace H := H.addNew h; clear h; obtain ⟨A5, c5, rfl, H'⟩ := H.sealO 0 rfl; replace H := H'; clear H'; simp only [List.eraseIdx_cons_zero] at H) | ((with_reducible refine wpl_pureX ?_); refine ⟨rfl, rfl, ?_⟩; apply Exists.intro; apply And.intro; (focus (intro w; go_simp; (try with_reducible rfl); done)); (try simp only [Act.put, List.setIfInBounds_toArray, List.set_cons_succ, List.set_cons_zero])) | ((fail_if_success ((with_reducible refine wpl_runx ?_ ?_); (focus exact rfl))); ((with_reducible refine wpl_gcaseE ?_); refine ⟨_, rfl, ?_, ?_⟩) <;> (intro hg; first | (simp only [reduceCtorEq] at hg; done) | contradiction | ((with_reducible have hx := eq_of_beq hg); contradiction) | ((with_reducible have hx := ne_of_beq_false hg); contradiction) | ((with_reducible have hx := bne_iff_ne.1 hg); contradiction) | ((with_reducible have hx := bne_eq_false_iff_eq.1 hg); contradiction) | ((with_reducible have hx := of_decide_eq_true hg); first | contradiction | omega) | ((with_reducible have hx := of_decide_eq_false hg); first | contradiction | omega) | (simp only [Bool.not_eq_true', Bool.not_eq_false', beq_iff_eq, beq_eq_false_iff_ne, bne_iff_ne, ne_eq] at hg; contradiction) | (simp only [hg]))))
  replace H := H.weaken (G := fun _ _ => True) (fun _ => trivial) (Stab.const True)
  obtain ⟨n, hn0, hn1, hn⟩ : ∃ n : Nat, 60 ≤ n ∧ n < 80 ∧ wrap64 (wrap64 (90 - ((newL.length : Nat) : Int)) + wrap64 ((IntKind.u64.wrap i).tmod 20)) = (n : Int) := by
    rw [new_length]
    refine ⟨(60 + (IntKind.u64.wrap i).tmod 20).toNat, ?_⟩
    have h1 : (0 : Int) ≤ IntKind.u64.wrap i := by simp [IntKind.wrap, IntKind.bits, IntKind.signed]; omega
    have h2 := Int.tmod_nonneg (20 : Int) h1
    have h3 := Int.tmod_lt_of_pos (IntKind.u64.wrap i) (b := 20) (by decide)
    have e1 : wrap64 ((IntKind.u64.wrap i).tmod 20) = (IntKind.u64.wrap i).tmod 20 := by unfold wrap64; omega
    rw [e1]
    refine ⟨by omega, by omega, ?_⟩
    unfold wrap64
    omega
  have e30 : ((30 : Nat) : Int) = 30 := rfl
  have e60 : wrap64 (90 - 30) = 60 := by unfold wrap64; omega
  simp only [hn]
  simp only [new_length, e30, e60]
  clear hn e30 e60
  go_loopw [25] (fun iv wr => ∃ (j : Nat) (v : Value), j ≤ n ∧ iv = .int .i64 j ∧ St [] [] w0 wr [tabR 48 b_1 v (tabM j)] (fun _ _ => True)) (fun iv _ => n - (intOf iv).toNat)
  case atStart => exact ⟨0, v_1, Nat.zero_le _, rfl, by rw [tabM_0]; exact H⟩
  case round =>
    clear H v_1
    obtain ⟨j, v_1, hj, rfl, H⟩ := hrel
    by_cases lt : j < n
    · have g1 : decide ((j : Int) < (n : Int)) = true := by simpa using lt
      have hlen := tabM_len j (by omega)
      have hs := fun w v (h : tabH 48 b_1 v (tabM j) w) hn => setO_spec (tabM j) (tabM_sort j) (by omega) (opM j) 48 b_1 v w h hn
      have hcode := tabM_code (k := j) (by omega)
      have ht := tabM_s j
      have hnm := nmM_int j
      obtain ⟨Q, hQ⟩ : ∃ Q, setO (tabM j) (opM j) = Q := ⟨_, rfl⟩
      rw [hQ] at hs hcode ht
      obtain ⟨c, t⟩ := Q
      simp only at hcode ht
      subst ht
      clear hQ hlen
      replace hs := Lib.hid hs; replace hnm := Lib.hid hnm
      have hcs : (c = 0 ∧ decide (30 + (j : Int) < 100) = true) ∨ (c = 8 ∧ decide (30 + (j : Int) < 100) = false) := by
        by_cases q : 30 + j < 100
        · exact .inl ⟨by rw [hcode, if_pos q], by simp; omega⟩
        · exact .inr ⟨by rw [hcode, if_neg q], by simp; omega⟩
      clear hcode
      rcases hcs with ⟨rfl, g2⟩ | ⟨rfl, g2⟩
      all_goals
        go_wp2_with (first | ((with_reducible refine wpl_runx_d 37 rfl ?_ ?_); (focus exact rfl); refine ⟨_, by apply runs_buildSlice H; iterate 10 rfl, ?_⟩; clear H; rintro _ w ⟨b37, rfl, hE, H⟩; clear hE) | ((with_reducible refine wpl_runx_d 8 rfl ?_ ?_); (focus exact rfl); refine ⟨_, runs_alloc H rfl rfl rfl, ?_⟩; clear H; rintro _ w ⟨b8, rfl, hE, H⟩; clear hE) | ((with_reducible refine wpl_runx_d 11 rfl ?_ ?_); (focus exact rfl); refine ⟨_, runs_alloc H rfl rfl rfl, ?_⟩; clear H; rintro _ w ⟨b11, rfl, hE, H⟩; clear hE) | ((with_reducible refine wpl_runx ?_ ?_); (focus exact rfl); refine ⟨_, runs_load H 0 rfl rfl rfl rfl rfl, ?_⟩; rintro _ _ ⟨rfl, rfl⟩) | ((with_reducible refine wpl_runx ?_ ?_); (focus exact rfl); refine ⟨_, runs_load H 1 rfl rfl rfl rfl rfl, ?_⟩; rintro _ _ ⟨rfl, rfl⟩) | ((with_reducible refine wpl_runx ?_ ?_); (focus exact rfl); refine ⟨_, runs_load_cell H rfl rfl rfl rfl, ?_⟩; rintro _ _ ⟨rfl, rfl⟩) | ((with_reducible refine wpl_runx ?_ ?_); (focus exact rfl); refine ⟨_, runs_load_cell0 H rfl rfl rfl rfl, ?_⟩; rintro _ _ ⟨rfl, rfl⟩) | ((with_reducible refine wpl_runx ?_ ?_); (focus exact rfl); refine ⟨_, runs_load_obj H rfl rfl rfl rfl, ?_⟩; rintro _ _ ⟨rfl, rfl⟩) | ((with_reducible refine wpl_runx ?_ ?_); (focus exact rfl); refine ⟨_, runs_store H 0 rfl rfl rfl rfl rfl rfl rfl rfl rfl, ?_⟩; clear H; rintro _ w ⟨rfl, hE, H⟩; clear hE) | ((with_reducible refine wpl_runx ?_ ?_); (focus exact rfl); refine ⟨_, runs_store H 1 rfl rfl rfl rfl rfl rfl rfl rfl rfl, ?_⟩; clear H; rintro _ w ⟨rfl, hE, H⟩; clear hE) | ((with_reducible refine wpl_runx ?_ ?_); (focus exact rfl); refine ⟨_, runs_ownStr H 0 [97, 97 + (j : Int) / 26, 97 + (j : Int) % 26] rfl rfl rfl rfl rfl rfl rfl, ?_⟩; rintro _ w ⟨rfl, rfl⟩; rw [hnm.out]) | (go_at_call 13; refine Calls.mono (hs.out _ _ (H.tab 1 rfl) (H.tabApart 1 rfl)) ?_; rintro _ w ⟨v', rfl, h⟩; replace H := H.callTab 1 rfl h (fun r => rfl); clear h) | ((with_reducible refine wpl_pureX ?_); refine ⟨rfl, rfl, ?_⟩; apply Exists.intro; apply And.intro; (focus (intro w; go_simp; (try with_reducible rfl); done)); (try simp only [Act.put, List.setIfInBounds_toArray, List.set_cons_succ, List.set_cons_zero])) | ((fail_if_success ((with_reducible refine wpl_runx ?_ ?_); (focus exact rfl))); ((with_reducible refine wpl_gcaseE ?_); refine ⟨_, rfl, ?_, ?_⟩) <;> (intro hg; first | (simp only [reduceCtorEq] at hg; done) | contradiction | ((with_reducible have hx := eq_of_beq hg); contradiction) | ((with_reducible have hx := ne_of_beq_false hg); contradiction) | ((with_reducible have hx := bne_iff_ne.1 hg); contradiction) | ((with_reducible have hx := bne_eq_false_iff_eq.1 hg); contradiction) | ((with_reducible have hx := of_decide_eq_true hg); first | contradiction | omega) | ((with_reducible have hx := of_decide_eq_false hg); first | contradiction | omega) | (simp only [Bool.not_eq_true', Bool.not_eq_false', beq_iff_eq, beq_eq_false_iff_ne, bne_iff_ne, ne_eq] at hg; contradiction) | (simp only [hg]))))
        go_roundw
        case rel => exact ⟨j + 1, v', by omega, by go_num, H.drop 0 rfl⟩
        case measure => simp [intOf]; omega
    · obtain rfl : j = n := by omega
      have g1 : decide ((j : Int) < (j : Int)) = false := by simp
      have hlen := tabM_len j (by omega)
      have hs1 := fun w v (h : tabH 48 b_1 v (tabM j) w) hn => setO_spec (tabM j) (tabM_sort j) (by omega) ⟨⟨#[105, 115]⟩, 3, 9⟩ 48 b_1 v w h hn
      obtain ⟨e1, e2, e3, e4, e5⟩ := many_end j (by omega)
      have ls := set_sort (tabM_sort j) ⟨⟨#[105, 115]⟩, 3, 9⟩
      have ll := set_len (l := tabM j) ⟨⟨#[105, 115]⟩, 3, 9⟩ (by omega)
      obtain ⟨Q, hQ⟩ : ∃ Q, setO (tabM j) ⟨⟨#[105, 115]⟩, 3, 9⟩ = Q := ⟨_, rfl⟩
      rw [hQ] at hs1 e1 e2 e3 e4 e5 ls ll
      clear hQ hlen
      obtain ⟨c, t⟩ := Q
      simp only at e1 e2 e3 e4 e5 ls ll
      subst e1
      have hs2 := fun w v (h : tabH 48 b_1 v t w) hn => setO_spec t ls (Nat.le_trans ll (by decide)) ⟨⟨#[109, 111, 100]⟩, 1, 0⟩ 48 b_1 v w h hn
      have hi1 := fun w v (h : tabH 48 b_1 v t w) => infixT_spec t ls (Nat.le_trans ll (by decide)) ⟨#[105, 115]⟩ 48 b_1 v w h
      have ms := set_sort ls ⟨⟨#[109, 111, 100]⟩, 1, 0⟩
      have ml := set_len (l := t) ⟨⟨#[109, 111, 100]⟩, 1, 0⟩ ll
      obtain ⟨R, hR⟩ : ∃ R, setO t ⟨⟨#[109, 111, 100]⟩, 1, 0⟩ = R := ⟨_, rfl⟩
      rw [hR] at hs2 e3 e4 e5 ms ml
      clear hR
      obtain ⟨c2, m⟩ := R
      simp only at e3 e4 e5 ms ml
      subst e3
      have hi2 := fun w v (h : tabH 48 b_1 v m w) => infixT_spec m ms (Nat.le_trans ml (by decide)) ⟨#[109, 111, 100]⟩ 48 b_1 v w h
      have ha := fun w v (h : tabH 48 b_1 v m w) => all_spec m (Nat.le_trans ml (by decide)) 48 b_1 v w h
      rw [e2] at hi1
      rw [e4] at hi2
      simp only [gotV] at hi1 hi2
      clear e2 e4 ms ls ll
      have e6 : (m.length : Int) = min (30 + (j : Int)) 100 - 1 := by omega
      obtain ⟨N, hN⟩ : ∃ N, m.length = N := ⟨_, rfl⟩
      rw [hN] at e5 e6 ml
      replace hs1 := Lib.hid hs1; replace hs2 := Lib.hid hs2; replace hi1 := Lib.hid hi1; replace hi2 := Lib.hid hi2; replace ha := Lib.hid ha; replace hN := Lib.hid hN
      go_wp2_with (first | ((with_reducible refine wpl_runx_d 37 rfl ?_ ?_); (focus exact rfl); refine ⟨_, by apply runs_buildSlice H; iterate 10 rfl, ?_⟩; clear H; rintro _ w ⟨b37, rfl, hE, H⟩; clear hE) | ((with_reducible refine wpl_runx_d 8 rfl ?_ ?_); (focus exact rfl); refine ⟨_, runs_alloc H rfl rfl rfl, ?_⟩; clear H; rintro _ w ⟨b8, rfl, hE, H⟩; clear hE) | ((with_reducible refine wpl_runx_d 11 rfl ?_ ?_); (focus exact rfl); refine ⟨_, runs_alloc H rfl rfl rfl, ?_⟩; clear H; rintro _ w ⟨b11, rfl, hE, H⟩; clear hE) | ((with_reducible refine wpl_runx ?_ ?_); (focus exact rfl); refine ⟨_, runs_load H 0 rfl rfl rfl rfl rfl, ?_⟩; rintro _ _ ⟨rfl, rfl⟩) | ((with_reducible refine wpl_runx ?_ ?_); (focus exact rfl); refine ⟨_, runs_load H 1 rfl rfl rfl rfl rfl, ?_⟩; rintro _ _ ⟨rfl, rfl⟩) | ((with_reducible refine wpl_runx ?_ ?_); (focus exact rfl); refine ⟨_, runs_load H 2 rfl rfl rfl rfl rfl, ?_⟩; rintro _ _ ⟨rfl, rfl⟩) | ((with_reducible refine wpl_runx ?_ ?_); (focus exact rfl); refine ⟨_, runs_load H 3 rfl rfl rfl rfl rfl, ?_⟩; rintro _ _ ⟨rfl, rfl⟩) | ((with_reducible refine wpl_runx ?_ ?_); (focus exact rfl); refine ⟨_, runs_load_cell H rfl rfl rfl rfl, ?_⟩; rintro _ _ ⟨rfl, rfl⟩) | ((with_reducible refine wpl_runx ?_ ?_); (focus exact rfl); refine ⟨_, runs_load_cell0 H rfl rfl rfl rfl, ?_⟩; rintro _ _ ⟨rfl, rfl⟩) | ((with_reducible refine wpl_runx ?_ ?_); (focus exact rfl); refine ⟨_, runs_load_obj H rfl rfl rfl rfl, ?_⟩; rintro _ _ ⟨rfl, rfl⟩) | ((with_reducible refine wpl_runx ?_ ?_); (focus exact rfl); refine ⟨_, runs_store H 0 rfl rfl rfl rfl rfl rfl rfl rfl rfl, ?_⟩; clear H; rintro _ w ⟨rfl, hE, H⟩; clear hE) | ((with_reducible refine wpl_runx ?_ ?_); (focus exact rfl); refine ⟨_, runs_store H 1 rfl rfl rfl rfl rfl rfl rfl rfl rfl, ?_⟩; clear H; rintro _ w ⟨rfl, hE, H⟩; clear hE) | ((with_reducible refine wpl_runx ?_ ?_); (focus exact rfl); refine ⟨_, runs_store H 2 rfl rfl rfl rfl rfl rfl rfl rfl rfl, ?_⟩; clear H; rintro _ w ⟨rfl, hE, H⟩; clear hE) | ((with_reducible refine wpl_runx ?_ ?_); (focus exact rfl); refine ⟨_, runs_store H 3 rfl rfl rfl rfl rfl rfl rfl rfl rfl, ?_⟩; clear H; rintro _ w ⟨rfl, hE, H⟩; clear hE) | (go_at_call 13; (with_reducible refine Calls.mono (hs1.out _ _ (H.tab 0 rfl) (H.tabApart 0 rfl)) ?_); rintro _ w ⟨v1, rfl, h⟩; replace H := H.callTab 0 rfl h (fun r => rfl); clear h) | (go_at_call 17; (with_reducible refine Calls.mono (hi1.out _ _ (H.tab 0 rfl)) ?_); rintro _ w ⟨rfl, hE⟩; replace H := H.step hE; clear hE) | (go_at_call 13; (with_reducible refine Calls.mono (hs2.out _ _ (H.tab 1 rfl) (H.tabApart 1 rfl)) ?_); rintro _ w ⟨v2, rfl, h⟩; replace H := H.callTab 1 rfl h (fun r => rfl); clear h) | (go_at_call 17; (with_reducible refine Calls.mono (hi2.out _ _ (H.tab 1 rfl)) ?_); rintro _ w ⟨rfl, hE⟩; replace H := H.step hE; clear hE) | (go_at_call 12; refine Calls.mono (ha.out _ _ (H.tab 2 rfl)) ?_; rintro _ w ⟨v3, rfl, h⟩; replace H := H.addNew h; clear h; obtain ⟨A6, c6, rfl, H'⟩ := H.sealO 0 rfl; replace H := H'; clear H'; simp only [List.eraseIdx_cons_zero] at H; rw [hN.out]) | (go_at_call 18; refine Calls.mono (awake_spec _) ?_; rintro _ w ⟨rfl, hE⟩; replace H := H.step hE; clear hE) | ((with_reducible refine wpl_pureX ?_); refine ⟨rfl, rfl, ?_⟩; apply Exists.intro; apply And.intro; (focus (intro w; go_simp; (try with_reducible rfl); done)); (try simp only [Act.put, List.setIfInBounds_toArray, List.set_cons_succ, List.set_cons_zero])) | ((fail_if_success ((with_reducible refine wpl_runx ?_ ?_); (focus exact rfl))); ((with_reducible refine wpl_gcaseE ?_); refine ⟨_, rfl, ?_, ?_⟩) <;> (intro hg; first | (simp only [reduceCtorEq] at hg; done) | contradiction | ((with_reducible have hx := eq_of_beq hg); contradiction) | ((with_reducible have hx := ne_of_beq_false hg); contradiction) | ((with_reducible have hx := bne_iff_ne.1 hg); contradiction) | ((with_reducible have hx := bne_eq_false_iff_eq.1 hg); contradiction) | ((with_reducible have hx := of_decide_eq_true hg); first | contradiction | omega) | ((with_reducible have hx := of_decide_eq_false hg); first | contradiction | omega) | (simp only [Bool.not_eq_true', Bool.not_eq_false', beq_iff_eq, beq_eq_false_iff_ne, bne_iff_ne, ne_eq] at hg; contradiction) | (simp only [hg]))))
      all_goals
        go_ret
        exact ⟨rfl, H.ext⟩
end Go.Proofs.Ythapmdlminnihaa
