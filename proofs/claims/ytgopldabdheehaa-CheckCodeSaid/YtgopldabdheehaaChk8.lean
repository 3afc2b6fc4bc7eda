/- Walks: awake of law17; rows of instructions, handed out. -/
import Derived.Test.YtgopldabdheehaaChk7
namespace Go.Proofs.Ytgopldabdheehaa
open Go.RowKit
set_option linter.unusedVariables false
set_option linter.unusedSimpArgs false
set_option maxRecDepth 20000
set_option maxHeartbeats 8000000
/-- The cells of a row of instructions. -/
def IE (M : List Nat) (w : World) (cs : List Value) (x : Ins) : Prop := ∃ A c, cs = cellsI x A c ∧ AR A c x.con.args M w
def IsR (xs : List Value) (l : List Ins) (M : List Nat) (w : World) : Prop := CellsL 11 (IE M w) xs l
theorem IsR.stab (xs : List Value) (l : List Ins) : Stab (IsR xs l) := stab_of_to fun _ _ _ _ H h => CellsL.mono (fun cs x ⟨A, c, e, h⟩ => ⟨A, c, e, h.1, RowR.to H A 0 _ h.2⟩) l xs h
theorem IsR.nil (M : List Nat) (w : World) : IsR [] [] M w := rfl
theorem IsR.cons {M : List Nat} {w : World} {x : Ins} {A : Option Addr} {c : Nat} {rest : List Value} {l : List Ins} (ha : AR A c x.con.args M w) (h : IsR rest l M w) : IsR (cellsI x A c ++ rest) (x :: l) M w := ⟨cellsI x A c, rest, rfl, rfl, ⟨A, c, rfl, ha⟩, h⟩
theorem IsR.snoc {M : List Nat} {w : World} {x : Ins} {A : Option Addr} {c : Nat} {xs : List Value} {l : List Ins} (h : IsR xs l M w) (ha : AR A c x.con.args M w) : IsR (xs ++ cellsI x A c) (l ++ [x]) M w := CellsL.snoc (sz := 11) (E := IE M w) (cs := cellsI x A c) rfl ⟨A, c, rfl, ha⟩ l xs h
theorem IR.ofCells {xs : List Value} {l : List Ins} {M : List Nat} {w : World} {b o cap : Nat} (hx : IsR xs l M w) (hb : b ∉ M) (hl : b < w.heap.size) (hcap : l.length ≤ cap) (hc : ∀ (j : Nat) (v : Value), xs[j]? = some v → w.cell? ⟨b, o + j, none⟩ = some v) : IR (some ⟨b, o, none⟩) cap l M w := by
  refine ⟨hcap, fun j x hj => ?_⟩
  obtain ⟨hjl, rfl⟩ := List.getElem?_eq_some_iff.1 hj
  obtain ⟨cs, h11, ⟨A, c, rfl, ha⟩, hxs⟩ := CellsL.get l xs j hx hjl
  refine ⟨b, o, A, c, rfl, ⟨hb, hl, fun q v hq => ?_⟩, ha⟩
  have hq11 : q < 11 := by rw [← h11]; exact (List.getElem?_eq_some_iff.1 hq).1
  rw [Nat.add_assoc]
  exact hc _ v (by rw [hxs q hq11]; exact hq)
class HasIs (F : List Nat → World → Prop) (xs : List Value) (l : outParam (List Ins)) : Prop where
  get : ∀ M w, F M w → IsR xs l M w
instance HasIs.nil {F : List Nat → World → Prop} : HasIs F [] [] := ⟨fun M w _ => IsR.nil _ _⟩
instance HasIs.cons {F : List Nat → World → Prop} {op a b : Int} {m : ByteArray} {t k : Int} {s : ByteArray} {n r i : Int} {A : Option Addr} {c len : Nat} {al : List Tm} {rest : List Value} {l : List Ins} [h1 : HasAR F A c al] [h3 : LenIs len al] [h2 : HasIs F rest l] :
    HasIs F (.int .i64 op :: .int .i64 a :: .int .i64 b :: .string m :: .int .i64 t :: .int .i64 k :: .string s :: .int .i64 n :: .int .u64 r :: .int .u64 i :: .slice A len c :: rest) (⟨op, a, b, m, t, .mk k s n r i al⟩ :: l) := ⟨fun M w h => by rw [h3.eq]; exact IsR.cons (x := ⟨op, a, b, m, t, .mk k s n r i al⟩) (h1.get M w h) (h2.get M w h)⟩
theorem IsR.shrink {xs : List Value} {l : List Ins} {L : List Res} {M : List Nat} {w : World} {k : Nat} (h : IsR xs l (idsOf L ++ M) w) : IsR xs l (idsOf (L.eraseIdx k) ++ M) w := (IsR.stab xs l).sub _ _ _ (fun b hb => by
  rcases List.mem_append.1 hb with hb | hb
  · refine List.mem_append_left _ ?_
    simp only [idsOf, List.mem_flatMap] at hb ⊢
    obtain ⟨r, hr, hb⟩ := hb
    exact ⟨r, List.mem_of_mem_eraseIdx hr, hb⟩
  · exact List.mem_append_right _ hb) h
/-- A literal of instructions, let go. -/
theorem St.sealIC {M : List Nat} {w0 w : World} {L : List Res} {F : List Nat → World → Prop} {b : Nat} {xs : List Value} {ty : TypeId} (H : St M [] w0 w (.obj b (.cells xs.toArray ty (0, 0)) :: L) F) {l : List Ins} [h : HasIs F xs l] :
    St M [] w0 w L fun M w => F M w ∧ IR (some ⟨b, 0, none⟩) l.length l M w := by
  refine H.seal0 0 rfl (IR.stab _ _ _) (fun _ hF hni => ?_) (H.notM (k := 0) rfl)
  have hg := H.get (k := 0) rfl
  have hgl : b < w.heap.size := (Array.getElem?_eq_some_iff.1 hg).1
  exact IR.ofCells (IsR.shrink (k := 0) (h.get _ _ hF)) (hni b (by simp [Res.ids])) hgl (Nat.le_refl _) (cells_open hg)
/-- An own row of instructions, let go. -/
theorem St.sealI {M : List Nat} {w0 w : World} {L : List Res} {F : List Nat → World → Prop} (H : St M [] w0 w L F) (k : Nat) {v : Value} {n : Nat} {xs : List Value} {ty : TypeId} {l : List Ins} (hk : L[k]? = some (.row v n xs ty 11))
    (hx : ∀ M w, F M w → IsR xs l M w) : ∃ A cap, v = .slice A l.length cap ∧ St M [] w0 w (L.eraseIdx k) fun M w => F M w ∧ IR A cap l M w := by
  have hown := H.getRow hk
  have hlen : n = l.length := by
    have h1 := hown.1
    rw [CellsL.length _ _ (hx _ _ H.fact)] at h1
    omega
  subst hlen
  rcases hown.2 with ⟨rfl, h0⟩ | ⟨g, cap, cur, rfl, hb, hg, hn, _, hs, ht⟩
  · have : l = [] := List.eq_nil_of_length_eq_zero h0
    subst this
    exact ⟨none, 0, rfl, H.seal0 k hk (IR.stab _ _ _) (fun _ _ _ => IR.nil _ _ _ _) (H.notM hk)⟩
  · refine ⟨some ⟨g, 0, none⟩, cap, rfl, H.seal0 k hk (IR.stab _ _ _) (fun _ hF hni => ?_) (H.notM hk)⟩
    have hgl : g < w.heap.size := (Array.getElem?_eq_some_iff.1 hg).1
    refine IR.ofCells (IsR.shrink (k := k) (hx _ _ hF)) (hni g (by simp [Res.ids, Value.ownBlock])) hgl hn fun j v hj => ?_
    rw [Nat.zero_add, cell_of_row w g j cur ty (0, 0) hg]
    have hj' : j < l.length * 11 := by rw [← hown.1]; exact (List.getElem?_eq_some_iff.1 hj).1
    rw [← ht, List.getElem?_take, if_pos hj'] at hj
    simpa using hj
def zeroI : Ins := ⟨0, 0, 0, ⟨#[]⟩, 0, .mk 0 ⟨#[]⟩ 0 0 0 []⟩
theorem awake1 : codeE ⟨#[112]⟩ 1 2 [⟨2, 0, 1, ⟨#[]⟩, 0, .mk 0 ⟨#[]⟩ 0 0 0 []⟩, ⟨18, 0, 0, ⟨#[]⟩, 0, .mk 0 ⟨#[]⟩ 0 0 0 []⟩] = (0, 2) := by kernel_rfl
theorem awake2 : codeE ⟨#[112]⟩ 1 2 [⟨1, 0, 1, ⟨#[]⟩, 0, .mk 0 ⟨#[]⟩ 0 0 0 []⟩, ⟨18, 0, 0, ⟨#[]⟩, 0, .mk 0 ⟨#[]⟩ 0 0 0 []⟩] = (0, 0) := by kernel_rfl
attribute [local irreducible] mayE nodesE depthE plainE renameE varsE EqualE LightE rSameE turnT codeE
theorem awakeC_spec  (M : List Nat) (w0 : World) (hM : ∀ b ∈ M, b < w0.heap.size)  : Calls Try.prog 9 #[] w0 (RetV w0 (.bool true)) := by
  have H := St.start hM (Stab.const True) trivial
  have e1 := Lib.hid awake1
  have e2 := Lib.hid awake2
  go_enter Try.func9, Try.ntmps9
  go_wp2_with (first | ((with_reducible refine wpl_runx_d 8 rfl ?_ ?_); (focus exact rfl); refine ⟨_, by apply runs_buildSlice H; iterate 10 rfl, ?_⟩; clear H; rintro _ w ⟨b8, rfl, hE, H⟩; clear hE) | ((with_reducible refine wpl_runx_d 16 rfl ?_ ?_); (focus exact rfl); refine ⟨_, by apply runs_buildSlice H; iterate 10 rfl, ?_⟩; clear H; rintro _ w ⟨b16, rfl, hE, H⟩; clear hE) | ((with_reducible refine wpl_runx ?_ ?_); (focus exact rfl); refine ⟨_, runs_load H 0 rfl rfl rfl rfl rfl, ?_⟩; rintro _ _ ⟨rfl, rfl⟩) | ((with_reducible refine wpl_runx ?_ ?_); (focus exact rfl); refine ⟨_, runs_load H 1 rfl rfl rfl rfl rfl, ?_⟩; rintro _ _ ⟨rfl, rfl⟩) | ((with_reducible refine wpl_runx ?_ ?_); (focus exact rfl); refine ⟨_, runs_load_cell H rfl rfl rfl rfl, ?_⟩; rintro _ _ ⟨rfl, rfl⟩) | ((with_reducible refine wpl_runx ?_ ?_); (focus exact rfl); refine ⟨_, runs_load_cell0 H rfl rfl rfl rfl, ?_⟩; rintro _ _ ⟨rfl, rfl⟩) | ((with_reducible refine wpl_runx ?_ ?_); (focus exact rfl); refine ⟨_, runs_load_obj H rfl rfl rfl rfl, ?_⟩; rintro _ _ ⟨rfl, rfl⟩) | ((with_reducible refine wpl_runx ?_ ?_); (focus exact rfl); refine ⟨_, runs_store H 0 rfl rfl rfl rfl rfl rfl rfl rfl rfl, ?_⟩; clear H; rintro _ w ⟨rfl, hE, H⟩; clear hE) | ((with_reducible refine wpl_runx ?_ ?_); (focus exact rfl); refine ⟨_, runs_store H 1 rfl rfl rfl rfl rfl rfl rfl rfl rfl, ?_⟩; clear H; rintro _ w ⟨rfl, hE, H⟩; clear hE) | (go_at_call 11; replace H := H.sealIC; (with_reducible refine Calls.mono (code_spec_c H _ _ _ _ _ _ _ ?_ ?_) ?_); (focus simp); (focus (unfold maxLen; simp)); (first | rw [e1.out] | rw [e2.out]); rintro _ w ⟨rfl, hE⟩; replace H := H.step hE; clear hE) | ((with_reducible refine wpl_callX ?_); refine ⟨rfl, rfl, fun K hK => ?_⟩; go_simp; (first | (go_at_call 11; (with_reducible refine Calls.mono (code_spec_c H _ _ _ _ _ _ _ ?_ ?_) ?_); (focus (first | with_reducible rfl | rfl | simp)); (focus ((first | assumption | (unfold maxLen; omega)))); intro e w h; obtain ⟨rfl, hE⟩ := h; replace H := H.step hE; clear hE)); refine hK _ _ ?_; clear hK K; (try simp only [Act.put, List.setIfInBounds_toArray, List.set_cons_succ, List.set_cons_zero])) | ((with_reducible refine wpl_pureX ?_); refine ⟨rfl, rfl, ?_⟩; apply Exists.intro; apply And.intro; (focus (intro w; go_simp; (try with_reducible rfl); done)); (try simp only [Act.put, List.setIfInBounds_toArray, List.set_cons_succ, List.set_cons_zero])) | ((fail_if_success ((with_reducible refine wpl_runx ?_ ?_); (focus exact rfl))); ((with_reducible refine wpl_gcaseE ?_); refine ⟨_, rfl, ?_, ?_⟩) <;> (intro hg; first | (simp only [reduceCtorEq] at hg; done) | contradiction | ((with_reducible have hx := eq_of_beq hg); contradiction) | ((with_reducible have hx := ne_of_beq_false hg); contradiction) | ((with_reducible have hx := bne_iff_ne.1 hg); contradiction) | ((with_reducible have hx := bne_eq_false_iff_eq.1 hg); contradiction) | ((with_reducible have hx := of_decide_eq_true hg); first | contradiction | omega) | ((with_reducible have hx := of_decide_eq_false hg); first | contradiction | omega) | (simp only [Bool.not_eq_true', Bool.not_eq_false', beq_iff_eq, beq_eq_false_iff_ne, bne_iff_ne, ne_eq] at hg; contradiction) | (simp only [hg]))))
  all_goals
    go_ret
    refine ⟨?_, H.ext⟩
    clear H
    go_tidy
    first | rfl | (simp only [Tm.zero, *, Tm.eta, Bool.false_eq_true, reduceIte, Bool.and_self, Bool.true_and, Bool.and_true, Bool.false_and, Bool.and_false, Bool.true_or, Bool.or_true, Bool.false_or, Bool.or_false, Bool.not_true, Bool.not_false, bne]; done) | (simp [Tm.zero, Tm.eta, *]; done) | (simp_all [Tm.zero, Tm.eta]; done) | (simp_all [Tm.zero, Tm.eta]; omega)
theorem awakeC_spec_c {M X : List Nat} {w1 w0 : World} {L : List Res} {F : List Nat → World → Prop} (H : St M X w1 w0 L F)     : Calls Try.prog 9 #[] w0 (RetV w0 (.bool true)) := by
  exact awakeC_spec  _ _ H.ltAll 
end Go.Proofs.Ytgopldabdheehaa
