/- A loop over slices.Backward of a slice of terms: its rounds, from the last to the first. -/
import Derived.Test.YtgopldabdheehaaRep
import Derived.RangeFuncBox
import Derived.RangeFuncLeaves
import Derived.RangeFuncCalls
import Derived.OwnWalkIn
import Derived.TacticsInMore
import Derived.LoopNIn
import Derived.LoopIn
namespace Go.Proofs.Ytgopldabdheehaa
open Go.RowKit
set_option linter.unusedVariables false
set_option linter.unusedSimpArgs false
attribute [local go_sem] Oper.semAt_some

/-- A term's value. -/
def valT (t : Tm) (A : Option Addr) (cap : Nat) : Value := .agg #[.int .i64 t.kind, .string t.name, .int .i64 t.int, .int .u64 t.re, .int .u64 t.im, .slice A t.args.length cap]

/-- A term's own arguments, told by its cell. -/
theorem AR.at_cell {b o : Nat} {c : Nat} {l : List Tm} {M : List Nat} {w : World} (hr : AR (some ⟨b, o, none⟩) c l M w) (k : Nat) (h : k < l.length) {A' : Option Addr} {n c' : Nat} (hc : w.cell? ⟨b, o + k * 6 + 5, none⟩ = some (.slice A' n c')) :
    AR A' c' (l[k]).args M w := by
  obtain ⟨b2, o2, A2, c2, e, _, _, hcs, hA⟩ := hr.at k h
  obtain ⟨rfl, rfl⟩ : b = b2 ∧ o = o2 := by simpa using e
  have := hcs 5 _ rfl
  rw [hc] at this
  simp only [Option.some.injEq, Value.slice.injEq] at this
  obtain ⟨rfl, _, rfl⟩ := this
  exact hA

set_option maxRecDepth 100000 in
set_option maxRecDepth 20000
set_option maxHeartbeats 2000000 in
/-- The iterator: it hands yield the places and the terms from the last on. -/
theorem back_in (lr bs : Nat) (A : Option Addr) (cap : Nat) (l : List Tm) (hl : l.length ≤ 1000000) (J : Nat → World → Prop)
    (hJ : ∀ i W, J i W → W.cell? ⟨bs, 0, none⟩ = some (.slice A l.length cap) ∧ ∃ M, AR A cap l M W)
    (hY : ∀ i (hi : i < l.length) A' c' W, J (i + 1) W → (∀ M, AR A cap l M W → AR A' c' (l[i]).args M W) → YieldAt Fence.wide 4 Try.prog lr #[.int .i64 (i : Int), .agg #[.int .i64 (l[i]).kind, .string (l[i]).name, .int .i64 (l[i]).int, .int .u64 (l[i]).re, .int .u64 (l[i]).im, .slice A' (l[i]).args.length c']] W fun e W' => e = .returned (.bool true) ∧ J i W')
    (W : World) (h0 : J l.length W) :
    CallsIn Fence.wide 5 Try.prog 56 #[.func (.yield lr) #[] #[], .pointer (some ⟨bs, 0, none⟩)] W fun e W' => (∃ v, e = .returned v) ∧ J 0 W' := by
  refine callsIn_of_wp Try.func56 rfl trivial ?_ rfl
  simp only [Try.ntmps56, List.size_toArray, List.length_cons, List.length_nil, Nat.reduceAdd, Nat.reduceSub, Array.replicate_succ, Array.replicate_zero, List.push_toArray, List.append_toArray, List.nil_append, List.cons_append]
  have hu := Try.underlying25
  have hb0 := (hJ _ _ h0).1
  gi_wp2
  gi_loopw [3] (fun i wr => ∃ k : Nat, k ≤ l.length ∧ i = .int .i64 ((k : Int) - 1) ∧ J k wr) (fun i _ => (intOf i + 1).toNat)
  case atStart => exact ⟨l.length, Nat.le_refl _, rfl, h0⟩
  case round =>
    obtain ⟨k, hk, rfl, hJs⟩ := hrel
    obtain ⟨hb, M, hA⟩ := hJ _ _ hJs
    cases k with
    | zero =>
      have e1 : ¬ (0 : Int) ≤ ((0 : Nat) : Int) - 1 := by omega
      gi_wp2
      go_end0
      exact ⟨⟨_, rfl⟩, hJs⟩
    | succ k =>
      have hlt : k < l.length := by omega
      obtain ⟨b, o, A', c', rfl, hbn, hbl, hcs, hA'⟩ := hA.at k hlt
      have c0 := hcs 0 _ rfl
      have c1 := hcs 1 _ rfl
      have c2 := hcs 2 _ rfl
      have c3 := hcs 3 _ rfl
      have c4 := hcs 4 _ rfl
      have c5 := hcs 5 _ rfl
      rw [Nat.add_zero] at c0
      have HY := Lib.hid (hY k hlt A' c' wr hJs (fun M hM => AR.at_cell hM k hlt c5))
      clear hcs hA hA' hY
      have ek : ((k + 1 : Nat) : Int) - 1 = (k : Int) := by omega
      rw [ek]
      have e0 : (0 : Int) ≤ (k : Int) := by omega
      obtain ⟨fn, tmps, assign, body, hy, hR⟩ := HY.out
      gi_wp2
      refine hR.mono ?_
      rintro e W3 ⟨rfl, hJ3⟩
      gi_wp2
      go_roundw
      case rel => exact ⟨k, by omega, by go_num, hJ3⟩
      case measure => simp [intOf]

/-! ### A round's body, walked as any code -/
/-- No defer statement among them. -/
def noDefer (ops : Array Oper) : Bool := ops.toList.all fun o => match o.op with | .defer _ => false | _ => true

/-- Code without loops, by its structure alone. -/
def swp (P : Program) : Code → (Exit → Act → World → Prop) → Act → World → Prop
  | .skip, Q, a, w => Q .normal a w
  | .region _ ops draw, Q, a, w => ∃ l : List Oper, ops = l.toArray ∧ draw = false ∧ noDefer ops = true ∧ wpList P ops Q l a w
  | .seq x y, Q, a, w => swp P x (Exit.then (swp P y Q) Q) a w
  | .block id c, Q, a, w => swp P c (Exit.inBlock id Q) a w
  | _, _, _, _ => False

theorem wpListIn_of {P : Program} {ops : Array Oper} {Q : Exit → Act → World → Prop} (hQ : ¬ LetsOut Q) (lr n : Nat) : ∀ (l : List Oper), (∀ o ∈ l, ∀ c, o.op ≠ .defer c) → ∀ (a : Act) (w : World),
    wpList P ops Q l a w → wpListIn (Fence.wide.inRound lr) n P ops Q l a w
  | [], _, _, _, h => h
  | o :: rest, hd, a, w, h => by
    unfold wpList at h
    unfold wpListIn
    have ih := wpListIn_of (P := P) (ops := ops) hQ lr n rest (fun o ho => hd o (by simp [ho]))
    split
    · rename_i hw
      rw [if_pos hw] at h
      have h := h.resolve_right fun h => hQ h.2
      refine ⟨fun _ _ => trivial, ?_⟩
      rw [Oper.semAt_eq _ _ _ (hd o (by simp))]
      unfold Oper.wp at h
      generalize (execOp a.eval o).run P w = r at h
      cases r with
      | ok m w' =>
        cases m <;> simp only [Oper.upon, Oper.uponIn] at h ⊢
        case value => exact ih _ _ h
        case skip => exact ih _ _ h
        case defer => exact ih _ _ h
        case enter =>
          refine ⟨fun h => (by cases h), (CallsIn.inRound lr (callsIn_wide.2 h)).mono fun e w'' hR => ?_⟩
          cases e with
          | returned v => exact ih _ _ hR
          | panicked c => exact hR
          | outgrown => exact hR
        case row =>
          refine ⟨fun h => (by cases h), ?_⟩
          intro c cs _
          obtain ⟨v, w'', hR, hs⟩ := h c cs
          exact ⟨v, w'', ih _ _ hR, stepsIn_wide.2 hs⟩
      | halt x w' => cases x <;> simp only [Oper.upon, Oper.uponIn] at h ⊢ <;> exact h
    · rename_i hw
      rw [if_neg hw] at h
      exact ⟨fun _ _ => trivial, ih _ _ h⟩

theorem LetsOut.then {K : Act → World → Prop} {Q : Exit → Act → World → Prop} (h : ¬ LetsOut Q) : ¬ LetsOut (Exit.then K Q) := h
theorem LetsOut.inBlock {id : Nat} {Q : Exit → Act → World → Prop} (h : ¬ LetsOut Q) : ¬ LetsOut (Exit.inBlock id Q) := h

theorem swp_wpIn {P : Program} (lr n : Nat) : ∀ (c : Code) (Q : Exit → Act → World → Prop) (a : Act) (w : World), ¬ LetsOut Q → swp P c Q a w → c.wpIn (Fence.wide.inRound lr) n P Q a w
  | .skip, Q, a, w, _, h => wpIn_skip h
  | .region id ops draw, Q, a, w, hQ, h => by
    obtain ⟨l, rfl, rfl, hd, h⟩ := h
    refine wpIn_region_lit (wpListIn_of hQ lr n _ (fun o ho c e => ?_) a w h)
    have := List.all_eq_true.1 hd o (by simpa using ho)
    rw [e] at this
    cases this
  | .seq x y, Q, a, w, hQ, h => by
    have h : swp P x (Exit.then (swp P y Q) Q) a w := h
    refine wpIn_seq (wpIn_mono (swp_wpIn lr n x _ a w (LetsOut.then hQ) h) fun e a w he => ?_)
    cases e with
    | normal => exact swp_wpIn lr n y Q a w hQ he
    | _ => exact he
  | .block id c, Q, a, w, hQ, h => wpIn_block (swp_wpIn lr n c _ a w (LetsOut.inBlock hQ) h)
  | .cond .., _, _, _, _, h => h.elim
  | .loop .., _, _, _, _, h => h.elim
  | .rangeFunc .., _, _, _, _, h => h.elim
  | .exit .., _, _, _, _, h => h.elim
  | .scope .., _, _, _, _, h => h.elim
  | .label .., _, _, _, _, h => h.elim
  | .goto .., _, _, _, _, h => h.elim
  | .ret, _, _, _, _, h => h.elim
  | .refuse .., _, _, _, _, h => h.elim

/-- The record of a loop, in whatever state. -/
def recOf (fn : FuncId) (tmps : Array Value) (ps : Array Tmp) (assign body : Code) (D : Nat) (st : LoopState) : Obj := .loop { state := st, pending := none, fn, tmps, params := ps, assign, body, defers := D }

theorem St.putTop {M X : List Nat} {w0 w : World} {L : List Res} {F : List Nat → World → Prop} {b : Nat} {o : Obj} (H : St M X w0 w (.obj b o :: L) F) (o' : Obj) : St M X w0 (w.putObj b o') (.obj b o' :: L) F := by
  have hb : w.heap[b]? = some o := H.get (k := 0) rfl
  have hl : b < w.heap.size := (Array.getElem?_eq_some_iff.1 hb).1
  refine H.swap (k := 0) rfl ⟨rfl, rfl, rfl, by simp [World.putObj], fun c _ hx => ?_⟩ ?_ (by simp [Res.ids]) (fun c hc => .inl hc)
  · exact World.putObj_heap_other (fun e => hx (by simp [Res.ids, e]))
  · show (w.putObj b o').heap[b]? = some o'
    simp [World.putObj, hl]

/-- Another object in the place of one of the walk's own, at place k. -/
theorem St.putAt {M X : List Nat} {w0 w : World} {L : List Res} {F : List Nat → World → Prop} (H : St M X w0 w L F) (k : Nat) {b : Nat} {o : Obj} (hk : L[k]? = some (.obj b o)) (o' : Obj) {f : Res → List Res} (hL : ∀ r, setC L k r some = some (f r)) :
    St M X w0 (w.putObj b o') (f (.obj b o')) F := by
  have hf : ∀ r, L.set k r = f r := fun r => Option.some.inj (setC_spec _ _ _ _ (hL r))
  have hb : w.heap[b]? = some o := H.get hk
  have hl : b < w.heap.size := (Array.getElem?_eq_some_iff.1 hb).1
  rw [← hf]
  refine H.swap hk ⟨rfl, rfl, rfl, by simp [World.putObj], fun c _ hx => ?_⟩ ?_ (by simp [Res.ids]) (fun c hc => .inl hc)
  · exact World.putObj_heap_other (fun e => hx (by simp [Res.ids, e]))
  · show (w.putObj b o').heap[b]? = some o'
    simp [World.putObj, hl]

/-- A callee has made a block, which is handed over. -/
theorem St.stepNew {M X : List Nat} {w0 w w' : World} {L : List Res} {F : List Nat → World → Prop} (H : St M X w0 w L F) (e : Ext [] w w') {b : Nat} {o : Obj} (hb : w'.heap[b]? = some o) (hn : w.heap.size ≤ b) : St M X w0 w' (.obj b o :: L) F where
  ext := H.ext.trans e.any
  holds r hr := by
    rcases List.mem_cons.1 hr with rfl | hr
    · exact hb
    · exact Res.keep (H.holds r hr) fun c hc => e.block c (Res.lt (H.holds r hr) c hc) (by simp)
  nodup := by
    show (idsOf (.obj b o :: L)).Nodup
    simp only [idsOf, List.flatMap_cons, Res.ids, List.singleton_append, List.nodup_cons]
    exact ⟨fun h => by have := H.lt _ h; omega, H.nodup⟩
  own c hc := by
    simp only [idsOf, List.flatMap_cons, Res.ids, List.singleton_append, List.mem_cons] at hc
    rcases hc with rfl | hc
    · exact .inr (Nat.le_trans H.ext.size hn)
    · exact H.own c hc
  low := H.low
  fact := H.stab.ext _ _ _ e.any (H.stab.fresh _ _ _ hn H.fact)
  stab := H.stab

/-- THE STATEMENT 'for _, x := range slices.Backward(l) { .. }' over terms: the body goes on in every round. lr, D: the loop's own two blocks. -/
theorem wp_backward {M X : List Nat} {w0 w : World} {g : Operand} {p0 p1 : Tmp} {assign body : Code} {Q : Exit → Act → World → Prop} {a : Act}
    {bs : Nat} {A : Option Addr} {cap : Nat} {l : List Tm} {tyS : TypeId} (hg : a.eval g = .func (.func 56) #[] #[.pointer (some ⟨bs, 0, none⟩)]) (hl : l.length ≤ 1000000) (hd : a.defers = [])
    {α : Type} (Lf : Nat → α → List Res) (Ff : Nat → α → List Nat → World → Prop) (x0 : α) (H : St M X w0 w (Lf l.length x0) (Ff l.length x0))
    (hbs : ∀ i x, Res.obj bs (.cells #[.slice A l.length cap] tyS) ∈ Lf i x) (hA : ∀ i x M w, Ff i x M w → AR A cap l M w)
    (hbody : ∀ (i : Nat) (hi : i < l.length) (x : α) (A' : Option Addr) (c' : Nat) (lr D : Nat) (o1 o2 oD : Obj) (W : World), St M X w0 W (.obj lr o1 :: .obj D oD :: Lf (i + 1) x) (Ff (i + 1) x) → AR A' c' (l[i]).args (idsOf (.obj lr o1 :: .obj D oD :: Lf (i + 1) x) ++ M) W →
      swp Try.prog assign (fun e a1 w1 => e = .normal ∧ w1.heap[lr]? = some o1 ∧ (w1.heap[lr]? = some o1 → swp Try.prog body (fun e a' W' => e = .normal ∧ ∃ x', St M X w0 W' (.obj lr o2 :: .obj D oD :: Lf i x') (Ff i x')) a1 (w1.putObj lr o2)))
        { tmps := (a.tmps.setIfInBounds p0 (.int .i64 (i : Int))).setIfInBounds p1 (.agg #[.int .i64 (l[i]).kind, .string (l[i]).name, .int .i64 (l[i]).int, .int .u64 (l[i]).re, .int .u64 (l[i]).im, .slice A' (l[i]).args.length c']), defers := [] } W)
    (hdone : ∀ (x : α) (lr D : Nat) (o1 : Obj) (W : World), St M X w0 W (.obj lr o1 :: .obj D (.deferred (some [])) :: Lf 0 x) (Ff 0 x) → Q .normal { a with defers := [{ target := .collected D, args := #[] }] } W) :
    (Code.rangeFunc g #[p0, p1] assign body).wp Try.prog Q a w := by
  refine (wpIn_wide (n := 6)).1 (wpIn_rangeFunc fun fn _ => ?_)
  have HD := H.new (.deferred (some []))
  have HL := HD.new (recOf fn a.tmps #[p0, p1] assign body w.heap.size .ready)
  have hs1 : (w.alloc (.deferred (some []))).heap.size = w.heap.size + 1 := by simp
  rw [hs1] at HL
  generalize hlr : w.heap.size + 1 = lr at HL
  generalize hD : w.heap.size = D at HL
  obtain ⟨W1, hW1⟩ : ∃ W1, W1 = (w.alloc (.deferred (some []))).alloc (recOf fn a.tmps #[p0, p1] assign body D .ready) := ⟨_, rfl⟩
  rw [← hW1] at HL
  refine ⟨lr, [{ target := .collected D, args := #[] }], W1, { target := .fn (.func 56) #[.pointer (some ⟨bs, 0, none⟩)], args := #[.func (.yield lr) #[] #[]] }, W1, 56, #[.func (.yield lr) #[] #[], .pointer (some ⟨bs, 0, none⟩)], W1, ?_, ?_, fun _ _ => trivial, ?_, fun h => (by cases h), ?_⟩
  · rw [hW1]
    simp [Instr.enterLoop, Fence.wide, newObj, Sem.run, recOf, hD]
    omega
  · have hcv : ∀ v, a.eval (.const v) = v := fun _ => rfl
    simp [resolve, rangeCall, hg, Deferred.ofValue, hcv]
  · go_simp
  · refine (back_in lr bs A cap l hl (fun i W => ∃ x, St M X w0 W (.obj lr (recOf fn a.tmps #[p0, p1] assign body D .ready) :: .obj D (.deferred (some [])) :: Lf i x) (Ff i x)) ?_ ?_ W1 ⟨x0, HL⟩).mono ?_
    · rintro i W ⟨x, hS⟩
      have hm : Res.obj bs (.cells #[.slice A l.length cap] tyS) ∈ (.obj lr (recOf fn a.tmps #[p0, p1] assign body D .ready) :: .obj D (.deferred (some [])) :: Lf i x) := by simp [hbs i x]
      have hb : W.heap[bs]? = some (.cells #[.slice A l.length cap] tyS) := hS.holds _ hm
      exact ⟨by simp [World.cell?, hb], _, hA i x _ _ hS.fact⟩
    · intro i hi A' c' W ⟨x, hS⟩ hA'
      have hlr : W.heap[lr]? = some (recOf fn a.tmps #[p0, p1] assign body D .ready) := hS.get (k := 0) rfl
      refine ⟨fn, (a.tmps.setIfInBounds p0 (.int .i64 (i : Int))).setIfInBounds p1 (.agg #[.int .i64 (l[i]).kind, .string (l[i]).name, .int .i64 (l[i]).int, .int .u64 (l[i]).re, .int .u64 (l[i]).im, .slice A' (l[i]).args.length c']), assign, body, ?_, ?_⟩
      · simp [Instr.yield, Instr.getLoop, getObj, Sem.run, hlr, recOf]
      · have hb := hbody i hi x A' c' lr D _ (recOf fn a.tmps #[p0, p1] assign body D .busy) _ W hS (hA' _ (hA _ _ _ _ hS.fact))
        refine roundIn_of_wpIn trivial ?_
        refine wpIn_mono (swp_wpIn lr _ assign _ _ _ ?_ hb) ?_
        · rintro ⟨a', w', h, _⟩; cases h
        · rintro e a1 w1 ⟨rfl, hl1, hb1⟩
          refine ⟨w1.putObj lr (recOf fn a.tmps #[p0, p1] assign body D .busy), ?_, ?_⟩
          · simp [Instr.beginRound, Instr.getLoop, getObj, setObj, Sem.run, hl1, recOf, World.putObj]
          · refine wpIn_mono (swp_wpIn lr _ body _ _ _ ?_ (hb1 hl1)) ?_
            · rintro ⟨a', w', h, _⟩; cases h
            · rintro e a2 w2 ⟨rfl, x', hS2⟩
              have hl2 : w2.heap[lr]? = some (recOf fn a.tmps #[p0, p1] assign body D .busy) := hS2.get (k := 0) rfl
              refine ⟨.bool true, w2.putObj lr (recOf fn a.tmps #[p0, p1] assign body D .ready), ?_, rfl, x', hS2.putTop _⟩
              simp [Instr.endRound, Instr.getLoop, getObj, setObj, Sem.run, hl2, recOf, World.putObj]
    · rintro e W ⟨⟨v, rfl⟩, x, hS⟩
      have hlr : W.heap[lr]? = some (recOf fn a.tmps #[p0, p1] assign body D .ready) := hS.get (k := 0) rfl
      refine ⟨none, W.putObj lr (recOf fn a.tmps #[p0, p1] assign body D .exhausted), ?_, ?_⟩
      · simp [Instr.endLoop, Instr.getLoop, getObj, setObj, Sem.run, hlr, recOf, World.putObj]
      · have := hdone x lr D _ _ (hS.putTop (recOf fn a.tmps #[p0, p1] assign body D .exhausted))
        rw [hd]
        exact this

set_option maxRecDepth 100000 in
/-- slices.Backward of a slice of terms: a function value that has the slice in a box of its own. -/
theorem backward_spec (v : Value) (hv : ∃ A n c, v = .slice A n c) (w0 : World) : Calls Try.prog 55 #[v] w0 fun e w' =>
    ∃ bs, e = .returned (.func (.func 56) #[] #[.pointer (some ⟨bs, 0, none⟩)]) ∧ w'.heap[bs]? = some (.cells #[v] 23 (0, 0)) ∧ w0.heap.size ≤ bs ∧ Ext [] w0 w' := by
  obtain ⟨A, n, c, rfl⟩ := hv
  have H := St.start (M := []) (w := w0) (F := fun _ _ => True) (by simp) (Stab.const True) trivial
  go_enter Try.func55, Try.ntmps55
  go_wp2_with (first | ((with_reducible refine wpl_runx_d 1 rfl ?_ ?_); (focus exact rfl); refine ⟨_, runs_box H rfl rfl, ?_⟩; clear H; rintro _ w ⟨b1, rfl, hE, H⟩; clear hE) | ((with_reducible refine wpl_runx ?_ ?_); (focus exact rfl); refine ⟨_, runs_load H 0 rfl rfl rfl rfl rfl, ?_⟩; rintro _ _ ⟨rfl, rfl⟩) | ((with_reducible refine wpl_runx ?_ ?_); (focus exact rfl); refine ⟨_, runs_store H 0 rfl rfl rfl rfl rfl rfl rfl rfl rfl, ?_⟩; clear H; rintro _ w ⟨rfl, hE, H⟩; clear hE))
  go_ret
  have := H.own b1 (by simp [idsOf, Res.ids])
  exact ⟨b1, rfl, H.get (k := 0) rfl, by simpa using this, H.ext⟩

/-! ### A function that holds such a statement -/
theorem calls_marks {P : Program} {f : FuncId} {fn : Func} {c : Code} {args : Array Value} {w : World} {R : Ending → World → Prop} (hf : P.funcs[f]? = some fn) (hb : fn.body = some c)
    (h : c.wp P (bodyPostM Fence.wide 6 P fn R) { tmps := args ++ Array.replicate (fn.ntmps - args.size) undef, defers := [] } w) : Calls P f args w R :=
  callsIn_wide.1 (callsIn_of_wp_marks hf hb trivial ((wpIn_wide (n := 6)).2 h))

/-- It leaves behind such a loop: the loop's block for deferred calls is shut. -/
theorem leave_marked {P : Program} {fn : Func} {R : Ending → World → Prop} {a : Act} {M X : List Nat} {w0 w : World} {L : List Res} {F : List Nat → World → Prop} (H : St M X w0 w L F) (k : Nat) {D : Nat} (hk : L[k]? = some (.obj D (.deferred (some []))))
    (hd : a.defers = [{ target := .collected D, args := #[] }]) {f : Res → List Res} (hL : ∀ r, setC L k r some = some (f r))
    (h : ∀ w', St M X w0 w' (f (.obj D (.deferred none))) F → ∃ v, (results fn a.tmps).run P w' = .ok v w' ∧ R (.returned v) w') : bodyPostM Fence.wide 6 P fn R .ret a w ∧ bodyPostM Fence.wide 6 P fn R .normal a w := by
  have hf : ∀ r, L.set k r = f r := fun r => Option.some.inj (setC_spec _ _ _ _ (hL r))
  have hD := H.get hk
  have hl : D < w.heap.size := (Array.getElem?_eq_some_iff.1 hD).1
  have H' : St M X w0 (w.putObj D (.deferred none)) (f (.obj D (.deferred none))) F := by
    rw [← hf]
    refine H.swap hk ⟨rfl, rfl, rfl, by simp [World.putObj], fun c _ hx => ?_⟩ ?_ (by simp [Res.ids]) (fun c hc => .inl hc)
    · exact World.putObj_heap_other (fun e => hx (by simp [Res.ids, e]))
    · show (w.putObj D (.deferred none)).heap[D]? = some (.deferred none)
      simp [World.putObj, hl]
  obtain ⟨v, hv, hR⟩ := h _ H'
  have key : LeavesInM Fence.wide 6 P fn a.tmps R a.defers .returning w := by
    rw [hd]
    refine ⟨by simp, .inl ⟨D, w.putObj D (.deferred none), rfl, ?_, ⟨v, hv, hR⟩⟩⟩
    simp [Instr.takeDeferred, getObj, setObj, Sem.run, hD, World.putObj]
  exact ⟨key, key⟩

/-- It leaves where no such loop was entered. -/
theorem leave_plain {P : Program} {fn : Func} {R : Ending → World → Prop} {a : Act} {w : World} (hd : a.defers = []) {v : Value} (hv : (results fn a.tmps).run P w = .ok v w) (hR : R (.returned v) w) :
    bodyPostM Fence.wide 6 P fn R .ret a w ∧ bodyPostM Fence.wide 6 P fn R .normal a w := by
  have key : LeavesInM Fence.wide 6 P fn a.tmps R a.defers .returning w := by
    rw [hd]
    exact ⟨v, hv, hR⟩
  exact ⟨key, key⟩
end Go.Proofs.Ytgopldabdheehaa
