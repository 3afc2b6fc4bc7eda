/- Contracts of the layers below, in one form. -/
import Derived.Test.YthiionkikammkaaAuto
import Derived.Test.YthiionkikammkaaEqual
import Derived.Test.YthiionkikammkaaLight
namespace Go.Proofs.Ythiionkikammkaa
open Go.RowKit
set_option linter.unusedVariables false
set_option linter.unusedSimpArgs false
set_option maxRecDepth 20000
set_option maxHeartbeats 1000000

theorem slimA_mono : ∀ t : Tm, okT t → slimA t → slimA t := fun _ _ h => h
theorem slimA_rename (t : Tm) : slimA (renameE t) := by
  unfold renameE
  split
  · rename_i h
    exact slimA_turn _ (fun n => slimA_var _) t (mayE_ok.1 h).1
  · unfold Tm.zero slimA; exact ⟨Nat.zero_le _, trivial⟩
theorem slim_plain (t : Tm) : slim (plainE t) := slim_of_slimA _ (slimA_plain t)
theorem slim_rename (t : Tm) : slim (renameE t) := slim_of_slimA _ (slimA_rename t)

theorem atom_c {M X : List Nat} {w1 w0 : World} {L : List Res} {F : List Nat → World → Prop} (H : St M X w1 w0 L F) (s : ByteArray)    : Calls Try.prog 27 #[.string s] w0 (RetT (idsOf L ++ M) w0 ((Tm.mk 2 s 0 0 0 []))) := by
  exact atom_spec s _ _ H.ltAll
theorem var_c {M X : List Nat} {w1 w0 : World} {L : List Res} {F : List Nat → World → Prop} (H : St M X w1 w0 L F) (n : Int)    : Calls Try.prog 29 #[.int .i64 n] w0 (RetT (idsOf L ++ M) w0 ((varT n))) := by
  exact var_spec n _ _ H.ltAll
theorem variable_c {M X : List Nat} {w1 w0 : World} {L : List Res} {F : List Nat → World → Prop} (H : St M X w1 w0 L F) (n : Int)    : Calls Try.prog 52 #[.int .i64 n] w0 (RetT (idsOf L ++ M) w0 ((varT n))) := by
  exact variable_spec n _ _ H.ltAll
theorem comp_c {M X : List Nat} {w1 w0 : World} {L : List Res} {F : List Nat → World → Prop} (H : St M X w1 w0 L F) (s : ByteArray) (Al : Option Addr) (cl lenl : Nat) (l : List Tm) [xl : HasAR F Al cl l] (el : lenl = l.length)  : Calls Try.prog 17 #[.string s, .slice Al lenl cl] w0 (RetT (idsOf L ++ M) w0 ((Tm.mk 5 s 0 0 0 l))) := by
  subst el
  exact comp_spec s Al cl l _ _ H.ltAll H.ar
theorem may_c {M X : List Nat} {w1 w0 : World} {L : List Res} {F : List Nat → World → Prop} (H : St M X w1 w0 L F) (kt : Int) (st : ByteArray) (nt rt it : Int) (At : Option Addr) (ct lent : Nat) (lt : List Tm) [xt : HasAR F At ct lt] (et : lent = lt.length)  : Calls Try.prog 39 #[.agg #[.int .i64 kt, .string st, .int .i64 nt, .int .u64 rt, .int .u64 it, .slice At lent ct]] w0 (RetV w0 (.int .i64 (mayE (Tm.mk kt st nt rt it lt)))) := by
  subst et
  exact may_spec (Tm.mk kt st nt rt it lt) At ct _ H.ar0
theorem plain_c {M X : List Nat} {w1 w0 : World} {L : List Res} {F : List Nat → World → Prop} (H : St M X w1 w0 L F) (kt : Int) (st : ByteArray) (nt rt it : Int) (At : Option Addr) (ct lent : Nat) (lt : List Tm) [xt : HasAR F At ct lt] (et : lent = lt.length)  : Calls Try.prog 34 #[.agg #[.int .i64 kt, .string st, .int .i64 nt, .int .u64 rt, .int .u64 it, .slice At lent ct]] w0 (RetT (idsOf L ++ M) w0 ((plainE (Tm.mk kt st nt rt it lt)))) := by
  subst et
  exact plain_spec (Tm.mk kt st nt rt it lt) At ct _ _ H.ltAll H.ar
theorem rMay_c {M X : List Nat} {w1 w0 : World} {L : List Res} {F : List Nat → World → Prop} (H : St M X w1 w0 L F) (kt : Int) (st : ByteArray) (nt rt it : Int) (At : Option Addr) (ct lent : Nat) (lt : List Tm) [xt : HasAR F At ct lt] (et : lent = lt.length) (pre0 : slim (Tm.mk kt st nt rt it lt)) : Calls Try.prog 14 #[.agg #[.int .i64 kt, .string st, .int .i64 nt, .int .u64 rt, .int .u64 it, .slice At lent ct]] w0 (RetV w0 (.int .i64 (mayE (Tm.mk kt st nt rt it lt)))) := by
  subst et
  exact rMay_spec (Tm.mk kt st nt rt it lt) At ct _ pre0 H.ar0
theorem rplain_c {M X : List Nat} {w1 w0 : World} {L : List Res} {F : List Nat → World → Prop} (H : St M X w1 w0 L F) (kt : Int) (st : ByteArray) (nt rt it : Int) (At : Option Addr) (ct lent : Nat) (lt : List Tm) [xt : HasAR F At ct lt] (et : lent = lt.length) (pre0 : slim (Tm.mk kt st nt rt it lt)) : Calls Try.prog 36 #[.agg #[.int .i64 kt, .string st, .int .i64 nt, .int .u64 rt, .int .u64 it, .slice At lent ct]] w0 (RetT (idsOf L ++ M) w0 ((turnT varT (Tm.mk kt st nt rt it lt)))) := by
  subst et
  exact rplain_spec (Tm.mk kt st nt rt it lt) _ _ At ct H.ltAll H.ar pre0

theorem rSame_c {M X : List Nat} {w1 w0 : World} {L : List Res} {F : List Nat → World → Prop} (H : St M X w1 w0 L F) (kt : Int) (st : ByteArray) (nt rt it : Int) (At : Option Addr) (ct lent : Nat) (lt : List Tm) (ku : Int) (su : ByteArray) (nu ru iu : Int) (Au : Option Addr) (cu lenu : Nat) (lu : List Tm) [xt : HasAR F At ct lt] [xu : HasAR F Au cu lu] (et : lent = lt.length) (eu : lenu = lu.length) (pre0 : slimA (Tm.mk kt st nt rt it lt)) (pre1 : slim (Tm.mk ku su nu ru iu lu)) : Calls Try.prog 18 #[.agg #[.int .i64 kt, .string st, .int .i64 nt, .int .u64 rt, .int .u64 it, .slice At lent ct], .agg #[.int .i64 ku, .string su, .int .i64 nu, .int .u64 ru, .int .u64 iu, .slice Au lenu cu]] w0 (RetV w0 (.bool (rSameE (Tm.mk kt st nt rt it lt) (Tm.mk ku su nu ru iu lu)))) := by
  subst et eu
  exact rSame_spec (Tm.mk kt st nt rt it lt) (Tm.mk ku su nu ru iu lu) At Au ct cu _ pre0 pre1 H.ar0 H.ar0
theorem Equal_c {M X : List Nat} {w1 w0 : World} {L : List Res} {F : List Nat → World → Prop} (H : St M X w1 w0 L F) (kt : Int) (st : ByteArray) (nt rt it : Int) (At : Option Addr) (ct lent : Nat) (lt : List Tm) (ku : Int) (su : ByteArray) (nu ru iu : Int) (Au : Option Addr) (cu lenu : Nat) (lu : List Tm) [xt : HasAR F At ct lt] [xu : HasAR F Au cu lu] (et : lent = lt.length) (eu : lenu = lu.length) (pre0 : slimA (Tm.mk kt st nt rt it lt)) (pre1 : slimA (Tm.mk ku su nu ru iu lu)) : Calls Try.prog 33 #[.agg #[.int .i64 kt, .string st, .int .i64 nt, .int .u64 rt, .int .u64 it, .slice At lent ct], .agg #[.int .i64 ku, .string su, .int .i64 nu, .int .u64 ru, .int .u64 iu, .slice Au lenu cu]] w0 (RetV w0 (.bool (EqualE (Tm.mk kt st nt rt it lt) (Tm.mk ku su nu ru iu lu)))) := by
  subst et eu
  exact Equal_spec (Tm.mk kt st nt rt it lt) (Tm.mk ku su nu ru iu lu) At Au ct cu _ pre0 pre1 H.ar0 H.ar0
theorem Light_c {M X : List Nat} {w1 w0 : World} {L : List Res} {F : List Nat → World → Prop} (H : St M X w1 w0 L F) (Al : Option Addr) (cl lenl : Nat) (l : List Tm) [xl : HasAR F Al cl l] (el : lenl = l.length) (pre0 : List.length l ≤ maxLen) : Calls Try.prog 10 #[.slice Al lenl cl] w0 (RetV w0 (.bool (LightE l 0 4000))) := by
  subst el
  exact Light_spec l Al cl _ pre0 H.ar0
end Go.Proofs.Ythiionkikammkaa
