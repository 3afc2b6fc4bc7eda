/- Contracts of the layers below, in one form. -/
import Derived.Test.YtgopldabdheehaaAuto
import Derived.Test.YtgopldabdheehaaEqual
import Derived.Test.YtgopldabdheehaaLight
namespace Go.Proofs.Ytgopldabdheehaa
open Go.RowKit
set_option linter.unusedVariables false
set_option linter.unusedSimpArgs false
set_option maxRecDepth 20000
set_option maxHeartbeats 1000000

theorem slimA_mono : ∀ t : Tm, okT t → slimA t → slimA t := fun _ _ h => h
theorem slimA_rename (t : Tm) : slimA (renameE t) := by
  unfold renameE
  split
  · rename_i h
    exact slimA_turn _ (fun n => slimA_var _) t (mayE_ok.1 h).1
  · unfold Tm.zero slimA; exact ⟨Nat.zero_le _, trivial⟩
theorem slim_plain (t : Tm) : slim (plainE t) := slim_of_slimA _ (slimA_plain t)
theorem slim_rename (t : Tm) : slim (renameE t) := slim_of_slimA _ (slimA_rename t)

theorem may_c {M X : List Nat} {w1 w0 : World} {L : List Res} {F : List Nat → World → Prop} (H : St M X w1 w0 L F) (kt : Int) (st : ByteArray) (nt rt it : Int) (At : Option Addr) (ct lent : Nat) (lt : List Tm) [xt : HasAR F At ct lt] (et : lent = lt.length)  : Calls Try.prog 39 #[.agg #[.int .i64 kt, .string st, .int .i64 nt, .int .u64 rt, .int .u64 it, .slice At lent ct]] w0 (RetV w0 (.int .i64 (mayE (Tm.mk kt st nt rt it lt)))) := by
  subst et
  exact may_spec (Tm.mk kt st nt rt it lt) At ct _ H.ar0
theorem rMay_c {M X : List Nat} {w1 w0 : World} {L : List Res} {F : List Nat → World → Prop} (H : St M X w1 w0 L F) (kt : Int) (st : ByteArray) (nt rt it : Int) (At : Option Addr) (ct lent : Nat) (lt : List Tm) [xt : HasAR F At ct lt] (et : lent = lt.length) (pre0 : slim (Tm.mk kt st nt rt it lt)) : Calls Try.prog 29 #[.agg #[.int .i64 kt, .string st, .int .i64 nt, .int .u64 rt, .int .u64 it, .slice At lent ct]] w0 (RetV w0 (.int .i64 (mayE (Tm.mk kt st nt rt it lt)))) := by
  subst et
  exact rMay_spec (Tm.mk kt st nt rt it lt) At ct _ pre0 H.ar0
theorem rplain_c {M X : List Nat} {w1 w0 : World} {L : List Res} {F : List Nat → World → Prop} (H : St M X w1 w0 L F) (kt : Int) (st : ByteArray) (nt rt it : Int) (At : Option Addr) (ct lent : Nat) (lt : List Tm) [xt : HasAR F At ct lt] (et : lent = lt.length) (pre0 : slim (Tm.mk kt st nt rt it lt)) : Calls Try.prog 50 #[.agg #[.int .i64 kt, .string st, .int .i64 nt, .int .u64 rt, .int .u64 it, .slice At lent ct]] w0 (RetT (idsOf L ++ M) w0 ((turnT varT (Tm.mk kt st nt rt it lt)))) := by
  subst et
  exact rplain_spec (Tm.mk kt st nt rt it lt) _ _ At ct H.ltAll H.ar pre0
theorem rPlain_c {M X : List Nat} {w1 w0 : World} {L : List Res} {F : List Nat → World → Prop} (H : St M X w1 w0 L F) (kt : Int) (st : ByteArray) (nt rt it : Int) (At : Option Addr) (ct lent : Nat) (lt : List Tm) [xt : HasAR F At ct lt] (et : lent = lt.length) (pre0 : slim (Tm.mk kt st nt rt it lt)) : Calls Try.prog 47 #[.agg #[.int .i64 kt, .string st, .int .i64 nt, .int .u64 rt, .int .u64 it, .slice At lent ct]] w0 (RetT (idsOf L ++ M) w0 ((plainE (Tm.mk kt st nt rt it lt)))) := by
  subst et
  exact rPlain_spec (Tm.mk kt st nt rt it lt) At ct _ _ pre0 H.ltAll H.ar
theorem Light_c {M X : List Nat} {w1 w0 : World} {L : List Res} {F : List Nat → World → Prop} (H : St M X w1 w0 L F) (Al : Option Addr) (cl lenl : Nat) (l : List Tm) [xl : HasAR F Al cl l] (el : lenl = l.length) (pre0 : List.length l ≤ maxLen) : Calls Try.prog 8 #[.slice Al lenl cl] w0 (RetV w0 (.bool (LightE l 0 4000))) := by
  subst el
  exact Light_spec l Al cl _ pre0 H.ar0
end Go.Proofs.Ytgopldabdheehaa
