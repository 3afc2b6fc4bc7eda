/-
  NARROWER THAN 'FOR EVERY INPUT', by the rows' own cells (each row's printed sentence says how): OrderCompares: loops · OrderKinds: loops · OrderArgs: loops · OrderTotal: loops · OrderSorts: loops · OrderSorted: loops · OrderSets: loops.
  DERIVED. THE GIVEN ROWS OF THIS SEAT. 7 by the template 'for every input the law returns true; each argument reads behind the call as it read before'; 0 by the template 'total and deterministic' (their statements: YthiionkikammkaaTotals.lean).
  GIVEN WITH THE SEED: the statements are not yours to turn. If you find one false, say at which input.
  Laid BY PROGRAM, IN A SANDBOX (cutbox-rows.mjs): the forced cells as the released guide's own fill.sh prints them over the translation 42b0db03df1d47be… (all of the seat's roots in one cut). By AI agents, Wed Nov 11 2026. No macro, syntax, notation, axiom, sorry.
-/
import Derived.Test.YthiionkikammkaaChecked
import GoSem.Claim
import GoSem.ClaimJoined
import GoSem.ClaimMapViews
import Derived.JoinedTies
import Derived.KernelRfl
namespace Go.Proofs.Ythiionkikammkaa
/- THE CELL 'sum', in the pinned program and in every row, IS THE sha256 OF THE DUMP (.gsa) THAT YthiionkikammkaaProg.lean LOADS. Nothing in Lean hashes anything: it is a label: what it is worth is what the hold of that sum in a sandbox is worth. -/
noncomputable def Try.pinned : Pinned := { name := "ythiionkikammkaa", sum := "42b0db03df1d47bee87b8d8a461b1d7d6a4e3d7798a1ef2398d7e206df0fd90b", checked := Try.checked }
namespace Rows
def none {H : Type} : Left H := { results := [], args := [] }

/-- 'elenchuslaw9.OrderCompares': WHATEVER THE INPUT: true; the input reads as it did. -/
def orderComparesSpec : ChangeSpec := { name := "orderCompares", fn := fun _ => fun
  | [d1, d2] => { results := [.lit (.bool true)], args := [d1, d2] }
  | _ => none }
def orderComparesRow : OpenClaim := { program := "ythiionkikammkaa", sum := "42b0db03df1d47bee87b8d8a461b1d7d6a4e3d7798a1ef2398d7e206df0fd90b", func := "elenchus/elenchuslaw9.OrderCompares", spec := "orderCompares", unfollowed := true, recurses := true, loops := true, apart := false }
def OrderComparesSaid : Prop := orderComparesRow.holds Try.pinned (OpenSpec.ofChange orderComparesSpec)

/-- ITS FALSE NEIGHBOUR: 'it returns false'. Refute it at one input. -/
def orderComparesWrong : ChangeSpec := { name := "orderCompares", fn := fun _ => fun
  | [d1, d2] => { results := [.lit (.bool false)], args := [d1, d2] }
  | _ => none }
def OrderComparesWrongFalsely : Prop := orderComparesRow.holds Try.pinned (OpenSpec.ofChange orderComparesWrong)

/-- 'elenchuslaw9.OrderKinds': WHATEVER THE INPUT: true; the input reads as it did. -/
def orderKindsSpec : ChangeSpec := { name := "orderKinds", fn := fun _ => fun
  | [d1, d2] => { results := [.lit (.bool true)], args := [d1, d2] }
  | _ => none }
def orderKindsRow : OpenClaim := { program := "ythiionkikammkaa", sum := "42b0db03df1d47bee87b8d8a461b1d7d6a4e3d7798a1ef2398d7e206df0fd90b", func := "elenchus/elenchuslaw9.OrderKinds", spec := "orderKinds", unfollowed := true, recurses := true, loops := true, apart := false }
def OrderKindsSaid : Prop := orderKindsRow.holds Try.pinned (OpenSpec.ofChange orderKindsSpec)

/-- ITS FALSE NEIGHBOUR: 'it returns false'. Refute it at one input. -/
def orderKindsWrong : ChangeSpec := { name := "orderKinds", fn := fun _ => fun
  | [d1, d2] => { results := [.lit (.bool false)], args := [d1, d2] }
  | _ => none }
def OrderKindsWrongFalsely : Prop := orderKindsRow.holds Try.pinned (OpenSpec.ofChange orderKindsWrong)

/-- 'elenchuslaw9.OrderArgs': WHATEVER THE INPUT: true; the input reads as it did. -/
def orderArgsSpec : ChangeSpec := { name := "orderArgs", fn := fun _ => fun
  | [d1, d2, d3, d4] => { results := [.lit (.bool true)], args := [d1, d2, d3, d4] }
  | _ => none }
def orderArgsRow : OpenClaim := { program := "ythiionkikammkaa", sum := "42b0db03df1d47bee87b8d8a461b1d7d6a4e3d7798a1ef2398d7e206df0fd90b", func := "elenchus/elenchuslaw9.OrderArgs", spec := "orderArgs", unfollowed := true, recurses := true, loops := true, apart := false }
def OrderArgsSaid : Prop := orderArgsRow.holds Try.pinned (OpenSpec.ofChange orderArgsSpec)

/-- ITS FALSE NEIGHBOUR: 'it returns false'. Refute it at one input. -/
def orderArgsWrong : ChangeSpec := { name := "orderArgs", fn := fun _ => fun
  | [d1, d2, d3, d4] => { results := [.lit (.bool false)], args := [d1, d2, d3, d4] }
  | _ => none }
def OrderArgsWrongFalsely : Prop := orderArgsRow.holds Try.pinned (OpenSpec.ofChange orderArgsWrong)

/-- 'elenchuslaw9.OrderTotal': WHATEVER THE INPUT: true; the input reads as it did. -/
def orderTotalSpec : ChangeSpec := { name := "orderTotal", fn := fun _ => fun
  | [d1, d2, d3] => { results := [.lit (.bool true)], args := [d1, d2, d3] }
  | _ => none }
def orderTotalRow : OpenClaim := { program := "ythiionkikammkaa", sum := "42b0db03df1d47bee87b8d8a461b1d7d6a4e3d7798a1ef2398d7e206df0fd90b", func := "elenchus/elenchuslaw9.OrderTotal", spec := "orderTotal", unfollowed := true, recurses := true, loops := true, apart := false }
def OrderTotalSaid : Prop := orderTotalRow.holds Try.pinned (OpenSpec.ofChange orderTotalSpec)

/-- ITS FALSE NEIGHBOUR: 'it returns false'. Refute it at one input. -/
def orderTotalWrong : ChangeSpec := { name := "orderTotal", fn := fun _ => fun
  | [d1, d2, d3] => { results := [.lit (.bool false)], args := [d1, d2, d3] }
  | _ => none }
def OrderTotalWrongFalsely : Prop := orderTotalRow.holds Try.pinned (OpenSpec.ofChange orderTotalWrong)

/-- 'elenchuslaw9.OrderSorts': WHATEVER THE INPUT: true; the input reads as it did. -/
def orderSortsSpec : ChangeSpec := { name := "orderSorts", fn := fun _ => fun
  | [d] => { results := [.lit (.bool true)], args := [d] }
  | _ => none }
def orderSortsRow : OpenClaim := { program := "ythiionkikammkaa", sum := "42b0db03df1d47bee87b8d8a461b1d7d6a4e3d7798a1ef2398d7e206df0fd90b", func := "elenchus/elenchuslaw9.OrderSorts", spec := "orderSorts", unfollowed := true, recurses := true, loops := true, apart := false }
def OrderSortsSaid : Prop := orderSortsRow.holds Try.pinned (OpenSpec.ofChange orderSortsSpec)

/-- ITS FALSE NEIGHBOUR: 'it returns false'. Refute it at one input. -/
def orderSortsWrong : ChangeSpec := { name := "orderSorts", fn := fun _ => fun
  | [d] => { results := [.lit (.bool false)], args := [d] }
  | _ => none }
def OrderSortsWrongFalsely : Prop := orderSortsRow.holds Try.pinned (OpenSpec.ofChange orderSortsWrong)

/-- 'elenchuslaw9.OrderSorted': WHATEVER THE INPUT: true; the input reads as it did. -/
def orderSortedSpec : ChangeSpec := { name := "orderSorted", fn := fun _ => fun
  | [d] => { results := [.lit (.bool true)], args := [d] }
  | _ => none }
def orderSortedRow : OpenClaim := { program := "ythiionkikammkaa", sum := "42b0db03df1d47bee87b8d8a461b1d7d6a4e3d7798a1ef2398d7e206df0fd90b", func := "elenchus/elenchuslaw9.OrderSorted", spec := "orderSorted", unfollowed := true, recurses := true, loops := true, apart := false }
def OrderSortedSaid : Prop := orderSortedRow.holds Try.pinned (OpenSpec.ofChange orderSortedSpec)

/-- ITS FALSE NEIGHBOUR: 'it returns false'. Refute it at one input. -/
def orderSortedWrong : ChangeSpec := { name := "orderSorted", fn := fun _ => fun
  | [d] => { results := [.lit (.bool false)], args := [d] }
  | _ => none }
def OrderSortedWrongFalsely : Prop := orderSortedRow.holds Try.pinned (OpenSpec.ofChange orderSortedWrong)

/-- 'elenchuslaw9.OrderSets': WHATEVER THE INPUT: true; the input reads as it did. -/
def orderSetsSpec : ChangeSpec := { name := "orderSets", fn := fun _ => fun
  | [d1, d2] => { results := [.lit (.bool true)], args := [d1, d2] }
  | _ => none }
def orderSetsRow : OpenClaim := { program := "ythiionkikammkaa", sum := "42b0db03df1d47bee87b8d8a461b1d7d6a4e3d7798a1ef2398d7e206df0fd90b", func := "elenchus/elenchuslaw9.OrderSets", spec := "orderSets", unfollowed := true, recurses := true, loops := true, apart := false }
def OrderSetsSaid : Prop := orderSetsRow.holds Try.pinned (OpenSpec.ofChange orderSetsSpec)

/-- ITS FALSE NEIGHBOUR: 'it returns false'. Refute it at one input. -/
def orderSetsWrong : ChangeSpec := { name := "orderSets", fn := fun _ => fun
  | [d1, d2] => { results := [.lit (.bool false)], args := [d1, d2] }
  | _ => none }
def OrderSetsWrongFalsely : Prop := orderSetsRow.holds Try.pinned (OpenSpec.ofChange orderSetsWrong)

/- THE SECOND FORM. 'bulk': how many values and letters a reading holds, each counted each time it is reached (what is shared counts as often as it is met; a slice's spare places count too). A statement '..UptoSaid' is the law's where the arguments, and the package variables that the reading takes, are together of bulk at most 1048576: NARROWER than '..Said'. Prove '..Said' where nothing that the law and all that it calls make is longer than what came in: it says more and counts as full. Else prove '..UptoSaid'. A law counts once. -/
mutual
def uptoBulk {H : Type} : DataW H → Nat
  | .lit (.string bytes) => bytes.length + 1
  | .lit _ => 1
  | .nil => 1
  | .ptr d => uptoBulk d + 1
  | .slice elems spare => uptoBulkAll elems + uptoBulkAll spare + 1
  | .agg parts => uptoBulkAll parts + 1
  | .iface _ d => uptoBulk d + 1
  | .map entries => uptoBulkEntries entries + 1
  | .held _ => 1
def uptoBulkAll {H : Type} : List (DataW H) → Nat
  | [] => 0
  | d :: r => uptoBulk d + uptoBulkAll r
def uptoBulkEntries {H : Type} : List (Lit × DataW H) → Nat
  | [] => 0
  | x :: r => uptoBulkEntry x + uptoBulkEntries r
def uptoBulkEntry {H : Type} : Lit × DataW H → Nat
  | (.string bytes, d) => bytes.length + uptoBulk d + 1
  | (_, d) => uptoBulk d + 1
 end
def uptoSmall : (H : Type) → List (DataW H) → Bool := fun _ ds => decide (uptoBulkAll ds ≤ 1048576)
def OpenSpec.upto (s : _root_.Go.ChangeSpec) : _root_.Go.OpenSpec := { _root_.Go.OpenSpec.ofChange s with cond := some uptoSmall }

/-- 'elenchuslaw9.OrderCompares', WHERE WHAT IT READS IS OF BULK AT MOST 1048576: true; the input reads as it did. -/
def orderComparesUptoRow : OpenClaim := { program := "ythiionkikammkaa", sum := "42b0db03df1d47bee87b8d8a461b1d7d6a4e3d7798a1ef2398d7e206df0fd90b", func := "elenchus/elenchuslaw9.OrderCompares", spec := "orderCompares", unfollowed := true, recurses := true, loops := true, apart := false, narrowed := true }
def OrderComparesUptoSaid : Prop := orderComparesUptoRow.holds Try.pinned (OpenSpec.upto orderComparesSpec)

/-- 'elenchuslaw9.OrderKinds', WHERE WHAT IT READS IS OF BULK AT MOST 1048576: true; the input reads as it did. -/
def orderKindsUptoRow : OpenClaim := { program := "ythiionkikammkaa", sum := "42b0db03df1d47bee87b8d8a461b1d7d6a4e3d7798a1ef2398d7e206df0fd90b", func := "elenchus/elenchuslaw9.OrderKinds", spec := "orderKinds", unfollowed := true, recurses := true, loops := true, apart := false, narrowed := true }
def OrderKindsUptoSaid : Prop := orderKindsUptoRow.holds Try.pinned (OpenSpec.upto orderKindsSpec)

/-- 'elenchuslaw9.OrderArgs', WHERE WHAT IT READS IS OF BULK AT MOST 1048576: true; the input reads as it did. -/
def orderArgsUptoRow : OpenClaim := { program := "ythiionkikammkaa", sum := "42b0db03df1d47bee87b8d8a461b1d7d6a4e3d7798a1ef2398d7e206df0fd90b", func := "elenchus/elenchuslaw9.OrderArgs", spec := "orderArgs", unfollowed := true, recurses := true, loops := true, apart := false, narrowed := true }
def OrderArgsUptoSaid : Prop := orderArgsUptoRow.holds Try.pinned (OpenSpec.upto orderArgsSpec)

/-- 'elenchuslaw9.OrderTotal', WHERE WHAT IT READS IS OF BULK AT MOST 1048576: true; the input reads as it did. -/
def orderTotalUptoRow : OpenClaim := { program := "ythiionkikammkaa", sum := "42b0db03df1d47bee87b8d8a461b1d7d6a4e3d7798a1ef2398d7e206df0fd90b", func := "elenchus/elenchuslaw9.OrderTotal", spec := "orderTotal", unfollowed := true, recurses := true, loops := true, apart := false, narrowed := true }
def OrderTotalUptoSaid : Prop := orderTotalUptoRow.holds Try.pinned (OpenSpec.upto orderTotalSpec)

/-- 'elenchuslaw9.OrderSorts', WHERE WHAT IT READS IS OF BULK AT MOST 1048576: true; the input reads as it did. -/
def orderSortsUptoRow : OpenClaim := { program := "ythiionkikammkaa", sum := "42b0db03df1d47bee87b8d8a461b1d7d6a4e3d7798a1ef2398d7e206df0fd90b", func := "elenchus/elenchuslaw9.OrderSorts", spec := "orderSorts", unfollowed := true, recurses := true, loops := true, apart := false, narrowed := true }
def OrderSortsUptoSaid : Prop := orderSortsUptoRow.holds Try.pinned (OpenSpec.upto orderSortsSpec)

/-- 'elenchuslaw9.OrderSorted', WHERE WHAT IT READS IS OF BULK AT MOST 1048576: true; the input reads as it did. -/
def orderSortedUptoRow : OpenClaim := { program := "ythiionkikammkaa", sum := "42b0db03df1d47bee87b8d8a461b1d7d6a4e3d7798a1ef2398d7e206df0fd90b", func := "elenchus/elenchuslaw9.OrderSorted", spec := "orderSorted", unfollowed := true, recurses := true, loops := true, apart := false, narrowed := true }
def OrderSortedUptoSaid : Prop := orderSortedUptoRow.holds Try.pinned (OpenSpec.upto orderSortedSpec)

/-- 'elenchuslaw9.OrderSets', WHERE WHAT IT READS IS OF BULK AT MOST 1048576: true; the input reads as it did. -/
def orderSetsUptoRow : OpenClaim := { program := "ythiionkikammkaa", sum := "42b0db03df1d47bee87b8d8a461b1d7d6a4e3d7798a1ef2398d7e206df0fd90b", func := "elenchus/elenchuslaw9.OrderSets", spec := "orderSets", unfollowed := true, recurses := true, loops := true, apart := false, narrowed := true }
def OrderSetsUptoSaid : Prop := orderSetsUptoRow.holds Try.pinned (OpenSpec.upto orderSetsSpec)

end Rows
end Go.Proofs.Ythiionkikammkaa
