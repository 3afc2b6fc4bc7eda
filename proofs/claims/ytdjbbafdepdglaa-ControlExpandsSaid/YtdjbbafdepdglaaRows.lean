/-
  NARROWER THAN 'FOR EVERY INPUT', by the rows' own cells (each row's printed sentence says how): ControlKinds: loops · ControlOne: loops · ControlExpands: loops · ControlMore: loops · ControlMakes: loops · NormJoins: loops · NormBack: loops · NormGoals: loops · NormFacts: loops · NormVariants: loops.
  DERIVED. THE GIVEN ROWS OF THIS SEAT. 11 by the template 'for every input the law returns true; each argument reads behind the call as it read before'; 0 by the template 'total and deterministic' (their statements: YtdjbbafdepdglaaTotals.lean).
  GIVEN WITH THE SEED: the statements are not yours to turn. If you find one false, say at which input.
  Laid BY PROGRAM, IN A SANDBOX (cutbox-rows.mjs): the forced cells as the released guide's own fill.sh prints them over the translation a40cb93731682b7a… (all of the seat's roots in one cut). By AI agents, Wed Nov 11 2026. No macro, syntax, notation, axiom, sorry.
-/
import Derived.Test.YtdjbbafdepdglaaChecked
import GoSem.Claim
import GoSem.ClaimJoined
import GoSem.ClaimMapViews
import Derived.JoinedTies
import Derived.KernelRfl
namespace Go.Proofs.Ytdjbbafdepdglaa
/- THE CELL 'sum', in the pinned program and in every row, IS THE sha256 OF THE DUMP (.gsa) THAT YtdjbbafdepdglaaProg.lean LOADS. Nothing in Lean hashes anything: it is a label: what it is worth is what the hold of that sum in a sandbox is worth. -/
noncomputable def Try.pinned : Pinned := { name := "ytdjbbafdepdglaa", sum := "a40cb93731682b7a8df8a17dd15a5906cf34afdbcd358e373d0b30a4259ef5b6", checked := Try.checked }
namespace Rows
def none {H : Type} : Left H := { results := [], args := [] }

/-- 'elenchuslaw21.ControlReserved': WHATEVER THE INPUT: true; the input reads as it did. -/
def controlReservedSpec : ChangeSpec := { name := "controlReserved", fn := fun _ => fun
  | [d1, d2] => { results := [.lit (.bool true)], args := [d1, d2] }
  | _ => none }
def controlReservedRow : OpenClaim := { program := "ytdjbbafdepdglaa", sum := "a40cb93731682b7a8df8a17dd15a5906cf34afdbcd358e373d0b30a4259ef5b6", func := "elenchus/elenchuslaw21.ControlReserved", spec := "controlReserved", unfollowed := true, recurses := true, apart := false }
def ControlReservedSaid : Prop := controlReservedRow.holds Try.pinned (OpenSpec.ofChange controlReservedSpec)

/-- ITS FALSE NEIGHBOUR: 'it returns false'. Refute it at one input. -/
def controlReservedWrong : ChangeSpec := { name := "controlReserved", fn := fun _ => fun
  | [d1, d2] => { results := [.lit (.bool false)], args := [d1, d2] }
  | _ => none }
def ControlReservedWrongFalsely : Prop := controlReservedRow.holds Try.pinned (OpenSpec.ofChange controlReservedWrong)

/-- 'elenchuslaw21.ControlKinds': WHATEVER THE INPUT: true; the input reads as it did. -/
def controlKindsSpec : ChangeSpec := { name := "controlKinds", fn := fun _ => fun
  | [d1, d2, d3] => { results := [.lit (.bool true)], args := [d1, d2, d3] }
  | _ => none }
def controlKindsRow : OpenClaim := { program := "ytdjbbafdepdglaa", sum := "a40cb93731682b7a8df8a17dd15a5906cf34afdbcd358e373d0b30a4259ef5b6", func := "elenchus/elenchuslaw21.ControlKinds", spec := "controlKinds", unfollowed := true, recurses := true, loops := true, apart := false }
def ControlKindsSaid : Prop := controlKindsRow.holds Try.pinned (OpenSpec.ofChange controlKindsSpec)

/-- ITS FALSE NEIGHBOUR: 'it returns false'. Refute it at one input. -/
def controlKindsWrong : ChangeSpec := { name := "controlKinds", fn := fun _ => fun
  | [d1, d2, d3] => { results := [.lit (.bool false)], args := [d1, d2, d3] }
  | _ => none }
def ControlKindsWrongFalsely : Prop := controlKindsRow.holds Try.pinned (OpenSpec.ofChange controlKindsWrong)

/-- 'elenchuslaw21.ControlOne': WHATEVER THE INPUT: true; the input reads as it did. -/
def controlOneSpec : ChangeSpec := { name := "controlOne", fn := fun _ => fun
  | [d1, d2] => { results := [.lit (.bool true)], args := [d1, d2] }
  | _ => none }
def controlOneRow : OpenClaim := { program := "ytdjbbafdepdglaa", sum := "a40cb93731682b7a8df8a17dd15a5906cf34afdbcd358e373d0b30a4259ef5b6", func := "elenchus/elenchuslaw21.ControlOne", spec := "controlOne", unfollowed := true, recurses := true, loops := true, apart := false }
def ControlOneSaid : Prop := controlOneRow.holds Try.pinned (OpenSpec.ofChange controlOneSpec)

/-- ITS FALSE NEIGHBOUR: 'it returns false'. Refute it at one input. -/
def controlOneWrong : ChangeSpec := { name := "controlOne", fn := fun _ => fun
  | [d1, d2] => { results := [.lit (.bool false)], args := [d1, d2] }
  | _ => none }
def ControlOneWrongFalsely : Prop := controlOneRow.holds Try.pinned (OpenSpec.ofChange controlOneWrong)

/-- 'elenchuslaw21.ControlExpands': WHATEVER THE INPUT: true; the input reads as it did. -/
def controlExpandsSpec : ChangeSpec := { name := "controlExpands", fn := fun _ => fun
  | [d] => { results := [.lit (.bool true)], args := [d] }
  | _ => none }
def controlExpandsRow : OpenClaim := { program := "ytdjbbafdepdglaa", sum := "a40cb93731682b7a8df8a17dd15a5906cf34afdbcd358e373d0b30a4259ef5b6", func := "elenchus/elenchuslaw21.ControlExpands", spec := "controlExpands", unfollowed := true, recurses := true, loops := true, apart := false }
def ControlExpandsSaid : Prop := controlExpandsRow.holds Try.pinned (OpenSpec.ofChange controlExpandsSpec)

/-- ITS FALSE NEIGHBOUR: 'it returns false'. Refute it at one input. -/
def controlExpandsWrong : ChangeSpec := { name := "controlExpands", fn := fun _ => fun
  | [d] => { results := [.lit (.bool false)], args := [d] }
  | _ => none }
def ControlExpandsWrongFalsely : Prop := controlExpandsRow.holds Try.pinned (OpenSpec.ofChange controlExpandsWrong)

/-- 'elenchuslaw21.ControlMore': WHATEVER THE INPUT: true; the input reads as it did. -/
def controlMoreSpec : ChangeSpec := { name := "controlMore", fn := fun _ => fun
  | [d1, d2, d3] => { results := [.lit (.bool true)], args := [d1, d2, d3] }
  | _ => none }
def controlMoreRow : OpenClaim := { program := "ytdjbbafdepdglaa", sum := "a40cb93731682b7a8df8a17dd15a5906cf34afdbcd358e373d0b30a4259ef5b6", func := "elenchus/elenchuslaw21.ControlMore", spec := "controlMore", unfollowed := true, recurses := true, loops := true, apart := false }
def ControlMoreSaid : Prop := controlMoreRow.holds Try.pinned (OpenSpec.ofChange controlMoreSpec)

/-- ITS FALSE NEIGHBOUR: 'it returns false'. Refute it at one input. -/
def controlMoreWrong : ChangeSpec := { name := "controlMore", fn := fun _ => fun
  | [d1, d2, d3] => { results := [.lit (.bool false)], args := [d1, d2, d3] }
  | _ => none }
def ControlMoreWrongFalsely : Prop := controlMoreRow.holds Try.pinned (OpenSpec.ofChange controlMoreWrong)

/-- 'elenchuslaw21.ControlMakes': WHATEVER THE INPUT: true; the input reads as it did. -/
def controlMakesSpec : ChangeSpec := { name := "controlMakes", fn := fun _ => fun
  | [d1, d2, d3] => { results := [.lit (.bool true)], args := [d1, d2, d3] }
  | _ => none }
def controlMakesRow : OpenClaim := { program := "ytdjbbafdepdglaa", sum := "a40cb93731682b7a8df8a17dd15a5906cf34afdbcd358e373d0b30a4259ef5b6", func := "elenchus/elenchuslaw21.ControlMakes", spec := "controlMakes", unfollowed := true, recurses := true, loops := true, apart := false }
def ControlMakesSaid : Prop := controlMakesRow.holds Try.pinned (OpenSpec.ofChange controlMakesSpec)

/-- ITS FALSE NEIGHBOUR: 'it returns false'. Refute it at one input. -/
def controlMakesWrong : ChangeSpec := { name := "controlMakes", fn := fun _ => fun
  | [d1, d2, d3] => { results := [.lit (.bool false)], args := [d1, d2, d3] }
  | _ => none }
def ControlMakesWrongFalsely : Prop := controlMakesRow.holds Try.pinned (OpenSpec.ofChange controlMakesWrong)

/-- 'elenchuslaw15.NormJoins': WHATEVER THE INPUT: true; the input reads as it did. -/
def normJoinsSpec : ChangeSpec := { name := "normJoins", fn := fun _ => fun
  | [d] => { results := [.lit (.bool true)], args := [d] }
  | _ => none }
def normJoinsRow : OpenClaim := { program := "ytdjbbafdepdglaa", sum := "a40cb93731682b7a8df8a17dd15a5906cf34afdbcd358e373d0b30a4259ef5b6", func := "elenchus/elenchuslaw15.NormJoins", spec := "normJoins", unfollowed := true, recurses := true, loops := true, apart := false }
def NormJoinsSaid : Prop := normJoinsRow.holds Try.pinned (OpenSpec.ofChange normJoinsSpec)

/-- ITS FALSE NEIGHBOUR: 'it returns false'. Refute it at one input. -/
def normJoinsWrong : ChangeSpec := { name := "normJoins", fn := fun _ => fun
  | [d] => { results := [.lit (.bool false)], args := [d] }
  | _ => none }
def NormJoinsWrongFalsely : Prop := normJoinsRow.holds Try.pinned (OpenSpec.ofChange normJoinsWrong)

/-- 'elenchuslaw15.NormBack': WHATEVER THE INPUT: true; the input reads as it did. -/
def normBackSpec : ChangeSpec := { name := "normBack", fn := fun _ => fun
  | [d] => { results := [.lit (.bool true)], args := [d] }
  | _ => none }
def normBackRow : OpenClaim := { program := "ytdjbbafdepdglaa", sum := "a40cb93731682b7a8df8a17dd15a5906cf34afdbcd358e373d0b30a4259ef5b6", func := "elenchus/elenchuslaw15.NormBack", spec := "normBack", unfollowed := true, recurses := true, loops := true, apart := false }
def NormBackSaid : Prop := normBackRow.holds Try.pinned (OpenSpec.ofChange normBackSpec)

/-- ITS FALSE NEIGHBOUR: 'it returns false'. Refute it at one input. -/
def normBackWrong : ChangeSpec := { name := "normBack", fn := fun _ => fun
  | [d] => { results := [.lit (.bool false)], args := [d] }
  | _ => none }
def NormBackWrongFalsely : Prop := normBackRow.holds Try.pinned (OpenSpec.ofChange normBackWrong)

/-- 'elenchuslaw15.NormGoals': WHATEVER THE INPUT: true; the input reads as it did. -/
def normGoalsSpec : ChangeSpec := { name := "normGoals", fn := fun _ => fun
  | [d1, d2] => { results := [.lit (.bool true)], args := [d1, d2] }
  | _ => none }
def normGoalsRow : OpenClaim := { program := "ytdjbbafdepdglaa", sum := "a40cb93731682b7a8df8a17dd15a5906cf34afdbcd358e373d0b30a4259ef5b6", func := "elenchus/elenchuslaw15.NormGoals", spec := "normGoals", unfollowed := true, recurses := true, loops := true, apart := false }
def NormGoalsSaid : Prop := normGoalsRow.holds Try.pinned (OpenSpec.ofChange normGoalsSpec)

/-- ITS FALSE NEIGHBOUR: 'it returns false'. Refute it at one input. -/
def normGoalsWrong : ChangeSpec := { name := "normGoals", fn := fun _ => fun
  | [d1, d2] => { results := [.lit (.bool false)], args := [d1, d2] }
  | _ => none }
def NormGoalsWrongFalsely : Prop := normGoalsRow.holds Try.pinned (OpenSpec.ofChange normGoalsWrong)

/-- 'elenchuslaw15.NormFacts': WHATEVER THE INPUT: true; the input reads as it did. -/
def normFactsSpec : ChangeSpec := { name := "normFacts", fn := fun _ => fun
  | [d] => { results := [.lit (.bool true)], args := [d] }
  | _ => none }
def normFactsRow : OpenClaim := { program := "ytdjbbafdepdglaa", sum := "a40cb93731682b7a8df8a17dd15a5906cf34afdbcd358e373d0b30a4259ef5b6", func := "elenchus/elenchuslaw15.NormFacts", spec := "normFacts", unfollowed := true, recurses := true, loops := true, apart := false }
def NormFactsSaid : Prop := normFactsRow.holds Try.pinned (OpenSpec.ofChange normFactsSpec)

/-- ITS FALSE NEIGHBOUR: 'it returns false'. Refute it at one input. -/
def normFactsWrong : ChangeSpec := { name := "normFacts", fn := fun _ => fun
  | [d] => { results := [.lit (.bool false)], args := [d] }
  | _ => none }
def NormFactsWrongFalsely : Prop := normFactsRow.holds Try.pinned (OpenSpec.ofChange normFactsWrong)

/-- 'elenchuslaw15.NormVariants': WHATEVER THE INPUT: true; the input reads as it did. -/
def normVariantsSpec : ChangeSpec := { name := "normVariants", fn := fun _ => fun
  | [d1, d2] => { results := [.lit (.bool true)], args := [d1, d2] }
  | _ => none }
def normVariantsRow : OpenClaim := { program := "ytdjbbafdepdglaa", sum := "a40cb93731682b7a8df8a17dd15a5906cf34afdbcd358e373d0b30a4259ef5b6", func := "elenchus/elenchuslaw15.NormVariants", spec := "normVariants", unfollowed := true, recurses := true, loops := true, apart := false }
def NormVariantsSaid : Prop := normVariantsRow.holds Try.pinned (OpenSpec.ofChange normVariantsSpec)

/-- ITS FALSE NEIGHBOUR: 'it returns false'. Refute it at one input. -/
def normVariantsWrong : ChangeSpec := { name := "normVariants", fn := fun _ => fun
  | [d1, d2] => { results := [.lit (.bool false)], args := [d1, d2] }
  | _ => none }
def NormVariantsWrongFalsely : Prop := normVariantsRow.holds Try.pinned (OpenSpec.ofChange normVariantsWrong)

/- THE SECOND FORM. 'bulk': how many values and letters a reading holds, each counted each time it is reached (what is shared counts as often as it is met; a slice's spare places count too). A statement '..UptoSaid' is the law's where the arguments, and the package variables that the reading takes, are together of bulk at most 1048576: NARROWER than '..Said'. Prove '..Said' where nothing that the law and all that it calls make is longer than what came in: it says more and counts as full. Else prove '..UptoSaid'. A law counts once. -/
mutual
def uptoBulk {H : Type} : DataW H → Nat
  | .lit (.string bytes) => bytes.length + 1
  | .lit _ => 1
  | .nil => 1
  | .ptr d => uptoBulk d + 1
  | .slice elems spare => uptoBulkAll elems + uptoBulkAll spare + 1
  | .agg parts => uptoBulkAll parts + 1
  | .iface _ d => uptoBulk d + 1
  | .map entries => uptoBulkEntries entries + 1
  | .held _ => 1
def uptoBulkAll {H : Type} : List (DataW H) → Nat
  | [] => 0
  | d :: r => uptoBulk d + uptoBulkAll r
def uptoBulkEntries {H : Type} : List (Lit × DataW H) → Nat
  | [] => 0
  | x :: r => uptoBulkEntry x + uptoBulkEntries r
def uptoBulkEntry {H : Type} : Lit × DataW H → Nat
  | (.string bytes, d) => bytes.length + uptoBulk d + 1
  | (_, d) => uptoBulk d + 1
 end
def uptoSmall : (H : Type) → List (DataW H) → Bool := fun _ ds => decide (uptoBulkAll ds ≤ 1048576)
def OpenSpec.upto (s : _root_.Go.ChangeSpec) : _root_.Go.OpenSpec := { _root_.Go.OpenSpec.ofChange s with cond := some uptoSmall }

/-- 'elenchuslaw21.ControlReserved', WHERE WHAT IT READS IS OF BULK AT MOST 1048576: true; the input reads as it did. -/
def controlReservedUptoRow : OpenClaim := { program := "ytdjbbafdepdglaa", sum := "a40cb93731682b7a8df8a17dd15a5906cf34afdbcd358e373d0b30a4259ef5b6", func := "elenchus/elenchuslaw21.ControlReserved", spec := "controlReserved", unfollowed := true, recurses := true, apart := false, narrowed := true }
def ControlReservedUptoSaid : Prop := controlReservedUptoRow.holds Try.pinned (OpenSpec.upto controlReservedSpec)

/-- 'elenchuslaw21.ControlKinds', WHERE WHAT IT READS IS OF BULK AT MOST 1048576: true; the input reads as it did. -/
def controlKindsUptoRow : OpenClaim := { program := "ytdjbbafdepdglaa", sum := "a40cb93731682b7a8df8a17dd15a5906cf34afdbcd358e373d0b30a4259ef5b6", func := "elenchus/elenchuslaw21.ControlKinds", spec := "controlKinds", unfollowed := true, recurses := true, loops := true, apart := false, narrowed := true }
def ControlKindsUptoSaid : Prop := controlKindsUptoRow.holds Try.pinned (OpenSpec.upto controlKindsSpec)

/-- 'elenchuslaw21.ControlOne', WHERE WHAT IT READS IS OF BULK AT MOST 1048576: true; the input reads as it did. -/
def controlOneUptoRow : OpenClaim := { program := "ytdjbbafdepdglaa", sum := "a40cb93731682b7a8df8a17dd15a5906cf34afdbcd358e373d0b30a4259ef5b6", func := "elenchus/elenchuslaw21.ControlOne", spec := "controlOne", unfollowed := true, recurses := true, loops := true, apart := false, narrowed := true }
def ControlOneUptoSaid : Prop := controlOneUptoRow.holds Try.pinned (OpenSpec.upto controlOneSpec)

/-- 'elenchuslaw21.ControlExpands', WHERE WHAT IT READS IS OF BULK AT MOST 1048576: true; the input reads as it did. -/
def controlExpandsUptoRow : OpenClaim := { program := "ytdjbbafdepdglaa", sum := "a40cb93731682b7a8df8a17dd15a5906cf34afdbcd358e373d0b30a4259ef5b6", func := "elenchus/elenchuslaw21.ControlExpands", spec := "controlExpands", unfollowed := true, recurses := true, loops := true, apart := false, narrowed := true }
def ControlExpandsUptoSaid : Prop := controlExpandsUptoRow.holds Try.pinned (OpenSpec.upto controlExpandsSpec)

/-- 'elenchuslaw21.ControlMore', WHERE WHAT IT READS IS OF BULK AT MOST 1048576: true; the input reads as it did. -/
def controlMoreUptoRow : OpenClaim := { program := "ytdjbbafdepdglaa", sum := "a40cb93731682b7a8df8a17dd15a5906cf34afdbcd358e373d0b30a4259ef5b6", func := "elenchus/elenchuslaw21.ControlMore", spec := "controlMore", unfollowed := true, recurses := true, loops := true, apart := false, narrowed := true }
def ControlMoreUptoSaid : Prop := controlMoreUptoRow.holds Try.pinned (OpenSpec.upto controlMoreSpec)

/-- 'elenchuslaw21.ControlMakes', WHERE WHAT IT READS IS OF BULK AT MOST 1048576: true; the input reads as it did. -/
def controlMakesUptoRow : OpenClaim := { program := "ytdjbbafdepdglaa", sum := "a40cb93731682b7a8df8a17dd15a5906cf34afdbcd358e373d0b30a4259ef5b6", func := "elenchus/elenchuslaw21.ControlMakes", spec := "controlMakes", unfollowed := true, recurses := true, loops := true, apart := false, narrowed := true }
def ControlMakesUptoSaid : Prop := controlMakesUptoRow.holds Try.pinned (OpenSpec.upto controlMakesSpec)

/-- 'elenchuslaw15.NormJoins', WHERE WHAT IT READS IS OF BULK AT MOST 1048576: true; the input reads as it did. -/
def normJoinsUptoRow : OpenClaim := { program := "ytdjbbafdepdglaa", sum := "a40cb93731682b7a8df8a17dd15a5906cf34afdbcd358e373d0b30a4259ef5b6", func := "elenchus/elenchuslaw15.NormJoins", spec := "normJoins", unfollowed := true, recurses := true, loops := true, apart := false, narrowed := true }
def NormJoinsUptoSaid : Prop := normJoinsUptoRow.holds Try.pinned (OpenSpec.upto normJoinsSpec)

/-- 'elenchuslaw15.NormBack', WHERE WHAT IT READS IS OF BULK AT MOST 1048576: true; the input reads as it did. -/
def normBackUptoRow : OpenClaim := { program := "ytdjbbafdepdglaa", sum := "a40cb93731682b7a8df8a17dd15a5906cf34afdbcd358e373d0b30a4259ef5b6", func := "elenchus/elenchuslaw15.NormBack", spec := "normBack", unfollowed := true, recurses := true, loops := true, apart := false, narrowed := true }
def NormBackUptoSaid : Prop := normBackUptoRow.holds Try.pinned (OpenSpec.upto normBackSpec)

/-- 'elenchuslaw15.NormGoals', WHERE WHAT IT READS IS OF BULK AT MOST 1048576: true; the input reads as it did. -/
def normGoalsUptoRow : OpenClaim := { program := "ytdjbbafdepdglaa", sum := "a40cb93731682b7a8df8a17dd15a5906cf34afdbcd358e373d0b30a4259ef5b6", func := "elenchus/elenchuslaw15.NormGoals", spec := "normGoals", unfollowed := true, recurses := true, loops := true, apart := false, narrowed := true }
def NormGoalsUptoSaid : Prop := normGoalsUptoRow.holds Try.pinned (OpenSpec.upto normGoalsSpec)

/-- 'elenchuslaw15.NormFacts', WHERE WHAT IT READS IS OF BULK AT MOST 1048576: true; the input reads as it did. -/
def normFactsUptoRow : OpenClaim := { program := "ytdjbbafdepdglaa", sum := "a40cb93731682b7a8df8a17dd15a5906cf34afdbcd358e373d0b30a4259ef5b6", func := "elenchus/elenchuslaw15.NormFacts", spec := "normFacts", unfollowed := true, recurses := true, loops := true, apart := false, narrowed := true }
def NormFactsUptoSaid : Prop := normFactsUptoRow.holds Try.pinned (OpenSpec.upto normFactsSpec)

/-- 'elenchuslaw15.NormVariants', WHERE WHAT IT READS IS OF BULK AT MOST 1048576: true; the input reads as it did. -/
def normVariantsUptoRow : OpenClaim := { program := "ytdjbbafdepdglaa", sum := "a40cb93731682b7a8df8a17dd15a5906cf34afdbcd358e373d0b30a4259ef5b6", func := "elenchus/elenchuslaw15.NormVariants", spec := "normVariants", unfollowed := true, recurses := true, loops := true, apart := false, narrowed := true }
def NormVariantsUptoSaid : Prop := normVariantsUptoRow.holds Try.pinned (OpenSpec.upto normVariantsSpec)

end Rows
end Go.Proofs.Ytdjbbafdepdglaa
