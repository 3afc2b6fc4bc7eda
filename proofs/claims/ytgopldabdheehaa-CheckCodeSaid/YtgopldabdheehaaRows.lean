/-
  NARROWER THAN 'FOR EVERY INPUT', by the rows' own cells (each row's printed sentence says how): CheckFits: loops · CheckCode: loops · CheckMore: loops · CheckCompiled: loops.
  DERIVED. THE GIVEN ROWS OF THIS SEAT. 5 by the template 'for every input the law returns true; each argument reads behind the call as it read before'; 0 by the template 'total and deterministic' (their statements: YtgopldabdheehaaTotals.lean).
  GIVEN WITH THE SEED: the statements are not yours to turn. If you find one false, say at which input.
  Laid BY PROGRAM, IN A SANDBOX (cutbox-rows.mjs): the forced cells as the released guide's own fill.sh prints them over the translation ebdf198b4461c574… (all of the seat's roots in one cut). By AI agents, Wed Nov 11 2026. No macro, syntax, notation, axiom, sorry.
-/
import Derived.Test.YtgopldabdheehaaChecked
import GoSem.Claim
import GoSem.ClaimJoined
import GoSem.ClaimMapViews
import Derived.JoinedTies
import Derived.KernelRfl
namespace Go.Proofs.Ytgopldabdheehaa
/- THE CELL 'sum', in the pinned program and in every row, IS THE sha256 OF THE DUMP (.gsa) THAT YtgopldabdheehaaProg.lean LOADS. Nothing in Lean hashes anything: it is a label: what it is worth is what the hold of that sum in a sandbox is worth. -/
noncomputable def Try.pinned : Pinned := { name := "ytgopldabdheehaa", sum := "ebdf198b4461c574a364149c8ac8f59b394a6189daab0c78d61543168cddc11e", checked := Try.checked }
namespace Rows
def none {H : Type} : Left H := { results := [], args := [] }

/-- 'elenchuslaw17.CheckFits': WHATEVER THE INPUT: true; the input reads as it did. -/
def checkFitsSpec : ChangeSpec := { name := "checkFits", fn := fun _ => fun
  | [d1, d2, d3] => { results := [.lit (.bool true)], args := [d1, d2, d3] }
  | _ => none }
def checkFitsRow : OpenClaim := { program := "ytgopldabdheehaa", sum := "ebdf198b4461c574a364149c8ac8f59b394a6189daab0c78d61543168cddc11e", func := "elenchus/elenchuslaw17.CheckFits", spec := "checkFits", unfollowed := true, recurses := true, loops := true, apart := false }
def CheckFitsSaid : Prop := checkFitsRow.holds Try.pinned (OpenSpec.ofChange checkFitsSpec)

/-- ITS FALSE NEIGHBOUR: 'it returns false'. Refute it at one input. -/
def checkFitsWrong : ChangeSpec := { name := "checkFits", fn := fun _ => fun
  | [d1, d2, d3] => { results := [.lit (.bool false)], args := [d1, d2, d3] }
  | _ => none }
def CheckFitsWrongFalsely : Prop := checkFitsRow.holds Try.pinned (OpenSpec.ofChange checkFitsWrong)

/-- 'elenchuslaw17.CheckMany': WHATEVER THE INPUT: true; the input reads as it did. -/
def checkManySpec : ChangeSpec := { name := "checkMany", fn := fun _ => fun
  | [d] => { results := [.lit (.bool true)], args := [d] }
  | _ => none }
def checkManyRow : OpenClaim := { program := "ytgopldabdheehaa", sum := "ebdf198b4461c574a364149c8ac8f59b394a6189daab0c78d61543168cddc11e", func := "elenchus/elenchuslaw17.CheckMany", spec := "checkMany", unfollowed := true, recurses := true, apart := false }
def CheckManySaid : Prop := checkManyRow.holds Try.pinned (OpenSpec.ofChange checkManySpec)

/-- ITS FALSE NEIGHBOUR: 'it returns false'. Refute it at one input. -/
def checkManyWrong : ChangeSpec := { name := "checkMany", fn := fun _ => fun
  | [d] => { results := [.lit (.bool false)], args := [d] }
  | _ => none }
def CheckManyWrongFalsely : Prop := checkManyRow.holds Try.pinned (OpenSpec.ofChange checkManyWrong)

/-- 'elenchuslaw17.CheckCode': WHATEVER THE INPUT: true; the input reads as it did. -/
def checkCodeSpec : ChangeSpec := { name := "checkCode", fn := fun _ => fun
  | [d1, d2, d3] => { results := [.lit (.bool true)], args := [d1, d2, d3] }
  | _ => none }
def checkCodeRow : OpenClaim := { program := "ytgopldabdheehaa", sum := "ebdf198b4461c574a364149c8ac8f59b394a6189daab0c78d61543168cddc11e", func := "elenchus/elenchuslaw17.CheckCode", spec := "checkCode", unfollowed := true, recurses := true, loops := true, apart := false }
def CheckCodeSaid : Prop := checkCodeRow.holds Try.pinned (OpenSpec.ofChange checkCodeSpec)

/-- ITS FALSE NEIGHBOUR: 'it returns false'. Refute it at one input. -/
def checkCodeWrong : ChangeSpec := { name := "checkCode", fn := fun _ => fun
  | [d1, d2, d3] => { results := [.lit (.bool false)], args := [d1, d2, d3] }
  | _ => none }
def CheckCodeWrongFalsely : Prop := checkCodeRow.holds Try.pinned (OpenSpec.ofChange checkCodeWrong)

/-- 'elenchuslaw17.CheckMore': WHATEVER THE INPUT: true; the input reads as it did. -/
def checkMoreSpec : ChangeSpec := { name := "checkMore", fn := fun _ => fun
  | [d] => { results := [.lit (.bool true)], args := [d] }
  | _ => none }
def checkMoreRow : OpenClaim := { program := "ytgopldabdheehaa", sum := "ebdf198b4461c574a364149c8ac8f59b394a6189daab0c78d61543168cddc11e", func := "elenchus/elenchuslaw17.CheckMore", spec := "checkMore", unfollowed := true, recurses := true, loops := true, apart := false }
def CheckMoreSaid : Prop := checkMoreRow.holds Try.pinned (OpenSpec.ofChange checkMoreSpec)

/-- ITS FALSE NEIGHBOUR: 'it returns false'. Refute it at one input. -/
def checkMoreWrong : ChangeSpec := { name := "checkMore", fn := fun _ => fun
  | [d] => { results := [.lit (.bool false)], args := [d] }
  | _ => none }
def CheckMoreWrongFalsely : Prop := checkMoreRow.holds Try.pinned (OpenSpec.ofChange checkMoreWrong)

/-- 'elenchuslaw17.CheckCompiled': WHATEVER THE INPUT: true; the input reads as it did. -/
def checkCompiledSpec : ChangeSpec := { name := "checkCompiled", fn := fun _ => fun
  | [d1, d2] => { results := [.lit (.bool true)], args := [d1, d2] }
  | _ => none }
def checkCompiledRow : OpenClaim := { program := "ytgopldabdheehaa", sum := "ebdf198b4461c574a364149c8ac8f59b394a6189daab0c78d61543168cddc11e", func := "elenchus/elenchuslaw17.CheckCompiled", spec := "checkCompiled", unfollowed := true, recurses := true, loops := true, apart := false }
def CheckCompiledSaid : Prop := checkCompiledRow.holds Try.pinned (OpenSpec.ofChange checkCompiledSpec)

/-- ITS FALSE NEIGHBOUR: 'it returns false'. Refute it at one input. -/
def checkCompiledWrong : ChangeSpec := { name := "checkCompiled", fn := fun _ => fun
  | [d1, d2] => { results := [.lit (.bool false)], args := [d1, d2] }
  | _ => none }
def CheckCompiledWrongFalsely : Prop := checkCompiledRow.holds Try.pinned (OpenSpec.ofChange checkCompiledWrong)

/- THE SECOND FORM. 'bulk': how many values and letters a reading holds, each counted each time it is reached (what is shared counts as often as it is met; a slice's spare places count too). A statement '..UptoSaid' is the law's where the arguments, and the package variables that the reading takes, are together of bulk at most 1048576: NARROWER than '..Said'. Prove '..Said' where nothing that the law and all that it calls make is longer than what came in: it says more and counts as full. Else prove '..UptoSaid'. A law counts once. -/
mutual
def uptoBulk {H : Type} : DataW H → Nat
  | .lit (.string bytes) => bytes.length + 1
  | .lit _ => 1
  | .nil => 1
  | .ptr d => uptoBulk d + 1
  | .slice elems spare => uptoBulkAll elems + uptoBulkAll spare + 1
  | .agg parts => uptoBulkAll parts + 1
  | .iface _ d => uptoBulk d + 1
  | .map entries => uptoBulkEntries entries + 1
  | .held _ => 1
def uptoBulkAll {H : Type} : List (DataW H) → Nat
  | [] => 0
  | d :: r => uptoBulk d + uptoBulkAll r
def uptoBulkEntries {H : Type} : List (Lit × DataW H) → Nat
  | [] => 0
  | x :: r => uptoBulkEntry x + uptoBulkEntries r
def uptoBulkEntry {H : Type} : Lit × DataW H → Nat
  | (.string bytes, d) => bytes.length + uptoBulk d + 1
  | (_, d) => uptoBulk d + 1
 end
def uptoSmall : (H : Type) → List (DataW H) → Bool := fun _ ds => decide (uptoBulkAll ds ≤ 1048576)
def OpenSpec.upto (s : _root_.Go.ChangeSpec) : _root_.Go.OpenSpec := { _root_.Go.OpenSpec.ofChange s with cond := some uptoSmall }

/-- 'elenchuslaw17.CheckFits', WHERE WHAT IT READS IS OF BULK AT MOST 1048576: true; the input reads as it did. -/
def checkFitsUptoRow : OpenClaim := { program := "ytgopldabdheehaa", sum := "ebdf198b4461c574a364149c8ac8f59b394a6189daab0c78d61543168cddc11e", func := "elenchus/elenchuslaw17.CheckFits", spec := "checkFits", unfollowed := true, recurses := true, loops := true, apart := false, narrowed := true }
def CheckFitsUptoSaid : Prop := checkFitsUptoRow.holds Try.pinned (OpenSpec.upto checkFitsSpec)

/-- 'elenchuslaw17.CheckMany', WHERE WHAT IT READS IS OF BULK AT MOST 1048576: true; the input reads as it did. -/
def checkManyUptoRow : OpenClaim := { program := "ytgopldabdheehaa", sum := "ebdf198b4461c574a364149c8ac8f59b394a6189daab0c78d61543168cddc11e", func := "elenchus/elenchuslaw17.CheckMany", spec := "checkMany", unfollowed := true, recurses := true, apart := false, narrowed := true }
def CheckManyUptoSaid : Prop := checkManyUptoRow.holds Try.pinned (OpenSpec.upto checkManySpec)

/-- 'elenchuslaw17.CheckCode', WHERE WHAT IT READS IS OF BULK AT MOST 1048576: true; the input reads as it did. -/
def checkCodeUptoRow : OpenClaim := { program := "ytgopldabdheehaa", sum := "ebdf198b4461c574a364149c8ac8f59b394a6189daab0c78d61543168cddc11e", func := "elenchus/elenchuslaw17.CheckCode", spec := "checkCode", unfollowed := true, recurses := true, loops := true, apart := false, narrowed := true }
def CheckCodeUptoSaid : Prop := checkCodeUptoRow.holds Try.pinned (OpenSpec.upto checkCodeSpec)

/-- 'elenchuslaw17.CheckMore', WHERE WHAT IT READS IS OF BULK AT MOST 1048576: true; the input reads as it did. -/
def checkMoreUptoRow : OpenClaim := { program := "ytgopldabdheehaa", sum := "ebdf198b4461c574a364149c8ac8f59b394a6189daab0c78d61543168cddc11e", func := "elenchus/elenchuslaw17.CheckMore", spec := "checkMore", unfollowed := true, recurses := true, loops := true, apart := false, narrowed := true }
def CheckMoreUptoSaid : Prop := checkMoreUptoRow.holds Try.pinned (OpenSpec.upto checkMoreSpec)

/-- 'elenchuslaw17.CheckCompiled', WHERE WHAT IT READS IS OF BULK AT MOST 1048576: true; the input reads as it did. -/
def checkCompiledUptoRow : OpenClaim := { program := "ytgopldabdheehaa", sum := "ebdf198b4461c574a364149c8ac8f59b394a6189daab0c78d61543168cddc11e", func := "elenchus/elenchuslaw17.CheckCompiled", spec := "checkCompiled", unfollowed := true, recurses := true, loops := true, apart := false, narrowed := true }
def CheckCompiledUptoSaid : Prop := checkCompiledUptoRow.holds Try.pinned (OpenSpec.upto checkCompiledSpec)

end Rows
end Go.Proofs.Ytgopldabdheehaa
