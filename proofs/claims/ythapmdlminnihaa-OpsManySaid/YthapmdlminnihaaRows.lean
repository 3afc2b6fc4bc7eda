/-
  No cell of these rows narrows 'for every input' (looked for: loops, veiled, ifaces, maps, wideKeys, modest, calm, conditions, laid).
  DERIVED. THE GIVEN ROWS OF THIS SEAT. 6 by the template 'for every input the law returns true; each argument reads behind the call as it read before'; 0 by the template 'total and deterministic' (their statements: YthapmdlminnihaaTotals.lean).
  GIVEN WITH THE SEED: the statements are not yours to turn. If you find one false, say at which input.
  Laid BY PROGRAM, IN A SANDBOX (cutbox-rows.mjs): the forced cells as the released guide's own fill.sh prints them over the translation 6130858bc6cb85da… (all of the seat's roots in one cut). By AI agents, Wed Nov 11 2026. No macro, syntax, notation, axiom, sorry.
-/
import Derived.Test.YthapmdlminnihaaChecked
import GoSem.Claim
import GoSem.ClaimJoined
import GoSem.ClaimMapViews
import Derived.JoinedTies
import Derived.KernelRfl
namespace Go.Proofs.Ythapmdlminnihaa
/- THE CELL 'sum', in the pinned program and in every row, IS THE sha256 OF THE DUMP (.gsa) THAT YthapmdlminnihaaProg.lean LOADS. Nothing in Lean hashes anything: it is a label: what it is worth is what the hold of that sum in a sandbox is worth. -/
noncomputable def Try.pinned : Pinned := { name := "ythapmdlminnihaa", sum := "6130858bc6cb85da47ce7b4bb90a51505f5b0b24501deaa58834ae4cd44c78a1", checked := Try.checked }
namespace Rows
def none {H : Type} : Left H := { results := [], args := [] }

/-- 'elenchuslaw12.OpsPlay': WHATEVER THE INPUT: true; the input reads as it did. -/
def opsPlaySpec : ChangeSpec := { name := "opsPlay", fn := fun _ => fun
  | [d1, d2] => { results := [.lit (.bool true)], args := [d1, d2] }
  | _ => none }
def opsPlayRow : OpenClaim := { program := "ythapmdlminnihaa", sum := "6130858bc6cb85da47ce7b4bb90a51505f5b0b24501deaa58834ae4cd44c78a1", func := "elenchus/elenchuslaw12.OpsPlay", spec := "opsPlay", inPlace := ["slices.overlaps[elenchus/api.Op]"], unfollowed := true, recurses := true, apart := false }
def OpsPlaySaid : Prop := opsPlayRow.holds Try.pinned (OpenSpec.ofChange opsPlaySpec)

/-- ITS FALSE NEIGHBOUR: 'it returns false'. Refute it at one input. -/
def opsPlayWrong : ChangeSpec := { name := "opsPlay", fn := fun _ => fun
  | [d1, d2] => { results := [.lit (.bool false)], args := [d1, d2] }
  | _ => none }
def OpsPlayWrongFalsely : Prop := opsPlayRow.holds Try.pinned (OpenSpec.ofChange opsPlayWrong)

/-- 'elenchuslaw12.OpsMany': WHATEVER THE INPUT: true; the input reads as it did. -/
def opsManySpec : ChangeSpec := { name := "opsMany", fn := fun _ => fun
  | [d] => { results := [.lit (.bool true)], args := [d] }
  | _ => none }
def opsManyRow : OpenClaim := { program := "ythapmdlminnihaa", sum := "6130858bc6cb85da47ce7b4bb90a51505f5b0b24501deaa58834ae4cd44c78a1", func := "elenchus/elenchuslaw12.OpsMany", spec := "opsMany", inPlace := ["slices.overlaps[elenchus/api.Op]"], unfollowed := true, recurses := true, apart := false }
def OpsManySaid : Prop := opsManyRow.holds Try.pinned (OpenSpec.ofChange opsManySpec)

/-- ITS FALSE NEIGHBOUR: 'it returns false'. Refute it at one input. -/
def opsManyWrong : ChangeSpec := { name := "opsMany", fn := fun _ => fun
  | [d] => { results := [.lit (.bool false)], args := [d] }
  | _ => none }
def OpsManyWrongFalsely : Prop := opsManyRow.holds Try.pinned (OpenSpec.ofChange opsManyWrong)

/-- 'elenchuslaw12.OpsOrder': WHATEVER THE INPUT: true; the input reads as it did. -/
def opsOrderSpec : ChangeSpec := { name := "opsOrder", fn := fun _ => fun
  | [d] => { results := [.lit (.bool true)], args := [d] }
  | _ => none }
def opsOrderRow : OpenClaim := { program := "ythapmdlminnihaa", sum := "6130858bc6cb85da47ce7b4bb90a51505f5b0b24501deaa58834ae4cd44c78a1", func := "elenchus/elenchuslaw12.OpsOrder", spec := "opsOrder", inPlace := ["slices.overlaps[elenchus/api.Op]"], unfollowed := true, recurses := true, apart := false }
def OpsOrderSaid : Prop := opsOrderRow.holds Try.pinned (OpenSpec.ofChange opsOrderSpec)

/-- ITS FALSE NEIGHBOUR: 'it returns false'. Refute it at one input. -/
def opsOrderWrong : ChangeSpec := { name := "opsOrder", fn := fun _ => fun
  | [d] => { results := [.lit (.bool false)], args := [d] }
  | _ => none }
def OpsOrderWrongFalsely : Prop := opsOrderRow.holds Try.pinned (OpenSpec.ofChange opsOrderWrong)

/-- 'elenchuslaw12.OpsTwice': WHATEVER THE INPUT: true; the input reads as it did. -/
def opsTwiceSpec : ChangeSpec := { name := "opsTwice", fn := fun _ => fun
  | [d1, d2] => { results := [.lit (.bool true)], args := [d1, d2] }
  | _ => none }
def opsTwiceRow : OpenClaim := { program := "ythapmdlminnihaa", sum := "6130858bc6cb85da47ce7b4bb90a51505f5b0b24501deaa58834ae4cd44c78a1", func := "elenchus/elenchuslaw12.OpsTwice", spec := "opsTwice", inPlace := ["slices.overlaps[elenchus/api.Op]"], unfollowed := true, recurses := true, apart := false }
def OpsTwiceSaid : Prop := opsTwiceRow.holds Try.pinned (OpenSpec.ofChange opsTwiceSpec)

/-- ITS FALSE NEIGHBOUR: 'it returns false'. Refute it at one input. -/
def opsTwiceWrong : ChangeSpec := { name := "opsTwice", fn := fun _ => fun
  | [d1, d2] => { results := [.lit (.bool false)], args := [d1, d2] }
  | _ => none }
def OpsTwiceWrongFalsely : Prop := opsTwiceRow.holds Try.pinned (OpenSpec.ofChange opsTwiceWrong)

/-- 'elenchuslaw12.OpsNil': WHATEVER THE INPUT: true; the input reads as it did. -/
def opsNilSpec : ChangeSpec := { name := "opsNil", fn := fun _ => fun
  | [d] => { results := [.lit (.bool true)], args := [d] }
  | _ => none }
def opsNilRow : OpenClaim := { program := "ythapmdlminnihaa", sum := "6130858bc6cb85da47ce7b4bb90a51505f5b0b24501deaa58834ae4cd44c78a1", func := "elenchus/elenchuslaw12.OpsNil", spec := "opsNil", inPlace := ["slices.overlaps[elenchus/api.Op]"], unfollowed := true, recurses := true, apart := false }
def OpsNilSaid : Prop := opsNilRow.holds Try.pinned (OpenSpec.ofChange opsNilSpec)

/-- ITS FALSE NEIGHBOUR: 'it returns false'. Refute it at one input. -/
def opsNilWrong : ChangeSpec := { name := "opsNil", fn := fun _ => fun
  | [d] => { results := [.lit (.bool false)], args := [d] }
  | _ => none }
def OpsNilWrongFalsely : Prop := opsNilRow.holds Try.pinned (OpenSpec.ofChange opsNilWrong)

/-- 'elenchuslaw12.OpsApart': WHATEVER THE INPUT: true; the input reads as it did. -/
def opsApartSpec : ChangeSpec := { name := "opsApart", fn := fun _ => fun
  | [d1, d2] => { results := [.lit (.bool true)], args := [d1, d2] }
  | _ => none }
def opsApartRow : OpenClaim := { program := "ythapmdlminnihaa", sum := "6130858bc6cb85da47ce7b4bb90a51505f5b0b24501deaa58834ae4cd44c78a1", func := "elenchus/elenchuslaw12.OpsApart", spec := "opsApart", inPlace := ["slices.overlaps[elenchus/api.Op]"], unfollowed := true, recurses := true, apart := false }
def OpsApartSaid : Prop := opsApartRow.holds Try.pinned (OpenSpec.ofChange opsApartSpec)

/-- ITS FALSE NEIGHBOUR: 'it returns false'. Refute it at one input. -/
def opsApartWrong : ChangeSpec := { name := "opsApart", fn := fun _ => fun
  | [d1, d2] => { results := [.lit (.bool false)], args := [d1, d2] }
  | _ => none }
def OpsApartWrongFalsely : Prop := opsApartRow.holds Try.pinned (OpenSpec.ofChange opsApartWrong)

/- THE SECOND FORM. 'bulk': how many values and letters a reading holds, each counted each time it is reached (what is shared counts as often as it is met; a slice's spare places count too). A statement '..UptoSaid' is the law's where the arguments, and the package variables that the reading takes, are together of bulk at most 1048576: NARROWER than '..Said'. Prove '..Said' where nothing that the law and all that it calls make is longer than what came in: it says more and counts as full. Else prove '..UptoSaid'. A law counts once. -/
mutual
def uptoBulk {H : Type} : DataW H → Nat
  | .lit (.string bytes) => bytes.length + 1
  | .lit _ => 1
  | .nil => 1
  | .ptr d => uptoBulk d + 1
  | .slice elems spare => uptoBulkAll elems + uptoBulkAll spare + 1
  | .agg parts => uptoBulkAll parts + 1
  | .iface _ d => uptoBulk d + 1
  | .map entries => uptoBulkEntries entries + 1
  | .held _ => 1
def uptoBulkAll {H : Type} : List (DataW H) → Nat
  | [] => 0
  | d :: r => uptoBulk d + uptoBulkAll r
def uptoBulkEntries {H : Type} : List (Lit × DataW H) → Nat
  | [] => 0
  | x :: r => uptoBulkEntry x + uptoBulkEntries r
def uptoBulkEntry {H : Type} : Lit × DataW H → Nat
  | (.string bytes, d) => bytes.length + uptoBulk d + 1
  | (_, d) => uptoBulk d + 1
 end
def uptoSmall : (H : Type) → List (DataW H) → Bool := fun _ ds => decide (uptoBulkAll ds ≤ 1048576)
def OpenSpec.upto (s : _root_.Go.ChangeSpec) : _root_.Go.OpenSpec := { _root_.Go.OpenSpec.ofChange s with cond := some uptoSmall }

/-- 'elenchuslaw12.OpsPlay', WHERE WHAT IT READS IS OF BULK AT MOST 1048576: true; the input reads as it did. -/
def opsPlayUptoRow : OpenClaim := { program := "ythapmdlminnihaa", sum := "6130858bc6cb85da47ce7b4bb90a51505f5b0b24501deaa58834ae4cd44c78a1", func := "elenchus/elenchuslaw12.OpsPlay", spec := "opsPlay", inPlace := ["slices.overlaps[elenchus/api.Op]"], unfollowed := true, recurses := true, apart := false, narrowed := true }
def OpsPlayUptoSaid : Prop := opsPlayUptoRow.holds Try.pinned (OpenSpec.upto opsPlaySpec)

/-- 'elenchuslaw12.OpsMany', WHERE WHAT IT READS IS OF BULK AT MOST 1048576: true; the input reads as it did. -/
def opsManyUptoRow : OpenClaim := { program := "ythapmdlminnihaa", sum := "6130858bc6cb85da47ce7b4bb90a51505f5b0b24501deaa58834ae4cd44c78a1", func := "elenchus/elenchuslaw12.OpsMany", spec := "opsMany", inPlace := ["slices.overlaps[elenchus/api.Op]"], unfollowed := true, recurses := true, apart := false, narrowed := true }
def OpsManyUptoSaid : Prop := opsManyUptoRow.holds Try.pinned (OpenSpec.upto opsManySpec)

/-- 'elenchuslaw12.OpsOrder', WHERE WHAT IT READS IS OF BULK AT MOST 1048576: true; the input reads as it did. -/
def opsOrderUptoRow : OpenClaim := { program := "ythapmdlminnihaa", sum := "6130858bc6cb85da47ce7b4bb90a51505f5b0b24501deaa58834ae4cd44c78a1", func := "elenchus/elenchuslaw12.OpsOrder", spec := "opsOrder", inPlace := ["slices.overlaps[elenchus/api.Op]"], unfollowed := true, recurses := true, apart := false, narrowed := true }
def OpsOrderUptoSaid : Prop := opsOrderUptoRow.holds Try.pinned (OpenSpec.upto opsOrderSpec)

/-- 'elenchuslaw12.OpsTwice', WHERE WHAT IT READS IS OF BULK AT MOST 1048576: true; the input reads as it did. -/
def opsTwiceUptoRow : OpenClaim := { program := "ythapmdlminnihaa", sum := "6130858bc6cb85da47ce7b4bb90a51505f5b0b24501deaa58834ae4cd44c78a1", func := "elenchus/elenchuslaw12.OpsTwice", spec := "opsTwice", inPlace := ["slices.overlaps[elenchus/api.Op]"], unfollowed := true, recurses := true, apart := false, narrowed := true }
def OpsTwiceUptoSaid : Prop := opsTwiceUptoRow.holds Try.pinned (OpenSpec.upto opsTwiceSpec)

/-- 'elenchuslaw12.OpsNil', WHERE WHAT IT READS IS OF BULK AT MOST 1048576: true; the input reads as it did. -/
def opsNilUptoRow : OpenClaim := { program := "ythapmdlminnihaa", sum := "6130858bc6cb85da47ce7b4bb90a51505f5b0b24501deaa58834ae4cd44c78a1", func := "elenchus/elenchuslaw12.OpsNil", spec := "opsNil", inPlace := ["slices.overlaps[elenchus/api.Op]"], unfollowed := true, recurses := true, apart := false, narrowed := true }
def OpsNilUptoSaid : Prop := opsNilUptoRow.holds Try.pinned (OpenSpec.upto opsNilSpec)

/-- 'elenchuslaw12.OpsApart', WHERE WHAT IT READS IS OF BULK AT MOST 1048576: true; the input reads as it did. -/
def opsApartUptoRow : OpenClaim := { program := "ythapmdlminnihaa", sum := "6130858bc6cb85da47ce7b4bb90a51505f5b0b24501deaa58834ae4cd44c78a1", func := "elenchus/elenchuslaw12.OpsApart", spec := "opsApart", inPlace := ["slices.overlaps[elenchus/api.Op]"], unfollowed := true, recurses := true, apart := false, narrowed := true }
def OpsApartUptoSaid : Prop := opsApartUptoRow.holds Try.pinned (OpenSpec.upto opsApartSpec)

end Rows
end Go.Proofs.Ythapmdlminnihaa
