/- Pure: the operators at first, written out. -/
import Derived.Test.YthapmdlminnihaaOpNew
namespace Go.Proofs.Ythapmdlminnihaa
open Go.RowKit
set_option linter.unusedVariables false
set_option linter.unusedSimpArgs false
set_option maxRecDepth 20000
set_option maxHeartbeats 4000000
def cmpS2 (a b : ByteArray) : Int := if Op.bytesLess a.data.toList b.data.toList = true then -1 else if (a.data.toList == b.data.toList) = true then 0 else 1
theorem cmpS2_eq : cmpS = cmpS2 := by
  funext a b
  rw [cmpS_def, ByteArray.toList_eq, ByteArray.toList_eq]
  rfl
def cmpO2 (a : OpT) (s : ByteArray) (b : Bool) : Int := orI (cmpS2 a.name s) (cmpI (placeE (infE a.ty)) (placeE b))
theorem cmpO2_eq : cmpO = cmpO2 := by
  funext a s b
  unfold cmpO cmpO2
  rw [cmpS2_eq]
section
variable (c : OpT → ByteArray → Bool → Int)
def lowG (l : List OpT) (s : ByteArray) (b : Bool) : List OpT := l.takeWhile fun a => decide (c a s b < 0)
def hiG (l : List OpT) (s : ByteArray) (b : Bool) : List OpT := l.dropWhile fun a => decide (c a s b < 0)
def findG (l : List OpT) (s : ByteArray) (b : Bool) : Option OpT := match hiG c l s b with
  | [] => none
  | x :: _ => if c x s b = 0 then some x else none
def putG (l : List OpT) (o : OpT) : Int × List OpT :=
  if (findG c l o.name (infE o.ty)).isSome then
    if o.pr = 0 then (0, lowG c l o.name (infE o.ty) ++ (hiG c l o.name (infE o.ty)).tail) else (0, lowG c l o.name (infE o.ty) ++ o :: (hiG c l o.name (infE o.ty)).tail)
  else if o.pr = 0 then (0, l) else if 100 ≤ l.length then (8, l) else (0, lowG c l o.name (infE o.ty) ++ o :: hiG c l o.name (infE o.ty))
end
theorem findO_G : findO = findG cmpO := rfl
theorem putO_G : putO = putG cmpO := rfl
theorem find2 : findO = findG cmpO2 := by rw [findO_G, cmpO2_eq]
theorem put2 : putO = putG cmpO2 := by rw [putO_G, cmpO2_eq]
def newC : List OpT := [⟨⟨#[42]⟩, 3, 400⟩, ⟨⟨#[43]⟩, 3, 500⟩, ⟨⟨#[44]⟩, 2, 1000⟩, ⟨⟨#[45]⟩, 4, 200⟩, ⟨⟨#[45]⟩, 3, 500⟩, ⟨⟨#[45, 62]⟩, 2, 1050⟩, ⟨⟨#[47, 47]⟩, 3, 400⟩, ⟨⟨#[58, 45]⟩, 5, 1200⟩, ⟨⟨#[58, 45]⟩, 1, 1200⟩, ⟨⟨#[59]⟩, 2, 1100⟩, ⟨⟨#[60]⟩, 1, 700⟩, ⟨⟨#[61]⟩, 1, 700⟩, ⟨⟨#[61, 46, 46]⟩, 1, 700⟩, ⟨⟨#[61, 58, 61]⟩, 1, 700⟩, ⟨⟨#[61, 60]⟩, 1, 700⟩, ⟨⟨#[61, 61]⟩, 1, 700⟩, ⟨⟨#[61, 92, 61]⟩, 1, 700⟩, ⟨⟨#[62]⟩, 1, 700⟩, ⟨⟨#[62, 61]⟩, 1, 700⟩, ⟨⟨#[64, 60]⟩, 1, 700⟩, ⟨⟨#[64, 61, 60]⟩, 1, 700⟩, ⟨⟨#[64, 62]⟩, 1, 700⟩, ⟨⟨#[64, 62, 61]⟩, 1, 700⟩, ⟨⟨#[92, 43]⟩, 4, 900⟩, ⟨⟨#[92, 61]⟩, 1, 700⟩, ⟨⟨#[92, 61, 61]⟩, 1, 700⟩, ⟨⟨#[94]⟩, 2, 200⟩, ⟨⟨#[105, 115]⟩, 1, 700⟩, ⟨⟨#[109, 111, 100]⟩, 3, 400⟩, ⟨⟨#[114, 101, 109]⟩, 3, 400⟩]
theorem newL_eq : newL = newC := by
  unfold newL putAll
  rw [put2]
  kernel_rfl
theorem new_length : newL.length = 30 := by rw [newL_eq]; rfl
theorem new_is : findO newL ⟨#[105, 115]⟩ true = some ⟨⟨#[105, 115]⟩, 1, 700⟩ := by rw [newL_eq, find2]; kernel_rfl
theorem new_minus : findO newL ⟨#[45]⟩ false = some ⟨⟨#[45]⟩, 4, 200⟩ := by rw [newL_eq, find2]; kernel_rfl
end Go.Proofs.Ythapmdlminnihaa
