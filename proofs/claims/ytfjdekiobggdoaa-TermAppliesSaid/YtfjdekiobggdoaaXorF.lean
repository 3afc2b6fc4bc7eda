/- Of numbers and their bits. -/
import Derived.Test.YtfjdekiobggdoaaTm
namespace Go.Proofs.Ytfjdekiobggdoaa
open Go.RowKit
set_option linter.unusedVariables false
set_option linter.unusedSimpArgs false

theorem wrap_nat (k : Nat) (h : k < 9223372036854775808) : IntKind.i64.wrap (k : Int) = k := by
  rw [IntKind.wrap_i64]
  omega
theorem ofInt_nat (n : Nat) : BitVec.ofInt 64 (n : Int) = BitVec.ofNat 64 n := by
  simp
theorem bits_and_nat (n b : Nat) (hb : b < 9223372036854775808) (hn : n < 18446744073709551616) : bits .and .i64 (n : Int) (b : Int) = ((n &&& b : Nat) : Int) := by
  have h1 : n &&& b ≤ b := Nat.and_le_right
  have e : (BitVec.ofInt 64 (n : Int) &&& BitVec.ofInt 64 (b : Int)).toNat = n &&& b := by
    rw [ofInt_nat, ofInt_nat, BitVec.toNat_and, BitVec.toNat_ofNat, BitVec.toNat_ofNat, Nat.mod_eq_of_lt (by omega), Nat.mod_eq_of_lt (by omega)]
  show IntKind.i64.wrap (((BitVec.ofInt 64 (n : Int) &&& BitVec.ofInt 64 (b : Int)).toNat : Nat) : Int) = _
  rw [e]
  exact wrap_nat _ (by omega)
theorem bits_xor_nat (n b : Nat) (hb : b < 4611686018427387904) (hn : n < 4611686018427387904) : bits .xor .i64 (n : Int) (b : Int) = ((n ^^^ b : Nat) : Int) ∧ n ^^^ b < 4611686018427387904 := by
  have h1 : n ^^^ b < 2 ^ 62 := Nat.xor_lt_two_pow (by omega) (by omega)
  have e : (BitVec.ofInt 64 (n : Int) ^^^ BitVec.ofInt 64 (b : Int)).toNat = n ^^^ b := by
    rw [ofInt_nat, ofInt_nat, BitVec.toNat_xor, BitVec.toNat_ofNat, BitVec.toNat_ofNat, Nat.mod_eq_of_lt (by omega), Nat.mod_eq_of_lt (by omega)]
  refine ⟨?_, by omega⟩
  show IntKind.i64.wrap (((BitVec.ofInt 64 (n : Int) ^^^ BitVec.ofInt 64 (b : Int)).toNat : Nat) : Int) = _
  rw [e]
  exact wrap_nat _ (by omega)
/-- And with a mask: a number up to it. -/
theorem bits_and_le (x : Int) (b : Nat) (hb : b < 9223372036854775808) : ∃ k : Nat, k ≤ b ∧ bits .and .i64 x (b : Int) = k := by
  have h1 : (BitVec.ofInt 64 x).toNat &&& b ≤ b := Nat.and_le_right
  refine ⟨(BitVec.ofInt 64 x).toNat &&& b, h1, ?_⟩
  have e : (BitVec.ofInt 64 x &&& BitVec.ofInt 64 (b : Int)).toNat = (BitVec.ofInt 64 x).toNat &&& b := by
    rw [ofInt_nat, BitVec.toNat_and, BitVec.toNat_ofNat, Nat.mod_eq_of_lt (by omega)]
  show IntKind.i64.wrap (((BitVec.ofInt 64 x &&& BitVec.ofInt 64 (b : Int)).toNat : Nat) : Int) = _
  rw [e]
  exact wrap_nat _ (by omega)

/-- The numbers of TermVariants. -/
def fX (b n : Int) : Int := bits .and .i64 (bits .xor .i64 n b) 4611686018427387903
theorem fX_pos (b n : Int) : 0 ≤ fX b n := by
  obtain ⟨k, _, e⟩ := bits_and_le (bits .xor .i64 n b) 4611686018427387903 (by omega)
  have : fX b n = k := e
  rw [this]
  omega
theorem fX_nat {b n : Nat} (hb : b < 4611686018427387904) (hn : n < 4611686018427387904) : fX b n = ((n ^^^ b : Nat) : Int) := by
  obtain ⟨e, hlt⟩ := bits_xor_nat n b hb hn
  unfold fX
  rw [e]
  have := bits_and_nat (n ^^^ b) 4611686018427387903 (by omega) (by omega)
  have h2 : (n ^^^ b) &&& 4611686018427387903 = n ^^^ b := by
    have := Nat.and_two_pow_sub_one_of_lt_two_pow (x := n ^^^ b) (n := 62) (by omega)
    exact this
  rw [h2] at this
  exact this
theorem fX_inj {b : Nat} (hb : b < 1048576) {n m : Int} (hn : 0 ≤ n) (hn' : n < 4611686018427387904) (hm : 0 ≤ m) (hm' : m < 4611686018427387904) (h : fX b n = fX b m) : n = m := by
  obtain ⟨n, rfl⟩ := Int.eq_ofNat_of_zero_le hn
  obtain ⟨m, rfl⟩ := Int.eq_ofNat_of_zero_le hm
  rw [fX_nat (by omega) (by omega), fX_nat (by omega) (by omega)] at h
  have h : n ^^^ b = m ^^^ b := by omega
  have h2 : n ^^^ b ^^^ b = m ^^^ b ^^^ b := by rw [h]
  rw [Nat.xor_assoc, Nat.xor_assoc, Nat.xor_self, Nat.xor_zero, Nat.xor_zero] at h2
  rw [h2]
end Go.Proofs.Ytfjdekiobggdoaa
