import Derived.Laws.BitsAllLaws
import Derived.RowKit
import Derived.IntWalk
namespace Go.Proofs.Ytafohemmjhjgbaa.Bits
open Go.RowKit

theorem i64_neg (k : BitVec 64) : IntKind.i64.wrap ((k.toNat : Nat) : Int) < 0 ↔ k.msb = true := by
  have h := k.isLt
  rw [IntKind.wrap_i64, BitVec.msb_eq_decide]
  simp only [decide_eq_true_eq]
  omega

theorem msb_ofInt (a : Int) (h : -9223372036854775808 ≤ a ∧ a ≤ 9223372036854775807) : (BitVec.ofInt 64 a).msb = decide (a < 0) := by
  rw [BitVec.msb_eq_decide, BitVec.toNat_ofInt]
  apply decide_eq_decide.mpr
  have : ((2 ^ 64 : Nat) : Int) = 18446744073709551616 := rfl
  rw [this]
  omega

theorem bits_xor_i64 (a b : Int) : bits .xor .i64 a b = IntKind.i64.wrap (((BitVec.ofInt 64 a ^^^ BitVec.ofInt 64 b).toNat : Nat) : Int) := rfl
theorem bits_and_i64 (a b : Int) : bits .and .i64 a b = IntKind.i64.wrap (((BitVec.ofInt 64 a &&& BitVec.ofInt 64 b).toNat : Nat) : Int) := rfl

theorem ofInt_wrap (k : BitVec 64) : BitVec.ofInt 64 (IntKind.i64.wrap ((k.toNat : Nat) : Int)) = k := by
  apply BitVec.eq_of_toNat_eq
  have h := k.isLt
  rw [BitVec.toNat_ofInt, IntKind.wrap_i64]
  have : ((2 ^ 64 : Nat) : Int) = 18446744073709551616 := rfl
  rw [this]
  omega

theorem over_iff (a b c d : Int) (ha : -9223372036854775808 ≤ a ∧ a ≤ 9223372036854775807) (hb : -9223372036854775808 ≤ b ∧ b ≤ 9223372036854775807)
    (hc : -9223372036854775808 ≤ c ∧ c ≤ 9223372036854775807) (hd : -9223372036854775808 ≤ d ∧ d ≤ 9223372036854775807) :
    bits .and .i64 (bits .xor .i64 a b) (bits .xor .i64 c d) < 0 ↔ ((a < 0 ↔ ¬ b < 0) ∧ (c < 0 ↔ ¬ d < 0)) := by
  rw [bits_and_i64, i64_neg, bits_xor_i64, bits_xor_i64, ofInt_wrap, ofInt_wrap, BitVec.msb_and, BitVec.msb_xor, BitVec.msb_xor, msb_ofInt a ha, msb_ofInt b hb, msb_ofInt c hc, msb_ofInt d hd]
  by_cases h1 : a < 0 <;> by_cases h2 : b < 0 <;> by_cases h3 : c < 0 <;> by_cases h4 : d < 0 <;> simp [h1, h2, h3, h4]

end Go.Proofs.Ytafohemmjhjgbaa.Bits
