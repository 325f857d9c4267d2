import Derived.Test.YtafohemmjhjgbaaBits
namespace Go.Proofs.Ytafohemmjhjgbaa.Bits
open Go.RowKit

theorem and_low32 (x : Int) (h0 : 0 ≤ x) (h1 : x < 18446744073709551616) : bits .and .u64 x 4294967295 = x % 4294967296 := by
  obtain ⟨n, rfl⟩ := Int.eq_ofNat_of_zero_le h0
  have h := u64_and_nat n 4294967295 (by omega) (by omega)
  have e : (((4294967295 : Nat) : Int)) = (4294967295 : Int) := rfl
  rw [e] at h
  rw [h]
  have h2 : n &&& 4294967295 = n % 2 ^ 32 := Nat.and_two_pow_sub_one_eq_mod n 32
  rw [h2]
  omega

theorem prod_bound (x y : Int) (hx0 : 0 ≤ x) (hx : x ≤ 4294967295) (hy0 : 0 ≤ y) (hy : y ≤ 4294967295) : 0 ≤ x * y ∧ x * y ≤ 18446744065119617025 := by
  refine ⟨Int.mul_nonneg hx0 hy0, ?_⟩
  have h := Int.mul_le_mul hx hy hy0 (by omega : (0 : Int) ≤ 4294967295)
  omega

/-- The upper half of a product, as math/bits reckons it. -/
theorem hi_eq (a b : Int) (ha0 : 0 ≤ a) (ha : a < 18446744073709551616) (hb0 : 0 ≤ b) (hb : b < 18446744073709551616) :
    (IntKind.u64.wrap ((IntKind.u64.wrap ((IntKind.u64.wrap ((a / 4294967296) * (b / 4294967296))) + ((IntKind.u64.wrap ((IntKind.u64.wrap ((a / 4294967296) * (bits .and .u64 b 4294967295))) + ((IntKind.u64.wrap ((bits .and .u64 a 4294967295) * (bits .and .u64 b 4294967295))) / 4294967296))) / 4294967296))) + ((IntKind.u64.wrap ((bits .and .u64 (IntKind.u64.wrap ((IntKind.u64.wrap ((a / 4294967296) * (bits .and .u64 b 4294967295))) + ((IntKind.u64.wrap ((bits .and .u64 a 4294967295) * (bits .and .u64 b 4294967295))) / 4294967296))) 4294967295) + (IntKind.u64.wrap ((bits .and .u64 a 4294967295) * (b / 4294967296))))) / 4294967296))) = a * b / 18446744073709551616 := by
  rw [and_low32 a ha0 ha, and_low32 b hb0 hb]
  obtain ⟨a1, ha1⟩ : ∃ x, a / 4294967296 = x := ⟨_, rfl⟩
  obtain ⟨a0, ha0'⟩ : ∃ x, a % 4294967296 = x := ⟨_, rfl⟩
  obtain ⟨b1, hb1⟩ : ∃ x, b / 4294967296 = x := ⟨_, rfl⟩
  obtain ⟨b0, hb0'⟩ : ∃ x, b % 4294967296 = x := ⟨_, rfl⟩
  have ea : a = a1 * 4294967296 + a0 := by omega
  have eb : b = b1 * 4294967296 + b0 := by omega
  have hab : a * b = (a1 * b1) * 18446744073709551616 + (a1 * b0 + a0 * b1) * 4294967296 + a0 * b0 := by
    rw [ea, eb]; grind
  rw [ha1, ha0', hb1, hb0', hab]
  have h11 := prod_bound a1 b1 (by omega) (by omega) (by omega) (by omega)
  have h10 := prod_bound a1 b0 (by omega) (by omega) (by omega) (by omega)
  have h01 := prod_bound a0 b1 (by omega) (by omega) (by omega) (by omega)
  have h00 := prod_bound a0 b0 (by omega) (by omega) (by omega) (by omega)
  clear hab ea eb
  generalize a1 * b1 = p11 at *
  generalize a1 * b0 = p10 at *
  generalize a0 * b1 = p01 at *
  generalize a0 * b0 = p00 at *
  have hin : 0 ≤ IntKind.u64.wrap (IntKind.u64.wrap p10 + IntKind.u64.wrap p00 / 4294967296) ∧ IntKind.u64.wrap (IntKind.u64.wrap p10 + IntKind.u64.wrap p00 / 4294967296) < 18446744073709551616 := by
    simp only [IntKind.wrap_u64]; omega
  rw [and_low32 _ hin.1 hin.2]
  simp only [IntKind.wrap_u64]
  omega

theorem range_of_wf {a : Int} (h : (Lit.int .i64 a).wf = true) : -9223372036854775808 ≤ a ∧ a ≤ 9223372036854775807 := by
  simpa [Lit.wf, IntKind.min, IntKind.max, IntKind.signed, IntKind.bits] using h

theorem size_eq (a : Int) (h : -9223372036854775808 ≤ a ∧ a ≤ 9223372036854775807) :
    (a < 0 → IntKind.u64.wrap (-(IntKind.u64.wrap a)) = -a) ∧ (0 ≤ a → IntKind.u64.wrap a = a) := by
  simp only [IntKind.wrap_u64]; omega

end Go.Proofs.Ytafohemmjhjgbaa.Bits
