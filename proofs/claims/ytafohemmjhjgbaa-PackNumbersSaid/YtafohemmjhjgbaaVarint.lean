/-
  Numbers in groups of seven bits: how they are packed, and got back: plain lists of bytes.
-/
import Derived.WalkKit
namespace Go.Proofs.Ytafohemmjhjgbaa.Pk

def b8 (n : Nat) : UInt8 := UInt8.ofNat n
theorem b8_toNat {n : Nat} (h : n < 256) : (b8 n).toNat = n := UInt8.toNat_ofNat_of_lt' (by have : UInt8.size = 256 := rfl; omega)
theorem b8_ofNat (b : UInt8) : b8 b.toNat = b := UInt8.ofNat_toNat
def uvar (n : Nat) : List UInt8 := if h : n < 128 then [b8 n] else b8 (n % 128 + 128) :: uvar (n / 128)
termination_by n
decreasing_by omega
theorem uvar_lt {n : Nat} (h : n < 128) : uvar n = [b8 n] := by rw [uvar, dif_pos h]
theorem uvar_ge {n : Nat} (h : 128 ≤ n) : uvar n = b8 (n % 128 + 128) :: uvar (n / 128) := by rw [uvar, dif_neg (by omega)]
theorem uvar_len (n : Nat) : ∀ k, n < 128 ^ k → 1 ≤ k → (uvar n).length ≤ k := by
  induction n using Nat.strongRecOn with
  | _ n ih =>
    intro k hk h1
    by_cases h : n < 128
    · rw [uvar_lt h]; exact h1
    · rw [uvar_ge (by omega), List.length_cons]
      obtain ⟨k, rfl⟩ : ∃ j, k = j + 1 := ⟨k - 1, by omega⟩
      rw [Nat.pow_succ] at hk
      have : 1 ≤ k := by
        rcases Nat.eq_zero_or_pos k with rfl | h
        · simp at hk; omega
        · exact h
      have := ih (n / 128) (by omega) k (by omega) this
      omega
theorem uvar_pos (n : Nat) : 0 < (uvar n).length := by
  by_cases h : n < 128
  · rw [uvar_lt h]; simp
  · rw [uvar_ge (by omega)]; simp
theorem uvar_len64 {n : Nat} (h : n < 18446744073709551616) : (uvar n).length ≤ 10 := uvar_len n 10 (by omega) (by omega)

/-- What stands at the front, i bytes of it having made n: the number, and how many bytes it took. -/
def getU : Nat → Nat → List UInt8 → Option (Nat × Nat)
  | _, _, [] => none
  | i, n, c :: l => if 10 ≤ i ∨ (i = 9 ∧ 1 < c.toNat % 128) then none else
      if c.toNat < 128 then (if c.toNat = 0 ∧ 0 < i then none else some (n + c.toNat % 128 * 128 ^ i, i + 1)) else getU (i + 1) (n + c.toNat % 128 * 128 ^ i) l
theorem getU_nil (i n : Nat) : getU i n [] = none := rfl
theorem getU_cons (i n : Nat) (c : UInt8) (l : List UInt8) : getU i n (c :: l) = if 10 ≤ i ∨ (i = 9 ∧ 1 < c.toNat % 128) then none else
      if c.toNat < 128 then (if c.toNat = 0 ∧ 0 < i then none else some (n + c.toNat % 128 * 128 ^ i, i + 1)) else getU (i + 1) (n + c.toNat % 128 * 128 ^ i) l := rfl

/-- What is packed is got back, with what stands behind it. -/
theorem getU_uvar (n : Nat) : ∀ (i a : Nat) (t : List UInt8), n * 128 ^ i < 18446744073709551616 → (0 < i → 0 < n) → i ≤ 9 → getU i a (uvar n ++ t) = some (a + n * 128 ^ i, i + (uvar n).length) := by
  induction n using Nat.strongRecOn with
  | _ n ih =>
    intro i a t hn hp hi
    have h9 : i = 9 → n ≤ 1 := by
      rintro rfl
      have : (128 : Nat) ^ 9 = 9223372036854775808 := rfl
      rw [this] at hn; omega
    by_cases h : n < 128
    · rw [uvar_lt h, List.singleton_append, getU_cons, b8_toNat (by omega)]
      have e : n % 128 = n := Nat.mod_eq_of_lt h
      rw [e, if_neg (by omega), if_pos h, if_neg (by omega)]
      simp
    · rw [uvar_ge (by omega), List.cons_append, getU_cons, b8_toNat (by omega)]
      have e : (n % 128 + 128) % 128 = n % 128 := by omega
      rw [e, if_neg (by omega), if_neg (by omega)]
      have h2 : n / 128 * 128 ^ (i + 1) + n % 128 * 128 ^ i = n * 128 ^ i := by
        rw [Nat.pow_succ]
        have := Nat.div_add_mod n 128
        calc n / 128 * (128 ^ i * 128) + n % 128 * 128 ^ i = (128 * (n / 128) + n % 128) * 128 ^ i := by rw [Nat.add_mul, Nat.mul_comm 128 (n / 128), Nat.mul_assoc, Nat.mul_comm 128 (128 ^ i)]
          _ = n * 128 ^ i := by rw [this]
      rw [ih (n / 128) (by omega) (i + 1) _ t (by omega) (fun _ => by omega) (by omega)]
      simp only [List.length_cons, Option.some.injEq, Prod.mk.injEq]
      refine ⟨by omega, by omega⟩
theorem get_uvar {n : Nat} (h : n < 18446744073709551616) (t : List UInt8) : getU 0 0 (uvar n ++ t) = some (n, (uvar n).length) := by
  rw [getU_uvar n 0 0 t (by simpa using h) (fun h => absurd h (by omega)) (by omega)]; simp
/-- What is got takes no more than there is, and fits its kind. -/
theorem getU_bd : ∀ (l : List UInt8) (i n x k : Nat), getU i n l = some (x, k) → n < 128 ^ i → x < 18446744073709551616 ∧ i < k ∧ k ≤ i + l.length ∧ k ≤ 10
  | [], i, n, x, k, h, _ => by cases h
  | c :: l, i, n, x, k, h, hn => by
    rw [getU_cons] at h
    split at h
    · cases h
    · rename_i h1
      have hm : c.toNat % 128 < 128 := Nat.mod_lt _ (by omega)
      have hs : n + c.toNat % 128 * 128 ^ i < 128 ^ (i + 1) := by
        rw [Nat.pow_succ]
        have : c.toNat % 128 * 128 ^ i ≤ 127 * 128 ^ i := Nat.mul_le_mul_right _ (by omega)
        omega
      split at h
      · split at h
        · cases h
        · simp only [Option.some.injEq, Prod.mk.injEq] at h
          obtain ⟨rfl, rfl⟩ := h
          refine ⟨?_, by omega, by simp, by omega⟩
          by_cases h9 : i = 9
          · subst h9
            have e : (128 : Nat) ^ 9 = 9223372036854775808 := rfl
            rw [e] at hn ⊢
            omega
          · have : (128 : Nat) ^ (i + 1) ≤ 128 ^ 9 := Nat.pow_le_pow_right (by omega) (by omega)
            have e : (128 : Nat) ^ 9 = 9223372036854775808 := rfl
            omega
      · have := getU_bd l (i + 1) _ x k h hs
        rw [List.length_cons]
        omega

/-- A whole number, doubled, its sign below. -/
def zig (k : Int) : Nat := if 0 ≤ k then (2 * k).toNat else (-2 * k - 1).toNat
def unzig (n : Nat) : Int := if n % 2 = 0 then (n / 2 : Nat) else -1 - (n / 2 : Nat)
theorem unzig_zig (k : Int) : unzig (zig k) = k := by unfold unzig zig; split <;> split <;> omega
theorem zig_unzig (n : Nat) : zig (unzig n) = n := by unfold unzig zig; split <;> split <;> omega
theorem zig_lt {k : Int} (h : -9223372036854775808 ≤ k ∧ k ≤ 9223372036854775807) : zig k < 18446744073709551616 := by unfold zig; split <;> omega
theorem unzig_bd {n : Nat} (h : n < 18446744073709551616) : -9223372036854775808 ≤ unzig n ∧ unzig n ≤ 9223372036854775807 := by unfold unzig; split <;> omega
end Go.Proofs.Ytafohemmjhjgbaa.Pk
