/-
  The contracts of package num over this program: what each function tells of any two numbers of 64 bits.
-/
import Derived.Test.YtafohemmjhjgbaaProg
import Derived.Below
import Derived.Deep.Draws
import Derived.OwnWalk
import Derived.WalkKit
import Derived.KernelRfl
import Derived.RowKit3
import Derived.Deep.QuietTactic
import Derived.BigQuiet
import Derived.WalkSpells
import Derived.Lib.Hide
import Derived.Test.YtafohemmjhjgbaaMulHi
namespace Go.Proofs.Ytafohemmjhjgbaa.Num
open Go.RowKit Go.Proofs.Ytafohemmjhjgbaa.Bits

def inR (n : Int) : Prop := -9223372036854775808 ≤ n ∧ n ≤ 9223372036854775807
instance (n : Int) : Decidable (inR n) := by unfold inR; infer_instance
theorem w64 (n : Int) : wrap64 n = (n + 9223372036854775808) % 18446744073709551616 - 9223372036854775808 := by unfold wrap64; rfl
theorem w64_in (n : Int) (h : -9223372036854775808 ≤ n ∧ n ≤ 9223372036854775807) : wrap64 n = n := by rw [w64]; omega
theorem w64_bd (n : Int) : -9223372036854775808 ≤ wrap64 n ∧ wrap64 n ≤ 9223372036854775807 := by rw [w64]; omega
/-- What is told of a whole number: it, or 0; the error: 0, or 4 (it is beyond 64 bits). -/
def tv (n : Int) : Int := if inR n then n else 0
def te (n : Int) : Int := if inR n then 0 else 4
theorem tv_in {n : Int} (h : inR n) : tv n = n := by unfold tv; rw [if_pos h]
theorem tv_out {n : Int} (h : ¬ inR n) : tv n = 0 := by unfold tv; rw [if_neg h]
theorem te_in {n : Int} (h : inR n) : te n = 0 := by unfold te; rw [if_pos h]
theorem te_out {n : Int} (h : ¬ inR n) : te n = 4 := by unfold te; rw [if_neg h]
theorem ret_int {k : IntKind} {a b : Int} (h : a = b) : Ending.returned (.int k a) = .returned (.int k b) := by rw [h]
theorem ret_two {k l : IntKind} {a b c d : Int} (h : a = b) (h2 : c = d) : Ending.returned (.tuple #[.int k a, .int l c]) = .returned (.tuple #[.int k b, .int l d]) := by rw [h, h2]

/-- The size of a number. -/
def szv (a : Int) : Int := if a < 0 then -a else a
theorem szv_neg {a : Int} (h : a < 0) : szv a = -a := by unfold szv; rw [if_pos h]
theorem szv_pos {a : Int} (h : ¬ a < 0) : szv a = a := by unfold szv; rw [if_neg h]
theorem szv_bd {a : Int} (h : inR a) : 0 ≤ szv a ∧ szv a ≤ 9223372036854775808 := by unfold szv; unfold inR at h; split <;> omega
def hiv (a b : Int) : Int := a * b / 18446744073709551616
def lov (a b : Int) : Int := a * b % 18446744073709551616

theorem size_any (a : Int) (w : World) (h : inR a) :
    Calls Try.prog 79 #[.int .i64 a] w fun e w' => e = .returned (.int .u64 (szv a)) ∧ w = w' := by
  have hs := size_eq a h
  by_cases c : a < 0
  · have H := Lib.hid (hs.1 c); clear hs
    have H2 := Lib.hid (szv_neg c)
    go_enter Try.func79, Try.ntmps79
    go_wp2
    go_ret
    exact ⟨ret_int (H.out.trans H2.out.symm), rfl⟩
  · have H := Lib.hid (hs.2 (by omega)); clear hs
    have H2 := Lib.hid (szv_pos c)
    go_enter Try.func79, Try.ntmps79
    go_wp2
    go_ret
    exact ⟨ret_int (H.out.trans H2.out.symm), rfl⟩

theorem mul64_any (a b : Int) (w : World) (ha0 : 0 ≤ a) (ha : a < 18446744073709551616) (hb0 : 0 ≤ b) (hb : b < 18446744073709551616) :
    Calls Try.prog 78 #[.int .u64 a, .int .u64 b] w fun e w' => e = .returned (.tuple #[.int .u64 (hiv a b), .int .u64 (lov a b)]) ∧ w = w' := by
  have H := Lib.hid (hi_eq a b ha0 ha hb0 hb)
  clear ha0 ha hb0 hb
  go_enter Try.func78, Try.ntmps78
  go_wp2
  go_ret2
  exact ⟨ret_two H.out (IntKind.wrap_u64 _), rfl⟩

theorem add_any (a b : Int) (w : World) (ha : inR a) (hb : inR b) :
    Calls Try.prog 46 #[.int .i64 a, .int .i64 b] w fun e w' => e = .returned (.tuple #[.int .i64 (tv (a + b)), .int .i64 (te (a + b))]) ∧ w = w' := by
  unfold inR at ha hb
  have hw := w64 (a + b)
  have h := over_iff a (wrap64 (a + b)) b (wrap64 (a + b)) ha (w64_bd _) hb (w64_bd _)
  by_cases c : inR (a + b)
  · have H1 := Lib.hid (tv_in c)
    have H2 := Lib.hid (te_in c)
    have H3 := Lib.hid (w64_in _ c)
    have H4 : decide (bits .and .i64 (bits .xor .i64 a (wrap64 (a + b))) (bits .xor .i64 b (wrap64 (a + b))) < 0) = false := by
      rw [decide_eq_false_iff_not, h, hw]; unfold inR at c; omega
    clear h hw c ha hb
    go_enter Try.func46, Try.ntmps46
    go_wp2
    go_ret2
    exact ⟨ret_two (H3.out.trans H1.out.symm) H2.out.symm, rfl⟩
  · have H1 := Lib.hid (tv_out c)
    have H2 := Lib.hid (te_out c)
    have H4 : decide (bits .and .i64 (bits .xor .i64 a (wrap64 (a + b))) (bits .xor .i64 b (wrap64 (a + b))) < 0) = true := by
      rw [decide_eq_true_iff, h, hw]; unfold inR at c; omega
    clear h hw c ha hb
    go_enter Try.func46, Try.ntmps46
    go_wp2
    go_ret2
    exact ⟨ret_two H1.out.symm H2.out.symm, rfl⟩

theorem sub_any (a b : Int) (w : World) (ha : inR a) (hb : inR b) :
    Calls Try.prog 47 #[.int .i64 a, .int .i64 b] w fun e w' => e = .returned (.tuple #[.int .i64 (tv (a - b)), .int .i64 (te (a - b))]) ∧ w = w' := by
  unfold inR at ha hb
  have hw := w64 (a - b)
  have h := over_iff a b a (wrap64 (a - b)) ha hb ha (w64_bd _)
  by_cases c : inR (a - b)
  · have H1 := Lib.hid (tv_in c)
    have H2 := Lib.hid (te_in c)
    have H3 := Lib.hid (w64_in _ c)
    have H4 : decide (bits .and .i64 (bits .xor .i64 a b) (bits .xor .i64 a (wrap64 (a - b))) < 0) = false := by
      rw [decide_eq_false_iff_not, h, hw]; unfold inR at c; omega
    clear h hw c ha hb
    go_enter Try.func47, Try.ntmps47
    go_wp2
    go_ret2
    exact ⟨ret_two (H3.out.trans H1.out.symm) H2.out.symm, rfl⟩
  · have H1 := Lib.hid (tv_out c)
    have H2 := Lib.hid (te_out c)
    have H4 : decide (bits .and .i64 (bits .xor .i64 a b) (bits .xor .i64 a (wrap64 (a - b))) < 0) = true := by
      rw [decide_eq_true_iff, h, hw]; unfold inR at c; omega
    clear h hw c ha hb
    go_enter Try.func47, Try.ntmps47
    go_wp2
    go_ret2
    exact ⟨ret_two H1.out.symm H2.out.symm, rfl⟩

theorem neg_any (a : Int) (w : World) (ha : inR a) :
    Calls Try.prog 52 #[.int .i64 a] w fun e w' => e = .returned (.tuple #[.int .i64 (tv (-a)), .int .i64 (te (-a))]) ∧ w = w' := by
  have S := Lib.hid (sub_any 0 a w (by unfold inR; omega) ha)
  rw [Int.zero_sub] at S
  clear ha
  go_enter Try.func52, Try.ntmps52
  go_wp2_with fail
  refine S.out.mono ?_
  rintro e w' ⟨rfl, rfl⟩
  go_wp2_with fail
  go_ret2
  exact ⟨rfl, rfl⟩

/-- What Div and Rem tell. -/
def dv (a b : Int) : Int := if b = 0 then 0 else tv (a.tdiv b)
def de (a b : Int) : Int := if b = 0 then 5 else te (a.tdiv b)
def rv (a b : Int) : Int := if b = 0 then 0 else a.tmod b
def re (b : Int) : Int := if b = 0 then 5 else 0

theorem tdiv_le (a b : Int) : (a.tdiv b).natAbs ≤ a.natAbs := by
  rw [Int.natAbs_tdiv]; exact Nat.div_le_self _ _
theorem tdiv_in (a b : Int) (ha : inR a) (hb1 : ¬ (a = -9223372036854775808 ∧ b = -1)) : inR (a.tdiv b) := by
  unfold inR at *
  have h := tdiv_le a b
  by_cases e : a = -9223372036854775808
  · by_cases e2 : b = 1
    · subst e2; rw [Int.tdiv_one]; omega
    · by_cases e0 : b = 0
      · subst e0; rw [Int.tdiv_zero]; omega
      · have h2 : (a.tdiv b).natAbs ≤ a.natAbs / 2 := by
          rw [Int.natAbs_tdiv]; exact Nat.div_le_div_left (by omega) (by omega)
        omega
  · omega
theorem tmod_small (a b : Int) (hb : b ≠ 0) : (a.tmod b).natAbs < b.natAbs := by
  rw [Int.natAbs_tmod]; exact Nat.mod_lt _ (by omega)
theorem tmod_le (a b : Int) : (a.tmod b).natAbs ≤ a.natAbs := by
  rw [Int.natAbs_tmod]; exact Nat.mod_le _ _

theorem div_any (a b : Int) (w : World) (ha : inR a) :
    Calls Try.prog 48 #[.int .i64 a, .int .i64 b] w fun e w' => e = .returned (.tuple #[.int .i64 (dv a b), .int .i64 (de a b)]) ∧ w = w' := by
  by_cases b0 : b = 0
  · have H1 : Hid (dv a b = 0) := by show dv a b = 0; unfold dv; rw [if_pos b0]
    have H2 : Hid (de a b = 5) := by show de a b = 5; unfold de; rw [if_pos b0]
    have c : (b == 0) = true := by simp [b0]
    clear b0
    go_enter Try.func48, Try.ntmps48
    go_wp2
    go_ret2
    exact ⟨ret_two H1.out.symm H2.out.symm, rfl⟩
  · have c : (b == 0) = false := by simp [b0]
    by_cases m : a = -9223372036854775808 ∧ b = -1
    · have ht : ¬ inR (a.tdiv b) := by obtain ⟨rfl, rfl⟩ := m; decide
      have H1 : Hid (dv a b = 0) := by show dv a b = 0; unfold dv; rw [if_neg b0, tv_out ht]
      have H2 : Hid (de a b = 4) := by show de a b = 4; unfold de; rw [if_neg b0, te_out ht]
      have c2 : (a == -9223372036854775808) = true := by simp [m.1]
      have c3 : (b == -1) = true := by simp [m.2]
      clear m b0 ht ha
      go_enter Try.func48, Try.ntmps48
      go_wp2
      go_ret2
      exact ⟨ret_two H1.out.symm H2.out.symm, rfl⟩
    · have ht : inR (a.tdiv b) := tdiv_in a b ha m
      have H1 : Hid (dv a b = a.tdiv b) := by show dv a b = _; unfold dv; rw [if_neg b0, tv_in ht]
      have H2 : Hid (de a b = 0) := by show de a b = 0; unfold de; rw [if_neg b0, te_in ht]
      have H3 := Lib.hid (w64_in _ ht)
      by_cases m1 : a = -9223372036854775808
      · have c2 : (a == -9223372036854775808) = true := by simp [m1]
        have c3 : (b == -1) = false := by have : ¬ b = -1 := fun e => m ⟨m1, e⟩; simp [this]
        clear m ht ha m1
        go_enter Try.func48, Try.ntmps48
        go_wp2
        go_ret2
        exact ⟨ret_two (H3.out.trans H1.out.symm) H2.out.symm, rfl⟩
      · have c2 : (a == -9223372036854775808) = false := by simp [m1]
        clear m ht ha m1
        go_enter Try.func48, Try.ntmps48
        go_wp2
        go_ret2
        exact ⟨ret_two (H3.out.trans H1.out.symm) H2.out.symm, rfl⟩

theorem rem_any (a b : Int) (w : World) :
    Calls Try.prog 49 #[.int .i64 a, .int .i64 b] w fun e w' => e = .returned (.tuple #[.int .i64 (rv a b), .int .i64 (re b)]) ∧ w = w' := by
  by_cases b0 : b = 0
  · have H1 : Hid (rv a b = 0) := by show rv a b = 0; unfold rv; rw [if_pos b0]
    have H2 : Hid (re b = 5) := by show re b = 5; unfold re; rw [if_pos b0]
    have c : (b == 0) = true := by simp [b0]
    clear b0
    go_enter Try.func49, Try.ntmps49
    go_wp2
    go_ret2
    exact ⟨ret_two H1.out.symm H2.out.symm, rfl⟩
  · have c : (b == 0) = false := by simp [b0]
    have H2 : Hid (re b = 0) := by show re b = 0; unfold re; rw [if_neg b0]
    by_cases b1 : b = -1
    · have H1 : Hid (rv a b = 0) := by show rv a b = 0; unfold rv; rw [if_neg b0, b1, Int.tmod_neg, Int.tmod_one]
      have c2 : (b == -1) = true := by simp [b1]
      clear b0 b1
      go_enter Try.func49, Try.ntmps49
      go_wp2
      go_ret2
      exact ⟨ret_two H1.out.symm H2.out.symm, rfl⟩
    · have H1 : Hid (rv a b = a.tmod b) := by show rv a b = _; unfold rv; rw [if_neg b0]
      have c2 : (b == -1) = false := by simp [b1]
      clear b1
      go_enter Try.func49, Try.ntmps49
      go_wp2
      go_ret2
      exact ⟨ret_two H1.out.symm H2.out.symm, rfl⟩

theorem sz_bound (a b : Int) (ha0 : 0 ≤ a) (ha : a ≤ 9223372036854775808) (hb0 : 0 ≤ b) (hb : b ≤ 9223372036854775808) : 0 ≤ a * b ∧ a * b ≤ 85070591730234615865843651857942052864 := by
  refine ⟨Int.mul_nonneg ha0 hb0, ?_⟩
  have h := Int.mul_le_mul ha hb hb0 (by omega : (0 : Int) ≤ 9223372036854775808)
  omega

/-- The product, by the signs: what its walk needs to know. -/
theorem mul_core (a b H L : Int) (ha : inR a) (hb : inR b) (hH : H = hiv (szv a) (szv b)) (hL : L = lov (szv a) (szv b)) (s : Bool) (hs : (decide (a < 0) != decide (b < 0)) = s) :
    (0 < H ∨ (if s then 9223372036854775808 else 9223372036854775807) < L → tv (a * b) = 0 ∧ te (a * b) = 4) ∧
    (¬ 0 < H → ¬ (if s then 9223372036854775808 else 9223372036854775807) < L → te (a * b) = 0 ∧ (s = true → wrap64 (IntKind.u64.wrap (-L)) = tv (a * b)) ∧ (s = false → wrap64 L = tv (a * b))) := by
  have sa := szv_bd ha
  have sb := szv_bd hb
  have sp := sz_bound _ _ sa.1 sa.2 sb.1 sb.2
  have hp : szv a * szv b = if s then -(a * b) else a * b := by
    subst hs; unfold szv
    by_cases ca : a < 0 <;> by_cases cb : b < 0 <;> simp [ca, cb, Int.neg_mul, Int.mul_neg]
  have hH2 : H = szv a * szv b / 18446744073709551616 := hH
  have hL2 : L = szv a * szv b % 18446744073709551616 := hL
  rw [hp] at sp hH2 hL2
  clear hH hL hs hp sa sb
  generalize a * b = p at *
  rw [IntKind.wrap_u64, w64, w64]
  cases s
  · simp only [Bool.false_eq_true, if_false, false_implies, true_and, forall_const] at *
    refine ⟨fun h => ?_, fun h1 h2 => ?_⟩
    · have c : ¬ inR p := by unfold inR; omega
      exact ⟨tv_out c, te_out c⟩
    · have c : inR p := by unfold inR; omega
      rw [tv_in c, te_in c]; exact ⟨rfl, by omega⟩
  · simp only [if_true, Bool.true_eq_false, false_implies, and_true, forall_const] at *
    refine ⟨fun h => ?_, fun h1 h2 => ?_⟩
    · have c : ¬ inR p := by unfold inR; omega
      exact ⟨tv_out c, te_out c⟩
    · have c : inR p := by unfold inR; omega
      rw [tv_in c, te_in c]; exact ⟨rfl, by omega⟩

theorem mul_any (a b : Int) (w : World) (ha : inR a) (hb : inR b) :
    Calls Try.prog 50 #[.int .i64 a, .int .i64 b] w fun e w' => e = .returned (.tuple #[.int .i64 (tv (a * b)), .int .i64 (te (a * b))]) ∧ w = w' := by
  have sa := szv_bd ha
  have sb := szv_bd hb
  have M : Hid (∀ w', Calls Try.prog 78 #[.int .u64 (szv a), .int .u64 (szv b)] w' fun e w2 => e = .returned (.tuple #[.int .u64 (hiv (szv a) (szv b)), .int .u64 (lov (szv a) (szv b))]) ∧ w' = w2) :=
    fun w' => mul64_any _ _ w' sa.1 (by omega) sb.1 (by omega)
  have A := Lib.hid (fun w' => size_any a w' ha)
  have B := Lib.hid (fun w' => size_any b w' hb)
  obtain ⟨s, hs⟩ : ∃ s, (decide (a < 0) != decide (b < 0)) = s := ⟨_, rfl⟩
  have C := Lib.hid (mul_core a b _ _ ha hb rfl rfl s hs)
  have hs2 : (!(decide (a < 0) == decide (b < 0))) = s := by rw [← hs]; rfl
  clear ha hb sa sb hs
  obtain ⟨H, hH⟩ : ∃ H, hiv (szv a) (szv b) = H := ⟨_, rfl⟩
  obtain ⟨L, hL⟩ : ∃ L, lov (szv a) (szv b) = L := ⟨_, rfl⟩
  rw [hH, hL] at C M
  clear hH hL
  by_cases h1 : 0 < H
  · have C1 := Lib.hid (C.out.1 (.inl h1))
    clear C
    have hd1 : decide (0 < H) = true := by simpa using h1
    clear h1
    cases s
    all_goals
      go_enter Try.func50, Try.ntmps50
      go_wp2_with fail
      refine (A.out _).mono ?_
      rintro e w' ⟨rfl, rfl⟩
      go_wp2_with fail
      refine (B.out _).mono ?_
      rintro e w' ⟨rfl, rfl⟩
      go_wp2_with fail
      refine (M.out _).mono ?_
      rintro e w' ⟨rfl, rfl⟩
      go_wp2_with fail
      go_ret2
      exact ⟨ret_two C1.out.1.symm C1.out.2.symm, rfl⟩
  · have hd1 : decide (0 < H) = false := by simpa using h1
    by_cases h2 : (if s then 9223372036854775808 else 9223372036854775807) < L
    · have C1 := Lib.hid (C.out.1 (.inr h2))
      clear C h1
      cases s
      · have hd2 : decide (9223372036854775807 < L) = true := by simpa using h2
        clear h2
        go_enter Try.func50, Try.ntmps50
        go_wp2_with fail
        refine (A.out _).mono ?_
        rintro e w' ⟨rfl, rfl⟩
        go_wp2_with fail
        refine (B.out _).mono ?_
        rintro e w' ⟨rfl, rfl⟩
        go_wp2_with fail
        refine (M.out _).mono ?_
        rintro e w' ⟨rfl, rfl⟩
        go_wp2_with fail
        go_ret2
        exact ⟨ret_two C1.out.1.symm C1.out.2.symm, rfl⟩
      · have hd2 : decide (9223372036854775808 < L) = true := by simpa using h2
        clear h2
        go_enter Try.func50, Try.ntmps50
        go_wp2_with fail
        refine (A.out _).mono ?_
        rintro e w' ⟨rfl, rfl⟩
        go_wp2_with fail
        refine (B.out _).mono ?_
        rintro e w' ⟨rfl, rfl⟩
        go_wp2_with fail
        refine (M.out _).mono ?_
        rintro e w' ⟨rfl, rfl⟩
        go_wp2_with fail
        go_ret2
        exact ⟨ret_two C1.out.1.symm C1.out.2.symm, rfl⟩
    · have C1 := Lib.hid (C.out.2 h1 h2)
      clear C h1
      cases s
      · have C2 := Lib.hid (C1.out.2.2 rfl)
        have hd2 : decide (9223372036854775807 < L) = false := by simpa using h2
        clear h2
        go_enter Try.func50, Try.ntmps50
        go_wp2_with fail
        refine (A.out _).mono ?_
        rintro e w' ⟨rfl, rfl⟩
        go_wp2_with fail
        refine (B.out _).mono ?_
        rintro e w' ⟨rfl, rfl⟩
        go_wp2_with fail
        refine (M.out _).mono ?_
        rintro e w' ⟨rfl, rfl⟩
        go_wp2_with fail
        go_ret2
        exact ⟨ret_two (C2.out) C1.out.1.symm, rfl⟩
      · have C2 := Lib.hid (C1.out.2.1 rfl)
        have hd2 : decide (9223372036854775808 < L) = false := by simpa using h2
        clear h2
        go_enter Try.func50, Try.ntmps50
        go_wp2_with fail
        refine (A.out _).mono ?_
        rintro e w' ⟨rfl, rfl⟩
        go_wp2_with fail
        refine (B.out _).mono ?_
        rintro e w' ⟨rfl, rfl⟩
        go_wp2_with fail
        refine (M.out _).mono ?_
        rintro e w' ⟨rfl, rfl⟩
        go_wp2_with fail
        go_ret2
        exact ⟨ret_two (C2.out) C1.out.1.symm, rfl⟩

theorem awake_any (w : World) : Calls Try.prog 45 #[] w fun e w' => e = .returned (.bool true) ∧ w = w' := by
  have D := Lib.hid (div_any (-7) 2 w (by decide))
  have R := Lib.hid (rem_any (-7) 2 w)
  have e1 : dv (-7) 2 = -3 := by decide
  have e2 : de (-7) 2 = 0 := by decide
  have e3 : rv (-7) 2 = -1 := by decide
  have e4 : re 2 = 0 := by decide
  rw [e1, e2] at D
  rw [e3, e4] at R
  clear e1 e2 e3 e4
  go_enter Try.func45, Try.ntmps45
  go_wp2_with fail
  refine D.out.mono ?_
  rintro e w' ⟨rfl, rfl⟩
  go_wp2_with fail
  refine R.out.mono ?_
  rintro e w' ⟨rfl, rfl⟩
  go_wp2_with fail
  go_ret
  exact ⟨rfl, rfl⟩
end Go.Proofs.Ytafohemmjhjgbaa.Num
