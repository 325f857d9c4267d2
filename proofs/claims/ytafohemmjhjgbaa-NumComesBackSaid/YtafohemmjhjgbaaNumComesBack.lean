/-
  NumComesBack, its walk: of any two numbers of 64 bits the law answers true, and leaves the world as it was. No further condition.
-/
import Derived.Test.YtafohemmjhjgbaaNum
namespace Go.Proofs.Ytafohemmjhjgbaa.Num
open Go.RowKit Go.Proofs.Ytafohemmjhjgbaa.Bits

/-- What the second half needs: the quotient, what is left, the product, the sum. -/
theorem back_facts (a b : Int) (ha : inR a) (b0 : ¬ b = 0) (m : ¬ (a = -9223372036854775808 ∧ b = -1)) :
    dv a b = a.tdiv b ∧ de a b = 0 ∧ rv a b = a.tmod b ∧ re b = 0 ∧ inR (a.tdiv b) ∧ inR (a.tdiv b * b) ∧ inR (a.tmod b) ∧ a.tdiv b * b + a.tmod b = a := by
  have ht : inR (a.tdiv b) := tdiv_in a b ha m
  have hm1 := tmod_le a b
  have hsum : a.tdiv b * b + a.tmod b = a := Int.tdiv_mul_add_tmod a b
  have hab : (a.tdiv b * b).natAbs ≤ a.natAbs := by
    rw [Int.natAbs_mul, Int.natAbs_tdiv]; exact Nat.div_mul_le_self _ _
  have hn : 0 ≤ a → 0 ≤ a.tmod b := Int.tmod_nonneg b
  refine ⟨by unfold dv; rw [if_neg b0, tv_in ht], by unfold de; rw [if_neg b0, te_in ht], by unfold rv; rw [if_neg b0], by unfold re; rw [if_neg b0], ht, ?_, ?_, hsum⟩
  · unfold inR at *
    by_cases c : 0 ≤ a
    · have := hn c; omega
    · omega
  · unfold inR at *
    by_cases c : 0 ≤ a
    · have := hn c; omega
    · omega

theorem comes_any (a b : Int) (w : World) (ha : inR a) (hb : inR b) :
    Calls Try.prog 9 #[.int .i64 a, .int .i64 b] w fun e w' => e = .returned (.bool true) ∧ w = w' := by
  have A := Lib.hid (awake_any w)
  have S1 := Lib.hid (add_any a b w ha hb)
  have D := Lib.hid (div_any a b w ha)
  have R := Lib.hid (rem_any a b w)
  have S2 : Hid (inR (a + b) → Calls Try.prog 47 #[.int .i64 (a + b), .int .i64 b] w fun e w' => e = .returned (.tuple #[.int .i64 a, .int .i64 0]) ∧ w = w') := by
    intro c
    have h := sub_any (a + b) b w c hb
    rw [show a + b - b = a from by omega, tv_in ha, te_in ha] at h
    exact h
  by_cases b0 : b = 0
  · have t1 : dv a b = 0 := by unfold dv; rw [if_pos b0]
    have t2 : de a b = 5 := by unfold de; rw [if_pos b0]
    have t3 : rv a b = 0 := by unfold rv; rw [if_pos b0]
    have t4 : re b = 5 := by unfold re; rw [if_pos b0]
    rw [t1, t2] at D
    rw [t3, t4] at R
    have c1 : (b == 0) = true := by simp [b0]
    clear t1 t2 t3 t4 b0
    by_cases c : inR (a + b)
    · rw [tv_in c, te_in c] at S1
      have S3 := Lib.hid (S2.out c)
      clear S2 c ha hb
      generalize a + b = s at *
      go_enter Try.func9, Try.ntmps9
      go_wp2_with fail
      refine A.out.mono ?_
      rintro e w' ⟨rfl, rfl⟩
      go_wp2_with fail
      refine S1.out.mono ?_
      rintro e w' ⟨rfl, rfl⟩
      go_wp2_with fail
      refine S3.out.mono ?_
      rintro e w' ⟨rfl, rfl⟩
      go_wp2_with fail
      refine D.out.mono ?_
      rintro e w' ⟨rfl, rfl⟩
      go_wp2_with fail
      refine R.out.mono ?_
      rintro e w' ⟨rfl, rfl⟩
      go_wp2_with fail
      go_ret
      exact ⟨rfl, rfl⟩
    · rw [tv_out c, te_out c] at S1
      clear S2 c ha hb
      go_enter Try.func9, Try.ntmps9
      go_wp2_with fail
      refine A.out.mono ?_
      rintro e w' ⟨rfl, rfl⟩
      go_wp2_with fail
      refine S1.out.mono ?_
      rintro e w' ⟨rfl, rfl⟩
      go_wp2_with fail
      refine D.out.mono ?_
      rintro e w' ⟨rfl, rfl⟩
      go_wp2_with fail
      refine R.out.mono ?_
      rintro e w' ⟨rfl, rfl⟩
      go_wp2_with fail
      go_ret
      exact ⟨rfl, rfl⟩
  · have c1 : (b == 0) = false := by simp [b0]
    by_cases m : a = -9223372036854775808 ∧ b = -1
    · obtain ⟨rfl, rfl⟩ := m
      have t1 : dv (-9223372036854775808) (-1) = 0 := by decide
      have t2 : de (-9223372036854775808) (-1) = 4 := by decide
      have t3 : rv (-9223372036854775808) (-1) = 0 := by decide
      have t4 : re (-1) = 0 := by decide
      rw [t1, t2] at D
      rw [t3, t4] at R
      clear t1 t2 t3 t4
      have c : ¬ inR (-9223372036854775808 + -1) := by decide
      rw [tv_out c, te_out c] at S1
      clear S2 c ha hb b0 c1
      go_enter Try.func9, Try.ntmps9
      go_wp2_with fail
      refine A.out.mono ?_
      rintro e w' ⟨rfl, rfl⟩
      go_wp2_with fail
      refine S1.out.mono ?_
      rintro e w' ⟨rfl, rfl⟩
      go_wp2_with fail
      refine D.out.mono ?_
      rintro e w' ⟨rfl, rfl⟩
      go_wp2_with fail
      refine R.out.mono ?_
      rintro e w' ⟨rfl, rfl⟩
      go_wp2_with fail
      go_ret
      exact ⟨rfl, rfl⟩
    · obtain ⟨t1, t2, t3, t4, hq, hp, hr, hs⟩ := back_facts a b ha b0 m
      rw [t1, t2] at D
      rw [t3, t4] at R
      have P := Lib.hid (mul_any (a.tdiv b) b w hq hb)
      have Q := Lib.hid (add_any (a.tdiv b * b) (a.tmod b) w hp hr)
      rw [tv_in hp, te_in hp] at P
      rw [hs, tv_in ha, te_in ha] at Q
      clear t1 t2 t3 t4 hs hp hr hq m b0 c1
      generalize a.tdiv b * b = p at *
      generalize a.tdiv b = q at *
      generalize a.tmod b = r at *
      by_cases c : inR (a + b)
      · rw [tv_in c, te_in c] at S1
        have S3 := Lib.hid (S2.out c)
        clear S2 c ha hb
        generalize a + b = s at *
        go_enter Try.func9, Try.ntmps9
        go_wp2_with fail
        refine A.out.mono ?_
        rintro e w' ⟨rfl, rfl⟩
        go_wp2_with fail
        refine S1.out.mono ?_
        rintro e w' ⟨rfl, rfl⟩
        go_wp2_with fail
        refine S3.out.mono ?_
        rintro e w' ⟨rfl, rfl⟩
        go_wp2_with fail
        refine D.out.mono ?_
        rintro e w' ⟨rfl, rfl⟩
        go_wp2_with fail
        refine R.out.mono ?_
        rintro e w' ⟨rfl, rfl⟩
        go_wp2_with fail
        refine P.out.mono ?_
        rintro e w' ⟨rfl, rfl⟩
        go_wp2_with fail
        refine Q.out.mono ?_
        rintro e w' ⟨rfl, rfl⟩
        go_wp2_with fail
        go_ret
        exact ⟨rfl, rfl⟩
      · rw [tv_out c, te_out c] at S1
        clear S2 c ha hb
        go_enter Try.func9, Try.ntmps9
        go_wp2_with fail
        refine A.out.mono ?_
        rintro e w' ⟨rfl, rfl⟩
        go_wp2_with fail
        refine S1.out.mono ?_
        rintro e w' ⟨rfl, rfl⟩
        go_wp2_with fail
        refine D.out.mono ?_
        rintro e w' ⟨rfl, rfl⟩
        go_wp2_with fail
        refine R.out.mono ?_
        rintro e w' ⟨rfl, rfl⟩
        go_wp2_with fail
        refine P.out.mono ?_
        rintro e w' ⟨rfl, rfl⟩
        go_wp2_with fail
        refine Q.out.mono ?_
        rintro e w' ⟨rfl, rfl⟩
        go_wp2_with fail
        go_ret
        exact ⟨rfl, rfl⟩

theorem comes_row (a b : Int) (w : World) (ha : (Lit.int .i64 a).wf = true) (hb : (Lit.int .i64 b).wf = true) :
    Calls Try.prog 9 #[.int .i64 a, .int .i64 b] w fun e w' => e = .returned (.bool true) ∧ Below w.heap.size w w' :=
  (comes_any a b w (range_of_wf ha) (range_of_wf hb)).mono fun _ _ ⟨he, hw⟩ => ⟨he, hw ▸ Below.refl _ _⟩
end Go.Proofs.Ytafohemmjhjgbaa.Num
