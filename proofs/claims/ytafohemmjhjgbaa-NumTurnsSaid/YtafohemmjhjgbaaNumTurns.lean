/-
  NumTurns, its walk: of any two numbers of 64 bits the law answers true, and leaves the world as it was. No further condition.
-/
import Derived.Test.YtafohemmjhjgbaaNum
namespace Go.Proofs.Ytafohemmjhjgbaa.Num
open Go.RowKit Go.Proofs.Ytafohemmjhjgbaa.Bits

theorem turns_any (a b : Int) (w : World) (ha : inR a) (hb : inR b) :
    Calls Try.prog 11 #[.int .i64 a, .int .i64 b] w fun e w' => e = .returned (.bool true) ∧ w = w' := by
  have A := Lib.hid (awake_any w)
  have S1 := Lib.hid (add_any a b w ha hb)
  have S2 := Lib.hid (add_any b a w hb ha)
  have P1 := Lib.hid (mul_any a b w ha hb)
  have P2 := Lib.hid (mul_any b a w hb ha)
  have N1 := Lib.hid (neg_any a w ha)
  have Z := Lib.hid (sub_any a a w ha ha)
  rw [Int.add_comm] at S2
  rw [Int.mul_comm] at P2
  have z1 : tv (a - a) = 0 := by rw [Int.sub_self]; decide
  have z2 : te (a - a) = 0 := by rw [Int.sub_self]; decide
  rw [z1, z2] at Z
  clear z1 z2
  by_cases m : a = -9223372036854775808
  · have t1 : tv (-a) = 0 := by rw [m]; decide
    have t2 : te (-a) = 4 := by rw [m]; decide
    rw [t1, t2] at N1
    have c1 : (a != -9223372036854775808) = false := by simp [m]
    have c2 : (a == -9223372036854775808) = true := by simp [m]
    clear t1 t2 m ha hb
    generalize tv (a + b) = s at *
    generalize te (a + b) = e0 at *
    generalize tv (a * b) = p at *
    generalize te (a * b) = g at *
    go_enter Try.func11, Try.ntmps11
    go_wp2_with fail
    refine A.out.mono ?_
    rintro e w' ⟨rfl, rfl⟩
    go_wp2_with fail
    refine S1.out.mono ?_
    rintro e w' ⟨rfl, rfl⟩
    go_wp2_with fail
    refine S2.out.mono ?_
    rintro e w' ⟨rfl, rfl⟩
    go_wp2_with fail
    refine P1.out.mono ?_
    rintro e w' ⟨rfl, rfl⟩
    go_wp2_with fail
    refine P2.out.mono ?_
    rintro e w' ⟨rfl, rfl⟩
    go_wp2_with fail
    refine N1.out.mono ?_
    rintro e w' ⟨rfl, rfl⟩
    go_wp2_with fail
    refine Z.out.mono ?_
    rintro e w' ⟨rfl, rfl⟩
    go_wp2_with fail
    go_ret
    exact ⟨rfl, rfl⟩
  · have hm : inR (-a) := by unfold inR at *; omega
    have t1 : tv (-a) = -a := tv_in hm
    have t2 : te (-a) = 0 := te_in hm
    rw [t1, t2] at N1
    have N2 := Lib.hid (neg_any (-a) w hm)
    have t3 : - -a = a := by omega
    rw [t3, tv_in ha, te_in ha] at N2
    have c1 : (a != -9223372036854775808) = true := by simp [m]
    have c2 : (a == -9223372036854775808) = false := by simp [m]
    clear t1 t2 t3 m ha hb hm
    generalize tv (a + b) = s at *
    generalize te (a + b) = e0 at *
    generalize tv (a * b) = p at *
    generalize te (a * b) = g at *
    go_enter Try.func11, Try.ntmps11
    go_wp2_with fail
    refine A.out.mono ?_
    rintro e w' ⟨rfl, rfl⟩
    go_wp2_with fail
    refine S1.out.mono ?_
    rintro e w' ⟨rfl, rfl⟩
    go_wp2_with fail
    refine S2.out.mono ?_
    rintro e w' ⟨rfl, rfl⟩
    go_wp2_with fail
    refine P1.out.mono ?_
    rintro e w' ⟨rfl, rfl⟩
    go_wp2_with fail
    refine P2.out.mono ?_
    rintro e w' ⟨rfl, rfl⟩
    go_wp2_with fail
    refine N1.out.mono ?_
    rintro e w' ⟨rfl, rfl⟩
    go_wp2_with fail
    refine N2.out.mono ?_
    rintro e w' ⟨rfl, rfl⟩
    go_wp2_with fail
    refine Z.out.mono ?_
    rintro e w' ⟨rfl, rfl⟩
    go_wp2_with fail
    go_ret
    exact ⟨rfl, rfl⟩

theorem turns_row (a b : Int) (w : World) (ha : (Lit.int .i64 a).wf = true) (hb : (Lit.int .i64 b).wf = true) :
    Calls Try.prog 11 #[.int .i64 a, .int .i64 b] w fun e w' => e = .returned (.bool true) ∧ Below w.heap.size w w' :=
  (turns_any a b w (range_of_wf ha) (range_of_wf hb)).mono fun _ _ ⟨he, hw⟩ => ⟨he, hw ▸ Below.refl _ _⟩
end Go.Proofs.Ytafohemmjhjgbaa.Num
