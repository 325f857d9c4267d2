/-
  The contracts of the reference's wide numbers: a sign and five digits of 32 bits.
-/
import Derived.Test.YtafohemmjhjgbaaNum
import Derived.WalkSmall
namespace Go.Proofs.Ytafohemmjhjgbaa.Num
open Go.RowKit Go.Proofs.Ytafohemmjhjgbaa.Bits

def IsW (s : Bool) (p0 p1 p2 p3 p4 n : Int) : Prop :=
  0 ≤ p0 ∧ p0 < 4294967296 ∧ 0 ≤ p1 ∧ p1 < 4294967296 ∧ 0 ≤ p2 ∧ p2 < 4294967296 ∧ 0 ≤ p3 ∧ p3 < 4294967296 ∧ 0 ≤ p4 ∧ p4 < 4294967296 ∧
  p0 + p1 * 4294967296 + p2 * 18446744073709551616 + p3 * 79228162514264337593543950336 + p4 * 340282366920938463463374607431768211456 = (if s = true then -n else n)

def GivesW (n : Int) (w : World) (e : Ending) (w' : World) : Prop :=
  ∃ s p0 p1 p2 p3 p4, e = .returned (.agg #[.bool (s), .int .u64 (p0), .int .u64 (p1), .int .u64 (p2), .int .u64 (p3), .int .u64 (p4)]) ∧ IsW s p0 p1 p2 p3 p4 n ∧ Below w.heap.size w w'

theorem ret_W {s t : Bool} {a b c d e a' b' c' d' e' : Int} (hs : s = t) (h1 : a = a') (h2 : b = b') (h3 : c = c') (h4 : d = d') (h5 : e = e') : Ending.returned (.agg #[.bool (s), .int .u64 (a), .int .u64 (b), .int .u64 (c), .int .u64 (d), .int .u64 (e)]) = .returned (.agg #[.bool (t), .int .u64 (a'), .int .u64 (b'), .int .u64 (c'), .int .u64 (d'), .int .u64 (e')]) := by
  rw [hs, h1, h2, h3, h4, h5]

set_option maxHeartbeats 1000000 in
theorem wadd_same (s : Bool) (a0 a1 b0 b1 n m : Int) (w : World) (ha : IsW s a0 a1 0 0 0 n) (hb : IsW s b0 b1 0 0 0 m) :
    Calls Try.prog 54 #[.agg #[.bool (s), .int .u64 (a0), .int .u64 (a1), .int .u64 (0), .int .u64 (0), .int .u64 (0)], .agg #[.bool (s), .int .u64 (b0), .int .u64 (b1), .int .u64 (0), .int .u64 (0), .int .u64 (0)]] w (GivesW (n + m) w) := by
  have HA := Lib.hid ha
  have HB := Lib.hid hb
  obtain ⟨a01, a02, a11, a12, _⟩ := ha
  obtain ⟨b01, b02, b11, b12, _⟩ := hb
  go_enter Try.func54, Try.ntmps54
  go_wp2
  refine wp_loop_rounds 6 ?_
  iterate 5 (rw [rounds_succ]; go_wp2; go_quiet (fail); go_wp2)
  rw [rounds_succ]
  go_wp2
  refine bodyPost_ret (v := .agg #[.bool (s), .int .u64 (_), .int .u64 (_), .int .u64 (_), .int .u64 (_), .int .u64 (_)]) (by simp [results, Try.results54, go_sem]; exact ⟨rfl, rfl, rfl, rfl, rfl⟩) rfl ⟨s, _, _, _, _, _, rfl, ?_, (by repeat (first | (with_reducible exact Below.refl _ _) | (with_reducible refine Below.setCell ?_ (by first | (simp; done) | omega | (simp; omega)) _) | (with_reducible refine Below.alloc ?_ (by first | (simp; done) | omega | (simp; omega)) _) | (with_reducible refine below_drewN ?_ _) | (with_reducible refine Below.drew ?_) | assumption))⟩
  unfold IsW at *
  have h1 := HA.out
  have h2 := HB.out
  clear HA HB
  cases s
  · simp only [Bool.false_eq_true, if_false] at *; omega
  · simp only [if_true] at *; omega

def lessV (a0 a1 b0 b1 : Int) : Bool := if a1 = b1 then decide (a0 < b0) else decide (a1 < b1)

set_option maxHeartbeats 1000000 in
theorem less_any (a0 a1 b0 b1 : Int) (w : World) :
    Calls Try.prog 81 #[.agg #[.int .u64 a0, .int .u64 a1, .int .u64 0, .int .u64 0, .int .u64 0], .agg #[.int .u64 b0, .int .u64 b1, .int .u64 0, .int .u64 0, .int .u64 0]] w fun e w' => e = .returned (.bool (lessV a0 a1 b0 b1)) ∧ ∃ nq, w' = ((w.alloc (.cells #[.int .u64 a0, .int .u64 a1, .int .u64 0, .int .u64 0, .int .u64 0] 68)).alloc (.cells #[.int .u64 b0, .int .u64 b1, .int .u64 0, .int .u64 0, .int .u64 0] 68)).drewN nq := by
  by_cases h1 : a1 = b1
  · by_cases h0 : a0 = b0
    · have H : Hid (lessV a0 a1 b0 b1 = false) := by show _ = _; unfold lessV; rw [if_pos h1]; simp [h0]
      subst h1 h0
      go_enter Try.func81, Try.ntmps81
      go_wp2
      refine wp_loop_rounds 6 ?_
      iterate 5 (rw [rounds_succ]; go_wp2; go_quiet (fail); go_wp2)
      rw [rounds_succ]
      go_wp2
      go_ret
      exact ⟨by rw [H.out]; rfl, _, by first | rfl | (simp only [World.drewN_drewN]; rfl)⟩
    · have H : Hid (lessV a0 a1 b0 b1 = decide (a0 < b0)) := by show _ = _; unfold lessV; rw [if_pos h1]
      subst h1
      have c0 : (a0 != b0) = true := by simp [h0]
      clear h0
      go_enter Try.func81, Try.ntmps81
      go_wp2
      refine wp_loop_rounds 6 ?_
      iterate 4 (rw [rounds_succ]; go_wp2; go_quiet (fail); go_wp2)
      rw [rounds_succ]; go_wp2; go_quiet (fail); go_wp2; go_quiet (fail); go_wp2
      go_ret
      exact ⟨by rw [H.out]; rfl, _, by first | rfl | (simp only [World.drewN_drewN]; rfl)⟩
  · have H : Hid (lessV a0 a1 b0 b1 = decide (a1 < b1)) := by show _ = _; unfold lessV; rw [if_neg h1]
    have c0 : (a1 != b1) = true := by simp [h1]
    clear h1
    go_enter Try.func81, Try.ntmps81
    go_wp2
    refine wp_loop_rounds 6 ?_
    iterate 3 (rw [rounds_succ]; go_wp2; go_quiet (fail); go_wp2)
    rw [rounds_succ]; go_wp2; go_quiet (fail); go_wp2; go_quiet (fail); go_wp2
    go_ret
    exact ⟨by rw [H.out]; rfl, _, by first | rfl | (simp only [World.drewN_drewN]; rfl)⟩

end Go.Proofs.Ytafohemmjhjgbaa.Num
