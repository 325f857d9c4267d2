/-
  The reference's sum of wide numbers of two signs.
-/
import Derived.Test.YtafohemmjhjgbaaWide
namespace Go.Proofs.Ytafohemmjhjgbaa.Num
open Go.RowKit Go.Proofs.Ytafohemmjhjgbaa.Bits

theorem drewN_in (w : World) (o : Obj) (n : Nat) : (w.alloc o).drewN n = (w.drewN n).alloc o := rfl

set_option maxHeartbeats 8000000 in
theorem wadd_diff (s : Bool) (a0 a1 b0 b1 n m : Int) (w : World) (ha : IsW s a0 a1 0 0 0 n) (hb : IsW (!s) b0 b1 0 0 0 m) :
    Calls Try.prog 54 #[.agg #[.bool (s), .int .u64 (a0), .int .u64 (a1), .int .u64 (0), .int .u64 (0), .int .u64 (0)], .agg #[.bool (!s), .int .u64 (b0), .int .u64 (b1), .int .u64 (0), .int .u64 (0), .int .u64 (0)]] w (GivesW (n + m) w) := by
  have HA := Lib.hid ha
  have HB := Lib.hid hb
  obtain ⟨a01, a02, a11, a12, _⟩ := ha
  obtain ⟨b01, b02, b11, b12, _⟩ := hb
  have HL := Lib.hid (fun w' => less_any a0 a1 b0 b1 w')
  cases hl : lessV a0 a1 b0 b1
  · have HV := Lib.hid hl
    rw [hl] at HL
    clear hl
    cases s
    all_goals
      simp only [Bool.not_false, Bool.not_true] at HB ⊢
      go_enter Try.func54, Try.ntmps54
      go_wp2_with fail
      refine (HL.out _).mono ?_
      rintro e w' ⟨rfl, nq, rfl⟩
      go_wp2
      refine wp_loop_rounds 6 ?_
      iterate 5 (rw [rounds_succ]; go_wp2; go_quiet (fail); go_wp2)
      rw [rounds_succ]
      go_wp2
      refine bodyPost_ret (v := .agg #[.bool (_), .int .u64 (_), .int .u64 (_), .int .u64 (_), .int .u64 (_), .int .u64 (_)]) (by simp [results, Try.results54, go_sem]; exact ⟨rfl, rfl, rfl, rfl, rfl, rfl⟩) rfl ⟨_, _, _, _, _, _, rfl, ?_, (by repeat (first | (with_reducible exact Below.refl _ _) | (with_reducible refine Below.setCell ?_ (by first | (simp; done) | omega | (simp; omega)) _) | (with_reducible refine Below.alloc ?_ (by first | (simp; done) | omega | (simp; omega)) _) | (with_reducible refine below_drewN ?_ _) | (with_reducible refine Below.drew ?_) | assumption))⟩
      unfold IsW at *
      have h1 := HA.out
      have h2 := HB.out
      have h3 := HV.out
      unfold lessV at h3
      clear HA HB HV HL
      simp only [Bool.false_eq_true, if_false, if_true] at h1 h2 ⊢
      have hle : b0 + b1 * 4294967296 ≤ a0 + a1 * 4294967296 := by
        clear h1 h2
        by_cases c : a1 = b1
        · rw [if_pos c] at h3
          simp only [decide_eq_false_iff_not] at h3
          omega
        · rw [if_neg c] at h3
          simp only [decide_eq_false_iff_not] at h3
          omega
      clear h3
      have hc2 : 1 - (4294967296 + a1 - b1 - (1 - (4294967296 + a0 - b0) / 4294967296)) / 4294967296 = 0 := by clear h1 h2; omega
      simp only [hc2]
      omega
  · have HV := Lib.hid hl
    rw [hl] at HL
    clear hl
    cases s
    all_goals
      simp only [Bool.not_false, Bool.not_true] at HB ⊢
      go_enter Try.func54, Try.ntmps54
      go_wp2_with fail
      refine (HL.out _).mono ?_
      rintro e w' ⟨rfl, nq, rfl⟩
      simp only [drewN_in]
      obtain ⟨w2, hw2⟩ : ∃ w2, w.drewN nq = w2 := ⟨_, rfl⟩
      have hsz : w.heap.size = w2.heap.size := by rw [← hw2]; rfl
      have hB : Below w2.heap.size w w2 := by rw [← hw2]; exact below_drewN (Below.refl _ _) _
      rw [hw2, hsz]
      have HSZ := Lib.hid hsz
      clear hw2 hsz
      go_wp2
      refine wp_loop_rounds 6 ?_
      iterate 5 (rw [rounds_succ]; go_wp2; go_quiet (fail); go_wp2)
      rw [rounds_succ]
      go_wp2
      refine bodyPost_ret (v := .agg #[.bool (_), .int .u64 (_), .int .u64 (_), .int .u64 (_), .int .u64 (_), .int .u64 (_)]) (by simp [results, Try.results54, go_sem]; exact ⟨rfl, rfl, rfl, rfl, rfl, rfl⟩) rfl ⟨_, _, _, _, _, _, rfl, ?_, (by rw [HSZ.out]; exact (by repeat (first | (with_reducible exact Below.refl _ _) | (with_reducible refine Below.setCell ?_ (by first | (simp; done) | omega | (simp; omega)) _) | (with_reducible refine Below.alloc ?_ (by first | (simp; done) | omega | (simp; omega)) _) | (with_reducible refine below_drewN ?_ _) | (with_reducible refine Below.drew ?_) | assumption)))⟩
      unfold IsW at *
      have h1 := HA.out
      have h2 := HB.out
      have h3 := HV.out
      unfold lessV at h3
      clear HA HB HV HL
      simp only [Bool.false_eq_true, if_false, if_true] at h1 h2 ⊢
      have hle : a0 + a1 * 4294967296 ≤ b0 + b1 * 4294967296 := by
        clear h1 h2
        by_cases c : a1 = b1
        · rw [if_pos c] at h3
          simp only [decide_eq_true_iff] at h3
          omega
        · rw [if_neg c] at h3
          simp only [decide_eq_true_iff] at h3
          omega
      clear h3
      have hc2 : 1 - (4294967296 + b1 - a1 - (1 - (4294967296 + b0 - a0) / 4294967296)) / 4294967296 = 0 := by clear h1 h2; omega
      simp only [hc2]
      omega

theorem wadd_any (s t : Bool) (a0 a1 b0 b1 n m : Int) (w : World) (ha : IsW s a0 a1 0 0 0 n) (hb : IsW t b0 b1 0 0 0 m) :
    Calls Try.prog 54 #[.agg #[.bool (s), .int .u64 (a0), .int .u64 (a1), .int .u64 (0), .int .u64 (0), .int .u64 (0)], .agg #[.bool (t), .int .u64 (b0), .int .u64 (b1), .int .u64 (0), .int .u64 (0), .int .u64 (0)]] w (GivesW (n + m) w) := by
  by_cases h : s = t
  · subst h; exact wadd_same s a0 a1 b0 b1 n m w ha hb
  · obtain rfl : t = !s := by cases s <;> cases t <;> simp_all
    exact wadd_diff s a0 a1 b0 b1 n m w ha hb
end Go.Proofs.Ytafohemmjhjgbaa.Num
