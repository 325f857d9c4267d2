/-
  NumReckons, its walk: of any two numbers of 64 bits the law answers true, and leaves the world as it was. No further condition.
-/
import Derived.Test.YtafohemmjhjgbaaWideMul
import Derived.Test.YtafohemmjhjgbaaWideSmall
import Derived.Test.YtafohemmjhjgbaaHeap
import Derived.Deep.RegionHeld3
import Derived.Deep.DeepCutAuto
namespace Go.Proofs.Ytafohemmjhjgbaa.Num
open Go.RowKit Go.Proofs.Ytafohemmjhjgbaa.Bits

theorem is_true (n0 e0 : Int) (s : Bool) (a b c d e n : Int) (w : World) (h : IsW s a b c d e n) (h1 : n0 = tv n) (h2 : e0 = te n) :
    Calls Try.prog 53 #[.int .i64 n0, .int .i64 e0, .agg #[.bool (s), .int .u64 (a), .int .u64 (b), .int .u64 (c), .int .u64 (d), .int .u64 (e)]] w fun x w' => x = .returned (.bool true) ∧ Below w.heap.size w w' :=
  (is_any n0 e0 s a b c d e n w h).mono fun x w' ⟨hx, hb⟩ => ⟨by rw [hx, h1, h2]; simp, hb⟩
theorem keep_cell {w1 w2 : World} (hb : Below w1.heap.size w1 w2) {g i : Nat} {v : Value} (hg : g < w1.heap.size) (h : w1.cell? ⟨g, i, none⟩ = some v) : w2.cell? ⟨g, i, none⟩ = some v := (hb.cell (p := ⟨g, i, none⟩) hg).trans h

set_option maxHeartbeats 4000000 in
theorem reckons_any (a b : Int) (w : World) (ha : inR a) (hb : inR b) :
    Calls Try.prog 10 #[.int .i64 a, .int .i64 b] w fun e w' => e = .returned (.bool true) ∧ Below w.heap.size w w' := by
  have A := Lib.hid (fun w' => awake_any w')
  have OA := Lib.hid (fun w' => of_any a w' ha)
  have OB := Lib.hid (fun w' => of_any b w' hb)
  have WA := of_isW a ha
  have WB := of_isW b hb
  obtain ⟨x0, hx0⟩ : ∃ x, szv a % 4294967296 = x := ⟨_, rfl⟩
  obtain ⟨x1, hx1⟩ : ∃ x, szv a / 4294967296 = x := ⟨_, rfl⟩
  obtain ⟨y0, hy0⟩ : ∃ x, szv b % 4294967296 = x := ⟨_, rfl⟩
  obtain ⟨y1, hy1⟩ : ∃ x, szv b / 4294967296 = x := ⟨_, rfl⟩
  obtain ⟨s, hs⟩ : ∃ x, decide (a < 0) = x := ⟨_, rfl⟩
  obtain ⟨t, ht⟩ : ∃ x, decide (b < 0) = x := ⟨_, rfl⟩
  rw [hx0, hx1, hs] at WA OA
  rw [hy0, hy1, ht] at WB OB
  clear hx0 hx1 hy0 hy1 hs ht
  have S := Lib.hid (fun w' => add_any a b w' ha hb)
  have D := Lib.hid (fun w' => sub_any a b w' ha hb)
  have M := Lib.hid (fun w' => mul_any a b w' ha hb)
  have N := Lib.hid (fun w' => neg_any a w' ha)
  have WS := Lib.hid (fun w' => wadd_any s t x0 x1 y0 y1 a b w' WA WB)
  have WN := Lib.hid (fun w' => wneg_any t y0 y1 0 0 0 w')
  have WD0 := fun w' => wadd_any s (!t) x0 x1 y0 y1 a (-b) w' WA (isW_neg WB)
  rw [← Int.sub_eq_add_neg] at WD0
  have WD := Lib.hid WD0
  have NX := isW_neg WA
  clear WD0
  have WM := Lib.hid (fun w' => wmul_any s t x0 x1 y0 y1 a b w' WA WB)
  have WX := Lib.hid (fun w' => wneg_any s x0 x1 0 0 0 w')
  have QD := Lib.hid (fun w' => div_any a b w' ha)
  have QR := Lib.hid (fun w' => rem_any a b w')
  have IA := Lib.hid WA
  have IB := Lib.hid WB
  have RA := Lib.hid ha
  have RB := Lib.hid hb
  clear WA WB ha hb
  by_cases b0 : b = 0
  · have c0 : (b == 0) = true := by simp [b0]
    have g1 : dv a b = 0 := by unfold dv; rw [if_pos b0]
    have g2 : de a b = 5 := by unfold de; rw [if_pos b0]
    have g3 : rv a b = 0 := by unfold rv; rw [if_pos b0]
    have g4 : re b = 5 := by unfold re; rw [if_pos b0]
    rw [g1, g2] at QD
    rw [g3, g4] at QR
    clear b0 g1 g2 g3 g4
    go_enter Try.func10, Try.ntmps10
    go_wp2_with fail
    refine (A.out _).mono ?_
    rintro e w' ⟨rfl, rfl⟩
    go_wp2_with fail
    refine (OA.out _).mono ?_
    rintro e w1 ⟨rfl, hb1⟩
    go_wp2_with fail
    refine (OB.out _).mono ?_
    rintro e w2 ⟨rfl, hb2⟩
    go_wp2_with fail
    refine (S.out _).mono ?_
    rintro e w' ⟨rfl, rfl⟩
    go_wp2_with fail
    refine (D.out _).mono ?_
    rintro e w' ⟨rfl, rfl⟩
    go_wp2_with fail
    refine (M.out _).mono ?_
    rintro e w' ⟨rfl, rfl⟩
    go_wp2_with fail
    refine (N.out _).mono ?_
    rintro e w' ⟨rfl, rfl⟩
    go_wp2_with fail
    have hbw : Below w.heap.size w w2 := hb1.trans (hb2.mono hb1.size)
    have hzw := hbw.size
    clear hb1 hb2
    refine name_world (fun w' => (w2.heap.size + 1 < w'.heap.size ∧ w2.heap.size < w'.heap.size ∧ Below w.heap.size w w') ∧ w'.cell? ⟨w2.heap.size, 0, none⟩ = some (.bool s) ∧ w'.cell? ⟨w2.heap.size, 1, none⟩ = some (.int .u64 x0) ∧ w'.cell? ⟨w2.heap.size, 2, none⟩ = some (.int .u64 x1) ∧ w'.cell? ⟨w2.heap.size, 3, none⟩ = some (.int .u64 0) ∧ w'.cell? ⟨w2.heap.size, 4, none⟩ = some (.int .u64 0) ∧ w'.cell? ⟨w2.heap.size, 5, none⟩ = some (.int .u64 0) ∧ w'.cell? ⟨w2.heap.size + 1, 0, none⟩ = some (.bool t) ∧ w'.cell? ⟨w2.heap.size + 1, 1, none⟩ = some (.int .u64 y0) ∧ w'.cell? ⟨w2.heap.size + 1, 2, none⟩ = some (.int .u64 y1) ∧ w'.cell? ⟨w2.heap.size + 1, 3, none⟩ = some (.int .u64 0) ∧ w'.cell? ⟨w2.heap.size + 1, 4, none⟩ = some (.int .u64 0) ∧ w'.cell? ⟨w2.heap.size + 1, 5, none⟩ = some (.int .u64 0)) ?_ ?_
    · refine ⟨⟨by simp, by simp; omega, (by repeat (first | (with_reducible exact Below.refl _ _) | (with_reducible refine Below.setCell ?_ (by first | (simp; done) | omega | (simp; omega)) _) | (with_reducible refine Below.alloc ?_ (by first | (simp; done) | omega | (simp; omega)) _) | (with_reducible refine below_drewN ?_ _) | (with_reducible refine Below.drew ?_) | assumption))⟩, ?_, ?_, ?_, ?_, ?_, ?_, ?_, ?_, ?_, ?_, ?_, ?_⟩ <;> (simp [go_sem]; done)
    rintro W0 ⟨⟨z1, z2, hbW⟩, c0, c1, c2, c3, c4, c5, c6, c7, c8, c9, c10, c11⟩
    clear hbw
    go_region_held3 (fun w' => (w2.heap.size + 1 < w'.heap.size ∧ w2.heap.size < w'.heap.size ∧ Below w.heap.size w w') ∧ w'.cell? ⟨w2.heap.size, 0, none⟩ = some (.bool s) ∧ w'.cell? ⟨w2.heap.size, 1, none⟩ = some (.int .u64 x0) ∧ w'.cell? ⟨w2.heap.size, 2, none⟩ = some (.int .u64 x1) ∧ w'.cell? ⟨w2.heap.size, 3, none⟩ = some (.int .u64 0) ∧ w'.cell? ⟨w2.heap.size, 4, none⟩ = some (.int .u64 0) ∧ w'.cell? ⟨w2.heap.size, 5, none⟩ = some (.int .u64 0) ∧ w'.cell? ⟨w2.heap.size + 1, 0, none⟩ = some (.bool t) ∧ w'.cell? ⟨w2.heap.size + 1, 1, none⟩ = some (.int .u64 y0) ∧ w'.cell? ⟨w2.heap.size + 1, 2, none⟩ = some (.int .u64 y1) ∧ w'.cell? ⟨w2.heap.size + 1, 3, none⟩ = some (.int .u64 0) ∧ w'.cell? ⟨w2.heap.size + 1, 4, none⟩ = some (.int .u64 0) ∧ w'.cell? ⟨w2.heap.size + 1, 5, none⟩ = some (.int .u64 0))
      (first | (refine ⟨⟨?_, ?_, ?_⟩, ?_, ?_, ?_, ?_, ?_, ?_, ?_, ?_, ?_, ?_, ?_, ?_⟩ <;> first | assumption | exact Below.drew ‹_›) | (go_split_ands; refine ⟨⟨?_, ?_, ?_⟩, ?_, ?_, ?_, ?_, ?_, ?_, ?_, ?_, ?_, ?_, ?_, ?_⟩ <;> first | exact Nat.lt_of_lt_of_le ‹_› hb.size | exact Below.trans ‹_› (hb.mono (Below.size ‹_›)) | exact keep_cell hb ‹_› ‹_›))
      (first | (go_at_call 54; (with_reducible refine (WS.out _).mono ?_); rintro e w' ⟨s1, p0, p1, p2, p3, p4, rfl, i1, hb⟩) | (go_at_call 54; (with_reducible refine (WD.out _).mono ?_); rintro e w' ⟨s2, q0, q1, q2, q3, q4, rfl, i2, hb⟩) | (go_at_call 56; (with_reducible refine (WM.out _).mono ?_); rintro e w' ⟨s3, r0, r1, r2, r3, r4, rfl, i3, hb⟩) | (go_at_call 55; (with_reducible refine (WN.out _).mono ?_); rintro e w' ⟨rfl, hb⟩) | (go_at_call 55; (with_reducible refine (WX.out _).mono ?_); rintro e w' ⟨rfl, hb⟩) | (go_at_call 53; (with_reducible refine (is_true _ _ _ _ _ _ _ _ _ _ ‹_› rfl rfl).mono ?_); rintro e w' ⟨rfl, hb⟩))
    go_wp2_with fail
    refine (QD.out _).mono ?_
    rintro e w' ⟨rfl, rfl⟩
    go_wp2_with fail
    refine (QR.out _).mono ?_
    rintro e w' ⟨rfl, rfl⟩
    go_wp2_with fail
    go_ret
    exact ⟨rfl, (‹(_ ∧ _ ∧ Below w.heap.size w w') ∧ _›).1.2.2⟩
  · have c0 : (b == 0) = false := by simp [b0]
    have DV := Lib.hid (fun w' => divide_any a b w' RA.out RB.out b0)
    have g1 : dv a b = tv (a.tdiv b) := by unfold dv; rw [if_neg b0]
    have g2 : de a b = te (a.tdiv b) := by unfold de; rw [if_neg b0]
    have hm : inR (a.tmod b) := by
      have h := tmod_le a b
      have ha := RA.out
      have hn : 0 ≤ a → 0 ≤ a.tmod b := Int.tmod_nonneg b
      have hsum : a.tdiv b * b + a.tmod b = a := Int.tdiv_mul_add_tmod a b
      have hab : (a.tdiv b * b).natAbs ≤ a.natAbs := by
        rw [Int.natAbs_mul, Int.natAbs_tdiv]; exact Nat.div_mul_le_self _ _
      unfold inR at *
      by_cases c : 0 ≤ a
      · have := hn c; omega
      · omega
    have g3 : rv a b = tv (a.tmod b) := by unfold rv; rw [if_neg b0, tv_in hm]
    have g4 : re b = te (a.tmod b) := by unfold re; rw [if_neg b0, te_in hm]
    rw [g1, g2] at QD
    rw [g3, g4] at QR
    clear b0 g1 g2 g3 g4 hm
    go_enter Try.func10, Try.ntmps10
    go_wp2_with fail
    refine (A.out _).mono ?_
    rintro e w' ⟨rfl, rfl⟩
    go_wp2_with fail
    refine (OA.out _).mono ?_
    rintro e w1 ⟨rfl, hb1⟩
    go_wp2_with fail
    refine (OB.out _).mono ?_
    rintro e w2 ⟨rfl, hb2⟩
    go_wp2_with fail
    refine (S.out _).mono ?_
    rintro e w' ⟨rfl, rfl⟩
    go_wp2_with fail
    refine (D.out _).mono ?_
    rintro e w' ⟨rfl, rfl⟩
    go_wp2_with fail
    refine (M.out _).mono ?_
    rintro e w' ⟨rfl, rfl⟩
    go_wp2_with fail
    refine (N.out _).mono ?_
    rintro e w' ⟨rfl, rfl⟩
    go_wp2_with fail
    have hbw : Below w.heap.size w w2 := hb1.trans (hb2.mono hb1.size)
    have hzw := hbw.size
    clear hb1 hb2
    refine name_world (fun w' => (w2.heap.size + 1 < w'.heap.size ∧ w2.heap.size < w'.heap.size ∧ Below w.heap.size w w') ∧ w'.cell? ⟨w2.heap.size, 0, none⟩ = some (.bool s) ∧ w'.cell? ⟨w2.heap.size, 1, none⟩ = some (.int .u64 x0) ∧ w'.cell? ⟨w2.heap.size, 2, none⟩ = some (.int .u64 x1) ∧ w'.cell? ⟨w2.heap.size, 3, none⟩ = some (.int .u64 0) ∧ w'.cell? ⟨w2.heap.size, 4, none⟩ = some (.int .u64 0) ∧ w'.cell? ⟨w2.heap.size, 5, none⟩ = some (.int .u64 0) ∧ w'.cell? ⟨w2.heap.size + 1, 0, none⟩ = some (.bool t) ∧ w'.cell? ⟨w2.heap.size + 1, 1, none⟩ = some (.int .u64 y0) ∧ w'.cell? ⟨w2.heap.size + 1, 2, none⟩ = some (.int .u64 y1) ∧ w'.cell? ⟨w2.heap.size + 1, 3, none⟩ = some (.int .u64 0) ∧ w'.cell? ⟨w2.heap.size + 1, 4, none⟩ = some (.int .u64 0) ∧ w'.cell? ⟨w2.heap.size + 1, 5, none⟩ = some (.int .u64 0)) ?_ ?_
    · refine ⟨⟨by simp, by simp; omega, (by repeat (first | (with_reducible exact Below.refl _ _) | (with_reducible refine Below.setCell ?_ (by first | (simp; done) | omega | (simp; omega)) _) | (with_reducible refine Below.alloc ?_ (by first | (simp; done) | omega | (simp; omega)) _) | (with_reducible refine below_drewN ?_ _) | (with_reducible refine Below.drew ?_) | assumption))⟩, ?_, ?_, ?_, ?_, ?_, ?_, ?_, ?_, ?_, ?_, ?_, ?_⟩ <;> (simp [go_sem]; done)
    rintro W0 ⟨⟨z1, z2, hbW⟩, c0, c1, c2, c3, c4, c5, c6, c7, c8, c9, c10, c11⟩
    clear hbw
    go_region_held3 (fun w' => (w2.heap.size + 1 < w'.heap.size ∧ w2.heap.size < w'.heap.size ∧ Below w.heap.size w w') ∧ w'.cell? ⟨w2.heap.size, 0, none⟩ = some (.bool s) ∧ w'.cell? ⟨w2.heap.size, 1, none⟩ = some (.int .u64 x0) ∧ w'.cell? ⟨w2.heap.size, 2, none⟩ = some (.int .u64 x1) ∧ w'.cell? ⟨w2.heap.size, 3, none⟩ = some (.int .u64 0) ∧ w'.cell? ⟨w2.heap.size, 4, none⟩ = some (.int .u64 0) ∧ w'.cell? ⟨w2.heap.size, 5, none⟩ = some (.int .u64 0) ∧ w'.cell? ⟨w2.heap.size + 1, 0, none⟩ = some (.bool t) ∧ w'.cell? ⟨w2.heap.size + 1, 1, none⟩ = some (.int .u64 y0) ∧ w'.cell? ⟨w2.heap.size + 1, 2, none⟩ = some (.int .u64 y1) ∧ w'.cell? ⟨w2.heap.size + 1, 3, none⟩ = some (.int .u64 0) ∧ w'.cell? ⟨w2.heap.size + 1, 4, none⟩ = some (.int .u64 0) ∧ w'.cell? ⟨w2.heap.size + 1, 5, none⟩ = some (.int .u64 0))
      (first | (refine ⟨⟨?_, ?_, ?_⟩, ?_, ?_, ?_, ?_, ?_, ?_, ?_, ?_, ?_, ?_, ?_, ?_⟩ <;> first | assumption | exact Below.drew ‹_›) | (go_split_ands; refine ⟨⟨?_, ?_, ?_⟩, ?_, ?_, ?_, ?_, ?_, ?_, ?_, ?_, ?_, ?_, ?_, ?_⟩ <;> first | exact Nat.lt_of_lt_of_le ‹_› hb.size | exact Below.trans ‹_› (hb.mono (Below.size ‹_›)) | exact keep_cell hb ‹_› ‹_›))
      (first | (go_at_call 54; (with_reducible refine (WS.out _).mono ?_); rintro e w' ⟨s1, p0, p1, p2, p3, p4, rfl, i1, hb⟩) | (go_at_call 54; (with_reducible refine (WD.out _).mono ?_); rintro e w' ⟨s2, q0, q1, q2, q3, q4, rfl, i2, hb⟩) | (go_at_call 56; (with_reducible refine (WM.out _).mono ?_); rintro e w' ⟨s3, r0, r1, r2, r3, r4, rfl, i3, hb⟩) | (go_at_call 55; (with_reducible refine (WN.out _).mono ?_); rintro e w' ⟨rfl, hb⟩) | (go_at_call 55; (with_reducible refine (WX.out _).mono ?_); rintro e w' ⟨rfl, hb⟩) | (go_at_call 53; (with_reducible refine (is_true _ _ _ _ _ _ _ _ _ _ ‹_› rfl rfl).mono ?_); rintro e w' ⟨rfl, hb⟩))
    go_wp2_with fail
    refine (QD.out _).mono ?_
    rintro e w' ⟨rfl, rfl⟩
    go_wp2_with fail
    refine (QR.out _).mono ?_
    rintro e w' ⟨rfl, rfl⟩
    go_wp2_with fail
    refine (DV.out _).mono ?_
    rintro e w7 ⟨s4, s5, u0, u1, v0, v1, rfl, i4, i5, hb7⟩
    go_wp2_with fail
    refine (is_true _ _ _ _ _ _ _ _ _ _ i4 rfl rfl).mono ?_
    rintro e w8 ⟨rfl, hb8⟩
    obtain ⟨hc8, hf8⟩ := bcell hb8
    go_wp2_with fail
    refine (is_true _ _ _ _ _ _ _ _ _ _ i5 rfl rfl).mono ?_
    rintro e w9 ⟨rfl, hb9⟩
    go_wp2_with fail
    go_ret
    have h1 : Below w.heap.size w w' := (‹(_ ∧ _ ∧ Below w.heap.size w w') ∧ _›).1.2.2
    have h2 := h1.trans (hb7.mono h1.size)
    have h3 := h2.size
    have h4 := (((Below.refl w.heap.size w).trans h2).alloc h3 (.cells #[.bool s4, .int .u64 u0, .int .u64 u1, .int .u64 0, .int .u64 0, .int .u64 0] 70)).alloc (by simp; omega) (.cells #[.bool s5, .int .u64 v0, .int .u64 v1, .int .u64 0, .int .u64 0, .int .u64 0] 70)
    have h5 := h4.trans (hb8.mono h4.size)
    exact ⟨rfl, h5.trans (hb9.mono h5.size)⟩

theorem reckons_row (a b : Int) (w : World) (ha : (Lit.int .i64 a).wf = true) (hb : (Lit.int .i64 b).wf = true) :
    Calls Try.prog 10 #[.int .i64 a, .int .i64 b] w fun e w' => e = .returned (.bool true) ∧ Below w.heap.size w w' :=
  reckons_any a b w (range_of_wf ha) (range_of_wf hb)
end Go.Proofs.Ytafohemmjhjgbaa.Num
