/-
  The reference's wide numbers: how one is made, told, and divided.
-/
import Derived.Test.YtafohemmjhjgbaaWide
import Derived.Test.YtafohemmjhjgbaaHeap
namespace Go.Proofs.Ytafohemmjhjgbaa.Num
open Go.RowKit Go.Proofs.Ytafohemmjhjgbaa.Bits

theorem of_isW (a : Int) (h : inR a) : IsW (decide (a < 0)) (szv a % 4294967296) (szv a / 4294967296) 0 0 0 a := by
  have hb := szv_bd h
  unfold IsW
  by_cases c : a < 0
  · have := szv_neg c; simp only [c, decide_true, if_true]; omega
  · have := szv_pos c; simp only [c, decide_false, Bool.false_eq_true, if_false]; omega

theorem of_any (a : Int) (w : World) (h : inR a) :
    Calls Try.prog 51 #[.int .i64 a] w fun e w' => e = .returned (.agg #[.bool (decide (a < 0)), .int .u64 (szv a % 4294967296), .int .u64 (szv a / 4294967296), .int .u64 (0), .int .u64 (0), .int .u64 (0)]) ∧ Below w.heap.size w w' := by
  have hs := size_eq a h
  have hb := szv_bd h
  by_cases c : a < 0
  · have H1 := Lib.hid ((hs.1 c).trans (szv_neg c).symm)
    have H2 := Lib.hid hb
    clear hs hb
    go_enter Try.func51, Try.ntmps51
    go_wp2
    refine bodyPost_ret (v := .agg #[.bool (_), .int .u64 (_), .int .u64 (_), .int .u64 (0), .int .u64 (0), .int .u64 (0)]) (by simp [results, Try.results51, go_sem]; exact ⟨rfl, rfl, rfl⟩) rfl ⟨?_, (by repeat (first | (with_reducible exact Below.refl _ _) | (with_reducible refine Below.setCell ?_ (by first | (simp; done) | omega | (simp; omega)) _) | (with_reducible refine Below.alloc ?_ (by first | (simp; done) | omega | (simp; omega)) _) | (with_reducible refine below_drewN ?_ _) | (with_reducible refine Below.drew ?_) | assumption))⟩
    have hb := H2.out
    refine ret_W (by simp [c]) ?_ ?_ rfl rfl rfl
    · rw [H1.out]; rw [Int.tmod_eq_emod_of_nonneg hb.1]
    · rw [H1.out, Int.tdiv_eq_ediv_of_nonneg hb.1, IntKind.wrap_u64]; omega
  · have H1 := Lib.hid ((hs.2 (by omega)).trans (szv_pos c).symm)
    have H2 := Lib.hid hb
    clear hs hb
    go_enter Try.func51, Try.ntmps51
    go_wp2
    refine bodyPost_ret (v := .agg #[.bool (_), .int .u64 (_), .int .u64 (_), .int .u64 (0), .int .u64 (0), .int .u64 (0)]) (by simp [results, Try.results51, go_sem]; exact ⟨rfl, rfl, rfl⟩) rfl ⟨?_, (by repeat (first | (with_reducible exact Below.refl _ _) | (with_reducible refine Below.setCell ?_ (by first | (simp; done) | omega | (simp; omega)) _) | (with_reducible refine Below.alloc ?_ (by first | (simp; done) | omega | (simp; omega)) _) | (with_reducible refine below_drewN ?_ _) | (with_reducible refine Below.drew ?_) | assumption))⟩
    have hb := H2.out
    refine ret_W (by first | (simp [c]; done) | (simp; omega)) ?_ ?_ rfl rfl rfl
    · rw [H1.out]; rw [Int.tmod_eq_emod_of_nonneg hb.1]
    · rw [H1.out, Int.tdiv_eq_ediv_of_nonneg hb.1, IntKind.wrap_u64]; omega

theorem wneg_any (s : Bool) (a b c d e : Int) (w : World) :
    Calls Try.prog 55 #[.agg #[.bool (s), .int .u64 (a), .int .u64 (b), .int .u64 (c), .int .u64 (d), .int .u64 (e)]] w fun x w' => x = .returned (.agg #[.bool (!s), .int .u64 (a), .int .u64 (b), .int .u64 (c), .int .u64 (d), .int .u64 (e)]) ∧ Below w.heap.size w w' := by
  go_enter Try.func55, Try.ntmps55
  go_wp2
  exact bodyPost_ret (v := .agg #[.bool (!s), .int .u64 (a), .int .u64 (b), .int .u64 (c), .int .u64 (d), .int .u64 (e)]) (by simp [results, Try.results55, go_sem]) rfl ⟨rfl, (by repeat (first | (with_reducible exact Below.refl _ _) | (with_reducible refine Below.setCell ?_ (by first | (simp; done) | omega | (simp; omega)) _) | (with_reducible refine Below.alloc ?_ (by first | (simp; done) | omega | (simp; omega)) _) | (with_reducible refine below_drewN ?_ _) | (with_reducible refine Below.drew ?_) | assumption))⟩

theorem isW_neg {s : Bool} {a b c d e n : Int} (h : IsW s a b c d e n) : IsW (!s) a b c d e (-n) := by
  unfold IsW at *
  cases s <;> simp only [Bool.not_false, Bool.not_true, Bool.false_eq_true, if_false, if_true] at * <;> omega

theorem small_any (s : Bool) (a b c d e n : Int) (w : World) (h : IsW s a b c d e n) :
    Calls Try.prog 80 #[.agg #[.bool (s), .int .u64 (a), .int .u64 (b), .int .u64 (c), .int .u64 (d), .int .u64 (e)]] w fun x w' => x = .returned (.tuple #[.int .i64 (tv n), .int .i64 (te n)]) ∧ Below w.heap.size w w' := by
  have H := Lib.hid h
  obtain ⟨h1, h2, h3, h4, h5, h6, h7, h8, h9, h10, h11⟩ := h
  clear h11
  by_cases c1 : 0 < c + d + e
  · have H1 : Hid (tv n = 0 ∧ te n = 4) := by
      have hn : ¬ inR n := by
        have h0 := H.out
        unfold IsW at h0; unfold inR
        cases s <;> simp only [Bool.false_eq_true, if_false, if_true] at h0 <;> omega
      exact ⟨tv_out hn, te_out hn⟩
    go_enter Try.func80, Try.ntmps80
    go_wp2
    go_ret2
    exact ⟨ret_two H1.out.1.symm H1.out.2.symm, (by repeat (first | (with_reducible exact Below.refl _ _) | (with_reducible refine Below.setCell ?_ (by first | (simp; done) | omega | (simp; omega)) _) | (with_reducible refine Below.alloc ?_ (by first | (simp; done) | omega | (simp; omega)) _) | (with_reducible refine below_drewN ?_ _) | (with_reducible refine Below.drew ?_) | assumption))⟩
  · cases s
    · by_cases c2 : b * 4294967296 + a ≤ 9223372036854775807
      · have H1 : Hid (tv n = b * 4294967296 + a ∧ te n = 0) := by
          have h0 := H.out
          unfold IsW at h0
          simp only [Bool.false_eq_true, if_false] at h0
          have hn : inR n := by unfold inR; omega
          exact ⟨by rw [tv_in hn]; omega, te_in hn⟩
        go_enter Try.func80, Try.ntmps80
        go_wp2
        go_ret2
        exact ⟨ret_two (by rw [H1.out.1]; first | done | rfl | (rw [w64_in]; omega)) H1.out.2.symm, (by repeat (first | (with_reducible exact Below.refl _ _) | (with_reducible refine Below.setCell ?_ (by first | (simp; done) | omega | (simp; omega)) _) | (with_reducible refine Below.alloc ?_ (by first | (simp; done) | omega | (simp; omega)) _) | (with_reducible refine below_drewN ?_ _) | (with_reducible refine Below.drew ?_) | assumption))⟩
      · have H1 : Hid (tv n = 0 ∧ te n = 4) := by
          have hn : ¬ inR n := by
            have h0 := H.out
            unfold IsW at h0; unfold inR
            simp only [Bool.false_eq_true, if_false] at h0; omega
          exact ⟨tv_out hn, te_out hn⟩
        go_enter Try.func80, Try.ntmps80
        go_wp2
        go_ret2
        exact ⟨ret_two H1.out.1.symm H1.out.2.symm, (by repeat (first | (with_reducible exact Below.refl _ _) | (with_reducible refine Below.setCell ?_ (by first | (simp; done) | omega | (simp; omega)) _) | (with_reducible refine Below.alloc ?_ (by first | (simp; done) | omega | (simp; omega)) _) | (with_reducible refine below_drewN ?_ _) | (with_reducible refine Below.drew ?_) | assumption))⟩
    · by_cases c2 : b * 4294967296 + a ≤ 9223372036854775808
      · have H1 : Hid (wrap64 (IntKind.u64.wrap (-(b * 4294967296 + a))) = tv n ∧ te n = 0) := by
          have h0 := H.out
          unfold IsW at h0
          simp only [if_true] at h0
          have hn : inR n := by unfold inR; omega
          exact ⟨by rw [tv_in hn, w64, IntKind.wrap_u64]; omega, te_in hn⟩
        go_enter Try.func80, Try.ntmps80
        go_wp2
        go_ret2
        exact ⟨ret_two (by first | exact H1.out.1 | (rw [Int.zero_sub]; exact H1.out.1)) H1.out.2.symm, (by repeat (first | (with_reducible exact Below.refl _ _) | (with_reducible refine Below.setCell ?_ (by first | (simp; done) | omega | (simp; omega)) _) | (with_reducible refine Below.alloc ?_ (by first | (simp; done) | omega | (simp; omega)) _) | (with_reducible refine below_drewN ?_ _) | (with_reducible refine Below.drew ?_) | assumption))⟩
      · have H1 : Hid (tv n = 0 ∧ te n = 4) := by
          have hn : ¬ inR n := by
            have h0 := H.out
            unfold IsW at h0; unfold inR
            simp only [if_true] at h0; omega
          exact ⟨tv_out hn, te_out hn⟩
        go_enter Try.func80, Try.ntmps80
        go_wp2
        go_ret2
        exact ⟨ret_two H1.out.1.symm H1.out.2.symm, (by repeat (first | (with_reducible exact Below.refl _ _) | (with_reducible refine Below.setCell ?_ (by first | (simp; done) | omega | (simp; omega)) _) | (with_reducible refine Below.alloc ?_ (by first | (simp; done) | omega | (simp; omega)) _) | (with_reducible refine below_drewN ?_ _) | (with_reducible refine Below.drew ?_) | assumption))⟩

theorem is_any (n0 e0 : Int) (s : Bool) (a b c d e n : Int) (w : World) (h : IsW s a b c d e n) :
    Calls Try.prog 53 #[.int .i64 n0, .int .i64 e0, .agg #[.bool (s), .int .u64 (a), .int .u64 (b), .int .u64 (c), .int .u64 (d), .int .u64 (e)]] w fun x w' => x = .returned (.bool (n0 == tv n && e0 == te n)) ∧ Below w.heap.size w w' := by
  have S := Lib.hid (fun w' => small_any s a b c d e n w' h)
  clear h
  generalize tv n = p at *
  generalize te n = q at *
  by_cases c1 : (n0 == p) = true
  all_goals
    go_enter Try.func53, Try.ntmps53
    go_wp2_with fail
    refine (S.out _).mono ?_
    rintro x w' ⟨rfl, hb⟩
    go_wp2
    go_ret
    exact ⟨by simp [c1], ((Below.refl _ _).alloc (Nat.le_refl _) _).trans (hb.mono (by simp))⟩

theorem tdiv_sz (a b : Int) : a.tdiv b = if (!(decide (a < 0) == decide (b < 0))) = true then -(szv a / szv b) else szv a / szv b := by
  unfold szv
  by_cases ca : a < 0 <;> by_cases cb : b < 0
  · simp only [ca, cb, decide_true, beq_self_eq_true, Bool.not_true, Bool.false_eq_true, if_false, if_true]
    rw [← Int.tdiv_eq_ediv_of_nonneg (by omega : 0 ≤ -a), Int.tdiv_neg, Int.neg_tdiv, Int.neg_neg]
  · simp only [ca, cb, decide_true, decide_false, if_false, if_true]
    rw [← Int.tdiv_eq_ediv_of_nonneg (by omega : 0 ≤ -a), Int.neg_tdiv, Int.neg_neg]; rfl
  · simp only [ca, cb, decide_true, decide_false, if_false, if_true]
    rw [← Int.tdiv_eq_ediv_of_nonneg (by omega : 0 ≤ a), Int.tdiv_neg, Int.neg_neg]; rfl
  · simp only [ca, cb, decide_false, beq_self_eq_true, Bool.not_true, Bool.false_eq_true, if_false]
    rw [← Int.tdiv_eq_ediv_of_nonneg (by omega : 0 ≤ a)]

theorem tmod_sz (a b : Int) : a.tmod b = if decide (a < 0) = true then -(szv a % szv b) else szv a % szv b := by
  have e : ∀ x : Int, x % szv b = x % b := by
    intro x; unfold szv; split
    · rw [Int.emod_neg]
    · rfl
  rw [e]; unfold szv
  by_cases ca : a < 0
  · simp only [ca, decide_true, if_true]
    rw [← Int.tmod_eq_emod_of_nonneg (by omega : 0 ≤ -a), Int.neg_tmod, Int.neg_neg]
  · simp only [ca, decide_false, Bool.false_eq_true, if_false]
    rw [← Int.tmod_eq_emod_of_nonneg (by omega : 0 ≤ a)]

theorem isW_of {s : Bool} {v n : Int} (h0 : 0 ≤ v) (h1 : v ≤ 9223372036854775808) (h : v = if s = true then -n else n) :
    IsW s (v.tmod 4294967296) (IntKind.u64.wrap (v.tdiv 4294967296)) 0 0 0 n := by
  rw [Int.tmod_eq_emod_of_nonneg h0, Int.tdiv_eq_ediv_of_nonneg h0, IntKind.wrap_u64]
  unfold IsW
  rw [← h]
  omega

theorem isW_quo {a b X Y q : Int} (ha : inR a) (hb : inR b) (hX : X = szv a) (hY : Y = szv b) (hq : X / Y = q) :
    IsW (!(decide (a < 0) == decide (b < 0))) (q.tmod 4294967296) (IntKind.u64.wrap (q.tdiv 4294967296)) 0 0 0 (a.tdiv b) := by
  subst hX hY
  have sa := szv_bd ha
  have sb := szv_bd hb
  have h0 : 0 ≤ szv a / szv b := Int.ediv_nonneg sa.1 sb.1
  have h1 : szv a / szv b ≤ szv a := Int.ediv_le_self _ sa.1
  rw [← hq]
  refine isW_of h0 (by omega) ?_
  rw [tdiv_sz]
  split <;> simp

theorem isW_rem {a b X Y q : Int} (ha : inR a) (hb : inR b) (hX : X = szv a) (hY : Y = szv b) (b0 : ¬ b = 0) (hq : X % Y = q) :
    IsW (decide (a < 0)) (q.tmod 4294967296) (IntKind.u64.wrap (q.tdiv 4294967296)) 0 0 0 (a.tmod b) := by
  subst hX hY
  have sa := szv_bd ha
  have sb := szv_bd hb
  have sb0 : szv b ≠ 0 := by unfold szv; split <;> omega
  have h0 : 0 ≤ szv a % szv b := Int.emod_nonneg _ sb0
  have h1 : szv a % szv b < szv b := Int.emod_lt_of_pos _ (by omega)
  rw [← hq]
  refine isW_of h0 (by omega) ?_
  rw [tmod_sz]
  split <;> simp

/-- The quotient and what is left, of sizes. -/
theorem divide_any (a b : Int) (w : World) (ha : inR a) (hb : inR b) (b0 : ¬ b = 0) :
    Calls Try.prog 57 #[.int .i64 a, .int .i64 b] w fun x w' => ∃ s t p0 p1 q0 q1, x = .returned (.tuple #[.agg #[.bool (s), .int .u64 (p0), .int .u64 (p1), .int .u64 (0), .int .u64 (0), .int .u64 (0)], .agg #[.bool (t), .int .u64 (q0), .int .u64 (q1), .int .u64 (0), .int .u64 (0), .int .u64 (0)]]) ∧ IsW s p0 p1 0 0 0 (a.tdiv b) ∧ IsW t q0 q1 0 0 0 (a.tmod b) ∧ Below w.heap.size w w' := by
  have A := Lib.hid (fun w' => of_any a w' ha)
  have B := Lib.hid (fun w' => of_any b w' hb)
  have sa := szv_bd ha
  have sb := szv_bd hb
  have sb0 : 1 ≤ szv b := by unfold szv; split <;> omega
  have ea : szv a / 4294967296 * 4294967296 + szv a % 4294967296 = szv a := by omega
  have eb : szv b / 4294967296 * 4294967296 + szv b % 4294967296 = szv b := by omega
  obtain ⟨x0, hx0⟩ : ∃ x, szv a % 4294967296 = x := ⟨_, rfl⟩
  obtain ⟨x1, hx1⟩ : ∃ x, szv a / 4294967296 = x := ⟨_, rfl⟩
  obtain ⟨y0, hy0⟩ : ∃ x, szv b % 4294967296 = x := ⟨_, rfl⟩
  obtain ⟨y1, hy1⟩ : ∃ x, szv b / 4294967296 = x := ⟨_, rfl⟩
  rw [hx0, hx1] at A ea
  rw [hy0, hy1] at B eb
  have bx0 : 0 ≤ x0 ∧ x0 < 4294967296 := by omega
  have bx1 : 0 ≤ x1 ∧ x1 < 4294967296 := by omega
  have by0 : 0 ≤ y0 ∧ y0 < 4294967296 := by omega
  have by1 : 0 ≤ y1 ∧ y1 < 4294967296 := by omega
  have bv : 1 ≤ y1 * 4294967296 + y0 := by omega
  have cv : (y1 * 4294967296 + y0 == 0) = false := by simp; omega
  have EA := Lib.hid ea
  have EB := Lib.hid eb
  have SA := Lib.hid sa
  clear ea eb sa sb sb0 hx0 hx1 hy0 hy1
  obtain ⟨bx01, bx02⟩ := bx0
  obtain ⟨bx11, bx12⟩ := bx1
  obtain ⟨by01, by02⟩ := by0
  obtain ⟨by11, by12⟩ := by1
  go_enter Try.func57, Try.ntmps57
  go_wp2_with fail
  refine (A.out _).mono ?_
  rintro e w1 ⟨rfl, hb1⟩
  go_wp2_with fail
  refine (B.out _).mono ?_
  rintro e w2 ⟨rfl, hb2⟩
  go_wp2
  go_quiet (fail)
  go_wp2
  go_quiet (fail)
  have hb12 := hb1.trans (hb2.mono hb1.size)
  obtain ⟨hc, hf⟩ := bcell hb12
  have hz1 := hb1.size
  have hz2 := hb2.size
  clear hb1 hb2
  simp only [World.size_alloc] at hc hf hz1
  go_wp2
  generalize hq : (x1 * 4294967296 + x0) / (y1 * 4294967296 + y0) = q at *
  generalize hr : (x1 * 4294967296 + x0) % (y1 * 4294967296 + y0) = r at *
  have g0 : w.heap.size < w2.heap.size := by omega
  have g1 : w.heap.size + 1 < w2.heap.size := by omega
  have hbW : Below w.heap.size w w2 := ((((Below.refl _ _).alloc (Nat.le_refl _) _).alloc (by simp) _).trans (hb12.mono (by simp; omega)))
  refine name_world (fun W' => Below w2.heap.size w2 W' ∧ W'.cell? ⟨w.heap.size, 0, none⟩ = some (.bool false) ∧ W'.frozen? ⟨w.heap.size, 0, none⟩ = false ∧ W'.cell? ⟨w.heap.size, 1, none⟩ = some (.int .u64 0) ∧ W'.frozen? ⟨w.heap.size, 1, none⟩ = false ∧ W'.cell? ⟨w.heap.size, 2, none⟩ = some (.int .u64 0) ∧ W'.frozen? ⟨w.heap.size, 2, none⟩ = false ∧ W'.cell? ⟨w.heap.size, 3, none⟩ = some (.int .u64 0) ∧ W'.frozen? ⟨w.heap.size, 3, none⟩ = false ∧ W'.cell? ⟨w.heap.size, 4, none⟩ = some (.int .u64 0) ∧ W'.frozen? ⟨w.heap.size, 4, none⟩ = false ∧ W'.cell? ⟨w.heap.size, 5, none⟩ = some (.int .u64 0) ∧ W'.frozen? ⟨w.heap.size, 5, none⟩ = false ∧ W'.cell? ⟨w.heap.size + 1, 0, none⟩ = some (.bool false) ∧ W'.frozen? ⟨w.heap.size + 1, 0, none⟩ = false ∧ W'.cell? ⟨w.heap.size + 1, 1, none⟩ = some (.int .u64 0) ∧ W'.frozen? ⟨w.heap.size + 1, 1, none⟩ = false ∧ W'.cell? ⟨w.heap.size + 1, 2, none⟩ = some (.int .u64 0) ∧ W'.frozen? ⟨w.heap.size + 1, 2, none⟩ = false ∧ W'.cell? ⟨w.heap.size + 1, 3, none⟩ = some (.int .u64 0) ∧ W'.frozen? ⟨w.heap.size + 1, 3, none⟩ = false ∧ W'.cell? ⟨w.heap.size + 1, 4, none⟩ = some (.int .u64 0) ∧ W'.frozen? ⟨w.heap.size + 1, 4, none⟩ = false ∧ W'.cell? ⟨w.heap.size + 1, 5, none⟩ = some (.int .u64 0) ∧ W'.frozen? ⟨w.heap.size + 1, 5, none⟩ = false ∧ W'.cell? ⟨w2.heap.size + 1 + 1, 0, none⟩ = some (.bool (!decide (a < 0) == decide (b < 0))) ∧ W'.cell? ⟨w2.heap.size + 1 + 1, 1, none⟩ = some (.int .u64 (q.tmod 4294967296)) ∧ W'.cell? ⟨w2.heap.size + 1 + 1, 2, none⟩ = some (.int .u64 (IntKind.u64.wrap (q.tdiv 4294967296))) ∧ W'.cell? ⟨w2.heap.size + 1 + 1, 3, none⟩ = some (.int .u64 (0)) ∧ W'.cell? ⟨w2.heap.size + 1 + 1, 4, none⟩ = some (.int .u64 (0)) ∧ W'.cell? ⟨w2.heap.size + 1 + 1, 5, none⟩ = some (.int .u64 (0)) ∧ W'.cell? ⟨w2.heap.size + 1 + 1 + 1, 0, none⟩ = some (.bool (decide (a < 0))) ∧ W'.cell? ⟨w2.heap.size + 1 + 1 + 1, 1, none⟩ = some (.int .u64 (r.tmod 4294967296)) ∧ W'.cell? ⟨w2.heap.size + 1 + 1 + 1, 2, none⟩ = some (.int .u64 (IntKind.u64.wrap (r.tdiv 4294967296))) ∧ W'.cell? ⟨w2.heap.size + 1 + 1 + 1, 3, none⟩ = some (.int .u64 (0)) ∧ W'.cell? ⟨w2.heap.size + 1 + 1 + 1, 4, none⟩ = some (.int .u64 (0)) ∧ W'.cell? ⟨w2.heap.size + 1 + 1 + 1, 5, none⟩ = some (.int .u64 (0))) ?_ ?_
  · refine ⟨(by repeat (first | (with_reducible exact Below.refl _ _) | (with_reducible refine Below.setCell ?_ (by first | (simp; done) | omega | (simp; omega)) _) | (with_reducible refine Below.alloc ?_ (by first | (simp; done) | omega | (simp; omega)) _) | (with_reducible refine below_drewN ?_ _) | (with_reducible refine Below.drew ?_) | assumption)), ?_, ?_, ?_, ?_, ?_, ?_, ?_, ?_, ?_, ?_, ?_, ?_, ?_, ?_, ?_, ?_, ?_, ?_, ?_, ?_, ?_, ?_, ?_, ?_, ?_, ?_, ?_, ?_, ?_, ?_, ?_, ?_, ?_, ?_, ?_, ?_⟩
    all_goals first | (simp [go_sem]; done) | exact (Below.cell (B := w2.heap.size) (w := w2) (by repeat (first | (with_reducible exact Below.refl _ _) | (with_reducible refine Below.setCell ?_ (by first | (simp; done) | omega | (simp; omega)) _) | (with_reducible refine Below.alloc ?_ (by first | (simp; done) | omega | (simp; omega)) _) | (with_reducible refine below_drewN ?_ _) | (with_reducible refine Below.drew ?_) | assumption)) g0).trans ((hc _ _ (by omega)).trans (by simp [go_sem])) | exact (Below.cell (B := w2.heap.size) (w := w2) (by repeat (first | (with_reducible exact Below.refl _ _) | (with_reducible refine Below.setCell ?_ (by first | (simp; done) | omega | (simp; omega)) _) | (with_reducible refine Below.alloc ?_ (by first | (simp; done) | omega | (simp; omega)) _) | (with_reducible refine below_drewN ?_ _) | (with_reducible refine Below.drew ?_) | assumption)) g1).trans ((hc _ _ (by omega)).trans (by simp [go_sem])) | exact (Below.frozen (B := w2.heap.size) (w := w2) (by repeat (first | (with_reducible exact Below.refl _ _) | (with_reducible refine Below.setCell ?_ (by first | (simp; done) | omega | (simp; omega)) _) | (with_reducible refine Below.alloc ?_ (by first | (simp; done) | omega | (simp; omega)) _) | (with_reducible refine below_drewN ?_ _) | (with_reducible refine Below.drew ?_) | assumption)) g0).trans ((hf _ _ (by omega)).trans (by simp [go_sem])) | exact (Below.frozen (B := w2.heap.size) (w := w2) (by repeat (first | (with_reducible exact Below.refl _ _) | (with_reducible refine Below.setCell ?_ (by first | (simp; done) | omega | (simp; omega)) _) | (with_reducible refine Below.alloc ?_ (by first | (simp; done) | omega | (simp; omega)) _) | (with_reducible refine below_drewN ?_ _) | (with_reducible refine Below.drew ?_) | assumption)) g1).trans ((hf _ _ (by omega)).trans (by simp [go_sem]))
  rintro W5 ⟨hb5, c00, f00, c01, f01, c02, f02, c03, f03, c04, f04, c05, f05, c10, f10, c11, f11, c12, f12, c13, f13, c14, f14, c15, f15, d00, d01, d02, d03, d04, d05, d10, d11, d12, d13, d14, d15⟩
  have e1 : w.heap.size ≠ w2.heap.size + 1 + 1 := by omega
  clear hb12
  clear hc hf
  go_region
  go_wp2
  refine bodyPost_ret (v := .tuple #[.agg #[.bool (!(decide (a < 0) == decide (b < 0))), .int .u64 (q.tmod 4294967296), .int .u64 (IntKind.u64.wrap (q.tdiv 4294967296)), .int .u64 (0), .int .u64 (0), .int .u64 (0)], .agg #[.bool (decide (a < 0)), .int .u64 (r.tmod 4294967296), .int .u64 (IntKind.u64.wrap (r.tdiv 4294967296)), .int .u64 (0), .int .u64 (0), .int .u64 (0)]]) (by simp [results, Try.results57, go_sem, c00, c01, c02, c03, c04, c05, c10, c11, c12, c13, c14, c15]) rfl ⟨_, _, _, _, _, _, rfl, ?_, ?_, ?_⟩
  · exact isW_quo ha hb EA.out EB.out hq
  · exact isW_rem ha hb EA.out EB.out b0 hr
  · exact Below.drew (Below.setCell (Below.setCell (Below.setCell (Below.setCell (Below.setCell (Below.setCell (Below.setCell (Below.setCell (Below.setCell (Below.setCell (Below.setCell (Below.setCell (hbW.trans (hb5.mono (by omega))) (by simp) _) (by simp) _) (by simp) _) (by simp) _) (by simp) _) (by simp) _) (by simp) _) (by simp) _) (by simp) _) (by simp) _) (by simp) _) (by simp) _)
end Go.Proofs.Ytafohemmjhjgbaa.Num
