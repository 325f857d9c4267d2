/-
  The reference's product of wide numbers.
-/
import Derived.Test.YtafohemmjhjgbaaWideDiff
import Derived.Test.YtafohemmjhjgbaaHeap
namespace Go.Proofs.Ytafohemmjhjgbaa.Num
open Go.RowKit Go.Proofs.Ytafohemmjhjgbaa.Bits
set_option linter.unusedSimpArgs false

theorem wmul_prod {s t : Bool} {a0 a1 b0 b1 n m : Int} (ha : IsW s a0 a1 0 0 0 n) (hb : IsW t b0 b1 0 0 0 m) :
    a0 * b0 + (a0 * b1 + a1 * b0) * 4294967296 + a1 * b1 * 18446744073709551616 = (if (!(s == t)) = true then -(n * m) else n * m) := by
  have h1 : a0 + a1 * 4294967296 = (if s = true then -n else n) := by have := ha; unfold IsW at this; omega
  have h2 : b0 + b1 * 4294967296 = (if t = true then -m else m) := by have := hb; unfold IsW at this; omega
  have h3 : a0 * b0 + (a0 * b1 + a1 * b0) * 4294967296 + a1 * b1 * 18446744073709551616 = (a0 + a1 * 4294967296) * (b0 + b1 * 4294967296) := by grind
  rw [h3, h1, h2]
  cases s <;> cases t <;> simp [Int.neg_mul, Int.mul_neg]

theorem wmul_fin {s : Bool} {y00 y01 y10 y11 n m p0 p1 p2 p3 p4 : Int} (hp : y00 + (y01 + y10) * 4294967296 + y11 * 18446744073709551616 = (if s = true then -(n * m) else n * m))
    (h : 0 ≤ p0 ∧ p0 < 4294967296 ∧ 0 ≤ p1 ∧ p1 < 4294967296 ∧ 0 ≤ p2 ∧ p2 < 4294967296 ∧ 0 ≤ p3 ∧ p3 < 4294967296 ∧ 0 ≤ p4 ∧ p4 < 4294967296 ∧
      p0 + p1 * 4294967296 + p2 * 18446744073709551616 + p3 * 79228162514264337593543950336 + p4 * 340282366920938463463374607431768211456 = y00 + (y01 + y10) * 4294967296 + y11 * 18446744073709551616) :
    IsW s p0 p1 p2 p3 p4 (n * m) := by
  unfold IsW
  rw [← hp]
  exact h

theorem d2_bd {c2 l11 h11 d1 Y : Int} (hc0 : 0 ≤ c2) (hc : c2 < 4294967296) (hd0 : 0 ≤ d1) (hd : d1 < 4294967296) (hl : 0 ≤ l11) (hl2 : l11 < 4294967296) (hh : 0 ≤ h11)
    (e1 : Y % 4294967296 = l11) (e2 : Y / 4294967296 = h11) (hY : Y ≤ 18446744065119617025) :
    (0 ≤ (c2 + l11 + d1) / 4294967296 + h11 ∧ (c2 + l11 + d1) / 4294967296 + h11 < 4294967296) ∧
    (0 ≤ (c2 + l11 + d1) % 4294967296 ∧ (c2 + l11 + d1) % 4294967296 < 4294967296) ∧
    (c2 + l11 + d1) % 4294967296 + ((c2 + l11 + d1) / 4294967296 + h11) * 4294967296 = c2 + Y + d1 := by omega
theorem fin_sum {l00 h00 y00 p1 c2 y01 r1 d1 y10 r2 d2 y11 : Int} (f1 : l00 + h00 * 4294967296 = y00) (f2 : p1 + c2 * 4294967296 = y01 + h00) (f3 : r1 + d1 * 4294967296 = p1 + y10) (f4 : r2 + d2 * 4294967296 = c2 + y11 + d1)
    (b1 : 0 ≤ l00) (b2 : l00 < 4294967296) (b3 : 0 ≤ r1) (b4 : r1 < 4294967296) (b5 : 0 ≤ r2) (b6 : r2 < 4294967296) (b7 : 0 ≤ d2) (b8 : d2 < 4294967296) :
    0 ≤ l00 ∧ l00 < 4294967296 ∧ 0 ≤ r1 ∧ r1 < 4294967296 ∧ 0 ≤ r2 ∧ r2 < 4294967296 ∧ 0 ≤ d2 ∧ d2 < 4294967296 ∧ 0 ≤ (0 : Int) ∧ (0 : Int) < 4294967296 ∧
    l00 + r1 * 4294967296 + r2 * 18446744073709551616 + d2 * 79228162514264337593543950336 + 0 * 340282366920938463463374607431768211456 = y00 + (y01 + y10) * 4294967296 + y11 * 18446744073709551616 := by omega
theorem small_mod {d : Int} (h0 : 0 ≤ d) (h1 : d < 4294967296) : d % 4294967296 = d ∧ d / 4294967296 = 0 := by omega
theorem mod_swap (l d Y : Int) (e1 : Y % 4294967296 = l) (c : Int) : (c + l + d) % 4294967296 = (c + Y + d) % 4294967296 := by omega
theorem w_mod (x : Int) : 0 ≤ x % 4294967296 ∧ x % 4294967296 < 4294967296 := by omega

set_option maxHeartbeats 4000000 in
theorem wmul_any (s t : Bool) (a0 a1 b0 b1 n m : Int) (w : World) (ha : IsW s a0 a1 0 0 0 n) (hb : IsW t b0 b1 0 0 0 m) :
    Calls Try.prog 56 #[.agg #[.bool (s), .int .u64 (a0), .int .u64 (a1), .int .u64 (0), .int .u64 (0), .int .u64 (0)], .agg #[.bool (t), .int .u64 (b0), .int .u64 (b1), .int .u64 (0), .int .u64 (0), .int .u64 (0)]] w (GivesW (n * m) w) := by
  have HP := Lib.hid (wmul_prod ha hb)
  obtain ⟨a01, a02, a11, a12, -⟩ := ha
  obtain ⟨b01, b02, b11, b12, -⟩ := hb
  have x00 := prod_bound a0 b0 a01 (by omega) b01 (by omega)
  have x01 := prod_bound a0 b1 a01 (by omega) b11 (by omega)
  have x10 := prod_bound a1 b0 a11 (by omega) b01 (by omega)
  have x11 := prod_bound a1 b1 a11 (by omega) b11 (by omega)
  clear a01 a02 a11 a12 b01 b02 b11 b12
  obtain ⟨l00, hl00⟩ : ∃ l, a0 * b0 % 4294967296 = l := ⟨_, rfl⟩
  obtain ⟨h00, hh00⟩ : ∃ l, a0 * b0 / 4294967296 = l := ⟨_, rfl⟩
  obtain ⟨l01, hl01⟩ : ∃ l, a0 * b1 % 4294967296 = l := ⟨_, rfl⟩
  obtain ⟨h01, hh01⟩ : ∃ l, a0 * b1 / 4294967296 = l := ⟨_, rfl⟩
  have z00 : l00 / 4294967296 = 0 := by omega
  have m00 : h00 % 4294967296 = h00 := by omega
  have q00 : h00 / 4294967296 = 0 := by omega
  have v00 : 0 ≤ l00 ∧ l00 < 4294967296 := by omega
  have u00 : 0 ≤ h00 ∧ h00 ≤ 4294967294 := by omega
  have v01 : 0 ≤ l01 ∧ l01 < 4294967296 := by omega
  have u01 : 0 ≤ h01 ∧ h01 ≤ 4294967294 := by omega
  have E00 : Hid (l00 + h00 * 4294967296 = a0 * b0) := by show _ = _; omega
  have E01 : Hid (l01 + h01 * 4294967296 = a0 * b1) := by show _ = _; omega
  have HL00 := Lib.hid hl00
  have HH00 := Lib.hid hh00
  have HL01 := Lib.hid hl01
  have HH01 := Lib.hid hh01
  have Z00 := Lib.hid z00
  have M00 := Lib.hid m00
  have Q00 := Lib.hid q00
  clear hl00 hh00 hl01 hh01 z00 m00 q00
  obtain ⟨v001, v002⟩ := v00
  obtain ⟨u001, u002⟩ := u00
  obtain ⟨v011, v012⟩ := v01
  obtain ⟨u011, u012⟩ := u01
  go_enter Try.func56, Try.ntmps56
  go_wp2
  refine wp_loop_rounds 3 ?_
  rw [rounds_succ]; go_wp2
  refine wp_loop_rounds 4 ?_
  rw [rounds_succ]; go_wp2; go_quiet (fail); go_wp2
  simp only [HL00.out, HH00.out, Z00.out, Int.zero_add]
  rw [rounds_succ]; go_wp2; go_quiet (fail); go_wp2
  simp only [HL01.out, HH01.out, M00.out, Q00.out, Int.add_zero]
  obtain ⟨p1, hp1⟩ : ∃ l, (a0 * b1 + h00) % 4294967296 = l := ⟨_, rfl⟩
  obtain ⟨c2, hc2⟩ : ∃ l, (l01 + h00) / 4294967296 + h01 = l := ⟨_, rfl⟩
  have e01 := HL01.out
  have e02 := HH01.out
  have E1 : Hid (p1 + c2 * 4294967296 = a0 * b1 + h00) := by show _ = _; omega
  have vp1 : 0 ≤ p1 ∧ p1 < 4294967296 := by omega
  have vc2 : 0 ≤ c2 ∧ c2 < 4294967296 := by omega
  have mc2 : c2 % 4294967296 = c2 := by omega
  have qc2 : c2 / 4294967296 = 0 := by omega
  have HP1 := Lib.hid hp1
  have HC2 := Lib.hid hc2
  have MC2 := Lib.hid mc2
  have QC2 := Lib.hid qc2
  clear e01 e02 hp1 hc2 mc2 qc2
  obtain ⟨vp11, vp12⟩ := vp1
  obtain ⟨vc21, vc22⟩ := vc2
  simp only [HP1.out, HC2.out]
  obtain ⟨l10, hl10⟩ : ∃ l, a1 * b0 % 4294967296 = l := ⟨_, rfl⟩
  obtain ⟨h10, hh10⟩ : ∃ l, a1 * b0 / 4294967296 = l := ⟨_, rfl⟩
  obtain ⟨l11, hl11⟩ : ∃ l, a1 * b1 % 4294967296 = l := ⟨_, rfl⟩
  obtain ⟨h11, hh11⟩ : ∃ l, a1 * b1 / 4294967296 = l := ⟨_, rfl⟩
  have v10 : 0 ≤ l10 ∧ l10 < 4294967296 := by omega
  have u10 : 0 ≤ h10 ∧ h10 ≤ 4294967294 := by omega
  have v11 : 0 ≤ l11 ∧ l11 < 4294967296 := by omega
  have u11 : 0 ≤ h11 ∧ h11 ≤ 4294967294 := by omega
  have HL10 := Lib.hid hl10
  have HH10 := Lib.hid hh10
  have HL11 := Lib.hid hl11
  have HH11 := Lib.hid hh11
  clear hl10 hh10 hl11 hh11
  obtain ⟨v101, v102⟩ := v10
  obtain ⟨u101, u102⟩ := u10
  obtain ⟨v111, v112⟩ := v11
  obtain ⟨u111, u112⟩ := u11
  by_cases hc : 0 < c2
  · rw [rounds_succ]; go_wp2
    simp only [MC2.out, QC2.out, Int.add_zero, Int.zero_add]
    rw [rounds_succ]; go_wp2
    rw [rounds_succ]; go_wp2
    refine wp_loop_rounds 4 ?_
    rw [rounds_succ]; go_wp2; go_quiet (fail); go_wp2
    simp only [HL10.out, HH10.out, Int.zero_add, Int.add_zero]
    obtain ⟨r1, hr1⟩ : ∃ l, (p1 + a1 * b0) % 4294967296 = l := ⟨_, rfl⟩
    obtain ⟨d1, hd1⟩ : ∃ l, (p1 + l10) / 4294967296 + h10 = l := ⟨_, rfl⟩
    have e10 := HL10.out
    have e11 := HH10.out
    have E2 : Hid (r1 + d1 * 4294967296 = p1 + a1 * b0) := by show _ = _; omega
    have vr1 : 0 ≤ r1 ∧ r1 < 4294967296 := by omega
    have vd1 : 0 ≤ d1 ∧ d1 < 4294967296 := by omega
    have md1 : d1 % 4294967296 = d1 := by omega
    have qd1 : d1 / 4294967296 = 0 := by omega
    have HR1 := Lib.hid hr1
    have HD1 := Lib.hid hd1
    have MD1 := Lib.hid md1
    have QD1 := Lib.hid qd1
    clear e10 e11 hr1 hd1 md1 qd1
    obtain ⟨vr11, vr12⟩ := vr1
    obtain ⟨vd11, vd12⟩ := vd1
    simp only [HR1.out, HD1.out]
    rw [rounds_succ]; go_wp2; go_quiet (fail); go_wp2
    simp only [HL11.out, HH11.out, MD1.out, QD1.out, Int.zero_add, Int.add_zero]
    have T := Lib.hid (d2_bd vc21 vc22 vd11 vd12 v111 v112 u111 HL11.out HH11.out x11.2)
    obtain ⟨r2, hr2⟩ : ∃ l, (c2 + l11 + d1) % 4294967296 = l := ⟨_, rfl⟩
    obtain ⟨d2, hd2⟩ : ∃ l, (c2 + l11 + d1) / 4294967296 + h11 = l := ⟨_, rfl⟩
    rw [hr2, hd2] at T
    obtain ⟨⟨vd21, vd22⟩, ⟨vr21, vr22⟩, e3⟩ := T.out
    have E3 := Lib.hid e3
    have sm := small_mod vd21 vd22
    have MD2 := Lib.hid sm.1
    have QD2 := Lib.hid sm.2
    have HR2 := Lib.hid hr2
    have HD2 := Lib.hid hd2
    clear e3 hr2 hd2 T sm
    simp only [HR2.out, HD2.out]
    have FIN : Hid (∀ z, z = d2 → IsW (!(s == t)) l00 r1 r2 z 0 (n * m)) := by
      intro z hz
      subst hz
      exact wmul_fin HP.out (fin_sum E00.out E1.out E2.out E3.out v001 v002 vr11 vr12 vr21 vr22 vd21 vd22)
    clear x00 x01 x10 x11
    by_cases hd : 0 < d2
    · rw [rounds_succ]; go_wp2
      simp only [MD2.out, QD2.out, Int.zero_add, Int.add_zero]
      rw [rounds_succ]; go_wp2
      refine name_rounds (fun W' => Below w.heap.size w W' ∧ Blk W' (w.heap.size + 1 + 1) #[.bool false, .int .u64 0, .int .u64 0, .int .u64 0, .int .u64 0, .int .u64 0] 70 ∧ Blk W' (w.heap.size + 1 + 1 + 1) #[.bool (!(s == t)), .int .u64 l00, .int .u64 r1, .int .u64 r2, .int .u64 (d2), .int .u64 0] 70) ?_ ?_
      · exact ⟨(by repeat (first | (with_reducible exact Below.refl _ _) | (with_reducible refine Below.setCell ?_ (by first | (simp; done) | omega | (simp; omega)) _) | (with_reducible refine Below.alloc ?_ (by first | (simp; done) | omega | (simp; omega)) _) | (with_reducible refine below_drewN ?_ _) | (with_reducible refine Below.drew ?_) | assumption)), Blk.of_obj (by simp [obj_setCell, obj_alloc, obj_drewN]), Blk.of_obj (by simp [obj_setCell, obj_alloc, obj_drewN])⟩
      rintro W5 ⟨hb5, k2, k3⟩
      have c20 := k2.cell 0; have c21 := k2.cell 1; have c22 := k2.cell 2; have c23 := k2.cell 3; have c24 := k2.cell 4; have c25 := k2.cell 5
      have f20 := k2.frozen 0; have f21 := k2.frozen 1; have f22 := k2.frozen 2; have f23 := k2.frozen 3; have f24 := k2.frozen 4; have f25 := k2.frozen 5
      have c30 := k3.cell 0; have c31 := k3.cell 1; have c32 := k3.cell 2; have c33 := k3.cell 3; have c34 := k3.cell 4; have c35 := k3.cell 5
      rw [rounds_succ]; go_wp2
      exact bodyPost_ret (v := .agg #[.bool (!(s == t)), .int .u64 (l00), .int .u64 (r1), .int .u64 (r2), .int .u64 (d2), .int .u64 (0)]) (by simp [results, Try.results56, go_sem, c20, c21, c22, c23, c24, c25]) rfl ⟨_, _, _, _, _, _, rfl, FIN.out _ rfl, (by repeat (first | (with_reducible exact Below.refl _ _) | (with_reducible refine Below.setCell ?_ (by first | (simp; done) | omega | (simp; omega)) _) | (with_reducible refine Below.alloc ?_ (by first | (simp; done) | omega | (simp; omega)) _) | (with_reducible refine below_drewN ?_ _) | (with_reducible refine Below.drew ?_) | assumption))⟩
    · have D2 : Hid (0 = d2) := by show _ = _; omega
      rw [rounds_succ]; go_wp2
      refine name_rounds (fun W' => Below w.heap.size w W' ∧ Blk W' (w.heap.size + 1 + 1) #[.bool false, .int .u64 0, .int .u64 0, .int .u64 0, .int .u64 0, .int .u64 0] 70 ∧ Blk W' (w.heap.size + 1 + 1 + 1) #[.bool (!(s == t)), .int .u64 l00, .int .u64 r1, .int .u64 r2, .int .u64 (0), .int .u64 0] 70) ?_ ?_
      · exact ⟨(by repeat (first | (with_reducible exact Below.refl _ _) | (with_reducible refine Below.setCell ?_ (by first | (simp; done) | omega | (simp; omega)) _) | (with_reducible refine Below.alloc ?_ (by first | (simp; done) | omega | (simp; omega)) _) | (with_reducible refine below_drewN ?_ _) | (with_reducible refine Below.drew ?_) | assumption)), Blk.of_obj (by simp [obj_setCell, obj_alloc, obj_drewN]), Blk.of_obj (by simp [obj_setCell, obj_alloc, obj_drewN])⟩
      rintro W5 ⟨hb5, k2, k3⟩
      have c20 := k2.cell 0; have c21 := k2.cell 1; have c22 := k2.cell 2; have c23 := k2.cell 3; have c24 := k2.cell 4; have c25 := k2.cell 5
      have f20 := k2.frozen 0; have f21 := k2.frozen 1; have f22 := k2.frozen 2; have f23 := k2.frozen 3; have f24 := k2.frozen 4; have f25 := k2.frozen 5
      have c30 := k3.cell 0; have c31 := k3.cell 1; have c32 := k3.cell 2; have c33 := k3.cell 3; have c34 := k3.cell 4; have c35 := k3.cell 5
      rw [rounds_succ]; go_wp2
      exact bodyPost_ret (v := .agg #[.bool (!(s == t)), .int .u64 (l00), .int .u64 (r1), .int .u64 (r2), .int .u64 (0), .int .u64 (0)]) (by simp [results, Try.results56, go_sem, c20, c21, c22, c23, c24, c25]) rfl ⟨_, _, _, _, _, _, rfl, FIN.out _ D2.out, (by repeat (first | (with_reducible exact Below.refl _ _) | (with_reducible refine Below.setCell ?_ (by first | (simp; done) | omega | (simp; omega)) _) | (with_reducible refine Below.alloc ?_ (by first | (simp; done) | omega | (simp; omega)) _) | (with_reducible refine below_drewN ?_ _) | (with_reducible refine Below.drew ?_) | assumption))⟩
  · have C2 : Hid (c2 = 0) := by show _ = _; omega
    rw [rounds_succ]; go_wp2
    rw [rounds_succ]; go_wp2
    refine wp_loop_rounds 4 ?_
    rw [rounds_succ]; go_wp2; go_quiet (fail); go_wp2
    simp only [HL10.out, HH10.out, Int.zero_add, Int.add_zero]
    obtain ⟨r1, hr1⟩ : ∃ l, (p1 + a1 * b0) % 4294967296 = l := ⟨_, rfl⟩
    obtain ⟨d1, hd1⟩ : ∃ l, (p1 + l10) / 4294967296 + h10 = l := ⟨_, rfl⟩
    have e10 := HL10.out
    have e11 := HH10.out
    have E2 : Hid (r1 + d1 * 4294967296 = p1 + a1 * b0) := by show _ = _; omega
    have vr1 : 0 ≤ r1 ∧ r1 < 4294967296 := by omega
    have vd1 : 0 ≤ d1 ∧ d1 < 4294967296 := by omega
    have md1 : d1 % 4294967296 = d1 := by omega
    have qd1 : d1 / 4294967296 = 0 := by omega
    have HR1 := Lib.hid hr1
    have HD1 := Lib.hid hd1
    have MD1 := Lib.hid md1
    have QD1 := Lib.hid qd1
    clear e10 e11 hr1 hd1 md1 qd1
    obtain ⟨vr11, vr12⟩ := vr1
    obtain ⟨vd11, vd12⟩ := vd1
    simp only [HR1.out, HD1.out]
    rw [rounds_succ]; go_wp2; go_quiet (fail); go_wp2
    simp only [HL11.out, HH11.out, MD1.out, QD1.out, Int.zero_add, Int.add_zero]
    have T := Lib.hid (d2_bd (c2 := 0) (Int.le_refl 0) (by decide) vd11 vd12 v111 v112 u111 HL11.out HH11.out x11.2)
    have hz : (0 : Int) + l11 + d1 = l11 + d1 := by rw [Int.zero_add]
    rw [hz] at T
    have hy : (a1 * b1 + d1) % 4294967296 = (l11 + d1) % 4294967296 := by rw [← HL11.out]; exact (Int.emod_add_emod _ _ _).symm
    simp only [hy]
    clear hz hy
    obtain ⟨r2, hr2⟩ : ∃ l, (l11 + d1) % 4294967296 = l := ⟨_, rfl⟩
    obtain ⟨d2, hd2⟩ : ∃ l, (l11 + d1) / 4294967296 + h11 = l := ⟨_, rfl⟩
    rw [hr2, hd2] at T
    obtain ⟨⟨vd21, vd22⟩, ⟨vr21, vr22⟩, e3⟩ := T.out
    have E3 := Lib.hid e3
    have sm := small_mod vd21 vd22
    have MD2 := Lib.hid sm.1
    have QD2 := Lib.hid sm.2
    have HR2 := Lib.hid hr2
    have HD2 := Lib.hid hd2
    clear e3 hr2 hd2 T sm
    simp only [HR2.out, HD2.out]
    have FIN : Hid (∀ z, z = d2 → IsW (!(s == t)) l00 r1 r2 z 0 (n * m)) := by
      intro z hz
      subst hz
      exact wmul_fin HP.out (fin_sum E00.out E1.out E2.out (by rw [C2.out]; exact E3.out) v001 v002 vr11 vr12 vr21 vr22 vd21 vd22)
    clear x00 x01 x10 x11
    by_cases hd : 0 < d2
    · rw [rounds_succ]; go_wp2
      simp only [MD2.out, QD2.out, Int.zero_add, Int.add_zero]
      rw [rounds_succ]; go_wp2
      refine name_rounds (fun W' => Below w.heap.size w W' ∧ Blk W' (w.heap.size + 1 + 1) #[.bool false, .int .u64 0, .int .u64 0, .int .u64 0, .int .u64 0, .int .u64 0] 70 ∧ Blk W' (w.heap.size + 1 + 1 + 1) #[.bool (!(s == t)), .int .u64 l00, .int .u64 r1, .int .u64 r2, .int .u64 (d2), .int .u64 0] 70) ?_ ?_
      · exact ⟨(by repeat (first | (with_reducible exact Below.refl _ _) | (with_reducible refine Below.setCell ?_ (by first | (simp; done) | omega | (simp; omega)) _) | (with_reducible refine Below.alloc ?_ (by first | (simp; done) | omega | (simp; omega)) _) | (with_reducible refine below_drewN ?_ _) | (with_reducible refine Below.drew ?_) | assumption)), Blk.of_obj (by simp [obj_setCell, obj_alloc, obj_drewN]), Blk.of_obj (by simp [obj_setCell, obj_alloc, obj_drewN])⟩
      rintro W5 ⟨hb5, k2, k3⟩
      have c20 := k2.cell 0; have c21 := k2.cell 1; have c22 := k2.cell 2; have c23 := k2.cell 3; have c24 := k2.cell 4; have c25 := k2.cell 5
      have f20 := k2.frozen 0; have f21 := k2.frozen 1; have f22 := k2.frozen 2; have f23 := k2.frozen 3; have f24 := k2.frozen 4; have f25 := k2.frozen 5
      have c30 := k3.cell 0; have c31 := k3.cell 1; have c32 := k3.cell 2; have c33 := k3.cell 3; have c34 := k3.cell 4; have c35 := k3.cell 5
      rw [rounds_succ]; go_wp2
      exact bodyPost_ret (v := .agg #[.bool (!(s == t)), .int .u64 (l00), .int .u64 (r1), .int .u64 (r2), .int .u64 (d2), .int .u64 (0)]) (by simp [results, Try.results56, go_sem, c20, c21, c22, c23, c24, c25]) rfl ⟨_, _, _, _, _, _, rfl, FIN.out _ rfl, (by repeat (first | (with_reducible exact Below.refl _ _) | (with_reducible refine Below.setCell ?_ (by first | (simp; done) | omega | (simp; omega)) _) | (with_reducible refine Below.alloc ?_ (by first | (simp; done) | omega | (simp; omega)) _) | (with_reducible refine below_drewN ?_ _) | (with_reducible refine Below.drew ?_) | assumption))⟩
    · have D2 : Hid (0 = d2) := by show _ = _; omega
      rw [rounds_succ]; go_wp2
      refine name_rounds (fun W' => Below w.heap.size w W' ∧ Blk W' (w.heap.size + 1 + 1) #[.bool false, .int .u64 0, .int .u64 0, .int .u64 0, .int .u64 0, .int .u64 0] 70 ∧ Blk W' (w.heap.size + 1 + 1 + 1) #[.bool (!(s == t)), .int .u64 l00, .int .u64 r1, .int .u64 r2, .int .u64 (0), .int .u64 0] 70) ?_ ?_
      · exact ⟨(by repeat (first | (with_reducible exact Below.refl _ _) | (with_reducible refine Below.setCell ?_ (by first | (simp; done) | omega | (simp; omega)) _) | (with_reducible refine Below.alloc ?_ (by first | (simp; done) | omega | (simp; omega)) _) | (with_reducible refine below_drewN ?_ _) | (with_reducible refine Below.drew ?_) | assumption)), Blk.of_obj (by simp [obj_setCell, obj_alloc, obj_drewN]), Blk.of_obj (by simp [obj_setCell, obj_alloc, obj_drewN])⟩
      rintro W5 ⟨hb5, k2, k3⟩
      have c20 := k2.cell 0; have c21 := k2.cell 1; have c22 := k2.cell 2; have c23 := k2.cell 3; have c24 := k2.cell 4; have c25 := k2.cell 5
      have f20 := k2.frozen 0; have f21 := k2.frozen 1; have f22 := k2.frozen 2; have f23 := k2.frozen 3; have f24 := k2.frozen 4; have f25 := k2.frozen 5
      have c30 := k3.cell 0; have c31 := k3.cell 1; have c32 := k3.cell 2; have c33 := k3.cell 3; have c34 := k3.cell 4; have c35 := k3.cell 5
      rw [rounds_succ]; go_wp2
      exact bodyPost_ret (v := .agg #[.bool (!(s == t)), .int .u64 (l00), .int .u64 (r1), .int .u64 (r2), .int .u64 (0), .int .u64 (0)]) (by simp [results, Try.results56, go_sem, c20, c21, c22, c23, c24, c25]) rfl ⟨_, _, _, _, _, _, rfl, FIN.out _ D2.out, (by repeat (first | (with_reducible exact Below.refl _ _) | (with_reducible refine Below.setCell ?_ (by first | (simp; done) | omega | (simp; omega)) _) | (with_reducible refine Below.alloc ?_ (by first | (simp; done) | omega | (simp; omega)) _) | (with_reducible refine below_drewN ?_ _) | (with_reducible refine Below.drew ?_) | assumption))⟩
end Go.Proofs.Ytafohemmjhjgbaa.Num
