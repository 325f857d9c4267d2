/-
  DiskPlays: whatever is written, flushed, fused and crashed: the disk and its reference answer alike.
-/
import Derived.Test.YtbkjkiaicaopoaaDiskDoes
namespace Go.Proofs.Ytbkjkiaicaopoaa.Dk
open Go.RowKit Go.Proofs.Ytbkjkiaicaopoaa

theorem act_of2 {W : World} {vs : List Value} (h : fitsBy ([.kd (.int .i64), .kd (.int .i64), .bytes, .kd (.int .u64)].map (Sp.ok W)) vs) : ∃ x : Act7, vs = encA x ∧ x.good W ∧ x.i < 9223372036854775808 := by
  obtain ⟨x, rfl, g⟩ := act_of h
  obtain ⟨hl, hf⟩ := h
  obtain ⟨y, hy, hw⟩ := hf 1 _ _ rfl rfl
  have e : x.i = y := by
    have h0 : Value.int .i64 x.i = Value.int .i64 y := hy
    injection h0
  refine ⟨x, rfl, g, ?_⟩
  have : -9223372036854775808 ≤ y ∧ y ≤ 9223372036854775807 := by simpa [Lit.wf, IntKind.min, IntKind.max, IntKind.signed, IntKind.bits] using hw
  omega
theorem capD_le {d : DiskSt} {k m : Nat} (h : capD d k) (hk : k ≤ m) (hm : m < 100000) : capD d m := ⟨h.1, h.2.1, h.2.2.1, h.2.2.2.1, by have := h.2.2.2.2.1; omega, by have := h.2.2.2.2.2.1; omega, h.2.2.2.2.2.2.1, hm⟩
theorem deed_num (d : DiskSt) : d.deed.2.last = d.last ∧ d.deed.2.waits = d.waits ∧ d.deed.2.size = d.size ∧ d.deed.2.deeds ≤ d.deeds + 1 ∧ d.deed.2.fuse ≤ max d.fuse 0 := by
  unfold DiskSt.deed
  split
  · exact ⟨rfl, rfl, rfl, by dsimp only; omega, by dsimp only; omega⟩
  · refine ⟨rfl, rfl, rfl, by dsimp only; omega, ?_⟩
    dsimp only
    split <;> omega
theorem flush_num (d : DiskSt) : d.flush.2.last.length = d.last.length ∧ d.flush.2.size = d.size ∧ d.flush.2.deeds ≤ d.deeds + 1 ∧ d.flush.2.waits.length ≤ d.waits.length ∧ d.flush.2.fuse ≤ max d.fuse 0 := by
  obtain ⟨l1, l2, l3, l4, l5⟩ := deed_num d
  unfold DiskSt.flush
  split
  · exact ⟨rfl, rfl, by dsimp only; omega, by dsimp only; omega, by dsimp only; omega⟩
  · split
    · exact ⟨by rw [l1], l3, l4, by rw [l2]; omega, l5⟩
    · exact ⟨by rw [keep_last_len, l1], l3, l4, Nat.zero_le _, l5⟩
theorem step_cap {d : DiskSt} {k : Nat} (h : capD d k) (hk : k + 1 < 100000) {x : Act7} (hi : x.i < 9223372036854775808) : capD (step7 d x) (k + 1) ∧ (step7 d x).last.length = d.last.length ∧ (step7 d x).size = d.size := by
  obtain ⟨c1, c2, c3, c4, c5, c6, c7, c8⟩ := h
  unfold step7
  split
  · obtain ⟨n1, n2, n3, n4, n5, -⟩ := write_num d x.i x.b
    exact ⟨⟨write_ok c1 _ _, by rw [n1]; exact c2, by rw [n2]; exact c3, by rw [n2]; exact c4, by omega, by omega, by omega, hk⟩, by rw [n1], n2⟩
  · split
    · obtain ⟨n1, n2, n3, n4, n5⟩ := flush_num d
      exact ⟨⟨flush_ok c1, by rw [n1]; exact c2, by rw [n2]; exact c3, by rw [n2]; exact c4, by omega, by omega, by omega, hk⟩, n1, n2⟩
    · split
      · refine ⟨⟨c1, c2, c3, c4, by show d.deeds ≤ _; omega, by show d.waits.length ≤ _; omega, by show max x.i (-1) < _; omega, hk⟩, rfl, rfl⟩
      · split
        · refine ⟨⟨crash_ok c1 _, ?_, c3, c4, by show d.deeds ≤ _; omega, Nat.zero_le _, by show (-1 : Int) < _; omega, hk⟩, keep_last_len _ _, rfl⟩
          rw [show (d.crash x.pt.toNat).last.length = d.last.length from keep_last_len _ _]; exact c2
        · exact ⟨⟨c1, c2, c3, c4, by omega, by omega, c7, hk⟩, rfl, rfl⟩
theorem fresh_cap {sectors size : Nat} (h1 : sectors ≤ 600) (h3 : 64 ≤ size) (h4 : size ≤ 1024) : capD (fresh sectors size) 0 := by
  refine ⟨⟨by simp [fresh], ?_⟩, by simp [fresh]; omega, by show 0 < size; omega, by show size ≤ _; omega, Nat.le_refl _, Nat.le_refl _, by show (-1 : Int) < _; omega, by omega⟩
  intro x hx
  have := List.eq_of_mem_replicate hx
  rw [this]; simp [fresh]
set_option maxHeartbeats 4000000 in
set_option maxRecDepth 100000 in
theorem plays_any (a b : Int) (A : Option Addr) (c : Nat) (l : List Act7) (w : World) (hA : SlR 4 encA w A l) (g : ∀ x ∈ l, x.good w ∧ x.i < 9223372036854775808) (m : l.length ≤ 8796093022208) :
    Calls Try.prog 6 #[.int .i64 a, .int .i64 b, .slice A l.length c] w fun e w' => e = .returned (.bool true) ∧ Below w.heap.size w w' := by
  have HWk := Lib.hid (awake_any (sat.start w))
  have HA := Lib.hid hA
  have G := Lib.hid g
  clear hA g
  by_cases hs : 1 ≤ a ∧ a ≤ 600 ∧ 64 ≤ b ∧ b ≤ 1024
  · obtain ⟨s1, s2, s3, s4⟩ := hs
    obtain ⟨sectors, rfl⟩ := Int.eq_ofNat_of_zero_le (by omega : 0 ≤ a)
    obtain ⟨size, rfl⟩ := Int.eq_ofNat_of_zero_le (by omega : 0 ≤ b)
    have HZ : Hid (1 ≤ sectors ∧ sectors ≤ 600 ∧ 64 ≤ size ∧ size ≤ 1024) := ⟨by omega, by omega, by omega, by omega⟩
    go_enter Try.func6, Try.ntmps6
    (go_wp2_with fail)
    refine (HWk.out).mono ?_
    rintro e w' ⟨rfl, H⟩
    have HN := Lib.hid (New_ok sectors size H HZ.out.1 HZ.out.2.1 HZ.out.2.2.1 HZ.out.2.2.2)
    clear H HWk
    (go_wp2_with fail)
    refine (HN.out).mono ?_
    rintro e w' ⟨p, rfl, H⟩
    clear HN
    by_cases s5 : (20 : Int) < (sectors : Int)
    · have HB := Lib.hid H.pull1.toBelow
      clear H
      go_wp2
      go_ret
      exact ⟨rfl, HB.out⟩
    have HR := Lib.hid (rNew_any sectors size H (by omega) (by omega))
    clear H
    (go_wp2_with fail)
    refine (HR.out).mono ?_
    rintro e w' ⟨r, rfl, H⟩
    have H0 := Lib.hid H.pull1
    clear H HR
    have FC := Lib.hid (fresh_cap HZ.out.2.1 HZ.out.2.2.1 HZ.out.2.2.2)
    go_wp2_with fail
    go_loopw [10] (fun i wx => ∃ (k : Nat) (d : DiskSt), k ≤ l.length ∧ k ≤ 100 ∧ i = .int .i64 k ∧ capD d k ∧ d.last.length = sectors ∧ d.size = size ∧ sat w wx (disk p d :: rdisk r d :: oldH w :: [])) (fun i _ => l.length - (intOf i).toNat)
    case atStart => exact ⟨0, _, Nat.zero_le _, by omega, rfl, FC.out, by simp [fresh], rfl, H0.out⟩
    case round =>
      obtain ⟨k, d, hk, hk2, rfl, hcp, hls, hsz, H⟩ := hrel
      have HH := Lib.hid H
      have CP := Lib.hid hcp
      have LS : Hid (d.last.length = sectors ∧ d.size = size) := ⟨hls, hsz⟩
      clear H H0 hcp FC hls hsz
      by_cases hin : k < l.length ∧ k < 100
      · obtain ⟨hin1, hin2⟩ := hin
        obtain ⟨⟨kd, xi, XA, xn, xc, xp, xb⟩, ex⟩ : ∃ x, l[k]? = some x := ⟨_, List.getElem?_eq_getElem hin1⟩
        have hX := HA.out.old HH.out.pull2 HH.out.size
        obtain ⟨g, o, rfl, -, hc⟩ := hX.cells ex
        have k0 : (0 : Int) ≤ (k : Int) := by omega
        have k1 : (k : Int) < (l.length : Int) := by omega
        have k2 : (k : Int) < 100 := by omega
        obtain ⟨⟨b1, b2, b3, b4, b5⟩, b6⟩ := G.out _ (List.mem_of_getElem? ex)
        dsimp only at b1 b2 b3 b4 b5 b6
        have c2 : wr.cell? ⟨g, o + k * 4 + 2, none⟩ = some (.slice XA xn xc) := hc 2 _ rfl
        have CC : Hid (∀ W L, sat w W (oldH w :: L) → W.cell? ⟨g, o + k * 4, none⟩ = some (.int .i64 kd) ∧ W.cell? ⟨g, o + k * 4 + 1, none⟩ = some (.int .i64 xi) ∧ W.cell? ⟨g, o + k * 4 + 2, none⟩ = some (.slice XA xn xc) ∧ W.cell? ⟨g, o + k * 4 + 3, none⟩ = some (.int .u64 xp)) := fun W L h => by
          have hq := (HA.out.old h h.size).cells ex
          obtain ⟨g', o', he, -, hc⟩ := hq
          cases he
          exact ⟨hc 0 _ rfl, hc 1 _ rfl, hc 2 _ rfl, hc 3 _ rfl⟩
        have B1 := Lib.hid b1
        have B3 := Lib.hid b3
        have BP : Hid (0 ≤ xp ∧ xp < 18446744073709551616) := ⟨b4, b5⟩
        have SC := Lib.hid (step_cap CP.out (by omega) (x := ⟨kd, xi, XA, xn, xc, xp, xb⟩) b6)
        clear hX hc ex b1 b2 b3 b4 b5 b6
        by_cases hbig : (200 : Int) < (xn : Int) ∧ (xn : Int) ≤ 1024
        · obtain ⟨q1, q2⟩ := hbig
          go_wp2_with fail
          go_roundw
          case rel => exact ⟨k + 1, d, by omega, by omega, by go_num, capD_le CP.out (by omega) (by omega), LS.out.1, LS.out.2, HH.out⟩
          case measure => simp [intOf] <;> omega
        · have hbb : (xn : Int) ≤ 200 ∨ (1024 : Int) < (xn : Int) := by omega
          have HDo := fun W (h : sat w W (disk p d :: rdisk r d :: oldH w :: [])) => does_any ⟨kd, xi, XA, xn, xc, xp, xb⟩ k h B1.out (fun W h => B3.out.old h h.size) BP.out CP.out
          obtain ⟨sc1, sc2, sc3⟩ := SC.out
          obtain ⟨d', ed'⟩ : ∃ d', d' = step7 d ⟨kd, xi, XA, xn, xc, xp, xb⟩ := ⟨_, rfl⟩
          rw [← ed'] at sc1 sc2 sc3
          simp only [← ed'] at HDo
          replace HDo := Lib.hid HDo
          have SC1 := Lib.hid sc1
          have LS' : Hid (d'.last.length = sectors ∧ d'.size = size) := ⟨sc2.trans LS.out.1, sc3.trans LS.out.2⟩
          have SEC : Hid (∀ W, sat w W (disk p d' :: rdisk r d' :: oldH w :: []) → Calls Try.prog 26 #[.pointer (some ⟨p, 0, none⟩)] W fun e w'' => e = .returned (.int .i64 sectors) ∧ w'' = W) := fun W h => (Sectors_any h).mono fun e w'' hh => ⟨by rw [hh.1, LS'.out.1], hh.2.symm⟩
          have SIZ : Hid (∀ W, sat w W (disk p d' :: rdisk r d' :: oldH w :: []) → Calls Try.prog 27 #[.pointer (some ⟨p, 0, none⟩)] W fun e w'' => e = .returned (.int .i64 size) ∧ w'' = W) := fun W h => (Size_any h).mono fun e w'' hh => ⟨by rw [hh.1, LS'.out.2], hh.2.symm⟩
          clear hbig sc1 sc2 sc3 ed' SC
          rcases hbb with hb1 | hb1
          all_goals
            go_wp2_with fail
            refine RegP.wp_region_p (HH.out) [6] [0, 1, 2, 3, 4, 5, 6, 7, 8, 9, 10, 11, 12, 13, 14, 15, 16, 17, 18, 19, 20, 21, 22, 23, 24, 25, 26, 27, 28, 29, 30, 31, 32, 33, 34, 35, 36, 37, 38, 39, 40, 41, 42, 43, 44, 45, 46, 47] (by kernel_rfl) (by kernel_rfl) (fun W HW => ?_)
            simp only [Reg.pickOps, List.map_cons, List.map_nil, List.getD_cons_zero, List.getD_cons_succ, List.contains_cons, List.contains_nil, Nat.reduceBEq, Bool.or_false, Bool.or_true, Bool.or_self]
            iterate 5 (refine RegP.wpX_y (v := ?_) (fun w' => ?_) rfl ?_; rotate_left 1; focus (go_simp; (try with_reducible rfl)))
            (refine RegP.wpX_l (v := ?_) (fun W => W.cell? ⟨g, o + k * 4, none⟩ = some (.int .i64 kd) ∧ W.cell? ⟨g, o + k * 4 + 1, none⟩ = some (.int .i64 xi) ∧ W.cell? ⟨g, o + k * 4 + 2, none⟩ = some (.slice XA xn xc) ∧ W.cell? ⟨g, o + k * 4 + 3, none⟩ = some (.int .u64 xp)) (CC.out W _ HW.pull2) (fun w' hw => ?_) rfl ?_; rotate_left 1; focus ((try dsimp only at hw); go_split_ands; go_simp; (try with_reducible rfl)))
            try simp only [Act.put, List.setIfInBounds_toArray, List.set_cons_zero, List.set_cons_succ]
            refine RegP.wpX_go [] (by kernel_rfl) rfl (fun K hK => ?_)
            go_simp
            refine (HDo.out W HW).mono ?_
            rintro ee w2 ⟨rfl, H1⟩
            obtain ⟨A9, c9, B9, e9, Hk, -⟩ := rdisk_peek H1.pull1
            have R2 := Hk.cell 2
            have R4 := Hk.cell 4
            have R5 := Hk.cell 5
            clear Hk
            refine hK _ _ trivial ?_
            iterate 2 (refine RegP.wpX_y (v := ?_) (fun w' => ?_) rfl ?_; rotate_left 1; focus (go_simp; (try with_reducible rfl)))
            (refine RegP.wpX_y (v := ?_) (fun w' => ?_) (by kernel_rfl) ?_; rotate_left 1; focus (go_simp; (try with_reducible rfl)))
            try simp only [Act.put, List.setIfInBounds_toArray, List.set_cons_zero, List.set_cons_succ]
            refine RegP.wpX_c (fun W => sat w W (disk p d' :: rdisk r d' :: oldH w :: [])) (H1) ?_ (fun w' hw => (Dark_any hw).mono fun e w'' h => ⟨h.1, h.2.symm⟩) (by kernel_rfl) ?_
            · intro w'; go_simp; (try with_reducible rfl)
            iterate 3 (refine RegP.wpX_y (v := ?_) (fun w' => ?_) (by kernel_rfl) ?_; rotate_left 1; focus (go_simp; (try with_reducible rfl)))
            (refine RegP.wpX_l (v := ?_) (fun W => W.cell? ⟨r, 4, none⟩ = some (.bool d'.dark)) (R4) (fun w' hw => ?_) (by kernel_rfl) ?_; rotate_left 1; focus ((try dsimp only at hw); go_split_ands; go_simp; (try with_reducible rfl)))
            (refine RegP.wpX_y (v := ?_) (fun w' => ?_) (by kernel_rfl) ?_; rotate_left 1; focus (go_simp; (try with_reducible rfl)))
            iterate 2 (refine RegP.wpX_y (v := ?_) (fun w' => ?_) rfl ?_; rotate_left 1; focus (go_simp; (try with_reducible rfl)))
            (refine RegP.wpX_y (v := ?_) (fun w' => ?_) (by kernel_rfl) ?_; rotate_left 1; focus (go_simp; (try with_reducible rfl)))
            try simp only [Act.put, List.setIfInBounds_toArray, List.set_cons_zero, List.set_cons_succ]
            try simp only [Act.put, List.setIfInBounds_toArray, List.set_cons_zero, List.set_cons_succ]
            refine RegP.wpX_c (fun W => sat w W (disk p d' :: rdisk r d' :: oldH w :: [])) (H1) ?_ (fun w' hw => (Deeds_any hw).mono fun e w'' h => ⟨h.1, h.2.symm⟩) (by kernel_rfl) ?_
            · intro w'; go_simp; (try with_reducible rfl)
            iterate 3 (refine RegP.wpX_y (v := ?_) (fun w' => ?_) (by kernel_rfl) ?_; rotate_left 1; focus (go_simp; (try with_reducible rfl)))
            (refine RegP.wpX_l (v := ?_) (fun W => W.cell? ⟨r, 5, none⟩ = some (.int .i64 d'.deeds)) (R5) (fun w' hw => ?_) (by kernel_rfl) ?_; rotate_left 1; focus ((try dsimp only at hw); go_split_ands; go_simp; (try with_reducible rfl)))
            (refine RegP.wpX_y (v := ?_) (fun w' => ?_) (by kernel_rfl) ?_; rotate_left 1; focus (go_simp; (try with_reducible rfl)))
            iterate 2 (refine RegP.wpX_y (v := ?_) (fun w' => ?_) rfl ?_; rotate_left 1; focus (go_simp; (try with_reducible rfl)))
            (refine RegP.wpX_y (v := ?_) (fun w' => ?_) (by kernel_rfl) ?_; rotate_left 1; focus (go_simp; (try with_reducible rfl)))
            try simp only [Act.put, List.setIfInBounds_toArray, List.set_cons_zero, List.set_cons_succ]
            try simp only [Act.put, List.setIfInBounds_toArray, List.set_cons_zero, List.set_cons_succ]
            refine RegP.wpX_c (fun W => sat w W (disk p d' :: rdisk r d' :: oldH w :: [])) (H1) ?_ (fun w' hw => (Waits_any hw).mono fun e w'' h => ⟨h.1, h.2.symm⟩) (by kernel_rfl) ?_
            · intro w'; go_simp; (try with_reducible rfl)
            iterate 3 (refine RegP.wpX_y (v := ?_) (fun w' => ?_) (by kernel_rfl) ?_; rotate_left 1; focus (go_simp; (try with_reducible rfl)))
            (refine RegP.wpX_l (v := ?_) (fun W => W.cell? ⟨r, 2, none⟩ = some (.slice B9 d'.waits.length e9)) (R2) (fun w' hw => ?_) (by kernel_rfl) ?_; rotate_left 1; focus ((try dsimp only at hw); go_split_ands; go_simp; (try with_reducible rfl)))
            iterate 2 (refine RegP.wpX_y (v := ?_) (fun w' => ?_) (by kernel_rfl) ?_; rotate_left 1; focus (go_simp; (try with_reducible rfl)))
            iterate 2 (refine RegP.wpX_y (v := ?_) (fun w' => ?_) rfl ?_; rotate_left 1; focus (go_simp; (try with_reducible rfl)))
            try simp only [Act.put, List.setIfInBounds_toArray, List.set_cons_zero, List.set_cons_succ]
            (refine RegP.wpX_y (v := ?_) (fun w' => ?_) (by kernel_rfl) ?_; rotate_left 1; focus (go_simp; (try with_reducible rfl)))
            try simp only [Act.put, List.setIfInBounds_toArray, List.set_cons_zero, List.set_cons_succ]
            refine RegP.wpX_c (fun W => sat w W (disk p d' :: rdisk r d' :: oldH w :: [])) (H1) ?_ (fun w' hw => SEC.out w' hw) (by kernel_rfl) ?_
            · intro w'; go_simp; (try with_reducible rfl)
            iterate 2 (refine RegP.wpX_y (v := ?_) (fun w' => ?_) (by kernel_rfl) ?_; rotate_left 1; focus (go_simp; (try with_reducible rfl)))
            iterate 2 (refine RegP.wpX_y (v := ?_) (fun w' => ?_) rfl ?_; rotate_left 1; focus (go_simp; (try with_reducible rfl)))
            (refine RegP.wpX_y (v := ?_) (fun w' => ?_) (by kernel_rfl) ?_; rotate_left 1; focus (go_simp; (try with_reducible rfl)))
            try simp only [Act.put, List.setIfInBounds_toArray, List.set_cons_zero, List.set_cons_succ]
            refine RegP.wpX_c (fun W => sat w W (disk p d' :: rdisk r d' :: oldH w :: [])) (H1) ?_ (fun w' hw => SIZ.out w' hw) (by kernel_rfl) ?_
            · intro w'; go_simp; (try with_reducible rfl)
            iterate 2 (refine RegP.wpX_y (v := ?_) (fun w' => ?_) (by kernel_rfl) ?_; rotate_left 1; focus (go_simp; (try with_reducible rfl)))
            (refine RegP.wpX_y (v := ?_) (fun w' => ?_) rfl ?_; rotate_left 1; focus (go_simp; (try with_reducible rfl)))
            try simp only [Act.put, List.setIfInBounds_toArray, List.set_cons_zero, List.set_cons_succ]
            refine RegP.wpX_nil ?_
            have HS := Lib.hid (rSeen_any ones H1.pull1 (by decide) SC1.out.1 (by have := SC1.out.2.2.2.2.2.1; omega) SC1.out.2.1)
            clear HW HH R2 R4 R5 H1
            (go_wp2_with fail)
            refine (HS.out).mono ?_
            rintro e w' ⟨A4, c4, rfl, H3⟩
            have H4 := Lib.hid H3
            clear H3 HS
            go_wp2_with fail
            go_loopw [12] (fun j wx => ∃ kk : Nat, kk ≤ sectors ∧ j = .int .i64 kk ∧ sat w wx (vec 9 encS A4 d'.last.length c4 (keepL ones 0 d'.last d'.waits) :: rdisk r d' :: disk p d' :: oldH w :: [])) (fun j _ => sectors - (intOf j).toNat)
            case atStart => exact ⟨0, Nat.zero_le _, rfl, H4.out⟩
            case round =>
              obtain ⟨kk, hkk, rfl, H5⟩ := hrel
              obtain ⟨A8, c8, B8, e8, Hk, -⟩ := rdisk_peek H5.pull1
              have r4 := Hk.cell 4
              have HX := Lib.hid H5
              clear H5 Hk H4
              by_cases hks : kk < sectors
              · have q0 : (0 : Int) ≤ (kk : Int) := by omega
                have q1 : (kk : Int) < (sectors : Int) := by omega
                cases hdk : d'.dark with
                | true =>
                  rw [hdk] at r4
                  have HF := Lib.hid (HX.out.choose 4 [2, 1, 3] rfl rfl)
                  clear HX hdk
                  go_wp2_with fail
                  go_roundw
                  case rel => exact ⟨k + 1, d', by omega, by omega, by go_num, SC1.out, LS'.out.1, LS'.out.2, HF.out⟩
                  case measure => simp [intOf] <;> omega
                | false =>
                  rw [hdk] at r4
                  have HR := Read_any (kk : Int) HX.out.pull2 (by have := SC1.out.2.2.2.1; omega) SC1.out.1 (by have := SC1.out.2.2.2.2.2.1; omega)
                  have er : d'.read (kk : Int) = (0, d'.sector kk) := by
                    unfold DiskSt.read
                    rw [hdk, if_neg (by simp), if_pos ⟨by omega, by rw [LS'.out.1]; omega⟩, Int.toNat_natCast]
                  rw [er] at HR
                  replace HR := Lib.hid HR
                  have hsec : (keepL ones 0 d'.last d'.waits)[kk]? = some (d'.sector kk) := by
                    unfold ones
                    rw [keepL_ones kk d'.waits 0 d'.last (by rw [LS'.out.1]; exact hks)]; rfl
                  have HSE := Lib.hid hsec
                  have q2 : (kk : Int) < (d'.last.length : Int) := by rw [LS'.out.1]; exact q1
                  clear er hdk hsec
                  go_wp2_with fail
                  refine HR.out.mono ?_
                  rintro e w' ⟨⟨SA, sn, sc, sl⟩, hl, rfl, H⟩
                  dsimp only at hl
                  subst hl
                  dsimp only [Sec.v]
                  obtain ⟨g9, rfl⟩ := (H.pull2 : sat _ _ (vec 9 encS A4 d'.last.length c4 _ :: _)).vaddr (by rw [LS'.out.1]; omega)
                  have VC : Hid (∀ W R, sat w W (vec 9 encS (some ⟨g9, 0, none⟩) d'.last.length c4 (keepL ones 0 d'.last d'.waits) :: R) → W.cell? ⟨g9, kk, none⟩ = some (.string (strB (d'.sector kk)))) := fun W R h => by
                    have := h.vcell HSE.out
                    rw [Nat.zero_add] at this
                    exact this
                  have H6 := Lib.hid H
                  clear H HR HX r4
                  go_wp2_with fail
                  refine Reg.wp_region_s (H6.out) (fun W => W.cell? ⟨g9, kk, none⟩ = some (.string (strB (d'.sector kk)))) [8] [4] [0, 1, 2, 3, 5, 6, 7, 8, 4, 9, 10] (by kernel_rfl) (by kernel_rfl) (fun W HW => VC.out W _ HW.pull2) (fun W HW => ?_)
                  simp only [Reg.pickOps, List.map_cons, List.map_nil, List.getD_cons_zero, List.getD_cons_succ, List.contains_cons, List.contains_nil, Nat.reduceBEq, Bool.or_false, Bool.or_true, Bool.or_self]
                  iterate 3 (refine Reg.wpX_y (v := ?_) (fun w' => ?_) rfl ?_; rotate_left 1; focus (go_simp; (try with_reducible rfl)))
                  iterate 4 (refine Reg.wpX_y (v := ?_) (fun w' => ?_) (by kernel_rfl) ?_; rotate_left 1; focus (go_simp; (try with_reducible rfl)))
                  (refine Reg.wpX_l (v := ?_) rfl (fun w' hw => ?_) (by kernel_rfl) ?_; rotate_left 1; focus ((try dsimp only at hw); go_split_ands; go_simp; (try with_reducible rfl)))
                  try simp only [Act.put, List.setIfInBounds_toArray, List.set_cons_zero, List.set_cons_succ]
                  have cv := conv_sl (P := Try.prog) (w := W) (c := sc) Try.underlying30 Try.underlying5 Try.underlying9 (sat.len HW) (sat.Sl HW)
                  refine Reg.wpX_go (by kernel_rfl) (fun K hK => ?_)
                  go_simp
                  refine hK _ _ (VC.out W _ HW.pull2) ?_
                  (refine Reg.wpX_y (v := ?_) (fun w' => ?_) (by kernel_rfl) ?_; rotate_left 1; focus (go_simp; (try with_reducible rfl)))
                  (refine Reg.wpX_y (v := ?_) (fun w' => ?_) rfl ?_; rotate_left 1; focus (go_simp; (try with_reducible rfl)))
                  try simp only [Act.put, List.setIfInBounds_toArray, List.set_cons_zero, List.set_cons_succ]
                  refine Reg.wpX_nil ?_
                  have H7 := Lib.hid (HW.choose 5 [2, 3, 1, 4] rfl rfl)
                  clear HW H6 cv
                  go_wp2_with fail
                  go_roundw
                  case rel => exact ⟨kk + 1, by omega, by go_num, H7.out⟩
                  case measure => simp [intOf] <;> omega
              · have q1 : ¬ (kk : Int) < (sectors : Int) := by omega
                have HF := Lib.hid (HX.out.choose 4 [2, 1, 3] rfl rfl)
                clear HX r4
                go_wp2_with fail
                go_roundw
                case rel => exact ⟨k + 1, d', by omega, by omega, by go_num, SC1.out, LS'.out.1, LS'.out.2, HF.out⟩
                case measure => simp [intOf] <;> omega
      · have HB := Lib.hid HH.out.pull2.toBelow
        by_cases h : (k : Int) < (l.length : Int)
        · have h2 : ¬ (k : Int) < 100 := by omega
          go_wp2
          go_ret
          exact ⟨rfl, HB.out⟩
        · go_wp2
          go_ret
          exact ⟨rfl, HB.out⟩
  · have HN := Lib.hid (fun W => New_no (sectors := a) (size := b) W (decide_eq_false hs))
    by_cases h1 : a < 1
    · clear hs
      go_enter Try.func6, Try.ntmps6
      (go_wp2_with fail)
      refine (HWk.out).mono ?_
      rintro e w' ⟨rfl, H⟩
      have HB := Lib.hid H.toBelow
      clear H
      (go_wp2_with fail)
      refine (HN.out _).mono ?_
      rintro e w' ⟨rfl, rfl⟩
      go_wp2
      go_ret
      exact ⟨rfl, HB.out⟩
    by_cases h2 : 600 < a
    · clear hs
      go_enter Try.func6, Try.ntmps6
      (go_wp2_with fail)
      refine (HWk.out).mono ?_
      rintro e w' ⟨rfl, H⟩
      have HB := Lib.hid H.toBelow
      clear H
      (go_wp2_with fail)
      refine (HN.out _).mono ?_
      rintro e w' ⟨rfl, rfl⟩
      go_wp2
      go_ret
      exact ⟨rfl, HB.out⟩
    by_cases h3 : b < 64
    · clear hs
      go_enter Try.func6, Try.ntmps6
      (go_wp2_with fail)
      refine (HWk.out).mono ?_
      rintro e w' ⟨rfl, H⟩
      have HB := Lib.hid H.toBelow
      clear H
      (go_wp2_with fail)
      refine (HN.out _).mono ?_
      rintro e w' ⟨rfl, rfl⟩
      go_wp2
      go_ret
      exact ⟨rfl, HB.out⟩
    have h4 : 1024 < b := by omega
    clear hs
    go_enter Try.func6, Try.ntmps6
    (go_wp2_with fail)
    refine (HWk.out).mono ?_
    rintro e w' ⟨rfl, H⟩
    have HB := Lib.hid H.toBelow
    clear H
    (go_wp2_with fail)
    refine (HN.out _).mono ?_
    rintro e w' ⟨rfl, rfl⟩
    go_wp2
    go_ret
    exact ⟨rfl, HB.out⟩
theorem plays_row (a b : Int) (A : Option Addr) (c : Nat) (l : List (List Value)) (w : World) (_ha : (Lit.int .i64 a).wf = true) (_hb : (Lit.int .i64 b).wf = true)
    (_hc : l.length ≤ c) (hl : SlR 4 (fun v => v) w A l) (hw : ∀ vs ∈ l, fitsBy ([.kd (.int .i64), .kd (.int .i64), .bytes, .kd (.int .u64)].map (Sp.ok w)) vs) (hm : l.length * 48 ≤ 140737488351232) :
    Calls Try.prog 6 #[.int .i64 a, .int .i64 b, .slice A l.length c] w fun e w' => e = .returned (.bool true) ∧ Below w.heap.size w w' := by
  obtain ⟨m, rfl, g⟩ := decode (enc := encA) (p := fun x => x.good w ∧ x.i < 9223372036854775808) (fun v hv => act_of2 (hw v hv))
  rw [List.length_map] at hm ⊢
  exact plays_any a b A c m w (hl.map encA (fun _ => rfl)) g (by omega)
end Go.Proofs.Ytbkjkiaicaopoaa.Dk
