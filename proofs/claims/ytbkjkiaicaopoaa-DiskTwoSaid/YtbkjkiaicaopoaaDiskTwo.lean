/-
  DiskTwo: flushed or not, it is seen.
-/
import Derived.Test.YtbkjkiaicaopoaaDiskLasts
namespace Go.Proofs.Ytbkjkiaicaopoaa.Dk
open Go.RowKit Go.Proofs.Ytbkjkiaicaopoaa

/-- Two disks that are seen the same. -/
def twin (a b : DiskSt) : Prop := ∀ i, i < 8 → a.sector i = b.sector i
theorem look_snoc (i : Nat) (ws : List (Nat × List UInt8)) (x : Nat × List UInt8) : look i (ws ++ [x]) = if x.1 = i then some x.2 else look i ws := by
  unfold look
  rw [List.reverse_append, List.reverse_singleton, List.singleton_append, List.find?_cons]
  by_cases h : x.1 = i
  · rw [if_pos h]
    have : (x.1 == i) = true := by simpa using h
    rw [this]; rfl
  · rw [if_neg h]
    have : (x.1 == i) = false := by simpa using h
    rw [this]
theorem write_sector (d : DiskSt) (i : Int) (b : List UInt8) (k : Nat) : (d.write i b).2.sector k = if (d.write i b).1 = 0 ∧ i.toNat = k then pad d.size b else d.sector k := by
  have hl := (write_num d i b).1
  unfold DiskSt.sector
  rw [hl]
  rcases write_cases d i b with ⟨e1, i1, i2, e2⟩ | ⟨e1, e2⟩
  · rw [e2, look_snoc]
    by_cases hk : i.toNat = k
    · rw [if_pos hk, if_pos ⟨e1, hk⟩]; rfl
    · rw [if_neg hk, if_neg (fun h => hk h.2)]
  · rw [e2, if_neg (fun h => e1 h.1)]
theorem write_ans {d : DiskSt} {k : Nat} (h : fine d k) (i : Int) (b : List UInt8) : (d.write i b).1 = if (0 ≤ i ∧ i < 8) ∧ b.length ≤ 64 then 0 else 1 := by
  obtain ⟨h1, h2, h3, h4, h5, h6, h7⟩ := h
  unfold DiskSt.write
  rw [h7, if_neg (by simp), h2, h3]
  by_cases hc : (0 ≤ i ∧ i < 8) ∧ b.length ≤ 64
  · rw [if_pos hc, if_neg (by omega), if_neg (by omega)]
  · rw [if_neg hc, if_pos (by omega)]
theorem twin_write {a b : DiskSt} {k m : Nat} (ha : fine a k) (hb : fine b m) (ht : twin a b) (i : Int) (x : List UInt8) : twin (a.write i x).2 (b.write i x).2 := by
  intro j hj
  rw [write_sector, write_sector, write_ans ha, write_ans hb, ha.2.2.1, hb.2.2.1, ht j hj]
theorem deed_fine {d : DiskSt} {k : Nat} (h : fine d k) : d.deed.2 = { d with fuse := -1, deeds := d.deeds + 1 } := by
  obtain ⟨h1, h2, h3, h4, h5, h6, h7⟩ := h
  unfold DiskSt.deed
  rw [if_neg (by omega), if_neg (by omega), h6]
theorem flush_sector {d : DiskSt} {k : Nat} (h : fine d k) (i : Nat) (hi : i < 8) : d.flush.2.sector i = d.sector i := by
  have hd := deed_fine h
  obtain ⟨h1, h2, h3, h4, h5, h6, h7⟩ := h
  unfold DiskSt.flush
  rw [if_neg (by rw [h7]; simp), if_neg (by omega), hd]
  exact keep_ones (by show i < d.last.length; omega)
theorem flush_deeds {d : DiskSt} {k : Nat} (h : fine d k) : d.flush.2.deeds = d.deeds + 1 := by
  have hd := deed_fine h
  obtain ⟨h1, h2, h3, h4, h5, h6, h7⟩ := h
  unfold DiskSt.flush
  rw [if_neg (by rw [h7]; simp), if_neg (by omega), hd]
  rfl
theorem write_deeds {d : DiskSt} {k : Nat} (h : fine d k) (i : Int) (b : List UInt8) : (d.write i b).2.deeds = if (0 ≤ i ∧ i < 8) ∧ b.length ≤ 64 then d.deeds + 1 else d.deeds := by
  have hd := deed_fine h
  obtain ⟨h1, h2, h3, h4, h5, h6, h7⟩ := h
  unfold DiskSt.write
  rw [h7, if_neg (by simp), h2, h3]
  by_cases hc : (0 ≤ i ∧ i < 8) ∧ b.length ≤ 64
  · rw [if_pos hc, if_neg (by omega), if_neg (by omega), hd]
  · rw [if_neg hc, if_pos (by omega)]
theorem all_eq {a b : DiskSt} (ha : a.last.length = 8) (hb : b.last.length = 8) (h : twin a b) : a.all = b.all := by
  unfold DiskSt.all
  rw [ha, hb]
  refine List.map_congr_left fun i hi => ?_
  rw [h i (by simpa using hi)]
theorem all_len {a : DiskSt} (ha : a.last.length = 8) : a.all.length = 8 := by
  unfold DiskSt.all
  rw [List.length_map, List.length_range, ha]
theorem fine_le {d : DiskSt} {k m : Nat} (h : fine d k) (hk : k ≤ m) : fine d m := ⟨h.1, h.2.1, h.2.2.1, by have := h.2.2.2.1; omega, by have := h.2.2.2.2.1; omega, h.2.2.2.2.2⟩
/-- Both, behind k rounds. -/
def pairD (a b : DiskSt) (k : Nat) : Prop := fine a k ∧ fine b (2 * k) ∧ twin a b ∧ a.deeds ≤ b.deeds
theorem pair_write {a b : DiskSt} {k : Nat} (h : pairD a b k) (i : Int) (x : List UInt8) : fine (a.write i x).2 (k + 1) ∧ fine (b.write i x).2 (2 * k + 1) ∧ twin (a.write i x).2 (b.write i x).2 ∧ (a.write i x).2.deeds ≤ (b.write i x).2.deeds ∧ (a.write i x).1 = (b.write i x).1 := by
  obtain ⟨h1, h2, h3, h4⟩ := h
  refine ⟨fine_write h1 i x, fine_write h2 i x, twin_write h1 h2 h3 i x, ?_, by rw [write_ans h1, write_ans h2]⟩
  rw [write_deeds h1, write_deeds h2]
  split <;> omega
theorem pair_flush {a b : DiskSt} {k : Nat} (h1 : fine a (k + 1)) (h2 : fine b (2 * k + 1)) (h3 : twin a b) (h4 : a.deeds ≤ b.deeds) : pairD a b.flush.2 (k + 1) := by
  refine ⟨h1, fine_le (flush_fine h2).2.1 (by omega), fun i hi => ?_, ?_⟩
  · rw [flush_sector h2 i hi]; exact h3 i hi
  · rw [flush_deeds h2]; omega
theorem pair_crash {a b : DiskSt} {k : Nat} (h : pairD a b k) : (a.crash ones).all = a.all ∧ (b.crash ones).all = a.all ∧ b.all = a.all := by
  obtain ⟨h1, h2, h3, h4⟩ := h
  refine ⟨all_eq (crash_fine h1 _).1.2.1 h1.2.1 fun i hi => ?_, all_eq (crash_fine h2 _).1.2.1 h1.2.1 fun i hi => ?_, all_eq h2.2.1 h1.2.1 fun i hi => (h3 i hi).symm⟩
  · rw [crash_sector]; exact keep_ones (by rw [h1.2.1]; exact hi)
  · rw [crash_sector, h3 i hi]; exact keep_ones (by rw [h2.2.1]; exact hi)
set_option maxHeartbeats 2000000 in
set_option maxRecDepth 100000 in
theorem two_any (A : Option Addr) (c : Nat) (l : List Act7) (v : Int) (w : World) (hv : 0 ≤ v ∧ v < 256) (hA : SlR 4 encA w A l) (g : ∀ x ∈ l, x.good w) (m : l.length ≤ 8796093022208) :
    Calls Try.prog 5 #[.slice A l.length c, .int .u8 v] w fun e w' => e = .returned (.bool true) ∧ Below w.heap.size w w' := by
  have HW := Lib.hid (awake_any (sat.start w))
  have HA := Lib.hid hA
  have G := Lib.hid g
  have HV := Lib.hid hv
  clear hA g hv
  go_enter Try.func5, Try.ntmps5
  (go_wp2_with fail)
  refine (HW.out).mono ?_
  rintro e w' ⟨rfl, H⟩
  have HN := Lib.hid (New_ok 8 64 H (by decide) (by decide) (by decide) (by decide))
  clear H HW
  (go_wp2_with fail)
  refine (HN.out).mono ?_
  rintro e w' ⟨pa, rfl, H⟩
  have HN := Lib.hid (New_ok 8 64 H (by decide) (by decide) (by decide) (by decide))
  clear H
  (go_wp2_with fail)
  refine (HN.out).mono ?_
  rintro e w' ⟨pb, rfl, H⟩
  have H0 := Lib.hid H.pull1
  clear H HN
  go_upto_block 0 with fail
  go_cut [9] from 15 (fun _ wx => ∃ a b, pairD a b 100 ∧ sat w wx (disk pa a :: disk pb b :: oldH w :: []))
  case first =>
    go_wp2_with fail
    go_loopw [9] (fun i wx => ∃ (k : Nat) (a b : DiskSt), k ≤ l.length ∧ k ≤ 100 ∧ i = .int .i64 k ∧ pairD a b k ∧ sat w wx (disk pa a :: disk pb b :: oldH w :: [])) (fun i _ => l.length - (intOf i).toNat)
    case atStart => exact ⟨0, _, _, Nat.zero_le _, by omega, rfl, ⟨fine_fresh, fine_fresh, fun _ _ => rfl, Nat.le_refl _⟩, H0.out⟩
    case round =>
      obtain ⟨k, a, b, hk, hk2, rfl, hp, H⟩ := hrel
      have HH := Lib.hid H
      have HP := Lib.hid hp
      clear H H0 hp
      by_cases hin : k < l.length ∧ k < 100
      · obtain ⟨hin1, hin2⟩ := hin
        obtain ⟨⟨kd, xi, XA, xn, xc, xp, xb⟩, ex⟩ : ∃ x, l[k]? = some x := ⟨_, List.getElem?_eq_getElem hin1⟩
        have hX := HA.out.old HH.out.pull2 HH.out.size
        obtain ⟨g, o, rfl, -, hc⟩ := hX.cells ex
        have k0 : (0 : Int) ≤ (k : Int) := by omega
        have k1 : (k : Int) < (l.length : Int) := by omega
        have k2 : (k : Int) < 100 := by omega
        obtain ⟨b1, b2, b3, -, -⟩ := G.out _ (List.mem_of_getElem? ex)
        have HXX := Lib.hid (fun W L (h : sat w W (oldH w :: L)) => (HA.out.old h h.size))
        have CC : Hid (∀ W L, sat w W (oldH w :: L) → W.cell? ⟨g, o + k * 4 + 1, none⟩ = some (.int .i64 xi) ∧ W.cell? ⟨g, o + k * 4 + 2, none⟩ = some (.slice XA xn xc)) := fun W L h => by
          have hq := (HXX.out W _ h).cells ex
          obtain ⟨g', o', he, -, hc⟩ := hq
          cases he
          exact ⟨hc 1 _ rfl, hc 2 _ rfl⟩
        have B1 := Lib.hid b1
        have B3 := Lib.hid b3
        have PW := Lib.hid (pair_write HP.out xi xb)
        clear hX hc ex b1 b2 b3 HXX
        go_wp2_with fail
        refine Reg.wp_region_s (HH.out) (fun W => W.cell? ⟨g, o + k * 4 + 1, none⟩ = some (.int .i64 xi) ∧ W.cell? ⟨g, o + k * 4 + 2, none⟩ = some (.slice XA xn xc)) [5, 10, 17, 22] [11, 23] [0, 1, 2, 3, 4, 5, 6, 7, 8, 9, 10, 12, 13, 14, 15, 16, 17, 18, 19, 20, 21, 22, 11, 23, 24] (by kernel_rfl) (by kernel_rfl) (fun W HW => CC.out W _ HW.pull2) (fun W HW => ?_)
        simp only [Reg.pickOps, List.map_cons, List.map_nil, List.getD_cons_zero, List.getD_cons_succ, List.contains_cons, List.contains_nil, Nat.reduceBEq, Bool.or_false, Bool.or_true, Bool.or_self]
        iterate 5 (refine Reg.wpX_y (v := ?_) (fun w' => ?_) rfl ?_; rotate_left 1; focus (go_simp; (try with_reducible rfl)))
        (refine Reg.wpX_l (v := ?_) rfl (fun w' hw => ?_) rfl ?_; rotate_left 1; focus ((try dsimp only at hw); go_split_ands; go_simp; (try with_reducible rfl)))
        iterate 2 (refine Reg.wpX_y (v := ?_) (fun w' => ?_) rfl ?_; rotate_left 1; focus (go_simp; (try with_reducible rfl)))
        try simp only [Act.put, List.setIfInBounds_toArray, List.set_cons_zero, List.set_cons_succ]
        iterate 2 (refine Reg.wpX_y (v := ?_) (fun w' => ?_) rfl ?_; rotate_left 1; focus (go_simp; (try with_reducible rfl)))
        (refine Reg.wpX_l (v := ?_) rfl (fun w' hw => ?_) rfl ?_; rotate_left 1; focus ((try dsimp only at hw); go_split_ands; go_simp; (try with_reducible rfl)))
        iterate 5 (refine Reg.wpX_y (v := ?_) (fun w' => ?_) rfl ?_; rotate_left 1; focus (go_simp; (try with_reducible rfl)))
        try simp only [Act.put, List.setIfInBounds_toArray, List.set_cons_zero, List.set_cons_succ]
        (refine Reg.wpX_l (v := ?_) rfl (fun w' hw => ?_) rfl ?_; rotate_left 1; focus ((try dsimp only at hw); go_split_ands; go_simp; (try with_reducible rfl)))
        iterate 4 (refine Reg.wpX_y (v := ?_) (fun w' => ?_) rfl ?_; rotate_left 1; focus (go_simp; (try with_reducible rfl)))
        (refine Reg.wpX_l (v := ?_) rfl (fun w' hw => ?_) rfl ?_; rotate_left 1; focus ((try dsimp only at hw); go_split_ands; go_simp; (try with_reducible rfl)))
        try simp only [Act.put, List.setIfInBounds_toArray, List.set_cons_zero, List.set_cons_succ]
        have HW1 := Lib.hid (Write_any (i := xi) (c := xc) (b := xb) HW (by have := HP.out.1.2.2.2.1; omega) (by have := HP.out.1.2.2.2.2.2.1; omega) (fun W h => B3.out.old h.pull1 h.size) B1.out (by have := HP.out.1.2.2.1; omega) (by have := HP.out.1.2.2.1; omega) (by have := HP.out.1.2.2.2.2.1; omega))
        refine Reg.wpX_go rfl (fun K hK => ?_)
        go_simp
        refine HW1.out.mono ?_
        rintro ee w2 ⟨rfl, H1⟩
        refine hK _ _ (CC.out _ _ H1.pull2) ?_
        try simp only [Act.put, List.setIfInBounds_toArray, List.set_cons_zero, List.set_cons_succ]
        have HW2 := Lib.hid (Write_any (i := xi) (c := xc) (b := xb) H1.pull1 (by have := HP.out.2.1.2.2.2.1; omega) (by have := HP.out.2.1.2.2.2.2.2.1; omega) (fun W h => B3.out.old h.pull1 h.size) B1.out (by have := HP.out.2.1.2.2.1; omega) (by have := HP.out.2.1.2.2.1; omega) (by have := HP.out.2.1.2.2.2.2.1; omega))
        refine Reg.wpX_go rfl (fun K hK => ?_)
        go_simp
        refine HW2.out.mono ?_
        rintro ee w3 ⟨rfl, H2⟩
        refine hK _ _ (CC.out _ _ H2.pull2) ?_
        (refine Reg.wpX_y (v := ?_) (fun w' => ?_) rfl ?_; rotate_left 1; focus (go_simp; (try with_reducible rfl)))
        try simp only [Act.put, List.setIfInBounds_toArray, List.set_cons_zero, List.set_cons_succ]
        refine Reg.wpX_nil ?_
        have H3 := Lib.hid H2.pull1
        clear H1 H2 HW HH HW1 HW2
        obtain ⟨pf1, pf2, pf3, pf4, peq⟩ := PW.out
        obtain ⟨r1, -, -⟩ := flush_fine pf2
        have PF := Lib.hid (pair_flush pf1 pf2 pf3 pf4)
        have PN : Hid (pairD (a.write xi xb).2 (b.write xi xb).2 (k + 1)) := ⟨pf1, fine_le pf2 (by omega), pf3, pf4⟩
        have HFl := Flush_any H3.out.pull1 pf2.1 (by have := pf2.2.2.2.1; omega) (by have := pf2.2.2.2.2.2.1; omega) (by have := pf2.2.2.2.2.1; omega)
        rw [r1] at HFl
        replace HFl := Lib.hid HFl
        have ev : wrap64 (1 + (wrap64 v).tmod 7) = (((1 + v.toNat % 7 : Nat)) : Int) := by
          have hv := HV.out
          have e1 : wrap64 v = v := by unfold wrap64; omega
          rw [e1]
          have e2 : v.tmod 7 = v % 7 := Int.tmod_eq_emod_of_nonneg hv.1
          rw [e2]
          unfold wrap64
          omega
        obtain ⟨q, eq⟩ : ∃ q : Nat, q = 1 + v.toNat % 7 := ⟨_, rfl⟩
        rw [← eq] at ev
        have q0 : ¬ (q : Int) = 0 := by omega
        have PE := Lib.hid peq
        clear pf1 pf2 pf3 pf4 r1 eq PW HP
        by_cases hm : (k : Int) % (q : Int) = 0
        · (go_wp2_with fail)
          refine (HFl.out).mono ?_
          rintro e w' ⟨rfl, H⟩
          have H4 := Lib.hid H.pull1
          clear H HFl
          go_wp2_with fail
          go_roundw
          case rel => exact ⟨k + 1, _, _, by omega, by omega, by go_num, PF.out, H4.out⟩
          case measure => simp [intOf] <;> omega
        · go_wp2_with fail
          go_roundw
          case rel => exact ⟨k + 1, _, _, by omega, by omega, by go_num, PN.out, H3.out⟩
          case measure => simp [intOf] <;> omega
      · by_cases h : (k : Int) < (l.length : Int)
        · have h2 : ¬ (k : Int) < 100 := by omega
          go_wp2_with fail
          go_meet
          case rel => exact ⟨a, b, ⟨fine_le HP.out.1 hk2, fine_le HP.out.2.1 (by omega), HP.out.2.2⟩, HH.out⟩
        · go_wp2_with fail
          go_meet
          case rel => exact ⟨a, b, ⟨fine_le HP.out.1 hk2, fine_le HP.out.2.1 (by omega), HP.out.2.2⟩, HH.out⟩
  case rest =>
    obtain ⟨a, b, hp, H⟩ := hcut
    obtain ⟨pc1, pc2, pc3⟩ := pair_crash hp
    obtain ⟨fa, fb, -, hdd⟩ := hp
    have HA1 := all_any H (by have := fa.2.2.1; omega) fa.1 (by have := fa.2.2.2.2.1; omega) fa.2.2.2.2.2.2 (by have := fa.2.1; omega)
    rw [fa.2.1] at HA1
    replace HA1 := Lib.hid HA1
    obtain ⟨fa', wa'⟩ := crash_fine fa ones
    obtain ⟨fb', wb'⟩ := crash_fine fb ones
    have FA := Lib.hid fa
    have FB := Lib.hid fb
    have FA' := Lib.hid fa'
    have FB' := Lib.hid fb'
    have WA := Lib.hid wa'
    have P1 := Lib.hid pc1
    have P2 := Lib.hid pc2
    have P3 := Lib.hid pc3
    clear H H0 fa fb fa' fb' wa' wb' pc1 pc2 pc3
    (go_wp2_with fail)
    refine (HA1.out).mono ?_
    rintro e w' ⟨A1, c1, rfl, H⟩
    clear HA1
    have HA2 := all_any H.pull2 (by have := FB.out.2.2.1; omega) FB.out.1 (by have := FB.out.2.2.2.2.1; omega) FB.out.2.2.2.2.2.2 (by have := FB.out.2.1; omega)
    rw [FB.out.2.1, P3.out] at HA2
    replace HA2 := Lib.hid HA2
    clear H
    (go_wp2_with fail)
    refine (HA2.out).mono ?_
    rintro e w' ⟨A2, c2, rfl, H⟩
    clear HA2
    -- vec A2, disk b, vec A1, disk a, old
    have HC := Lib.hid (Crash_any ones H.pull3 (by decide) FA.out.1 (by have := FA.out.2.2.2.2.1; omega))
    clear H
    (go_wp2_with fail)
    refine (HC.out).mono ?_
    rintro e w' ⟨rfl, H⟩
    clear HC
    have HC := Lib.hid (Crash_any ones H.pull2 (by decide) FB.out.1 (by have := FB.out.2.2.2.2.1; omega))
    clear H
    (go_wp2_with fail)
    refine (HC.out).mono ?_
    rintro e w' ⟨rfl, H⟩
    clear HC
    -- disk b, disk a, vec A2, vec A1, old
    have HA3 := all_any H.pull1 (by have := FA'.out.2.2.1; omega) FA'.out.1 (by have := FA'.out.2.2.2.2.1; omega) FA'.out.2.2.2.2.2.2 (by have := FA'.out.2.1; omega)
    rw [FA'.out.2.1, P1.out] at HA3
    replace HA3 := Lib.hid HA3
    clear H
    (go_wp2_with fail)
    refine (HA3.out).mono ?_
    rintro e w' ⟨A3, c3, rfl, H⟩
    clear HA3
    -- vec A3, disk a, disk b, vec A2, vec A1
    have HA4 := all_any H.pull2 (by have := FB'.out.2.2.1; omega) FB'.out.1 (by have := FB'.out.2.2.2.2.1; omega) FB'.out.2.2.2.2.2.2 (by have := FB'.out.2.1; omega)
    rw [FB'.out.2.1, P2.out] at HA4
    replace HA4 := Lib.hid HA4
    clear H
    (go_wp2_with fail)
    refine (HA4.out).mono ?_
    rintro e w' ⟨A4, c4, rfl, H⟩
    clear HA4
    have H5 := Lib.hid (H.re [0, 2, 4, 5, 3, 1, 6] rfl)
    -- vec A4, vec A3, vec A2, vec A1, disk a, disk b
    clear H
    go_wp2_with fail
    go_loopw [14] (fun i wx => ∃ k : Nat, k ≤ 8 ∧ i = .int .i64 k ∧ sat w wx (vec 9 Value.string A4 8 c4 a.all :: vec 9 Value.string A3 8 c3 a.all :: vec 9 Value.string A2 8 c2 a.all :: vec 9 Value.string A1 8 c1 a.all :: disk pa (a.crash ones) :: disk pb (b.crash ones) :: oldH w :: [])) (fun i _ => 8 - (intOf i).toNat)
    case atStart => exact ⟨0, by omega, rfl, H5.out⟩
    case round =>
      obtain ⟨k, hk, rfl, H⟩ := hrel
      have HH := Lib.hid H
      clear H5 H
      by_cases hin : k < 8
      · have k0 : (0 : Int) ≤ (k : Int) := by omega
        have k1 : (k : Int) < 8 := by omega
        have q1 := all_get (d := a) (i := k) (by rw [FA.out.2.1]; exact hin)
        obtain ⟨S1, eS1⟩ : ∃ S1, S1 = strB (a.sector k) := ⟨_, rfl⟩
        rw [← eS1] at q1
        clear eS1
        obtain ⟨h4, rfl⟩ := HH.out.vaddr (by omega)
        obtain ⟨h3, rfl⟩ := (HH.out.pull1 : sat _ _ (vec 9 Value.string _ _ _ _ :: _)).vaddr (by omega)
        obtain ⟨h2, rfl⟩ := (HH.out.pull2 : sat _ _ (vec 9 Value.string _ _ _ _ :: _)).vaddr (by omega)
        obtain ⟨h1, rfl⟩ := (HH.out.pull3 : sat _ _ (vec 9 Value.string _ _ _ _ :: _)).vaddr (by omega)
        have CC : Hid (∀ W, sat w W (vec 9 Value.string (some ⟨h4, 0, none⟩) 8 c4 a.all :: vec 9 Value.string (some ⟨h3, 0, none⟩) 8 c3 a.all :: vec 9 Value.string (some ⟨h2, 0, none⟩) 8 c2 a.all :: vec 9 Value.string (some ⟨h1, 0, none⟩) 8 c1 a.all :: disk pa (a.crash ones) :: disk pb (b.crash ones) :: oldH w :: []) →
          W.cell? ⟨h1, k, none⟩ = some (.string S1) ∧ W.cell? ⟨h2, k, none⟩ = some (.string S1) ∧ W.cell? ⟨h3, k, none⟩ = some (.string S1) ∧ W.cell? ⟨h4, k, none⟩ = some (.string S1)) := fun W h => by
          have c1 := (h.pull3 : sat _ _ (vec 9 Value.string _ _ _ _ :: _)).vcell q1
          have c2 := (h.pull2 : sat _ _ (vec 9 Value.string _ _ _ _ :: _)).vcell q1
          have c3 := (h.pull1 : sat _ _ (vec 9 Value.string _ _ _ _ :: _)).vcell q1
          have c4 := h.vcell q1
          rw [Nat.zero_add] at c1 c2 c3 c4
          exact ⟨c1, c2, c3, c4⟩
        clear q1
        go_wp2_with fail
        refine Reg.wp_region_s (HH.out) (fun W => W.cell? ⟨h1, k, none⟩ = some (.string S1) ∧ W.cell? ⟨h2, k, none⟩ = some (.string S1) ∧ W.cell? ⟨h3, k, none⟩ = some (.string S1) ∧ W.cell? ⟨h4, k, none⟩ = some (.string S1)) [3, 7, 13, 17, 24, 28] [] [0, 1, 2, 3, 4, 5, 6, 7, 8, 9, 10, 11, 12, 13, 14, 15, 16, 17, 18, 19, 20, 21, 22, 23, 24, 25, 26, 27, 28, 29, 30] (by kernel_rfl) (by kernel_rfl) (fun W HW => CC.out W HW) (fun W HW => ?_)
        simp only [Reg.pickOps, List.map_cons, List.map_nil, List.getD_cons_zero, List.getD_cons_succ, List.contains_cons, List.contains_nil, Nat.reduceBEq, Bool.or_false, Bool.or_true, Bool.or_self]
        iterate 3 (refine Reg.wpX_y (v := ?_) (fun w' => ?_) rfl ?_; rotate_left 1; focus (go_simp; (try with_reducible rfl)))
        (refine Reg.wpX_l (v := ?_) rfl (fun w' hw => ?_) rfl ?_; rotate_left 1; focus ((try dsimp only at hw); go_split_ands; go_simp; (try with_reducible rfl)))
        iterate 3 (refine Reg.wpX_y (v := ?_) (fun w' => ?_) rfl ?_; rotate_left 1; focus (go_simp; (try with_reducible rfl)))
        (refine Reg.wpX_l (v := ?_) rfl (fun w' hw => ?_) rfl ?_; rotate_left 1; focus ((try dsimp only at hw); go_split_ands; go_simp; (try with_reducible rfl)))
        try simp only [Act.put, List.setIfInBounds_toArray, List.set_cons_zero, List.set_cons_succ]
        iterate 2 (refine Reg.wpX_y (v := ?_) (fun w' => ?_) rfl ?_; rotate_left 1; focus (go_simp; (try with_reducible rfl)))
        iterate 3 (refine Reg.wpX_y (v := ?_) (fun w' => ?_) (by kernel_rfl) ?_; rotate_left 1; focus (go_simp; (try with_reducible rfl)))
        (refine Reg.wpX_l (v := ?_) rfl (fun w' hw => ?_) (by kernel_rfl) ?_; rotate_left 1; focus ((try dsimp only at hw); go_split_ands; go_simp; (try with_reducible rfl)))
        iterate 2 (refine Reg.wpX_y (v := ?_) (fun w' => ?_) (by kernel_rfl) ?_; rotate_left 1; focus (go_simp; (try with_reducible rfl)))
        try simp only [Act.put, List.setIfInBounds_toArray, List.set_cons_zero, List.set_cons_succ]
        (refine Reg.wpX_y (v := ?_) (fun w' => ?_) (by kernel_rfl) ?_; rotate_left 1; focus (go_simp; (try with_reducible rfl)))
        (refine Reg.wpX_l (v := ?_) rfl (fun w' hw => ?_) (by kernel_rfl) ?_; rotate_left 1; focus ((try dsimp only at hw); go_split_ands; go_simp; (try with_reducible rfl)))
        (refine Reg.wpX_y (v := ?_) (fun w' => ?_) (by kernel_rfl) ?_; rotate_left 1; focus (go_simp; (try with_reducible rfl)))
        iterate 2 (refine Reg.wpX_y (v := ?_) (fun w' => ?_) rfl ?_; rotate_left 1; focus (go_simp; (try with_reducible rfl)))
        iterate 3 (refine Reg.wpX_y (v := ?_) (fun w' => ?_) (by kernel_rfl) ?_; rotate_left 1; focus (go_simp; (try with_reducible rfl)))
        try simp only [Act.put, List.setIfInBounds_toArray, List.set_cons_zero, List.set_cons_succ]
        (refine Reg.wpX_l (v := ?_) rfl (fun w' hw => ?_) (by kernel_rfl) ?_; rotate_left 1; focus ((try dsimp only at hw); go_split_ands; go_simp; (try with_reducible rfl)))
        iterate 3 (refine Reg.wpX_y (v := ?_) (fun w' => ?_) (by kernel_rfl) ?_; rotate_left 1; focus (go_simp; (try with_reducible rfl)))
        (refine Reg.wpX_l (v := ?_) rfl (fun w' hw => ?_) (by kernel_rfl) ?_; rotate_left 1; focus ((try dsimp only at hw); go_split_ands; go_simp; (try with_reducible rfl)))
        (refine Reg.wpX_y (v := ?_) (fun w' => ?_) (by kernel_rfl) ?_; rotate_left 1; focus (go_simp; (try with_reducible rfl)))
        (refine Reg.wpX_y (v := ?_) (fun w' => ?_) rfl ?_; rotate_left 1; focus (go_simp; (try with_reducible rfl)))
        try simp only [Act.put, List.setIfInBounds_toArray, List.set_cons_zero, List.set_cons_succ]
        refine Reg.wpX_nil ?_
        have HE := Lib.hid HW
        clear HW HH
        go_wp2
        go_roundw
        case rel => exact ⟨k + 1, by omega, by go_num, HE.out⟩
        case measure => simp [intOf] <;> omega
      · obtain rfl : k = 8 := by omega
        have k1 : ¬ ((8 : Nat) : Int) < 8 := by omega
        have D1 := Lib.hid (Deeds_any HH.out.pull5)
        have D2 := Lib.hid (Deeds_any HH.out.pull4)
        have D3 := Waits_any HH.out.pull4
        rw [WA.out] at D3
        replace D3 := Lib.hid D3
        have hd2 : ((a.crash ones).deeds : Int) ≤ ((b.crash ones).deeds : Int) := by show (a.deeds : Int) ≤ (b.deeds : Int); omega
        have HB := Lib.hid HH.out.pull6.toBelow
        clear HH
        (go_wp2_with fail)
        refine (D1.out).mono ?_
        rintro e w' ⟨rfl, rfl⟩
        (go_wp2_with fail)
        refine (D2.out).mono ?_
        rintro e w' ⟨rfl, rfl⟩
        (go_wp2_with fail)
        refine (D3.out).mono ?_
        rintro e w' ⟨rfl, rfl⟩
        go_wp2
        go_ret
        exact ⟨rfl, HB.out⟩
theorem two_row (A : Option Addr) (c : Nat) (l : List (List Value)) (v : Int) (w : World)
    (_hc : l.length ≤ c) (hl : SlR 4 (fun v => v) w A l) (hw : ∀ vs ∈ l, fitsBy ([.kd (.int .i64), .kd (.int .i64), .bytes, .kd (.int .u64)].map (Sp.ok w)) vs) (hm : l.length * 48 ≤ 140737488351232) (hv : (Lit.int .u8 v).wf = true) :
    Calls Try.prog 5 #[.slice A l.length c, .int .u8 v] w fun e w' => e = .returned (.bool true) ∧ Below w.heap.size w w' := by
  obtain ⟨m, rfl, g⟩ := decode_acts hw
  have hz' : 0 ≤ v ∧ v ≤ 255 := by simpa [Lit.wf, IntKind.min, IntKind.max, IntKind.signed, IntKind.bits] using hv
  rw [List.length_map] at hm ⊢
  exact two_any A c m v w (by omega) (hl.map encA (fun _ => rfl)) g (by omega)
end Go.Proofs.Ytbkjkiaicaopoaa.Dk
