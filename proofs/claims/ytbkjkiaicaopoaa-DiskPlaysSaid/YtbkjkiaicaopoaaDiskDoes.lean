/-
  One deed, done on the disk and on its reference: they answer alike.
-/
import Derived.Test.YtbkjkiaicaopoaaRefDisk
import Derived.Test.YtbkjkiaicaopoaaDiskLasts
import Derived.Test.YtbkjkiaicaopoaaRegP
import Derived.Test.YtbkjkiaicaopoaaStrs
namespace Go.Proofs.Ytbkjkiaicaopoaa.Dk
open Go.RowKit Go.Proofs.Ytbkjkiaicaopoaa

section
variable {E w : World} {p r : Nat} {d : DiskSt} {L : List HP}
set_option maxRecDepth 100000 in
theorem rNew_any (sectors size : Nat) (H : sat E w L) (h1 : sectors ≤ 1048576) (h2 : size ≤ 1048576) :
    Calls Try.prog 24 #[.int .i64 sectors, .int .i64 size] w fun e w' => ∃ p, e = .returned (.pointer (some ⟨p, 0, none⟩)) ∧ sat E w' (rdisk p (fresh sectors size) :: L) := by
  have H0 := Lib.hid ((H.nilVec 9 encS).alloc #[.slice none 0 0, .int .i64 size, .slice none 0 0, .int .i64 (-1), .bool false, .int .i64 0] 48)
  have HS : Hid (size ≤ 1048576 ∧ sectors ≤ 1048576) := ⟨h2, h1⟩
  clear H h1 h2
  go_enter Try.func24, Try.ntmps24
  go_wp2
  go_loopw [6] (fun i wr => ∃ (k c : Nat) (A : Option Addr), k ≤ sectors ∧ i = .int .i64 k ∧
    sat E wr (blk w.heap.size #[.slice A k c, .int .i64 size, .slice none 0 0, .int .i64 (-1), .bool false, .int .i64 0] 48 :: vec 9 encS A k c (List.replicate k (List.replicate size 0)) :: L)) (fun i _ => sectors - (intOf i).toNat)
  case atStart => exact ⟨0, 0, none, Nat.zero_le _, rfl, H0.out⟩
  case round =>
    obtain ⟨k, c, A, hk, rfl, H⟩ := hrel
    clear H0
    by_cases hlt : k < sectors
    · have k1 : (k : Int) < (sectors : Int) := by omega
      have kb2 : (k : Int) < 1048576 := by have := HS.out; omega
      have kb : Hid (k < 1099511627776) := by show _ < _; have := HS.out; omega
      have HH := Lib.hid H
      clear H
      go_wp2_with fail
      refine Reg.wp_region_s (HH.out) (fun W => W.cell? ⟨w.heap.size, 0, none⟩ = some (.slice A k c)) [4] [6, 7, 8, 11] [0, 1, 2, 3, 4, 5, 6, 7, 8, 9, 10, 11] (by kernel_rfl) (by kernel_rfl) (fun W HW => HW.cell 0) (fun W HW => ?_)
      simp only [Reg.pickOps, List.map_cons, List.map_nil, List.getD_cons_zero, List.getD_cons_succ, List.contains_cons, List.contains_nil, Nat.reduceBEq, Bool.or_false, Bool.or_true, Bool.or_self]
      iterate 4 (refine Reg.wpX_y (v := ?_) (fun w' => ?_) rfl ?_; rotate_left 1; focus (go_simp; (try with_reducible rfl)))
      (refine Reg.wpX_l (v := ?_) rfl (fun w' hw => ?_) rfl ?_; rotate_left 1; focus ((try dsimp only at hw); go_split_ands; go_simp; (try with_reducible rfl)))
      (refine Reg.wpX_y (v := ?_) (fun w' => ?_) rfl ?_; rotate_left 1; focus (go_simp; (try with_reducible rfl)))
      try simp only [Act.put, List.setIfInBounds_toArray, List.set_cons_zero, List.set_cons_succ]
      have HZ := Lib.hid (rzeros_any size HS.out.1 HW)
      refine Reg.wpX_go rfl (fun K hK => ?_)
      go_simp
      refine HZ.out.mono ?_
      rintro ee w2 ⟨rfl, H1⟩
      dsimp only [encS]
      refine hK _ _ (H1.cell 0) ?_
      try simp only [Act.put, List.setIfInBounds_toArray, List.set_cons_zero, List.set_cons_succ]
      refine Reg.wpX_go rfl (fun K hK => ?_)
      go_simp
      have H2 := H1.alloc #[.string (strB (List.replicate size 0))] 9
      refine hK _ _ (H2.pull1.cell 0) ?_
      try simp only [Act.put, List.setIfInBounds_toArray, List.set_cons_zero, List.set_cons_succ]
      refine Reg.wpX_last rfl (by kernel_rfl) (fun K hK => ?_)
      refine wp_app1 (.tmp 19) (.tmp 22) 34 rfl infoRS Try.underlying34 rfl (by decide) H1.pull1 (List.replicate size 0) rfl rfl rfl rfl (encS_one _) kb.out (fun A3 c3 w3 H3 => ?_)
      refine hK _ _ ?_
      iterate 2 (refine Reg.wpX_y (v := ?_) (fun w' => ?_) rfl ?_; rotate_left 1; focus (go_simp; (try with_reducible rfl)))
      try simp only [Act.put, List.setIfInBounds_toArray, List.set_cons_zero, List.set_cons_succ]
      have g3 := H3.pull1.cell 0
      have f3 := H3.pull1.frozen 0
      refine Reg.wpX_last rfl (by kernel_rfl) (fun K hK => ?_)
      go_simp
      have H4 := H3.pull1.setCell 0 (.slice A3 (k + 1) c3)
      rw [← List.replicate_succ'] at H4
      have H5 := Lib.hid H4
      clear H1 H2 H3 H4 HH HW g3 f3
      refine hK _ _ ?_
      try simp only [Act.put, List.setIfInBounds_toArray, List.set_cons_zero, List.set_cons_succ]
      refine Reg.wpX_nil ?_
      go_wp2
      go_roundw
      case rel => exact ⟨k + 1, c3, A3, by omega, by go_num, H5.out⟩
      case measure => simp [intOf] <;> omega
    · obtain rfl : k = sectors := by omega
      have k1 : ¬ (k : Int) < (k : Int) := by omega
      have HF := Lib.hid (rdisk_shut (d := fresh k size) ((H.nilRows 119 2 rwcell).re [1, 2, 0] rfl))
      clear H
      go_wp2
      go_ret
      exact ⟨_, rfl, HF.out⟩
/-- What one deed does. -/
def step7 (d : DiskSt) (x : Act7) : DiskSt :=
  if x.kd = 1 then (d.write x.i x.b).2 else if x.kd = 2 then d.flush.2 else if x.kd = 3 then d.fused x.i else if x.kd = 4 then d.crash x.pt.toNat else d
/-- A disk behind at most k deeds, no greater than numbers are. -/
def capD (d : DiskSt) (k : Nat) : Prop := d.ok ∧ d.last.length < 1048576 ∧ 0 < d.size ∧ d.size ≤ 1048576 ∧ d.deeds ≤ k ∧ d.waits.length ≤ k ∧ d.fuse < 9223372036854775808 ∧ k < 100000
set_option maxHeartbeats 2000000 in
set_option maxRecDepth 100000 in
theorem does_any (x : Act7) (k : Nat) (H : sat E w (disk p d :: rdisk r d :: L)) (hn : x.b.length = x.n) (hb : ∀ W, sat E W L → Sl B8 W x.A x.b) (hp : 0 ≤ x.pt ∧ x.pt < 18446744073709551616) (hc : capD d k) :
    Calls Try.prog 25 #[.pointer (some ⟨p, 0, none⟩), .pointer (some ⟨r, 0, none⟩), .agg #[.int .i64 x.kd, .int .i64 x.i, .slice x.A x.n x.c, .int .u64 x.pt]] w fun e w' => e = .returned (.bool true) ∧ sat E w' (disk p (step7 d x) :: rdisk r (step7 d x) :: L) := by
  obtain ⟨kd, i, A, n, c, pt, b⟩ := x
  dsimp only at hn hb hp ⊢
  subst hn
  obtain ⟨c1, c2, c3, c4, c5, c6, c7, c8⟩ := hc
  have HO := Lib.hid (H.alloc #[.int .i64 kd, .int .i64 i, .slice A b.length c, .int .u64 pt] 32)
  have o0 := HO.out.cell 0
  have o1 := HO.out.cell 1
  have o2 := HO.out.cell 2
  have o3 := HO.out.cell 3
  have HB := Lib.hid hb
  unfold step7
  dsimp only
  clear H hb
  by_cases e1 : kd = 1
  · subst e1
    rw [if_pos rfl]
    go_enter Try.func25, Try.ntmps25
    go_wp2_with fail
    refine Reg.wp_region_s (HO.out) (fun W => W.cell? ⟨w.heap.size, 1, none⟩ = some (.int .i64 i) ∧ W.cell? ⟨w.heap.size, 2, none⟩ = some (.slice A b.length c)) [2, 4, 8, 10] [5, 11] [0, 1, 2, 3, 4, 6, 7, 8, 9, 10, 5, 11, 12, 13] (by kernel_rfl) (by kernel_rfl) (fun W HW => ⟨HW.cell 1, HW.cell 2⟩) (fun W HW => ?_)
    simp only [Reg.pickOps, List.map_cons, List.map_nil, List.getD_cons_zero, List.getD_cons_succ, List.contains_cons, List.contains_nil, Nat.reduceBEq, Bool.or_false, Bool.or_true, Bool.or_self]
    iterate 2 (refine Reg.wpX_y (v := ?_) (fun w' => ?_) rfl ?_; rotate_left 1; focus (go_simp; (try with_reducible rfl)))
    (refine Reg.wpX_l (v := ?_) rfl (fun w' hw => ?_) rfl ?_; rotate_left 1; focus ((try dsimp only at hw); go_split_ands; go_simp; (try with_reducible rfl)))
    (refine Reg.wpX_y (v := ?_) (fun w' => ?_) rfl ?_; rotate_left 1; focus (go_simp; (try with_reducible rfl)))
    (refine Reg.wpX_l (v := ?_) rfl (fun w' hw => ?_) rfl ?_; rotate_left 1; focus ((try dsimp only at hw); go_split_ands; go_simp; (try with_reducible rfl)))
    iterate 2 (refine Reg.wpX_y (v := ?_) (fun w' => ?_) rfl ?_; rotate_left 1; focus (go_simp; (try with_reducible rfl)))
    (refine Reg.wpX_l (v := ?_) rfl (fun w' hw => ?_) rfl ?_; rotate_left 1; focus ((try dsimp only at hw); go_split_ands; go_simp; (try with_reducible rfl)))
    (refine Reg.wpX_y (v := ?_) (fun w' => ?_) rfl ?_; rotate_left 1; focus (go_simp; (try with_reducible rfl)))
    (refine Reg.wpX_l (v := ?_) rfl (fun w' hw => ?_) rfl ?_; rotate_left 1; focus ((try dsimp only at hw); go_split_ands; go_simp; (try with_reducible rfl)))
    try simp only [Act.put, List.setIfInBounds_toArray, List.set_cons_zero, List.set_cons_succ]
    have HW1 := Lib.hid (Write_any (i := i) (c := c) (b := b) HW.pull1 (by omega) (by omega) (fun W h => HB.out _ h.tail.tail) rfl c3 c4 (by omega))
    refine Reg.wpX_go rfl (fun K hK => ?_)
    go_simp
    refine HW1.out.mono ?_
    rintro ee w2 ⟨rfl, H1⟩
    refine hK _ _ ⟨H1.pull1.cell 1, H1.pull1.cell 2⟩ ?_
    try simp only [Act.put, List.setIfInBounds_toArray, List.set_cons_zero, List.set_cons_succ]
    have HW2 := Lib.hid (rWrite_any (i := i) (c := c) (b := b) H1.pull2 (by omega) (by omega) (fun W h => HB.out _ h.tail.tail) rfl c4 (by omega))
    refine Reg.wpX_go rfl (fun K hK => ?_)
    go_simp
    refine HW2.out.mono ?_
    rintro ee w3 ⟨rfl, H2⟩
    refine hK _ _ ⟨H2.pull2.cell 1, H2.pull2.cell 2⟩ ?_
    iterate 2 (refine Reg.wpX_y (v := ?_) (fun w' => ?_) rfl ?_; rotate_left 1; focus (go_simp; (try with_reducible rfl)))
    try simp only [Act.put, List.setIfInBounds_toArray, List.set_cons_zero, List.set_cons_succ]
    refine Reg.wpX_nil ?_
    have HF := Lib.hid (H2.choose 3 [1, 0] rfl rfl)
    clear H1 H2 HW1 HW2 HW HO o0 o1 o2 o3
    go_wp2
    go_ret
    exact ⟨rfl, HF.out⟩
  by_cases e2 : kd = 2
  · subst e2
    rw [if_neg (by decide), if_pos rfl]
    have HF1 := Lib.hid (Flush_any HO.out.pull1 c1 (by omega) (by omega) (by omega))
    clear e1
    go_enter Try.func25, Try.ntmps25
    (go_wp2_with fail)
    refine (HF1.out).mono ?_
    rintro e w' ⟨rfl, H1⟩
    have HF2 := Lib.hid (rFlush_any H1.pull2 c1 (by omega) (by omega) (by omega) c2)
    (go_wp2_with fail)
    refine (HF2.out).mono ?_
    rintro e w' ⟨rfl, H2⟩
    have HF := Lib.hid (H2.choose 3 [1, 0] rfl rfl)
    clear H1 H2 HF1 HF2 HO o0 o1 o2 o3
    go_wp2
    go_ret
    exact ⟨by simp, HF.out⟩
  by_cases e3 : kd = 3
  · subst e3
    rw [if_neg (by decide), if_neg (by decide), if_pos rfl]
    have HF1 := Lib.hid (Fuse_any i HO.out.pull1)
    clear e1 e2
    go_enter Try.func25, Try.ntmps25
    (go_wp2_with fail)
    refine (HF1.out).mono ?_
    rintro e w' ⟨rfl, H1⟩
    have o1 := H1.pull1.cell 1
    obtain ⟨A2, cc2, B2, e2, Hk, hback⟩ := rdisk_peek H1.pull2
    have r3 := Hk.cell 3
    have q3 := Hk.frozen 3
    have HBk := Lib.hid hback
    have ne : ¬ r = w.heap.size := Hk.pull2.ne.symm
    have ne2 : ¬ w.heap.size = r := Hk.pull2.ne
    clear H1 Hk hback HF1 HO o0 o2 o3
    by_cases hneg : i < 0
    · have em : max i (-1) = -1 := by omega
      have HF : sat E _ (rdisk r (d.fused i) :: _) := HBk.out _ (d.fused i) _ rfl rfl (fun R h => by
        show sat E _ (blk r #[_, _, _, .int .i64 (max i (-1)), _, _] _ :: _)
        rw [em]
        exact (h.setCell 3 (.int .i64 i)).setCell 3 (.int .i64 (-1)))
      have HF2 := Lib.hid (HF.choose 3 [1, 0] rfl rfl)
      clear HF HBk em
      go_wp2
      go_ret
      exact ⟨rfl, HF2.out⟩
    · have em : max i (-1) = i := by omega
      have HF : sat E _ (rdisk r (d.fused i) :: _) := HBk.out _ (d.fused i) _ rfl rfl (fun R h => by
        show sat E _ (blk r #[_, _, _, .int .i64 (max i (-1)), _, _] _ :: _)
        rw [em]
        exact h.setCell 3 (.int .i64 i))
      have HF2 := Lib.hid (HF.choose 3 [1, 0] rfl rfl)
      clear HF HBk em
      go_wp2
      go_ret
      exact ⟨rfl, HF2.out⟩
  by_cases e4 : kd = 4
  · subst e4
    rw [if_neg (by decide), if_neg (by decide), if_neg (by decide), if_pos rfl]
    obtain ⟨q, rfl⟩ := Int.eq_ofNat_of_zero_le hp.1
    rw [Int.toNat_natCast]
    have HF1 := Lib.hid (Crash_any q HO.out.pull1 (by omega) c1 (by omega))
    clear e1 e2 e3
    go_enter Try.func25, Try.ntmps25
    (go_wp2_with fail)
    refine (HF1.out).mono ?_
    rintro e w' ⟨rfl, H1⟩
    have o3 := H1.pull1.cell 3
    have HF2 := Lib.hid (rCrash_any q H1.pull2 (by omega) c1 (by omega) c2)
    (go_wp2_with fail)
    refine (HF2.out).mono ?_
    rintro e w' ⟨rfl, H2⟩
    have HF := Lib.hid (H2.choose 3 [1, 0] rfl rfl)
    clear H1 H2 HF1 HF2 HO o0 o1 o2 o3
    go_wp2
    go_ret
    exact ⟨rfl, HF.out⟩
  by_cases e5 : kd = 5
  · subst e5
    rw [if_neg (by decide), if_neg (by decide), if_neg (by decide), if_neg (by decide)]
    have HR := Read_any i HO.out.pull1 c4 c1 (by omega)
    unfold DiskSt.read at HR
    clear e1 e2 e3 e4
    by_cases h1 : d.dark = true
    · rw [if_pos h1] at HR
      replace HR := Lib.hid HR
      go_enter Try.func25, Try.ntmps25
      go_wp2_with fail
      refine HR.out.mono ?_
      rintro e w' ⟨⟨SA, sn, sc, sl⟩, hl, rfl, H⟩
      dsimp only at hl
      subst hl
      obtain rfl : 0 = sn := sat.len H
      dsimp only [Sec.v]
      obtain ⟨A2, cc2, B2, e2, Hk, -⟩ := rdisk_peek (H.pull3)
      have r4 := Hk.cell 4
      rw [h1] at r4
      have HF := Lib.hid (H.choose 4 [1, 3] rfl rfl)
      clear H Hk HR HO o0 o1 o2 o3 h1
      go_wp2
      go_ret
      exact ⟨rfl, HF.out⟩
    rw [if_neg h1] at HR
    have h1' : d.dark = false := by simpa using h1
    by_cases h2 : 0 ≤ i ∧ i < (d.last.length : Int)
    · rw [if_pos h2] at HR
      replace HR := Lib.hid HR
      obtain ⟨j, rfl⟩ := Int.eq_ofNat_of_zero_le h2.1
      have HJ : Hid (j < d.last.length) := by show _ < _; omega
      have h21 := h2.2
      have h20 := h2.1
      have HDK := Lib.hid h1'
      clear h2 h1 h1'
      go_enter Try.func25, Try.ntmps25
      go_wp2_with fail
      refine HR.out.mono ?_
      rintro e w' ⟨⟨SA, sn, sc, sl⟩, hl, rfl, H⟩
      dsimp only at hl
      rw [Int.toNat_natCast] at hl
      dsimp only [Sec.v]
      obtain ⟨A2, cc2, B2, e2, Hk, -⟩ := rdisk_peek (H.pull3)
      have r4 := Hk.cell 4
      rw [HDK.out] at r4
      have HL := Lib.hid hl
      have HH := Lib.hid (H.re [2, 0, 1, 3] rfl)
      clear H Hk HR HO o0 o1 o2 o3 hl
      obtain ⟨A3, cc3, B3, e3, H3⟩ := rdisk_open (HH.out.pull3)
      have H4 := Lib.hid H3
      clear H3
      go_wp2_with fail
      refine Reg.wp_region_s (H4.out) (fun W => W.cell? ⟨w.heap.size, 1, none⟩ = some (.int .i64 j) ∧ W.cell? ⟨r, 0, none⟩ = some (.slice A3 d.last.length cc3)) [1, 5, 9] [] [0, 1, 2, 3, 4, 5, 6, 7, 8, 9, 10, 11, 12] (by kernel_rfl) (by kernel_rfl) (fun W HW => ⟨HW.pull3.cell 1, HW.cell 0⟩) (fun W HW => ?_)
      simp only [Reg.pickOps, List.map_cons, List.map_nil, List.getD_cons_zero, List.getD_cons_succ, List.contains_cons, List.contains_nil, Nat.reduceBEq, Bool.or_false, Bool.or_true, Bool.or_self]
      (refine Reg.wpX_y (v := ?_) (fun w' => ?_) rfl ?_; rotate_left 1; focus (go_simp; (try with_reducible rfl)))
      (refine Reg.wpX_l (v := ?_) rfl (fun w' hw => ?_) rfl ?_; rotate_left 1; focus ((try dsimp only at hw); go_split_ands; go_simp; (try with_reducible rfl)))
      iterate 2 (refine Reg.wpX_y (v := ?_) (fun w' => ?_) rfl ?_; rotate_left 1; focus (go_simp; (try with_reducible rfl)))
      (refine Reg.wpX_y (v := ?_) (fun w' => ?_) (by kernel_rfl) ?_; rotate_left 1; focus (go_simp; (try with_reducible rfl)))
      (refine Reg.wpX_l (v := ?_) rfl (fun w' hw => ?_) (by kernel_rfl) ?_; rotate_left 1; focus ((try dsimp only at hw); go_split_ands; go_simp; (try with_reducible rfl)))
      iterate 3 (refine Reg.wpX_y (v := ?_) (fun w' => ?_) (by kernel_rfl) ?_; rotate_left 1; focus (go_simp; (try with_reducible rfl)))
      (refine Reg.wpX_l (v := ?_) rfl (fun w' hw => ?_) (by kernel_rfl) ?_; rotate_left 1; focus ((try dsimp only at hw); go_split_ands; go_simp; (try with_reducible rfl)))
      iterate 2 (refine Reg.wpX_y (v := ?_) (fun w' => ?_) (by kernel_rfl) ?_; rotate_left 1; focus (go_simp; (try with_reducible rfl)))
      (refine Reg.wpX_y (v := ?_) (fun w' => ?_) rfl ?_; rotate_left 1; focus (go_simp; (try with_reducible rfl)))
      try simp only [Act.put, List.setIfInBounds_toArray, List.set_cons_zero, List.set_cons_succ]
      refine Reg.wpX_nil ?_
      have H5 := Lib.hid (rdisk_shut HW)
      clear HW H4 HH r4
      go_wp2_with fail
      refine RegP.wp_region_p (H5.out) [6, 10] [0, 1, 2, 3, 4, 5, 7, 8, 6, 9, 10, 11, 12, 13] (by kernel_rfl) (by kernel_rfl) (fun W HW => ?_)
      simp only [Reg.pickOps, List.map_cons, List.map_nil, List.getD_cons_zero, List.getD_cons_succ, List.contains_cons, List.contains_nil, Nat.reduceBEq, Bool.or_false, Bool.or_true, Bool.or_self]
      iterate 3 (refine RegP.wpX_y (v := ?_) (fun w' => ?_) rfl ?_; rotate_left 1; focus (go_simp; (try with_reducible rfl)))
      (refine RegP.wpX_y (v := ?_) (fun w' => ?_) (by kernel_rfl) ?_; rotate_left 1; focus (go_simp; (try with_reducible rfl)))
      (refine RegP.wpX_l (v := ?_) (fun W => (convert 30 9 (.slice SA sn sc)).run Try.prog W = .ok (.string (strB sl)) W) (conv_sl Try.underlying30 Try.underlying5 Try.underlying9 (sat.len HW.pull2) (sat.Sl HW.pull2)) (fun w' hw => ?_) (by kernel_rfl) ?_; rotate_left 1; focus ((try dsimp only at hw); go_split_ands; go_simp; (try with_reducible rfl)))
      iterate 2 (refine RegP.wpX_y (v := ?_) (fun w' => ?_) (by kernel_rfl) ?_; rotate_left 1; focus (go_simp; (try with_reducible rfl)))
      (refine RegP.wpX_l (v := ?_) (fun W => W.cell? ⟨w.heap.size, 1, none⟩ = some (.int .i64 j)) (HW.pull1.cell 1) (fun w' hw => ?_) (by kernel_rfl) ?_; rotate_left 1; focus ((try dsimp only at hw); go_split_ands; go_simp; (try with_reducible rfl)))
      try simp only [Act.put, List.setIfInBounds_toArray, List.set_cons_zero, List.set_cons_succ]
      have HS := Lib.hid (rSeen_any ones HW (by decide) c1 (by omega) c2)
      refine RegP.wpX_go [fun W => W.cell? ⟨w.heap.size, 1, none⟩ = some (.int .i64 j), fun W => (convert 30 9 (.slice SA sn sc)).run Try.prog W = .ok (.string (strB sl)) W] (by kernel_rfl) (by kernel_rfl) (fun K hK => ?_)
      go_simp
      refine HS.out.mono ?_
      rintro ee w2 ⟨A4, c4', rfl, H6⟩
      have hsec : (keepL ones 0 d.last d.waits)[j]? = some sl := by
        unfold ones
        rw [keepL_ones j d.waits 0 d.last HJ.out, HL.out]; rfl
      obtain ⟨g, rfl⟩ := sat.vaddr H6 (by have := HJ.out; omega)
      have v0 : w2.cell? ⟨g, 0 + j, none⟩ = some (encS sl) := sat.vcell H6 hsec
      rw [Nat.zero_add] at v0
      replace v0 : w2.cell? ⟨g, j, none⟩ = some (.string (strB sl)) := v0
      refine hK _ _ ⟨H6.pull2.cell 1, conv_sl Try.underlying30 Try.underlying5 Try.underlying9 (sat.len H6.pull3) (sat.Sl H6.pull3), trivial⟩ ?_
      (refine RegP.wpX_y (v := ?_) (fun w' => ?_) (by kernel_rfl) ?_; rotate_left 1; focus (go_simp; (try with_reducible rfl)))
      try simp only [Act.put, List.setIfInBounds_toArray, List.set_cons_zero, List.set_cons_succ]
      refine RegP.wpX_go [fun W => W.cell? ⟨w.heap.size, 1, none⟩ = some (.int .i64 j), fun W => (convert 30 9 (.slice SA sn sc)).run Try.prog W = .ok (.string (strB sl)) W] (by kernel_rfl) (by kernel_rfl) (fun K hK => ?_)
      go_simp
      refine hK _ _ ⟨H6.pull2.cell 1, conv_sl Try.underlying30 Try.underlying5 Try.underlying9 (sat.len H6.pull3) (sat.Sl H6.pull3), trivial⟩ ?_
      (refine RegP.wpX_y (v := ?_) (fun w' => ?_) (by kernel_rfl) ?_; rotate_left 1; focus (go_simp; (try with_reducible rfl)))
      iterate 2 (refine RegP.wpX_y (v := ?_) (fun w' => ?_) rfl ?_; rotate_left 1; focus (go_simp; (try with_reducible rfl)))
      try simp only [Act.put, List.setIfInBounds_toArray, List.set_cons_zero, List.set_cons_succ]
      refine RegP.wpX_nil ?_
      have HF := Lib.hid (H6.choose 5 [4, 1] rfl rfl)
      clear H6 HW HS H5 hsec v0
      go_wp2
      go_ret
      exact ⟨by simp, HF.out⟩
    · rw [if_neg h2] at HR
      replace HR := Lib.hid HR
      have HDK := Lib.hid h1'
      clear h1 h1'
      by_cases hneg : i < 0
      · clear h2
        go_enter Try.func25, Try.ntmps25
        go_wp2_with fail
        refine HR.out.mono ?_
        rintro e w' ⟨⟨SA, sn, sc, sl⟩, hl, rfl, H⟩
        dsimp only at hl
        subst hl
        obtain rfl : 0 = sn := sat.len H
        dsimp only [Sec.v]
        obtain ⟨A2, cc2, B2, e2, Hk, -⟩ := rdisk_peek (H.pull3)
        have r4 := Hk.cell 4
        rw [HDK.out] at r4
        have HH := Lib.hid (H.re [2, 0, 1, 3] rfl)
        clear H Hk HR HO o0 o1 o2 o3
        go_wp2_with fail
        have t : decide (i < 0) = true := decide_eq_true hneg
        refine Reg.wp_region_s (HH.out) (fun W => W.cell? ⟨w.heap.size, 1, none⟩ = some (.int .i64 i)) [1, 5, 9] [] [0, 1, 2, 3, 4, 5, 6, 7, 8, 9, 10, 11, 12] (by kernel_rfl) (by kernel_rfl) (fun W HW => HW.cell 1) (fun W HW => ?_)
        simp only [Reg.pickOps, List.map_cons, List.map_nil, List.getD_cons_zero, List.getD_cons_succ, List.contains_cons, List.contains_nil, Nat.reduceBEq, Bool.or_false, Bool.or_true, Bool.or_self]
        (refine Reg.wpX_y (v := ?_) (fun w' => ?_) rfl ?_; rotate_left 1; focus (go_simp; (try with_reducible rfl)))
        (refine Reg.wpX_l (v := ?_) rfl (fun w' hw => ?_) rfl ?_; rotate_left 1; focus ((try dsimp only at hw); go_split_ands; go_simp; (try with_reducible rfl)))
        iterate 2 (refine Reg.wpX_y (v := ?_) (fun w' => ?_) rfl ?_; rotate_left 1; focus (go_simp; (try with_reducible rfl)))
        iterate 8 (refine Reg.wpX_off (by kernel_rfl) ?_)
        (refine Reg.wpX_y (v := ?_) (fun w' => ?_) rfl ?_; rotate_left 1; focus (go_simp; (try with_reducible rfl)))
        try simp only [Act.put, List.setIfInBounds_toArray, List.set_cons_zero, List.set_cons_succ]
        refine Reg.wpX_nil ?_
        have HF := Lib.hid (HW.choose 4 [2, 3] rfl rfl (by simp [putIn]))
        clear HW HH
        go_wp2
        go_ret
        exact ⟨rfl, HF.out⟩
      · have hge : (d.last.length : Int) ≤ i := by omega
        clear h2
        go_enter Try.func25, Try.ntmps25
        go_wp2_with fail
        refine HR.out.mono ?_
        rintro e w' ⟨⟨SA, sn, sc, sl⟩, hl, rfl, H⟩
        dsimp only at hl
        subst hl
        obtain rfl : 0 = sn := sat.len H
        dsimp only [Sec.v]
        obtain ⟨A2, cc2, B2, e2, Hk, -⟩ := rdisk_peek (H.pull3)
        have r4 := Hk.cell 4
        rw [HDK.out] at r4
        have HH := Lib.hid (H.re [2, 0, 1, 3] rfl)
        clear H Hk HR HO o0 o1 o2 o3
        obtain ⟨A3, cc3, B3, e3, H3⟩ := rdisk_open (HH.out.pull3)
        have H4 := Lib.hid H3
        clear H3
        go_wp2_with fail
        have t : decide (i < 0) = false := decide_eq_false (by omega)
        have t2 : decide ((d.last.length : Int) ≤ i) = true := decide_eq_true (by omega)
        refine Reg.wp_region_s (H4.out) (fun W => W.cell? ⟨w.heap.size, 1, none⟩ = some (.int .i64 i) ∧ W.cell? ⟨r, 0, none⟩ = some (.slice A3 d.last.length cc3)) [1, 5, 9] [] [0, 1, 2, 3, 4, 5, 6, 7, 8, 9, 10, 11, 12] (by kernel_rfl) (by kernel_rfl) (fun W HW => ⟨HW.pull3.cell 1, HW.cell 0⟩) (fun W HW => ?_)
        simp only [Reg.pickOps, List.map_cons, List.map_nil, List.getD_cons_zero, List.getD_cons_succ, List.contains_cons, List.contains_nil, Nat.reduceBEq, Bool.or_false, Bool.or_true, Bool.or_self]
        (refine Reg.wpX_y (v := ?_) (fun w' => ?_) rfl ?_; rotate_left 1; focus (go_simp; (try with_reducible rfl)))
        (refine Reg.wpX_l (v := ?_) rfl (fun w' hw => ?_) rfl ?_; rotate_left 1; focus ((try dsimp only at hw); go_split_ands; go_simp; (try with_reducible rfl)))
        iterate 2 (refine Reg.wpX_y (v := ?_) (fun w' => ?_) rfl ?_; rotate_left 1; focus (go_simp; (try with_reducible rfl)))
        (refine Reg.wpX_y (v := ?_) (fun w' => ?_) (by kernel_rfl) ?_; rotate_left 1; focus (go_simp; (try with_reducible rfl)))
        (refine Reg.wpX_l (v := ?_) rfl (fun w' hw => ?_) (by kernel_rfl) ?_; rotate_left 1; focus ((try dsimp only at hw); go_split_ands; go_simp; (try with_reducible rfl)))
        iterate 3 (refine Reg.wpX_y (v := ?_) (fun w' => ?_) (by kernel_rfl) ?_; rotate_left 1; focus (go_simp; (try with_reducible rfl)))
        (refine Reg.wpX_l (v := ?_) rfl (fun w' hw => ?_) (by kernel_rfl) ?_; rotate_left 1; focus ((try dsimp only at hw); go_split_ands; go_simp; (try with_reducible rfl)))
        iterate 2 (refine Reg.wpX_y (v := ?_) (fun w' => ?_) (by kernel_rfl) ?_; rotate_left 1; focus (go_simp; (try with_reducible rfl)))
        (refine Reg.wpX_y (v := ?_) (fun w' => ?_) rfl ?_; rotate_left 1; focus (go_simp; (try with_reducible rfl)))
        try simp only [Act.put, List.setIfInBounds_toArray, List.set_cons_zero, List.set_cons_succ]
        refine Reg.wpX_nil ?_
        have HX := rdisk_shut (d := d) HW
        have HF := Lib.hid (HX.choose 4 [3, 0] rfl rfl)
        clear HW HX HH H4
        go_wp2
        go_ret
        exact ⟨rfl, HF.out⟩
  rw [if_neg e1, if_neg e2, if_neg e3, if_neg e4]
  have HF := Lib.hid (HO.out.choose 1 [] rfl rfl)
  clear HO o1 o2 o3
  go_enter Try.func25, Try.ntmps25
  go_wp2
  go_ret
  exact ⟨rfl, HF.out⟩
end
end Go.Proofs.Ytbkjkiaicaopoaa.Dk
