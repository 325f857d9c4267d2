/-
  DiskFuses: with any fuse just so many deeds are done; then the disk is dark, and a crash ends it.
-/
import Derived.Test.YtbkjkiaicaopoaaDiskLasts
namespace Go.Proofs.Ytbkjkiaicaopoaa.Dk
open Go.RowKit Go.Proofs.Ytbkjkiaicaopoaa

/-- A disk on which n deeds may be done in all (below 0: any number). -/
def fz (n : Int) (d : DiskSt) : Prop := (0 ≤ n → d.fuse = n - d.deeds ∧ 0 ≤ d.fuse) ∧ (d.dark = true → 0 ≤ n ∧ d.fuse = 0) ∧ (n < 0 → d.fuse = -1)
/-- A disk of 8 sectors behind at most k calls. -/
def cap8 (d : DiskSt) (k : Nat) : Prop := d.ok ∧ d.last.length = 8 ∧ d.size = 64 ∧ d.deeds ≤ k ∧ d.waits.length ≤ k ∧ d.fuse < 9223372036854775808
def act (d : DiskSt) (kd i : Int) (b : List UInt8) : Int × DiskSt := if kd = 2 then d.flush else d.write i b
theorem deed_law {n : Int} {d : DiskSt} (h : fz n d) (hd : ¬ d.dark = true) : (d.fuse = 0 ∧ d.deed.1 = 17 ∧ fz n d.deed.2 ∧ d.deed.2.deeds = d.deeds) ∨ (d.fuse ≠ 0 ∧ fz n d.deed.2 ∧ d.deed.2.deeds = d.deeds + 1) := by
  obtain ⟨h1, h2, h3⟩ := h
  unfold DiskSt.deed
  by_cases h0 : d.fuse = 0
  · rw [if_pos h0]
    have hn : 0 ≤ n := by
      rcases Int.lt_or_le n 0 with h | h
      · have := h3 h; omega
      · exact h
    exact .inl ⟨h0, rfl, ⟨h1, fun _ => ⟨hn, h0⟩, h3⟩, rfl⟩
  · rw [if_neg h0]
    refine .inr ⟨h0, ⟨fun hn => ?_, fun h => absurd h hd, fun hn => ?_⟩, rfl⟩
    · obtain ⟨e1, e2⟩ := h1 hn
      dsimp only
      rw [if_pos (by omega)]
      push_cast
      omega
    · have := h3 hn
      dsimp only
      rw [if_neg (by omega)]
      exact this
theorem act_law {n : Int} {d : DiskSt} {k : Nat} (h : fz n d) (hc : cap8 d k) (kd i : Int) (b : List UInt8) :
    fz n (act d kd i b).2 ∧ cap8 (act d kd i b).2 (k + 1) ∧ (((act d kd i b).1 = 0 ∧ d.dark = false ∧ (act d kd i b).2.deeds = d.deeds + 1) ∨ ((act d kd i b).1 = 1 ∧ d.dark = false ∧ (act d kd i b).2.deeds = d.deeds) ∨ ((act d kd i b).1 = 17 ∧ (act d kd i b).2.deeds = d.deeds)) := by
  obtain ⟨c1, c2, c3, c4, c5, c6⟩ := hc
  have dl : d.deed.2.last = d.last ∧ d.deed.2.waits = d.waits ∧ d.deed.2.size = d.size ∧ d.deed.2.deeds ≤ d.deeds + 1 ∧ d.deed.2.fuse ≤ max d.fuse 0 := by
    unfold DiskSt.deed
    split
    · exact ⟨rfl, rfl, rfl, by dsimp only; omega, by dsimp only; omega⟩
    · refine ⟨rfl, rfl, rfl, by dsimp only; omega, ?_⟩
      dsimp only
      split <;> omega
  obtain ⟨l1, l2, l3, l4, l5⟩ := dl
  have cd : cap8 d.deed.2 (k + 1) := ⟨deed_ok c1, by rw [l1]; exact c2, by rw [l3]; exact c3, by omega, by rw [l2]; omega, by omega⟩
  have c0 : cap8 d (k + 1) := ⟨c1, c2, c3, by omega, by omega, c6⟩
  unfold act
  by_cases hk : kd = 2
  · rw [if_pos hk]
    unfold DiskSt.flush
    by_cases hd : d.dark = true
    · rw [if_pos hd]
      exact ⟨h, c0, .inr (.inr ⟨rfl, rfl⟩)⟩
    · rw [if_neg hd]
      have hdf : d.dark = false := by simpa using hd
      rcases deed_law h hd with ⟨h0, e1, e2, e3⟩ | ⟨h0, e2, e3⟩
      · rw [if_pos h0]
        exact ⟨e2, cd, .inr (.inr ⟨e1, e3⟩)⟩
      · rw [if_neg h0]
        refine ⟨e2, ⟨keep_ok cd.1 _, ?_, cd.2.2.1, cd.2.2.2.1, Nat.zero_le _, cd.2.2.2.2.2⟩, .inl ⟨rfl, hdf, e3⟩⟩
        rw [keep_last_len]
        exact cd.2.1
  · rw [if_neg hk]
    have wn := write_num d i b
    have cw : cap8 (d.write i b).2 (k + 1) := ⟨write_ok c1 i b, by rw [wn.1]; exact c2, by rw [wn.2.1]; exact c3, by have := wn.2.2.1; omega, by have := wn.2.2.2.1; omega, by have := wn.2.2.2.2.1; omega⟩
    refine ⟨?_, cw, ?_⟩
    all_goals unfold DiskSt.write
    all_goals by_cases hd : d.dark = true
    · rw [if_pos hd]; exact h
    · rw [if_neg hd]
      split
      · exact h
      · rcases deed_law h hd with ⟨h0, e1, e2, e3⟩ | ⟨h0, e2, e3⟩
        · rw [if_pos h0]; exact e2
        · rw [if_neg h0]; exact e2
    · rw [if_pos hd]; exact .inr (.inr ⟨rfl, rfl⟩)
    · rw [if_neg hd]
      have hdf : d.dark = false := by simpa using hd
      split
      · exact .inr (.inl ⟨rfl, hdf, rfl⟩)
      · rcases deed_law h hd with ⟨h0, e1, e2, e3⟩ | ⟨h0, e2, e3⟩
        · rw [if_pos h0]; exact .inr (.inr ⟨e1, e3⟩)
        · rw [if_neg h0]; exact .inl ⟨rfl, hdf, e3⟩
theorem fused_law (n : Int) (hn : n < 9223372036854775808) : fz n ((fresh 8 64).fused n) ∧ cap8 ((fresh 8 64).fused n) 0 := by
  obtain ⟨h1, h2, h3, h4, h5, h6, h7⟩ := fine_fresh
  refine ⟨⟨fun h => ?_, fun h => ?_, fun h => ?_⟩, ⟨h1, h2, h3, h4, h5, ?_⟩⟩
  · show max n (-1) = n - (0 : Nat) ∧ 0 ≤ max n (-1)
    omega
  · cases h
  · show max n (-1) = -1
    omega
  · show max n (-1) < _
    omega
theorem cap8_le {d : DiskSt} {k m : Nat} (h : cap8 d k) (hk : k ≤ m) : cap8 d m := ⟨h.1, h.2.1, h.2.2.1, by have := h.2.2.2.1; omega, by have := h.2.2.2.2.1; omega, h.2.2.2.2.2⟩
set_option maxHeartbeats 2000000 in
set_option maxRecDepth 100000 in
theorem fuses_any (n : Int) (A : Option Addr) (c : Nat) (l : List Act7) (w : World) (hn : n < 9223372036854775808) (hA : SlR 4 encA w A l) (g : ∀ x ∈ l, x.good w) (m : l.length ≤ 8796093022208) :
    Calls Try.prog 4 #[.int .i64 n, .slice A l.length c] w fun e w' => e = .returned (.bool true) ∧ Below w.heap.size w w' := by
  have HW := Lib.hid (awake_any (sat.start w))
  have HA := Lib.hid hA
  have G := Lib.hid g
  have FL := Lib.hid (fused_law n hn)
  clear hA g
  go_enter Try.func4, Try.ntmps4
  (go_wp2_with fail)
  refine (HW.out).mono ?_
  rintro e w' ⟨rfl, H⟩
  have HN := Lib.hid (New_ok 8 64 H (by decide) (by decide) (by decide) (by decide))
  clear H HW
  (go_wp2_with fail)
  refine (HN.out).mono ?_
  rintro e w' ⟨p, rfl, H⟩
  have HF := Lib.hid (Fuse_any n H)
  clear H HN
  (go_wp2_with fail)
  refine (HF.out).mono ?_
  rintro e w' ⟨rfl, H⟩
  have H0 := Lib.hid H
  clear H HF
  go_upto_block 0 with fail
  go_cut [7] from 11 (fun _ wx => ∃ d, cap8 d 100 ∧ sat w wx (disk p d :: oldH w :: []))
  case first =>
    go_wp2_with fail
    go_loopw [7, 8, 9, 10] (fun i s8 s9 s10 wx => ∃ (k : Nat) (d : DiskSt), k ≤ l.length ∧ k ≤ 100 ∧ i = .int .i64 k ∧ fz n d ∧ cap8 d k ∧ sat w wx (disk p d :: oldH w :: [])) (fun i _ _ _ _ => l.length - (intOf i).toNat)
    case atStart => exact ⟨0, _, Nat.zero_le _, by omega, rfl, FL.out.1, FL.out.2, H0.out⟩
    case round =>
      obtain ⟨k, d, hk, hk2, rfl, hfz, hcp, H⟩ := hrel
      have HH := Lib.hid H
      have FZ := Lib.hid hfz
      have CP := Lib.hid hcp
      clear H H0 hfz hcp FL
      by_cases hin : k < l.length ∧ k < 100
      · obtain ⟨hin1, hin2⟩ := hin
        obtain ⟨⟨kd, xi, XA, xn, xc, xp, xb⟩, ex⟩ : ∃ x, l[k]? = some x := ⟨_, List.getElem?_eq_getElem hin1⟩
        have hX := HA.out.old HH.out.pull1 HH.out.size
        obtain ⟨g, o, rfl, -, hc⟩ := hX.cells ex
        have c0 : wr.cell? ⟨g, o + k * 4, none⟩ = some (.int .i64 kd) := hc 0 _ rfl
        have k0 : (0 : Int) ≤ (k : Int) := by omega
        have k1 : (k : Int) < (l.length : Int) := by omega
        have k2 : (k : Int) < 100 := by omega
        obtain ⟨b1, b2, b3, -, -⟩ := G.out _ (List.mem_of_getElem? ex)
        have HXX := Lib.hid (fun W L (h : sat w W (oldH w :: L)) => (HA.out.old h h.size))
        have EX := Lib.hid ex
        have B1 := Lib.hid b1
        have B3 := Lib.hid b3
        clear hX hc ex b1 b2 b3
        have HD1 := Lib.hid (Deeds_any HH.out)
        have HD2 := Lib.hid (Dark_any HH.out)
        (go_wp2_with fail)
        refine (HD1.out).mono ?_
        rintro e w' ⟨rfl, rfl⟩
        (go_wp2_with fail)
        refine (HD2.out).mono ?_
        rintro e w' ⟨rfl, rfl⟩
        clear HD1 HD2
        go_upto_if 39 with (fail)
        go_cut [10] from 20 to 99 (fun e wx => e = .int .i64 (act d kd xi xb).1 ∧ sat w wx (disk p (act d kd xi xb).2 :: oldH w :: []))
        case first =>
          by_cases hkd : kd = 2
          · have t : (kd == (2 : Int)) = true := by rw [hkd]; rfl
            have HFl := Lib.hid (Flush_any HH.out CP.out.1 (by have := CP.out.2.2.2.1; omega) CP.out.2.2.2.2.2 (by have := CP.out.2.2.2.2.1; omega))
            have KD := Lib.hid hkd
            clear hkd
            (go_wp2_with fail)
            refine (HFl.out).mono ?_
            rintro e w' ⟨rfl, H⟩
            go_wp2_with fail
            go_meet
            case rel => unfold act; rw [if_pos KD.out]; exact ⟨rfl, H⟩
          · have t : (kd == (2 : Int)) = false := by rw [beq_eq_false_iff_ne]; exact hkd
            have KD := Lib.hid hkd
            clear hkd
            go_wp2_with fail
            refine Reg.wp_region_s (HH.out) (fun W => W.cell? ⟨g, o + k * 4 + 1, none⟩ = some (.int .i64 xi) ∧ W.cell? ⟨g, o + k * 4 + 2, none⟩ = some (.slice XA xn xc)) [5, 10] [11] [0, 1, 2, 3, 4, 5, 6, 7, 8, 9, 10, 11, 12] (by kernel_rfl) (by kernel_rfl) (fun W HW => by have hq := (HXX.out W _ HW.pull1).cells EX.out; obtain ⟨g', o', he, -, hc⟩ := hq; cases he; exact ⟨hc 1 _ rfl, hc 2 _ rfl⟩) (fun W HW => ?_)
            simp only [Reg.pickOps, List.map_cons, List.map_nil, List.getD_cons_zero, List.getD_cons_succ, List.contains_cons, List.contains_nil, Nat.reduceBEq, Bool.or_false, Bool.or_true, Bool.or_self]
            iterate 5 (refine Reg.wpX_y (v := ?_) (fun w' => ?_) rfl ?_; rotate_left 1; focus (go_simp; (try with_reducible rfl)))
            (refine Reg.wpX_l (v := ?_) rfl (fun w' hw => ?_) rfl ?_; rotate_left 1; focus ((try dsimp only at hw); go_split_ands; go_simp; (try with_reducible rfl)))
            iterate 4 (refine Reg.wpX_y (v := ?_) (fun w' => ?_) rfl ?_; rotate_left 1; focus (go_simp; (try with_reducible rfl)))
            (refine Reg.wpX_l (v := ?_) rfl (fun w' hw => ?_) rfl ?_; rotate_left 1; focus ((try dsimp only at hw); go_split_ands; go_simp; (try with_reducible rfl)))
            try simp only [Act.put, List.setIfInBounds_toArray, List.set_cons_zero, List.set_cons_succ]
            have HWr := Lib.hid (Write_any (i := xi) (c := xc) (b := xb) HW (by have := CP.out.2.2.2.1; omega) CP.out.2.2.2.2.2 (fun W h => B3.out.old h h.size) B1.out (by have := CP.out.2.2.1; omega) (by have := CP.out.2.2.1; omega) (by have := CP.out.2.2.2.2.1; omega))
            refine Reg.wpX_last rfl (by kernel_rfl) (fun K hK => ?_)
            go_simp
            refine HWr.out.mono ?_
            rintro ee w2 ⟨rfl, H1⟩
            refine hK _ _ ?_
            (refine Reg.wpX_y (v := ?_) (fun w' => ?_) rfl ?_; rotate_left 1; focus (go_simp; (try with_reducible rfl)))
            try simp only [Act.put, List.setIfInBounds_toArray, List.set_cons_zero, List.set_cons_succ]
            refine Reg.wpX_nil ?_
            go_wp2_with fail
            go_meet
            case rel => unfold act; rw [if_neg KD.out]; exact ⟨rfl, H1⟩
        case rest =>
          obtain ⟨hs, H⟩ := hcut
          subst hs
          obtain ⟨nf, nc, na⟩ := act_law FZ.out CP.out kd xi xb
          obtain ⟨d', ed'⟩ : ∃ d', d' = (act d kd xi xb).2 := ⟨_, rfl⟩
          obtain ⟨e', ee'⟩ : ∃ e', e' = (act d kd xi xb).1 := ⟨_, rfl⟩
          rw [← ed', ← ee'] at na
          rw [← ed'] at nf nc H
          rw [← ee']
          clear ed' ee' HH
          have HD1 := Deeds_any H
          have HD2 := Dark_any H
          have HE : Hid (fz n d' ∧ cap8 d' (k + 1) ∧ sat w wc (disk p d' :: oldH w :: [])) := ⟨nf, nc, H⟩
          obtain ⟨n1, n2, n3⟩ := nf
          have nb := CP.out.2.2.2.1
          clear H nc
          obtain ⟨D, eD⟩ : ∃ D : Int, D = d'.deeds := ⟨_, rfl⟩
          obtain ⟨b', eb⟩ : ∃ b', b' = d'.dark := ⟨_, rfl⟩
          have f1 : 0 ≤ n → ¬ n < D := fun h => by have := n1 h; omega
          have f2 : b' = true → D = n := fun h => by have := n2 (eb ▸ h); have := n1 this.1; omega
          have f3 : ¬ 0 ≤ n → b' = false := fun h => by
            cases hb : b' with
            | false => rfl
            | true => exact absurd (n2 (eb ▸ hb)).1 h
          have db : (d.deeds : Int) < 1000 := by omega
          have na2 : (e' = 0 ∧ d.dark = false ∧ D = (d.deeds : Int) + 1) ∨ ((e' = 1 ∨ e' = 17) ∧ (e' = 1 → d.dark = false) ∧ D = (d.deeds : Int)) := by
            rcases na with ⟨q1, q2, q3⟩ | ⟨q1, q2, q3⟩ | ⟨q1, q3⟩
            · exact .inl ⟨q1, q2, by omega⟩
            · exact .inr ⟨.inl q1, fun _ => q2, by omega⟩
            · exact .inr ⟨.inr q1, fun h => by omega, by omega⟩
          rw [← eD] at HD1
          rw [← eb] at HD2
          replace HD1 := Lib.hid HD1
          replace HD2 := Lib.hid HD2
          clear n1 n2 n3 eD eb nb na
          have F1 := Lib.hid f1
          have F2 := Lib.hid f2
          have F3 := Lib.hid f3
          have FD := Lib.hid (FZ.out.2.1)
          clear f1 f2 f3
          rcases na2 with ⟨rfl, hd0, rfl⟩ | ⟨he, hd0, rfl⟩
          · by_cases hn0 : 0 ≤ n
            · have h1 := F1.out hn0
              cases b' with
              | true =>
                have h2 := F2.out rfl
                subst h2
                (go_wp2_with fail)
                refine (HD1.out).mono ?_
                rintro e w' ⟨rfl, rfl⟩
                (go_wp2_with fail)
                refine (HD1.out).mono ?_
                rintro e w' ⟨rfl, rfl⟩
                (go_wp2_with fail)
                refine (HD2.out).mono ?_
                rintro e w' ⟨rfl, rfl⟩
                (go_wp2_with fail)
                refine (HD1.out).mono ?_
                rintro e w' ⟨rfl, rfl⟩
                go_wp2_with fail
                go_roundw
                case rel => exact ⟨k + 1, d', by omega, by omega, by go_num, HE.out.1, HE.out.2.1, HE.out.2.2⟩
                case measure => simp [intOf] <;> omega
              | false =>
                (go_wp2_with fail)
                refine (HD1.out).mono ?_
                rintro e w' ⟨rfl, rfl⟩
                (go_wp2_with fail)
                refine (HD1.out).mono ?_
                rintro e w' ⟨rfl, rfl⟩
                (go_wp2_with fail)
                refine (HD2.out).mono ?_
                rintro e w' ⟨rfl, rfl⟩
                go_wp2_with fail
                go_roundw
                case rel => exact ⟨k + 1, d', by omega, by omega, by go_num, HE.out.1, HE.out.2.1, HE.out.2.2⟩
                case measure => simp [intOf] <;> omega
            · obtain rfl := F3.out hn0
              (go_wp2_with fail)
              refine (HD1.out).mono ?_
              rintro e w' ⟨rfl, rfl⟩
              (go_wp2_with fail)
              refine (HD2.out).mono ?_
              rintro e w' ⟨rfl, rfl⟩
              go_wp2_with fail
              go_roundw
              case rel => exact ⟨k + 1, d', by omega, by omega, by go_num, HE.out.1, HE.out.2.1, HE.out.2.2⟩
              case measure => simp [intOf] <;> omega
          · rcases he with rfl | rfl
            · replace hd0 := hd0 rfl
              by_cases hn0 : 0 ≤ n
              · have h1 := F1.out hn0
                cases b' with
                | true =>
                  have h2 := F2.out rfl
                  subst h2
                  (go_wp2_with fail)
                  refine (HD1.out).mono ?_
                  rintro e w' ⟨rfl, rfl⟩
                  (go_wp2_with fail)
                  refine (HD1.out).mono ?_
                  rintro e w' ⟨rfl, rfl⟩
                  (go_wp2_with fail)
                  refine (HD2.out).mono ?_
                  rintro e w' ⟨rfl, rfl⟩
                  (go_wp2_with fail)
                  refine (HD1.out).mono ?_
                  rintro e w' ⟨rfl, rfl⟩
                  go_wp2_with fail
                  go_roundw
                  case rel => exact ⟨k + 1, d', by omega, by omega, by go_num, HE.out.1, HE.out.2.1, HE.out.2.2⟩
                  case measure => simp [intOf] <;> omega
                | false =>
                  (go_wp2_with fail)
                  refine (HD1.out).mono ?_
                  rintro e w' ⟨rfl, rfl⟩
                  (go_wp2_with fail)
                  refine (HD1.out).mono ?_
                  rintro e w' ⟨rfl, rfl⟩
                  (go_wp2_with fail)
                  refine (HD2.out).mono ?_
                  rintro e w' ⟨rfl, rfl⟩
                  go_wp2_with fail
                  go_roundw
                  case rel => exact ⟨k + 1, d', by omega, by omega, by go_num, HE.out.1, HE.out.2.1, HE.out.2.2⟩
                  case measure => simp [intOf] <;> omega
              · obtain rfl := F3.out hn0
                (go_wp2_with fail)
                refine (HD1.out).mono ?_
                rintro e w' ⟨rfl, rfl⟩
                (go_wp2_with fail)
                refine (HD2.out).mono ?_
                rintro e w' ⟨rfl, rfl⟩
                go_wp2_with fail
                go_roundw
                case rel => exact ⟨k + 1, d', by omega, by omega, by go_num, HE.out.1, HE.out.2.1, HE.out.2.2⟩
                case measure => simp [intOf] <;> omega
            · clear hd0
              cases hdk : d.dark with
              | true =>
                have HDK := Lib.hid hdk
                by_cases hn0 : 0 ≤ n
                · have h1 := F1.out hn0
                  cases b' with
                  | true =>
                    have h2 := F2.out rfl
                    subst h2
                    (go_wp2_with fail)
                    refine (HD1.out).mono ?_
                    rintro e w' ⟨rfl, rfl⟩
                    (go_wp2_with fail)
                    refine (HD1.out).mono ?_
                    rintro e w' ⟨rfl, rfl⟩
                    (go_wp2_with fail)
                    refine (HD2.out).mono ?_
                    rintro e w' ⟨rfl, rfl⟩
                    (go_wp2_with fail)
                    refine (HD1.out).mono ?_
                    rintro e w' ⟨rfl, rfl⟩
                    go_wp2_with fail
                    go_roundw
                    case rel => exact ⟨k + 1, d', by omega, by omega, by go_num, HE.out.1, HE.out.2.1, HE.out.2.2⟩
                    case measure => simp [intOf] <;> omega
                  | false =>
                    (go_wp2_with fail)
                    refine (HD1.out).mono ?_
                    rintro e w' ⟨rfl, rfl⟩
                    (go_wp2_with fail)
                    refine (HD1.out).mono ?_
                    rintro e w' ⟨rfl, rfl⟩
                    (go_wp2_with fail)
                    refine (HD2.out).mono ?_
                    rintro e w' ⟨rfl, rfl⟩
                    go_wp2_with fail
                    go_roundw
                    case rel => exact ⟨k + 1, d', by omega, by omega, by go_num, HE.out.1, HE.out.2.1, HE.out.2.2⟩
                    case measure => simp [intOf] <;> omega
                · obtain rfl := F3.out hn0
                  (go_wp2_with fail)
                  refine (HD1.out).mono ?_
                  rintro e w' ⟨rfl, rfl⟩
                  (go_wp2_with fail)
                  refine (HD2.out).mono ?_
                  rintro e w' ⟨rfl, rfl⟩
                  go_wp2_with fail
                  go_roundw
                  case rel => exact ⟨k + 1, d', by omega, by omega, by go_num, HE.out.1, HE.out.2.1, HE.out.2.2⟩
                  case measure => simp [intOf] <;> omega
              | false =>
                by_cases hn0 : 0 ≤ n
                · have h1 := F1.out hn0
                  cases b' with
                  | true =>
                    have h2 := F2.out rfl
                    subst h2
                    (go_wp2_with fail)
                    refine (HD1.out).mono ?_
                    rintro e w' ⟨rfl, rfl⟩
                    (go_wp2_with fail)
                    refine (HD1.out).mono ?_
                    rintro e w' ⟨rfl, rfl⟩
                    (go_wp2_with fail)
                    refine (HD2.out).mono ?_
                    rintro e w' ⟨rfl, rfl⟩
                    (go_wp2_with fail)
                    refine (HD1.out).mono ?_
                    rintro e w' ⟨rfl, rfl⟩
                    go_wp2_with fail
                    go_roundw
                    case rel => exact ⟨k + 1, d', by omega, by omega, by go_num, HE.out.1, HE.out.2.1, HE.out.2.2⟩
                    case measure => simp [intOf] <;> omega
                  | false =>
                    (go_wp2_with fail)
                    refine (HD1.out).mono ?_
                    rintro e w' ⟨rfl, rfl⟩
                    (go_wp2_with fail)
                    refine (HD1.out).mono ?_
                    rintro e w' ⟨rfl, rfl⟩
                    (go_wp2_with fail)
                    refine (HD2.out).mono ?_
                    rintro e w' ⟨rfl, rfl⟩
                    go_wp2_with fail
                    go_roundw
                    case rel => exact ⟨k + 1, d', by omega, by omega, by go_num, HE.out.1, HE.out.2.1, HE.out.2.2⟩
                    case measure => simp [intOf] <;> omega
                · obtain rfl := F3.out hn0
                  (go_wp2_with fail)
                  refine (HD1.out).mono ?_
                  rintro e w' ⟨rfl, rfl⟩
                  (go_wp2_with fail)
                  refine (HD2.out).mono ?_
                  rintro e w' ⟨rfl, rfl⟩
                  go_wp2_with fail
                  go_roundw
                  case rel => exact ⟨k + 1, d', by omega, by omega, by go_num, HE.out.1, HE.out.2.1, HE.out.2.2⟩
                  case measure => simp [intOf] <;> omega
      · by_cases h : (k : Int) < (l.length : Int)
        · have h2 : ¬ (k : Int) < 100 := by omega
          go_wp2_with fail
          go_meet
          case rel => exact ⟨_, cap8_le CP.out hk2, HH.out⟩
        · go_wp2_with fail
          go_meet
          case rel => exact ⟨_, cap8_le CP.out hk2, HH.out⟩
  case rest =>
    obtain ⟨d, hc, H⟩ := hcut
    have HC := Lib.hid (Crash_any 0 H (by decide) hc.1 (by have := hc.2.2.2.2.1; omega))
    have cf : fine (d.crash 0) 100 := ⟨crash_ok hc.1 0, (keep_last_len d 0).trans hc.2.1, hc.2.2.1, hc.2.2.2.1, Nat.zero_le _, rfl, rfl⟩
    clear H H0 FL
    (go_wp2_with fail)
    refine (HC.out).mono ?_
    rintro e w' ⟨rfl, H⟩
    obtain ⟨r1, f2, w2⟩ := flush_fine cf
    have HFl := Flush_any H cf.1 (by have := cf.2.2.2.1; omega) (by have := cf.2.2.2.2.2.1; omega) (by have := cf.2.2.2.2.1; omega)
    rw [r1] at HFl
    replace HFl := Lib.hid HFl
    have HD := Dark_any H
    rw [cf.2.2.2.2.2.2] at HD
    replace HD := Lib.hid HD
    clear H HC r1 f2 w2 cf
    (go_wp2_with fail)
    refine (HD.out).mono ?_
    rintro e w' ⟨rfl, rfl⟩
    (go_wp2_with fail)
    refine (HFl.out).mono ?_
    rintro e w' ⟨rfl, H⟩
    have HB := Lib.hid H.pull1.toBelow
    go_wp2
    go_ret
    exact ⟨rfl, HB.out⟩
theorem fuses_row (n : Int) (A : Option Addr) (c : Nat) (l : List (List Value)) (w : World) (hn : (Lit.int .i64 n).wf = true)
    (_hc : l.length ≤ c) (hl : SlR 4 (fun v => v) w A l) (hw : ∀ vs ∈ l, fitsBy ([.kd (.int .i64), .kd (.int .i64), .bytes, .kd (.int .u64)].map (Sp.ok w)) vs) (hm : l.length * 48 ≤ 140737488351232) :
    Calls Try.prog 4 #[.int .i64 n, .slice A l.length c] w fun e w' => e = .returned (.bool true) ∧ Below w.heap.size w w' := by
  obtain ⟨m, rfl, g⟩ := decode_acts hw
  have hz' : -9223372036854775808 ≤ n ∧ n ≤ 9223372036854775807 := by simpa [Lit.wf, IntKind.min, IntKind.max, IntKind.signed, IntKind.bits] using hn
  rw [List.length_map] at hm ⊢
  exact fuses_any n A c m w (by omega) (hl.map encA (fun _ => rfl)) g (by omega)
end Go.Proofs.Ytbkjkiaicaopoaa.Dk
