/-
  The reference of a disk: what each of its functions does, by resources; it holds the same plain disk.
-/
import Derived.Test.YtbkjkiaicaopoaaDiskPure
import Derived.Test.YtbkjkiaicaopoaaBytesStr
namespace Go.Proofs.Ytbkjkiaicaopoaa.Dk
open Go.RowKit Go.Proofs.Ytbkjkiaicaopoaa

def encS (l : List UInt8) : Value := .string (strB l)
theorem encS_one (l : List UInt8) : (encS l).oneCell' = true := rfl
def rwcell (x : Nat × List UInt8) : List Value := [.int .i64 x.1, .string (strB x.2)]
theorem rwcell_len (x : Nat × List UInt8) : (rwcell x).length = 2 := rfl
theorem rwcell_one (x : Nat × List UInt8) : ∀ v ∈ rwcell x, v.oneCell' = true := by intro v hv; simp [rwcell] at hv; rcases hv with rfl | rfl <;> rfl
theorem infoRS : (Try.prog.info? 9).map (fun i => (i.zero, i.size, i.bytes)) = some (some (.string ByteArray.empty), 1, 16) := by kernel_rfl
theorem infoRW : (Try.prog.info? 119).map (fun i => (i.zero, i.size, i.bytes)) = some (some (.agg #[.int .i64 0, .string ByteArray.empty]), 2, 24) := by kernel_rfl
theorem strB_app (a b : List UInt8) : strB a ++ strB b = strB (a ++ b) := by
  apply ByteArray.ext
  rw [ByteArray.data_append]
  simp [strB]
structure RRep where
  A : Option Addr
  c : Nat
  B : Option Addr
  e : Nat
def rdisk (p : Nat) (d : DiskSt) : HP := fun h => ∃ r : RRep,
  star [blk p #[.slice r.A d.last.length r.c, .int .i64 d.size, .slice r.B d.waits.length r.e, .int .i64 d.fuse, .bool d.dark, .int .i64 d.deeds] 48, vec 9 encS r.A d.last.length r.c d.last, rows 119 2 rwcell r.B d.waits.length r.e d.waits] h
section
variable {E w : World} {p : Nat} {d : DiskSt} {L : List HP}
theorem rdisk_open (H : sat E w (rdisk p d :: L)) : ∃ (A : Option Addr) (c : Nat) (B : Option Addr) (e : Nat),
    sat E w (blk p #[.slice A d.last.length c, .int .i64 d.size, .slice B d.waits.length e, .int .i64 d.fuse, .bool d.dark, .int .i64 d.deeds] 48 :: vec 9 encS A d.last.length c d.last :: rows 119 2 rwcell B d.waits.length e d.waits :: L) := by
  obtain ⟨⟨A, c, B, e⟩, H⟩ := H.open_ex
  exact ⟨A, c, B, e, H.flat⟩
theorem rdisk_shut {A : Option Addr} {n c : Nat} {B : Option Addr} {m e : Nat}
    (H : sat E w (blk p #[.slice A n c, .int .i64 d.size, .slice B m e, .int .i64 d.fuse, .bool d.dark, .int .i64 d.deeds] 48 :: vec 9 encS A n c d.last :: rows 119 2 rwcell B m e d.waits :: L)) : sat E w (rdisk p d :: L) := by
  have l1 : d.last.length = n := H.pull1.len
  have l2 : d.waits.length = m := H.pull2.rlen rwcell_len (by decide)
  subst l1 l2
  exact sat.shut_ex (⟨A, c, B, e⟩ : RRep) (sat.fold (L := [_, _, _]) H)
theorem rdisk_peek (H : sat E w (rdisk p d :: L)) : ∃ (A : Option Addr) (c : Nat) (B : Option Addr) (e : Nat), sat E w (blk p #[.slice A d.last.length c, .int .i64 d.size, .slice B d.waits.length e, .int .i64 d.fuse, .bool d.dark, .int .i64 d.deeds] 48 :: L) ∧
    ∀ (w' : World) (d' : DiskSt) (L' : List HP), d'.last = d.last → d'.waits = d.waits → (∀ R : List HP, sat E w (blk p #[.slice A d.last.length c, .int .i64 d.size, .slice B d.waits.length e, .int .i64 d.fuse, .bool d.dark, .int .i64 d.deeds] 48 :: (R ++ L)) → sat E w' (blk p #[.slice A d.last.length c, .int .i64 d'.size, .slice B d.waits.length e, .int .i64 d'.fuse, .bool d'.dark, .int .i64 d'.deeds] 48 :: (R ++ L'))) → sat E w' (rdisk p d' :: L') := by
  obtain ⟨A, c, B, e, H⟩ := rdisk_open H
  refine ⟨A, c, B, e, H.choose 3 [0] rfl rfl, fun w' d' L' e1 e2 h => ?_⟩
  have := h [_, _] H
  refine rdisk_shut (A := A) (c := c) (B := B) (e := e) (n := d.last.length) (m := d.waits.length) ?_
  rw [e1, e2]
  exact this
theorem rdeed_any (H : sat E w (rdisk p d :: L)) (hd : d.deeds < 4611686018427387904) (hf : d.fuse < 9223372036854775808) : Calls Try.prog 106 #[.pointer (some ⟨p, 0, none⟩)] w fun e w' => e = .returned (.bool (!(d.fuse == 0))) ∧ sat E w' (rdisk p d.deed.2 :: L) := by
  obtain ⟨A, c, B, e, H, hback⟩ := rdisk_peek H
  have c0 := H.cell 3
  have c4 := H.cell 4
  have c5 := H.cell 5
  have f3 := H.frozen 3
  have f4 := H.frozen 4
  have f5 := H.frozen 5
  have HB := Lib.hid hback
  clear H hback
  unfold DiskSt.deed
  by_cases h0 : d.fuse = 0
  · rw [if_pos h0]
    rw [h0] at c0
    have t : (d.fuse == 0) = true := by rw [h0]; rfl
    rw [t]
    have HF := Lib.hid h0
    clear h0 t
    go_enter Try.func106, Try.ntmps106
    go_wp2
    go_ret
    exact ⟨rfl, HB.out _ _ _ rfl rfl (fun R h => h.setCell 4 (.bool true))⟩
  · rw [if_neg h0]
    have t : (d.fuse == 0) = false := by rw [beq_eq_false_iff_ne]; exact h0
    rw [t]
    by_cases h1 : 0 < d.fuse
    · rw [if_pos h1]
      go_enter Try.func106, Try.ntmps106
      go_wp2
      go_ret
      exact ⟨rfl, HB.out _ _ _ rfl rfl (fun R h => (h.setCell 3 (.int .i64 (d.fuse - 1))).setCell 5 (.int .i64 ((d.deeds : Int) + 1)))⟩
    · rw [if_neg h1]
      go_enter Try.func106, Try.ntmps106
      go_wp2
      go_ret
      exact ⟨rfl, HB.out _ _ _ rfl rfl (fun R h => h.setCell 5 (.int .i64 ((d.deeds : Int) + 1)))⟩
end
section
variable {E w : World} {p : Nat} {d : DiskSt} {L : List HP}
theorem rzeros_any (n : Nat) (hn : n ≤ 1048576) (H : sat E w L) : Calls Try.prog 74 #[.int .i64 n] w fun e w' => e = .returned (encS (List.replicate n 0)) ∧ sat E w' L := by
  have mk : (Instr.makeSlice 30 (.int .i64 (n : Int)) (.int .i64 (n : Int))).run Try.prog w = .ok (.slice (some ⟨w.heap.size, 0, none⟩) n n) (w.alloc (.cells (Array.replicate n (B8 0)) 5)) := make_bytes info8 Try.underlying30 n (by omega) w
  have H1 := H.zeros (n := n) 5 (by unfold maxLen; omega)
  have cv := conv_sl (P := Try.prog) (w := w.alloc (.cells (Array.replicate n (B8 0)) 5)) (c := n) Try.underlying30 Try.underlying5 Try.underlying9 (sat.len H1) (sat.Sl H1)
  have HF := Lib.hid H1.tail
  clear H H1
  go_enter Try.func74, Try.ntmps74
  go_wp2
  go_ret
  exact ⟨rfl, HF.out⟩
set_option maxRecDepth 100000 in
theorem rSeen_any (pattern : Nat) (H : sat E w (rdisk p d :: L)) (hp : pattern < 18446744073709551616) (hok : d.ok) (hw : d.waits.length < 1048576) (hl : d.last.length < 1048576) :
    Calls Try.prog 28 #[.pointer (some ⟨p, 0, none⟩), .int .u64 pattern] w fun e w' => ∃ A c, e = .returned (.slice A d.last.length c) ∧ sat E w' (vec 9 encS A d.last.length c (keepL pattern 0 d.last d.waits) :: rdisk p d :: L) := by
  obtain ⟨A, c, B, e, H⟩ := rdisk_open H
  have HS : Hid (Sl encS (w.alloc (.cells #[] 9)) A d.last) := (sat.Sl H.pull1).below ((Below.refl _ _).alloc (Nat.le_refl _) _)
  have HE := Lib.hid (H.emptyLit encS 9)
  have g0 := HE.out.pull1.cell 0
  have HL : Hid (0 + d.last.length ≤ 1099511627776) := by show _ ≤ _; omega
  have HOK := Lib.hid hok
  have HW := Lib.hid hw
  clear H hok
  go_enter Try.func28, Try.ntmps28
  go_wp2_with (at_builtin; go_must (refine wpList_appS rfl (.tmp 9) (.tmp 13) 34 rfl infoRS Try.underlying34 rfl (by decide) HE.out rfl rfl rfl HS.out encS_one HL.out ?_))
  intro A' c' w1 H2
  have H0 := Lib.hid H2
  clear H2 HE HS g0
  go_wp2_with fail
  go_loopw [6] (fun i wr => ∃ (k : Nat) (ls : List (List UInt8)), k ≤ d.waits.length ∧ i = .int .i64 k ∧ ls.length = d.last.length ∧ keepL pattern k ls (d.waits.drop k) = keepL pattern 0 d.last d.waits ∧
    sat E wr (vec 9 encS A' d.last.length c' ls :: blk p #[.slice A d.last.length c, .int .i64 d.size, .slice B d.waits.length e, .int .i64 d.fuse, .bool d.dark, .int .i64 d.deeds] 48 :: vec 9 encS A d.last.length c d.last :: rows 119 2 rwcell B d.waits.length e d.waits :: L)) (fun i _ => d.waits.length - (intOf i).toNat)
  case atStart => exact ⟨0, d.last, Nat.zero_le _, rfl, rfl, rfl, H0.out⟩
  case round =>
    obtain ⟨k, ls, hk, rfl, hll, hkp, H⟩ := hrel
    have g2 := H.pull1.cell 2
    have HH := Lib.hid H
    have HK := Lib.hid hkp
    have HLL := Lib.hid hll
    clear H H0 hkp hll
    by_cases hlt : k < d.waits.length
    · obtain ⟨⟨i, sl⟩, ex⟩ : ∃ x, d.waits[k]? = some x := ⟨_, List.getElem?_eq_getElem hlt⟩
      have hil : i < d.last.length := (HOK.out.1 _ (List.mem_of_getElem? ex)).1
      obtain ⟨g, o, rfl, -, -⟩ := (HH.out.pull3.SlR rwcell_len (by decide)).cells ex
      have k0 : (0 : Int) ≤ (k : Int) := by omega
      have k1 : (k : Int) < (d.waits.length : Int) := by omega
      have kb : (k : Int) < 1048576 := by have := HW.out; omega
      obtain ⟨m, hm⟩ : ∃ m : Nat, m = k % 64 := ⟨_, rfl⟩
      have em : (k : Int) - (k : Int) / 64 * 64 = (m : Int) := by omega
      have HM := Lib.hid hm
      have hdd : d.waits.drop k = (i, sl) :: d.waits.drop (k + 1) := drop_cons ex
      have hk2 := HK.out
      rw [hdd] at hk2
      replace hk2 : keepL pattern (k + 1) (if bit pattern k = true then ls.set i sl else ls) (d.waits.drop (k + 1)) = keepL pattern 0 d.last d.waits := hk2
      have K2 := Lib.hid hk2
      have CC : Hid (∀ W R, sat E W (rows 119 2 rwcell (some ⟨g, o, none⟩) d.waits.length e d.waits :: R) → W.cell? ⟨g, o + k * 2, none⟩ = some (.int .i64 i) ∧ W.cell? ⟨g, o + k * 2 + 1, none⟩ = some (.string (strB sl))) := fun W R h => by
        obtain ⟨g', o', he, -, hc⟩ := (h.SlR rwcell_len (by decide)).cells ex
        cases he
        exact ⟨hc 0 _ rfl, hc 1 _ rfl⟩
      clear hm hdd hk2 ex HK
      go_wp2_with fail
      go_loopw [7, 8] (fun q j wr' => ∃ jj : Nat, jj ≤ m ∧ j = .int .i64 jj ∧ q = .int .u64 ((pattern / 2 ^ jj : Nat) : Int) ∧ wr' = wr) (fun _ j _ => m - (intOf j).toNat)
      case atStart => exact ⟨0, Nat.zero_le _, rfl, by simp, rfl⟩
      case round =>
        obtain ⟨jj, hjj, rfl, rfl, rfl⟩ := hrel
        have mb : (m : Int) < 64 := by have := HM.out; omega
        have eP : pattern / 2 ^ (jj + 1) = pattern / 2 ^ jj / 2 := by rw [Nat.div_div_eq_div_mul, Nat.pow_succ]
        have hP : pattern / 2 ^ jj < 18446744073709551616 := Nat.lt_of_le_of_lt (Nat.div_le_self _ _) hp
        have EP := Lib.hid eP
        have hb : bit pattern k = (pattern / 2 ^ m % 2 == 1) := by unfold bit; rw [HM.out]
        have HBT := Lib.hid hb
        clear eP hb
        by_cases hj : jj < m
        · have j1 : (jj : Int) < (m : Int) := by omega
          generalize pattern / 2 ^ jj = P at *
          go_wp2
          go_roundw
          case rel => exact ⟨jj + 1, by omega, by go_num, by rw [EP.out]; first | done | rfl | (congr 1; omega), by first | trivial | rfl⟩
          case measure => simp [intOf] <;> omega
        · obtain rfl : jj = m := by omega
          have j1 : ¬ (jj : Int) < (jj : Int) := by omega
          generalize pattern / 2 ^ jj = P at *
          cases hbt : bit pattern k with
          | true =>
            have t : ((P : Int) % 2 == 1) = true := by
              have := HBT.out
              rw [hbt] at this
              have h2 : P % 2 = 1 := by simpa using this.symm
              rw [show (P : Int) % 2 = ((P % 2 : Nat) : Int) by omega, h2]; rfl
            obtain ⟨g0, rfl⟩ := HH.out.vaddr (by omega)
            obtain ⟨t0, et⟩ : ∃ t, ls[i]? = some t := ⟨_, List.getElem?_eq_getElem (by have := HLL.out; omega)⟩
            have ET := Lib.hid et
            have i0 : (0 : Int) ≤ (i : Int) := by omega
            have i1 : (i : Int) < (d.last.length : Int) := by omega
            clear et
            go_wp2_with fail
            refine Reg.wp_region_s (HH.out) (fun W => W.cell? ⟨p, 2, none⟩ = some (.slice (some ⟨g, o, none⟩) d.waits.length e) ∧ W.cell? ⟨g, o + k * 2, none⟩ = some (.int .i64 i) ∧ W.cell? ⟨g, o + k * 2 + 1, none⟩ = some (.string (strB sl))) [4, 8, 12, 16] [18] [0, 1, 2, 3, 4, 5, 6, 7, 8, 9, 10, 11, 12, 13, 14, 15, 16, 17, 18] (by kernel_rfl) (by kernel_rfl) (fun W HW => ⟨HW.pull1.cell 2, CC.out W _ HW.pull3⟩) (fun W HW => ?_)
            simp only [Reg.pickOps, List.map_cons, List.map_nil, List.getD_cons_zero, List.getD_cons_succ, List.contains_cons, List.contains_nil, Nat.reduceBEq, Bool.or_false, Bool.or_true, Bool.or_self]
            iterate 4 (refine Reg.wpX_y (v := ?_) (fun w' => ?_) rfl ?_; rotate_left 1; focus (go_simp; (try with_reducible rfl)))
            (refine Reg.wpX_l (v := ?_) rfl (fun w' hw => ?_) rfl ?_; rotate_left 1; focus ((try dsimp only at hw); go_split_ands; go_simp; (try with_reducible rfl)))
            iterate 3 (refine Reg.wpX_y (v := ?_) (fun w' => ?_) rfl ?_; rotate_left 1; focus (go_simp; (try with_reducible rfl)))
            try simp only [Act.put, List.setIfInBounds_toArray, List.set_cons_zero, List.set_cons_succ]
            (refine Reg.wpX_l (v := ?_) rfl (fun w' hw => ?_) rfl ?_; rotate_left 1; focus ((try dsimp only at hw); go_split_ands; go_simp; (try with_reducible rfl)))
            iterate 3 (refine Reg.wpX_y (v := ?_) (fun w' => ?_) rfl ?_; rotate_left 1; focus (go_simp; (try with_reducible rfl)))
            (refine Reg.wpX_l (v := ?_) rfl (fun w' hw => ?_) rfl ?_; rotate_left 1; focus ((try dsimp only at hw); go_split_ands; go_simp; (try with_reducible rfl)))
            iterate 3 (refine Reg.wpX_y (v := ?_) (fun w' => ?_) rfl ?_; rotate_left 1; focus (go_simp; (try with_reducible rfl)))
            try simp only [Act.put, List.setIfInBounds_toArray, List.set_cons_zero, List.set_cons_succ]
            (refine Reg.wpX_l (v := ?_) rfl (fun w' hw => ?_) rfl ?_; rotate_left 1; focus ((try dsimp only at hw); go_split_ands; go_simp; (try with_reducible rfl)))
            (refine Reg.wpX_y (v := ?_) (fun w' => ?_) rfl ?_; rotate_left 1; focus (go_simp; (try with_reducible rfl)))
            try simp only [Act.put, List.setIfInBounds_toArray, List.set_cons_zero, List.set_cons_succ]
            have v0 : W.cell? ⟨g0, 0 + i, none⟩ = some (encS t0) := HW.vcell ET.out
            have v1 := HW.vfrozen (by omega) i
            rw [Nat.zero_add] at v0
            have v2 : W.cell? ⟨g0, i, none⟩ = some (.string (strB t0)) := v0
            have HE := K2.out
            rw [if_pos hbt] at HE
            have HF := Lib.hid HE
            have H4 := Lib.hid (HW.vecSet hil sl)
            clear HE hbt v0
            refine Reg.wpX_last rfl (by kernel_rfl) (fun K hK => ?_)
            go_simp
            refine hK _ _ ?_
            try simp only [Act.put, List.setIfInBounds_toArray, List.set_cons_zero, List.set_cons_succ]
            refine Reg.wpX_nil ?_
            clear HW HH v1 v2
            go_wp2
            go_roundw
            case rel => exact ⟨k + 1, ls.set i sl, by omega, by go_num, by rw [List.length_set]; exact HLL.out, HF.out, H4.out⟩
            case measure => simp [intOf] <;> omega
          | false =>
            have t : ((P : Int) % 2 == 1) = false := by
              have := HBT.out
              rw [hbt] at this
              have h2 : ¬ P % 2 = 1 := by simpa using this.symm
              rw [beq_eq_false_iff_ne]; omega
            have HE := K2.out
            rw [if_neg (by rw [hbt]; simp)] at HE
            have HF := Lib.hid HE
            clear HE hbt
            go_wp2
            go_roundw
            case rel => exact ⟨k + 1, ls, by omega, by go_num, HLL.out, HF.out, HH.out⟩
            case measure => simp [intOf] <;> omega
    · obtain rfl : k = d.waits.length := by omega
      have k1 : ¬ (d.waits.length : Int) < (d.waits.length : Int) := by omega
      have HE := HK.out
      rw [List.drop_length] at HE
      replace HE : ls = keepL pattern 0 d.last d.waits := HE
      have HF := HH.out
      rw [HE] at HF
      have HG := Lib.hid (show sat E wr (vec 9 encS A' d.last.length c' (keepL pattern 0 d.last d.waits) :: rdisk p d :: L) from (rdisk_shut (d := d) (HF.re [1, 2, 3, 0] rfl)).pull1)
      clear HE HF HH
      go_wp2
      go_ret
      exact ⟨_, _, rfl, HG.out⟩
theorem rFlush_any (H : sat E w (rdisk p d :: L)) (hok : d.ok) (hd : d.deeds < 4611686018427387904) (hf : d.fuse < 9223372036854775808) (hw : d.waits.length < 1048576) (hl : d.last.length < 1048576) :
    Calls Try.prog 76 #[.pointer (some ⟨p, 0, none⟩)] w fun e w' => e = .returned (.int .i64 d.flush.1) ∧ sat E w' (rdisk p d.flush.2 :: L) := by
  obtain ⟨A, c, B, e, Hk, -⟩ := rdisk_peek H
  have g4 := Hk.cell 4
  clear Hk
  unfold DiskSt.flush
  by_cases h1 : d.dark = true
  · rw [if_pos h1]
    rw [h1] at g4
    have HH := Lib.hid H
    clear H h1
    go_enter Try.func76, Try.ntmps76
    go_wp2
    go_ret
    exact ⟨rfl, HH.out⟩
  · rw [if_neg h1]
    have h1' : d.dark = false := by simpa using h1
    rw [h1'] at g4
    have HD := rdeed_any H hd hf
    by_cases h2 : d.fuse = 0
    · rw [if_pos h2]
      have e1 : d.deed.1 = 17 := by unfold DiskSt.deed; rw [if_pos h2]
      rw [show (!(d.fuse == 0)) = false by rw [h2]; rfl] at HD
      rw [e1]
      replace HD := Lib.hid HD
      clear H h1 h1' h2 e1
      go_enter Try.func76, Try.ntmps76
      (go_wp2_with fail)
      refine (HD.out).mono ?_
      rintro e w' ⟨rfl, H⟩
      have HH := Lib.hid H
      clear H
      go_wp2
      go_ret
      exact ⟨rfl, HH.out⟩
    · rw [if_neg h2]
      obtain ⟨F, G, e2⟩ : ∃ F G, d.deed.2 = { d with fuse := F, deeds := G } := by unfold DiskSt.deed; rw [if_neg h2]; exact ⟨_, _, rfl⟩
      have h3 : (d.fuse == 0) = false := by rw [beq_eq_false_iff_ne]; exact h2
      rw [h3, e2] at HD
      rw [e2]
      replace HD := Lib.hid HD
      clear H h1 h1' h2 h3 e2
      go_enter Try.func76, Try.ntmps76
      (go_wp2_with fail)
      refine (HD.out).mono ?_
      rintro e w' ⟨rfl, H⟩
      have HS := Lib.hid (rSeen_any ones H (by decide) hok hw hl)
      clear H HD
      (go_wp2_with fail)
      refine (HS.out).mono ?_
      rintro e w' ⟨A1, c1, rfl, H⟩
      obtain ⟨A2, c2, B2, e2, H⟩ := rdisk_open H.pull1
      dsimp only at H
      have g0 := H.cell 0
      have g2 := H.cell 2
      have f0 := H.frozen 0
      have f2 := H.frozen 2
      have H3 := ((H.setCell 0 (.slice A1 d.last.length c1)).setCell 2 (.slice none 0 0)).nilRows 119 2 rwcell
      have H4 := Lib.hid (rdisk_shut (d := { d with fuse := F, deeds := G }.keep ones) (H3.choose 5 [1, 4, 0] rfl rfl))
      clear H H3
      go_wp2
      go_ret
      exact ⟨rfl, H4.out⟩
theorem rCrash_any (pattern : Nat) (H : sat E w (rdisk p d :: L)) (hp : pattern < 18446744073709551616) (hok : d.ok) (hw : d.waits.length < 1048576) (hl : d.last.length < 1048576) :
    Calls Try.prog 77 #[.pointer (some ⟨p, 0, none⟩), .int .u64 pattern] w fun e w' => e = .returned undef ∧ sat E w' (rdisk p (d.crash pattern) :: L) := by
  have HS := Lib.hid (rSeen_any pattern H hp hok hw hl)
  clear H
  go_enter Try.func77, Try.ntmps77
  (go_wp2_with fail)
  refine (HS.out).mono ?_
  rintro e w' ⟨A1, c1, rfl, H⟩
  obtain ⟨A2, c2, B2, e2, H⟩ := rdisk_open H.pull1
  have g0 := H.cell 0
  have g2 := H.cell 2
  have g3 := H.cell 3
  have g4 := H.cell 4
  have f0 := H.frozen 0
  have f2 := H.frozen 2
  have f3 := H.frozen 3
  have f4 := H.frozen 4
  have H3 := ((((H.setCell 0 (.slice A1 d.last.length c1)).setCell 2 (.slice none 0 0)).setCell 4 (.bool false)).setCell 3 (.int .i64 (-1))).nilRows 119 2 rwcell
  have H4 := Lib.hid (rdisk_shut (d := d.crash pattern) (H3.choose 5 [1, 4, 0] rfl rfl))
  clear H H3 HS
  go_wp2
  go_end0
  exact ⟨rfl, H4.out⟩
theorem pad_eq (n : Nat) (b : List UInt8) : strB b ++ strB (List.replicate (n - b.length) 0) = strB (pad n b) := strB_app _ _
set_option maxRecDepth 100000 in
theorem rWrite_any {i : Int} {A : Option Addr} {n c : Nat} {b : List UInt8} (H : sat E w (rdisk p d :: L)) (hd : d.deeds < 4611686018427387904) (hf : d.fuse < 9223372036854775808) (hb : ∀ W, sat E W L → Sl B8 W A b) (hn : b.length = n) (hz2 : d.size ≤ 1048576) (hw : d.waits.length < 1048576) :
    Calls Try.prog 75 #[.pointer (some ⟨p, 0, none⟩), .int .i64 i, .slice A n c] w fun e w' => e = .returned (.int .i64 (d.write i b).1) ∧ sat E w' (rdisk p (d.write i b).2 :: L) := by
  subst hn
  obtain ⟨A0, c0', B0, e0, Hk, -⟩ := rdisk_peek H
  have g0 := Hk.cell 0
  have g1 := Hk.cell 1
  have g4 := Hk.cell 4
  clear Hk
  unfold DiskSt.write
  by_cases h1 : d.dark = true
  · rw [if_pos h1]
    rw [h1] at g4
    have HH := Lib.hid H
    clear H hb h1
    go_enter Try.func75, Try.ntmps75
    go_wp2
    go_ret
    exact ⟨rfl, HH.out⟩
  rw [if_neg h1]
  have h1' : d.dark = false := by simpa using h1
  rw [h1'] at g4
  clear h1 h1'
  by_cases h0 : i < 0
  · rw [if_pos (.inl (fun h => by omega))]
    have HH := Lib.hid H
    clear H hb
    go_enter Try.func75, Try.ntmps75
    go_wp2
    go_ret
    exact ⟨rfl, HH.out⟩
  by_cases h2 : (d.last.length : Int) ≤ i
  · rw [if_pos (.inl (fun h => by omega))]
    have HH := Lib.hid H
    clear H hb
    go_enter Try.func75, Try.ntmps75
    go_wp2
    go_ret
    exact ⟨rfl, HH.out⟩
  by_cases h3 : (d.size : Int) < (b.length : Int)
  · rw [if_pos (.inr (by omega))]
    have HH := Lib.hid H
    clear H hb
    go_enter Try.func75, Try.ntmps75
    go_wp2
    go_ret
    exact ⟨rfl, HH.out⟩
  rw [if_neg (by omega)]
  have HD := rdeed_any H hd hf
  by_cases h4 : d.fuse = 0
  · rw [if_pos h4]
    have e1 : d.deed.1 = 17 := by unfold DiskSt.deed; rw [if_pos h4]
    rw [show (!(d.fuse == 0)) = false by rw [h4]; rfl] at HD
    rw [e1]
    replace HD := Lib.hid HD
    clear H hb h4 e1
    go_enter Try.func75, Try.ntmps75
    (go_wp2_with fail)
    refine (HD.out).mono ?_
    rintro e w' ⟨rfl, H⟩
    have HH := Lib.hid H
    clear H
    go_wp2
    go_ret
    exact ⟨rfl, HH.out⟩
  · rw [if_neg h4]
    obtain ⟨F, G, e2⟩ : ∃ F G, d.deed.2 = { d with fuse := F, deeds := G } := by unfold DiskSt.deed; rw [if_neg h4]; exact ⟨_, _, rfl⟩
    have h5 : (d.fuse == 0) = false := by rw [beq_eq_false_iff_ne]; exact h4
    rw [h5, e2] at HD
    rw [e2]
    replace HD := Lib.hid HD
    have HBB := Lib.hid hb
    have HWL : Hid (d.waits.length < 1099511627776) := by show _ < _; omega
    obtain ⟨z, hz⟩ : ∃ z : Nat, z = d.size - b.length := ⟨_, rfl⟩
    have ez : (d.size : Int) - (b.length : Int) = (z : Int) := by omega
    have HZ : Hid (z ≤ 1048576 ∧ z = d.size - b.length) := ⟨by omega, hz⟩
    have sb : (d.size : Int) ≤ 1048576 := by omega
    have ew : IntKind.i64.wrap (z : Int) = (z : Int) := by rw [IntKind.wrap_i64]; omega
    obtain ⟨j, rfl⟩ := Int.eq_ofNat_of_zero_le (by omega : 0 ≤ i)
    clear H hb h4 h5 e2 hz
    go_enter Try.func75, Try.ntmps75
    (go_wp2_with fail)
    refine (HD.out).mono ?_
    rintro e w' ⟨rfl, H⟩
    clear HD g0 g1 g4
    obtain ⟨A1, c1, B1, d1, H⟩ := rdisk_open H
    dsimp only at H
    have g0 := H.cell 0
    have g1 := H.cell 1
    have HH := Lib.hid H
    clear H
    go_wp2_with fail
    refine Reg.wp_region_s (HH.out) (fun W => (W.cell? ⟨p, 2, none⟩ = some (.slice B1 d.waits.length d1) ∧ W.cell? ⟨p, 1, none⟩ = some (.int .i64 d.size)) ∧ (convert 30 9 (.slice A b.length c)).run Try.prog W = .ok (.string (strB b)) W) [4, 7, 11] [15, 18, 19, 22] [0, 1, 2, 3, 4, 5, 6, 7, 8, 9, 10, 11, 12, 13, 14, 15, 16, 17, 18, 19, 20, 21, 22] (by kernel_rfl) (by kernel_rfl) (fun W HW => ⟨⟨HW.cell 2, HW.cell 1⟩, conv_sl Try.underlying30 Try.underlying5 Try.underlying9 rfl (HBB.out _ (HW.choose 3 [] rfl rfl))⟩) (fun W HW => ?_)
    simp only [Reg.pickOps, List.map_cons, List.map_nil, List.getD_cons_zero, List.getD_cons_succ, List.contains_cons, List.contains_nil, Nat.reduceBEq, Bool.or_false, Bool.or_true, Bool.or_self]
    iterate 4 (refine Reg.wpX_y (v := ?_) (fun w' => ?_) rfl ?_; rotate_left 1; focus (go_simp; (try with_reducible rfl)))
    (refine Reg.wpX_l (v := ?_) rfl (fun w' hw => ?_) rfl ?_; rotate_left 1; focus ((try dsimp only at hw); go_split_ands; go_simp; (try with_reducible rfl)))
    iterate 2 (refine Reg.wpX_y (v := ?_) (fun w' => ?_) rfl ?_; rotate_left 1; focus (go_simp; (try with_reducible rfl)))
    (refine Reg.wpX_l (v := ?_) rfl (fun w' hw => ?_) rfl ?_; rotate_left 1; focus ((try dsimp only at hw); go_split_ands; go_simp; (try with_reducible rfl)))
    try simp only [Act.put, List.setIfInBounds_toArray, List.set_cons_zero, List.set_cons_succ]
    iterate 3 (refine Reg.wpX_y (v := ?_) (fun w' => ?_) rfl ?_; rotate_left 1; focus (go_simp; (try with_reducible rfl)))
    (refine Reg.wpX_l (v := ?_) rfl (fun w' hw => ?_) rfl ?_; rotate_left 1; focus ((try dsimp only at hw); go_split_ands; go_simp; (try with_reducible rfl)))
    iterate 3 (refine Reg.wpX_y (v := ?_) (fun w' => ?_) rfl ?_; rotate_left 1; focus (go_simp; (try with_reducible rfl)))
    try simp only [Act.put, List.setIfInBounds_toArray, List.set_cons_zero, List.set_cons_succ]
    have HZr := Lib.hid (rzeros_any z HZ.out.1 HW)
    refine Reg.wpX_go rfl (fun K hK => ?_)
    go_simp
    refine HZr.out.mono ?_
    rintro ee w2 ⟨rfl, H1⟩
    have SS : Hid (∀ W R, sat E W (blk p #[.slice A1 d.last.length c1, .int .i64 d.size, .slice B1 d.waits.length d1, .int .i64 F, .bool d.dark, .int .i64 G] 48 :: R) → sat E W L → ((W.cell? ⟨p, 2, none⟩ = some (.slice B1 d.waits.length d1) ∧ W.cell? ⟨p, 1, none⟩ = some (.int .i64 d.size)) ∧ (convert 30 9 (.slice A b.length c)).run Try.prog W = .ok (.string (strB b)) W)) := fun W R h h' =>
      ⟨⟨h.cell 2, h.cell 1⟩, conv_sl Try.underlying30 Try.underlying5 Try.underlying9 rfl (HBB.out _ h')⟩
    have ep : strB b ++ strB (List.replicate z 0) = strB (pad d.size b) := by rw [HZ.out.2]; exact pad_eq _ _
    have lt : ¬ 9223372036854775807 < (strB b).size + (strB (List.replicate z 0)).size := by rw [strB_size, strB_size, List.length_replicate]; have := HZ.out; omega
    dsimp only [encS]
    refine hK _ _ (SS.out _ _ H1 (H1.choose 3 [] rfl rfl)) ?_
    iterate 2 (refine Reg.wpX_y (v := ?_) (fun w' => ?_) rfl ?_; rotate_left 1; focus (go_simp; (try with_reducible rfl)))
    try simp only [Act.put, List.setIfInBounds_toArray, List.set_cons_zero, List.set_cons_succ]
    refine Reg.wpX_go rfl (fun K hK => ?_)
    go_simp
    have H2 := H1.alloc #[.int .i64 (j : Int), .string (strB (pad d.size b))] 119
    refine hK _ _ (SS.out _ _ H2.pull1 (H2.choose 4 [] rfl rfl)) ?_
    try simp only [Act.put, List.setIfInBounds_toArray, List.set_cons_zero, List.set_cons_succ]
    refine Reg.wpX_go rfl (fun K hK => ?_)
    refine wp_appR1 (.tmp 38) (.tmp 52) 46 rfl infoRW Try.underlying46 rfl rwcell_len (by decide) (by decide) H1.pull2 (j, pad d.size b) rfl rfl rfl rfl (rwcell_one _) HWL.out (fun A3 c3 w3 H3 => ?_)
    refine hK _ _ (SS.out _ _ H3.pull1 (H3.choose 3 [] rfl rfl)) ?_
    iterate 2 (refine Reg.wpX_y (v := ?_) (fun w' => ?_) rfl ?_; rotate_left 1; focus (go_simp; (try with_reducible rfl)))
    try simp only [Act.put, List.setIfInBounds_toArray, List.set_cons_zero, List.set_cons_succ]
    have g3 := H3.pull1.cell 2
    have f3 := H3.pull1.frozen 2
    refine Reg.wpX_last rfl (by kernel_rfl) (fun K hK => ?_)
    go_simp
    have H4 := H3.pull1.setCell 2 (.slice A3 (d.waits.length + 1) c3)
    have H5 := Lib.hid (rdisk_shut (d := { d with fuse := F, deeds := G, waits := d.waits ++ [((j : Int).toNat, pad d.size b)] }) (H4.re [0, 2, 1] rfl))
    refine hK _ _ ?_
    try simp only [Act.put, List.setIfInBounds_toArray, List.set_cons_zero, List.set_cons_succ]
    refine Reg.wpX_nil ?_
    clear H1 H2 H3 H4 HW HH SS
    go_wp2
    go_ret
    exact ⟨rfl, H5.out⟩
end
end Go.Proofs.Ytbkjkiaicaopoaa.Dk
