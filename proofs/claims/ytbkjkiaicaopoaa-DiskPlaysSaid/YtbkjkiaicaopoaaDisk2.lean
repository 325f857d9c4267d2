/-
  Package disk: a new one; what is kept at a crash; flush, crash.
-/
import Derived.Test.YtbkjkiaicaopoaaDisk
namespace Go.Proofs.Ytbkjkiaicaopoaa.Dk
open Go.RowKit Go.Proofs.Ytbkjkiaicaopoaa

def fresh (sectors size : Nat) : DiskSt := { last := List.replicate sectors (List.replicate size 0), waits := [], size := size, fuse := -1, dark := false, deeds := 0 }
/-- May such a disk be? -/
def sane (sectors size : Int) : Bool := decide (1 ≤ sectors ∧ sectors ≤ 600 ∧ 64 ≤ size ∧ size ≤ 1024)
set_option maxRecDepth 100000 in
theorem New_no {sectors size : Int} (w : World) (h : sane sectors size = false) : Calls Try.prog 15 #[.int .i64 sectors, .int .i64 size] w fun e w' => e = .returned (.tuple #[.pointer none, .int .i64 1]) ∧ w = w' := by
  have h' : ¬ (1 ≤ sectors ∧ sectors ≤ 600 ∧ 64 ≤ size ∧ size ≤ 1024) := of_decide_eq_false h
  clear h
  by_cases h1 : sectors < 1
  · clear h'
    go_enter Try.func15, Try.ntmps15
    go_wp2
    go_ret2
    exact ⟨rfl, rfl⟩
  by_cases h2 : 600 < sectors
  · clear h'
    go_enter Try.func15, Try.ntmps15
    go_wp2
    go_ret2
    exact ⟨rfl, rfl⟩
  by_cases h3 : size < 64
  · clear h'
    go_enter Try.func15, Try.ntmps15
    go_wp2
    go_ret2
    exact ⟨rfl, rfl⟩
  have h4 : 1024 < size := by omega
  clear h'
  go_enter Try.func15, Try.ntmps15
  go_wp2
  go_ret2
  exact ⟨rfl, rfl⟩
set_option maxRecDepth 100000 in
theorem New_ok {E w : World} {L : List HP} (sectors size : Nat) (H : sat E w L) (h1 : 1 ≤ sectors) (h2 : sectors ≤ 600) (h3 : 64 ≤ size) (h4 : size ≤ 1024) :
    Calls Try.prog 15 #[.int .i64 sectors, .int .i64 size] w fun e w' => ∃ p, e = .returned (.tuple #[.pointer (some ⟨p, 0, none⟩), .int .i64 0]) ∧ sat E w' (disk p (fresh sectors size) :: L) := by
  have i1 : ¬ (sectors : Int) < 1 := by omega
  have i2 : ¬ (600 : Int) < (sectors : Int) := by omega
  have i3 : ¬ (size : Int) < 64 := by omega
  have i4 : ¬ (1024 : Int) < (size : Int) := by omega
  have mk : Hid (∀ W : World, (Instr.makeSlice 30 (.int .i64 (size : Int)) (.int .i64 (size : Int))).run Try.prog W = .ok (.slice (some ⟨W.heap.size, 0, none⟩) size size) (W.alloc (.cells (Array.replicate size (B8 0)) 5))) := fun W => make_bytes info8 Try.underlying30 size (by omega) W
  have H0 := Lib.hid (((H.bagNil 5).nilVec 30 Sec.v).alloc #[.slice none 0 0, .int .i64 size, .slice none 0 0, .int .i64 (-1), .bool false, .int .i64 0] 113)
  have HS : Hid (size ≤ 1024 ∧ sectors ≤ 600) := ⟨h4, h2⟩
  clear H h1 h2 h3 h4
  go_enter Try.func15, Try.ntmps15
  go_wp2
  go_loopw [25] (fun i wr => ∃ (k c : Nat) (A : Option Addr) (ss : List Sec), k ≤ sectors ∧ i = .int .i64 k ∧ ss.map Sec.l = List.replicate k (List.replicate size 0) ∧
    sat E wr (blk w.heap.size #[.slice A k c, .int .i64 size, .slice none 0 0, .int .i64 (-1), .bool false, .int .i64 0] 113 :: vec 30 Sec.v A k c ss :: bag 5 ss :: L)) (fun i _ => sectors - (intOf i).toNat)
  case atStart => exact ⟨0, 0, none, [], Nat.zero_le _, rfl, rfl, H0.out⟩
  case round =>
    obtain ⟨k, c, A, ss, hk, rfl, hss, H⟩ := hrel
    have SS := Lib.hid hss
    clear H0 hss
    by_cases hlt : k < sectors
    · have k1 : (k : Int) < (sectors : Int) := by omega
      have hkb : k < 1099511627776 := by have := HS.out; omega
      have HH := Lib.hid H
      clear H
      go_wp2
      refine Reg.wp_region_s (HH.out) (fun W => W.cell? ⟨w.heap.size, 0, none⟩ = some (.slice A k c)) [4] [6, 7, 8, 11] [0, 1, 2, 3, 4, 5, 6, 7, 8, 9, 10, 11] (by kernel_rfl) (by kernel_rfl) (fun W HW => HW.cell 0) (fun W HW => ?_)
      simp only [Reg.pickOps, List.map_cons, List.map_nil, List.getD_cons_zero, List.getD_cons_succ, List.contains_cons, List.contains_nil, Nat.reduceBEq, Bool.or_false, Bool.or_true, Bool.or_self]
      iterate 4 (refine Reg.wpX_y (v := ?_) (fun w' => ?_) rfl ?_; rotate_left 1; focus (go_simp; (try with_reducible rfl)))
      (refine Reg.wpX_l (v := ?_) rfl (fun w' hw => ?_) rfl ?_; rotate_left 1; focus ((try dsimp only at hw); go_split_ands; go_simp; (try with_reducible rfl)))
      (refine Reg.wpX_y (v := ?_) (fun w' => ?_) rfl ?_; rotate_left 1; focus (go_simp; (try with_reducible rfl)))
      try simp only [Act.put, List.setIfInBounds_toArray, List.set_cons_zero, List.set_cons_succ]
      have MK := mk.out W
      refine Reg.wpX_go rfl (fun K hK => ?_)
      go_simp
      have H1 := HW.zeros (n := size) 5 (by have := HS.out; unfold maxLen; omega)
      refine hK _ _ (H1.pull1.cell 0) ?_
      try simp only [Act.put, List.setIfInBounds_toArray, List.set_cons_zero, List.set_cons_succ]
      refine Reg.wpX_go rfl (fun K hK => ?_)
      go_simp
      have H2 := H1.alloc #[.slice (some ⟨W.heap.size, 0, none⟩) size size] 30
      refine hK _ _ (H2.pull2.cell 0) ?_
      try simp only [Act.put, List.setIfInBounds_toArray, List.set_cons_zero, List.set_cons_succ]
      refine Reg.wpX_last rfl (by kernel_rfl) (fun K hK => ?_)
      refine wp_app1 (.tmp 31) (.tmp 34) 110 rfl infoB Try.underlying110 rfl (by decide) H1.pull2 (⟨some ⟨W.heap.size, 0, none⟩, size, size, List.replicate size 0⟩ : Sec) rfl rfl rfl (by simp) rfl hkb (fun A3 c3 w3 H3 => ?_)
      refine hK _ _ ?_
      iterate 2 (refine Reg.wpX_y (v := ?_) (fun w' => ?_) rfl ?_; rotate_left 1; focus (go_simp; (try with_reducible rfl)))
      try simp only [Act.put, List.setIfInBounds_toArray, List.set_cons_zero, List.set_cons_succ]
      have g3 := H3.pull2.cell 0
      have f3 := H3.pull2.frozen 0
      refine Reg.wpX_last rfl (by kernel_rfl) (fun K hK => ?_)
      go_simp
      have H4 := H3.pull2.setCell 0 (.slice A3 (k + 1) c3)
      have H5 := Lib.hid (((H4.re [2, 3, 0, 1] rfl).bagPush (s := ⟨some ⟨W.heap.size, 0, none⟩, size, size, List.replicate size 0⟩)).re [1, 2, 0] rfl)
      clear H1 H2 H3 H4 HH HW MK g3 f3
      refine hK _ _ ?_
      try simp only [Act.put, List.setIfInBounds_toArray, List.set_cons_zero, List.set_cons_succ]
      refine Reg.wpX_nil ?_
      go_wp2
      go_roundw
      case rel => exact ⟨k + 1, c3, A3, ss ++ [(⟨some ⟨W.heap.size, 0, none⟩, size, size, List.replicate size 0⟩ : Sec)], by omega, by go_num, by rw [List.map_append, SS.out, List.replicate_succ']; rfl, H5.out⟩
      case measure => simp [intOf] <;> omega
    · obtain rfl : k = sectors := by omega
      have k1 : ¬ (k : Int) < (k : Int) := by omega
      have HF := Lib.hid (disk_shut (d := fresh k size) (ws := []) SS.out rfl (((H.bagNil 5).nilRows 116 2 wcell).re [2, 3, 0, 4, 1] rfl))
      clear H
      go_wp2
      go_ret2
      exact ⟨_, rfl, HF.out⟩
/-- Is the k-th of those that wait kept? -/
def bit (pattern k : Nat) : Bool := pattern / 2 ^ (k % 64) % 2 == 1
def keepL (pattern : Nat) : Nat → List (List UInt8) → List (Nat × List UInt8) → List (List UInt8)
  | _, last, [] => last
  | k, last, x :: ws => keepL pattern (k + 1) (if bit pattern k = true then last.set x.1 x.2 else last) ws
def DiskSt.keep (d : DiskSt) (pattern : Nat) : DiskSt := { d with last := keepL pattern 0 d.last d.waits, waits := [] }
/-- What waits is for sectors that are there. -/
def DiskSt.ok (d : DiskSt) : Prop := (∀ x ∈ d.waits, x.1 < d.last.length ∧ x.2.length = d.size) ∧ (∀ x ∈ d.last, x.length = d.size)
theorem bit_law (pattern k : Nat) (h : pattern < 18446744073709551616) : (bits .and .u64 ((pattern : Int) / 2 ^ (k % 64)) 1 == (1 : Int)) = bit pattern k := by
  have e1 : (pattern : Int) / 2 ^ (k % 64) = ((pattern / 2 ^ (k % 64) : Nat) : Int) := by push_cast; rfl
  have hlt : pattern / 2 ^ (k % 64) < 18446744073709551616 := Nat.lt_of_le_of_lt (Nat.div_le_self _ _) h
  rw [e1, show (1 : Int) = ((1 : Nat) : Int) from rfl, u64_and_nat _ _ hlt (by omega), Nat.and_one_is_mod]
  unfold bit
  rcases Nat.mod_two_eq_zero_or_one (pattern / 2 ^ (k % 64)) with e | e <;> rw [e] <;> rfl
theorem drop_cons {α : Type} {l : List α} {i : Nat} {x : α} (h : l[i]? = some x) : l.drop i = x :: l.drop (i + 1) := by
  have hl := (List.getElem?_eq_some_iff.1 h).1
  rw [List.drop_eq_getElem_cons hl]
  congr 1
  rw [List.getElem?_eq_getElem hl] at h
  exact Option.some.inj h
set_option maxRecDepth 100000 in
theorem keep_any {E w : World} {p : Nat} {d : DiskSt} {L : List HP} (pattern : Nat) (H : sat E w (disk p d :: L)) (hp : pattern < 18446744073709551616) (hok : d.ok) (hw : d.waits.length < 1048576) :
    Calls Try.prog 73 #[.pointer (some ⟨p, 0, none⟩), .int .u64 pattern] w fun e w' => e = .returned undef ∧ sat E w' (disk p (d.keep pattern) :: L) := by
  obtain ⟨ss, ws, A, c, B, e, q1, q2, H⟩ := disk_open H
  have g2 := H.cell 2
  have Q1 := Lib.hid q1
  have Q2 := Lib.hid q2
  have HOK := Lib.hid hok
  have HW := Lib.hid hw
  have BL := Lib.hid (fun k => bit_law pattern k hp)
  have H0 := Lib.hid H
  clear H q1 q2 hok
  go_enter Try.func73, Try.ntmps73
  go_wp2
  go_loopw [11] (fun i wr => ∃ (k : Nat) (ts : List Sec), k ≤ d.waits.length ∧ i = .int .i64 k ∧ ts.length = d.last.length ∧ keepL pattern k (ts.map Sec.l) (d.waits.drop k) = keepL pattern 0 d.last d.waits ∧
    sat E wr (blk p #[.slice A d.last.length c, .int .i64 d.size, .slice B d.waits.length e, .int .i64 d.fuse, .bool d.dark, .int .i64 d.deeds] 113 :: vec 30 Sec.v A d.last.length c ts :: rows 116 2 wcell B d.waits.length e ws :: bag 5 ts :: bag 5 ((ws.drop k).map Prod.snd) :: L)) (fun i _ => d.waits.length - (intOf i).toNat)
  case atStart => exact ⟨0, ss, Nat.zero_le _, rfl, by have := Q1.out; rw [← this, List.length_map], by rw [Q1.out]; rfl, H0.out⟩
  case round =>
    obtain ⟨k, ts, hk, rfl, htl, hkp, H⟩ := hrel
    have HK := Lib.hid hkp
    have HTL := Lib.hid htl
    clear hkp htl H0
    by_cases hlt : k < d.waits.length
    · have hwl : ws.length = d.waits.length := by rw [← Q2.out, List.length_map]
      obtain ⟨⟨i, SA, sn, sc, sl⟩, ex⟩ : ∃ x, ws[k]? = some x := ⟨_, List.getElem?_eq_getElem (by omega)⟩
      have ed : d.waits[k]? = some (i, sl) := by rw [← Q2.out, List.getElem?_map, ex]; rfl
      obtain ⟨g, o, rfl, -, hc⟩ := (H.pull2.SlR wcell_len (by decide)).cells ex
      have c0 := hc 0 _ rfl
      have c1 : wr.cell? ⟨g, o + k * 2 + 1, none⟩ = some (.slice SA sn sc) := hc 1 _ rfl
      rw [Nat.add_zero] at c0
      have k0 : (0 : Int) ≤ (k : Int) := by omega
      have k1 : (k : Int) < (d.waits.length : Int) := by omega
      have HH := Lib.hid H
      clear hc H
      have hdw : ws.drop k = (i, (⟨SA, sn, sc, sl⟩ : Sec)) :: ws.drop (k + 1) := drop_cons ex
      have hdd : d.waits.drop k = (i, sl) :: d.waits.drop (k + 1) := drop_cons ed
      have hil : i < d.last.length := (HOK.out.1 _ (List.mem_of_getElem? ed)).1
      have hk2 := HK.out
      rw [hdd] at hk2
      replace hk2 : keepL pattern (k + 1) (if bit pattern k = true then (ts.map Sec.l).set i sl else ts.map Sec.l) (d.waits.drop (k + 1)) = keepL pattern 0 d.last d.waits := hk2
      have H1 := HH.out.alloc #[.int .i64 i, .slice SA sn sc] 116
      rw [hdw, List.map_cons] at H1
      have H2 := Lib.hid ((H1.pull5.bagUncons).re [2, 3, 4, 5, 6, 0, 1] rfl)
      clear H1 hdw hdd ed ex HH HK
      have bl := BL.out k
      cases hb : bit pattern k with
      | true =>
        rw [hb] at bl
        rw [if_pos hb] at hk2
        have K2 := Lib.hid hk2
        have HB := Lib.hid hb
        clear hk2 hb
        have i0 : (0 : Int) ≤ (i : Int) := by omega
        have i1 : (i : Int) < (d.last.length : Int) := by omega
        obtain ⟨g0, rfl⟩ := (H2.out.pull2 : sat E _ (vec 30 Sec.v A d.last.length c ts :: _)).vaddr (by omega)
        go_wp2
        refine Reg.wp_region_s (H2.out) (fun W => W.cell? ⟨p, 0, none⟩ = some (.slice (some ⟨g0, 0, none⟩) d.last.length c) ∧ W.cell? ⟨wr.heap.size, 0, none⟩ = some (.int .i64 i) ∧ W.cell? ⟨wr.heap.size, 1, none⟩ = some (.slice SA sn sc)) [3, 5, 7] [9] [0, 1, 2, 3, 4, 5, 6, 7, 8, 9] (by kernel_rfl) (by kernel_rfl) (fun W HW => ⟨HW.pull1.cell 0, HW.cell 0, HW.cell 1⟩) (fun W HW => ?_)
        simp only [Reg.pickOps, List.map_cons, List.map_nil, List.getD_cons_zero, List.getD_cons_succ, List.contains_cons, List.contains_nil, Nat.reduceBEq, Bool.or_false, Bool.or_true, Bool.or_self]
        iterate 3 (refine Reg.wpX_y (v := ?_) (fun w' => ?_) rfl ?_; rotate_left 1; focus (go_simp; (try with_reducible rfl)))
        (refine Reg.wpX_l (v := ?_) rfl (fun w' hw => ?_) rfl ?_; rotate_left 1; focus ((try dsimp only at hw); go_split_ands; go_simp; (try with_reducible rfl)))
        (refine Reg.wpX_y (v := ?_) (fun w' => ?_) rfl ?_; rotate_left 1; focus (go_simp; (try with_reducible rfl)))
        (refine Reg.wpX_l (v := ?_) rfl (fun w' hw => ?_) rfl ?_; rotate_left 1; focus ((try dsimp only at hw); go_split_ands; go_simp; (try with_reducible rfl)))
        (refine Reg.wpX_y (v := ?_) (fun w' => ?_) rfl ?_; rotate_left 1; focus (go_simp; (try with_reducible rfl)))
        (refine Reg.wpX_l (v := ?_) rfl (fun w' hw => ?_) rfl ?_; rotate_left 1; focus ((try dsimp only at hw); go_split_ands; go_simp; (try with_reducible rfl)))
        (refine Reg.wpX_y (v := ?_) (fun w' => ?_) rfl ?_; rotate_left 1; focus (go_simp; (try with_reducible rfl)))
        try simp only [Act.put, List.setIfInBounds_toArray, List.set_cons_zero, List.set_cons_succ]
        have HV : sat E W (vec 30 Sec.v (some ⟨g0, 0, none⟩) d.last.length c ts :: _) := HW.pull2
        obtain ⟨t, et⟩ : ∃ t, ts[i]? = some t := ⟨_, List.getElem?_eq_getElem (by have := HTL.out; omega)⟩
        have v0 : W.cell? ⟨g0, 0 + i, none⟩ = some t.v := HV.vcell et
        have v1 := HV.vfrozen (by omega) i
        rw [Nat.zero_add] at v0
        refine Reg.wpX_last rfl (by kernel_rfl) (fun K hK => ?_)
        go_simp
        have HV2 : sat E (W.setCell ⟨g0, i, none⟩ (.slice SA sn sc)) (vec 30 Sec.v (some ⟨g0, 0, none⟩) d.last.length c (ts.set i ⟨SA, sn, sc, sl⟩) :: _) := HV.vecSet hil (⟨SA, sn, sc, sl⟩ : Sec)
        have HV3 := (HV2.re [5, 4, 0, 1, 2, 3, 6] rfl (by simp [putIn])).bagSet (i := i) (s := ⟨SA, sn, sc, sl⟩) (by have := HTL.out; omega)
        have HF := Lib.hid (HV3.choose 6 [3, 1, 4, 0, 5] rfl rfl (by simp [putIn]))
        clear HV HV2 HV3 HW H2 v0 v1 et
        refine hK _ _ ?_
        try simp only [Act.put, List.setIfInBounds_toArray, List.set_cons_zero, List.set_cons_succ]
        refine Reg.wpX_nil ?_
        go_wp2
        go_roundw
        case rel => exact ⟨k + 1, ts.set i ⟨SA, sn, sc, sl⟩, by omega, by go_num, by rw [List.length_set]; exact HTL.out, by rw [List.map_set]; exact K2.out, HF.out⟩
        case measure => simp [intOf] <;> omega
      | false =>
        rw [hb] at bl
        rw [if_neg (by rw [hb]; simp)] at hk2
        have K2 := Lib.hid hk2
        have HF := Lib.hid (H2.out.choose 7 [1, 2, 3, 4, 6] rfl rfl (by simp [putIn]))
        clear hk2 hb H2
        go_wp2
        go_roundw
        case rel => exact ⟨k + 1, ts, by omega, by go_num, HTL.out, K2.out, HF.out⟩
        case measure => simp [intOf] <;> omega
    · obtain rfl : k = d.waits.length := by omega
      have k1 : ¬ (d.waits.length : Int) < (d.waits.length : Int) := by omega
      have g2' := H.cell 2
      have f2 := H.frozen 2
      have hkp := HK.out
      rw [List.drop_length] at hkp
      have hl : ts.map Sec.l = (d.keep pattern).last := hkp
      have HF := Lib.hid (disk_shut (d := d.keep pattern) (ws := []) hl rfl (((((H.setCell 2 (.slice none 0 0)).choose 5 [0, 1, 3] rfl rfl).bagNil 5).nilRows 116 2 wcell).re [2, 3, 0, 4, 1] rfl (by simp [chooseIn])))
      clear H hkp hl HK
      go_wp2
      go_end0
      exact ⟨rfl, HF.out⟩
def ones : Nat := 18446744073709551615
def DiskSt.flush (d : DiskSt) : Int × DiskSt := if d.dark = true then (17, d) else if d.fuse = 0 then d.deed else (0, d.deed.2.keep ones)
def DiskSt.crash (d : DiskSt) (pattern : Nat) : DiskSt := { d.keep pattern with dark := false, fuse := -1 }
section
variable {E w : World} {p : Nat} {d : DiskSt} {L : List HP}
theorem Flush_any (H : sat E w (disk p d :: L)) (hok : d.ok) (hd : d.deeds < 4611686018427387904) (hf : d.fuse < 9223372036854775808) (hw : d.waits.length < 1048576) :
    Calls Try.prog 17 #[.pointer (some ⟨p, 0, none⟩)] w fun e w' => e = .returned (.int .i64 d.flush.1) ∧ sat E w' (disk p d.flush.2 :: L) := by
  have HU := up_any H
  unfold DiskSt.flush
  by_cases h1 : d.dark = true
  · rw [if_pos h1]
    rw [if_pos h1] at HU
    replace HU := Lib.hid HU
    have HH := Lib.hid H
    clear H h1
    go_enter Try.func17, Try.ntmps17
    (go_wp2_with fail)
    refine (HU.out).mono ?_
    rintro e w' ⟨rfl, rfl⟩
    go_wp2
    go_ret
    exact ⟨rfl, HH.out⟩
  · rw [if_neg h1]
    rw [if_neg h1] at HU
    replace HU := Lib.hid HU
    have HD := deed_any H hd hf
    by_cases h2 : d.fuse = 0
    · rw [if_pos h2]
      have e1 : d.deed.1 = 17 := by unfold DiskSt.deed; rw [if_pos h2]
      rw [e1] at HD ⊢
      replace HD := Lib.hid HD
      clear H h1 h2 e1
      go_enter Try.func17, Try.ntmps17
      (go_wp2_with fail)
      refine (HU.out).mono ?_
      rintro e w' ⟨rfl, rfl⟩
      (go_wp2_with fail)
      refine (HD.out).mono ?_
      rintro e w' ⟨rfl, H⟩
      have HH := Lib.hid H
      clear H
      go_wp2
      go_ret
      exact ⟨rfl, HH.out⟩
    · rw [if_neg h2]
      have e1 : d.deed.1 = 0 := by unfold DiskSt.deed; rw [if_neg h2]
      obtain ⟨F, G, e2⟩ : ∃ F G, d.deed.2 = { d with fuse := F, deeds := G } := by unfold DiskSt.deed; rw [if_neg h2]; exact ⟨_, _, rfl⟩
      rw [e1, e2] at HD
      rw [e2]
      replace HD := Lib.hid HD
      clear H h1 h2 e1 e2
      go_enter Try.func17, Try.ntmps17
      (go_wp2_with fail)
      refine (HU.out).mono ?_
      rintro e w' ⟨rfl, rfl⟩
      (go_wp2_with fail)
      refine (HD.out).mono ?_
      rintro e w' ⟨rfl, H⟩
      have HKP := Lib.hid (keep_any ones H (by decide) hok hw)
      clear H
      (go_wp2_with fail)
      refine (HKP.out).mono ?_
      rintro e w' ⟨rfl, H⟩
      have HH := Lib.hid H
      clear H
      go_wp2
      go_ret
      exact ⟨rfl, HH.out⟩
theorem Crash_any (pattern : Nat) (H : sat E w (disk p d :: L)) (hp : pattern < 18446744073709551616) (hok : d.ok) (hw : d.waits.length < 1048576) :
    Calls Try.prog 19 #[.pointer (some ⟨p, 0, none⟩), .int .u64 pattern] w fun e w' => e = .returned undef ∧ sat E w' (disk p (d.crash pattern) :: L) := by
  have HKP := Lib.hid (keep_any pattern H hp hok hw)
  clear H
  go_enter Try.func19, Try.ntmps19
  (go_wp2_with fail)
  refine (HKP.out).mono ?_
  rintro e w' ⟨rfl, H⟩
  obtain ⟨A, c, B, e, Hk, hback⟩ := disk_peek H
  have c3 := Hk.cell 3
  have c4 := Hk.cell 4
  have f3 := Hk.frozen 3
  have f4 := Hk.frozen 4
  have HB := Lib.hid hback
  clear H Hk hback HKP
  go_wp2
  go_end0
  exact ⟨rfl, HB.out _ _ _ rfl rfl (fun R h => (h.setCell 4 (.bool false)).setCell 3 (.int .i64 (-1)))⟩
end
end Go.Proofs.Ytbkjkiaicaopoaa.Dk
