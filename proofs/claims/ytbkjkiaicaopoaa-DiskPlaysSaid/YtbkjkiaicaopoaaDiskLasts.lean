/-
  DiskLasts: what was flushed lasts.
-/
import Derived.Test.YtbkjkiaicaopoaaDiskAll
import Derived.Test.YtbkjkiaicaopoaaDiskPure
import Derived.Test.YtbkjkiaicaopoaaArgBy
import Derived.Deep.CutBlock
namespace Go.Proofs.Ytbkjkiaicaopoaa.Dk
open Go.RowKit Go.Proofs.Ytbkjkiaicaopoaa

/-- A deed as it came in: its kind, its number, its bytes as a slice, its pattern. -/
structure Act7 where
  kd : Int
  i : Int
  A : Option Addr
  n : Nat
  c : Nat
  pt : Int
  b : List UInt8
def encA (x : Act7) : List Value := [.int .i64 x.kd, .int .i64 x.i, .slice x.A x.n x.c, .int .u64 x.pt]
def Act7.good (W : World) (x : Act7) : Prop := x.b.length = x.n ∧ x.n ≤ x.c ∧ Sl B8 W x.A x.b ∧ 0 ≤ x.pt ∧ x.pt < 18446744073709551616
theorem act_of {W : World} {vs : List Value} (h : fitsBy ([.kd (.int .i64), .kd (.int .i64), .bytes, .kd (.int .u64)].map (Sp.ok W)) vs) : ∃ x : Act7, vs = encA x ∧ x.good W := by
  obtain ⟨hl, hf⟩ := h
  match vs, hl with
  | [a, b, c, d], _ =>
    obtain ⟨x, rfl, _⟩ := hf 0 _ _ rfl rfl
    obtain ⟨y, rfl, _⟩ := hf 1 _ _ rfl rfl
    obtain ⟨A, l, cc, rfl, hc, hs, _⟩ := hf 2 _ _ rfl rfl
    obtain ⟨z, rfl, hz⟩ := hf 3 _ _ rfl rfl
    have hz' : 0 ≤ z ∧ z ≤ 18446744073709551615 := by simpa [Lit.wf, IntKind.min, IntKind.max, IntKind.signed, IntKind.bits] using hz
    exact ⟨⟨x, y, A, l.length, cc, z, l⟩, rfl, rfl, hc, hs, hz'.1, by dsimp only; omega⟩
/-- All of them written, one after the other. -/
def wrs (d : DiskSt) : List Act7 → DiskSt
  | [] => d
  | x :: l => wrs (d.write x.i x.b).2 l
theorem wr_snoc (x : Act7) : ∀ (l : List Act7) (d : DiskSt), wrs d (l ++ [x]) = ((wrs d l).write x.i x.b).2
  | [], _ => rfl
  | y :: l, d => wr_snoc x l (d.write y.i y.b).2
/-- What a write leaves as it was, and what it counts. -/
theorem write_num (d : DiskSt) (i : Int) (b : List UInt8) : (d.write i b).2.last = d.last ∧ (d.write i b).2.size = d.size ∧ (d.write i b).2.deeds ≤ d.deeds + 1 ∧ (d.write i b).2.waits.length ≤ d.waits.length + 1 ∧ (d.write i b).2.fuse ≤ max d.fuse 0 ∧ (d.fuse = -1 → (d.write i b).2.fuse = -1 ∧ (d.write i b).2.dark = d.dark) := by
  unfold DiskSt.write DiskSt.deed
  by_cases h1 : d.dark = true
  · rw [if_pos h1]; exact ⟨rfl, rfl, by dsimp only; omega, by dsimp only; omega, by dsimp only; omega, fun h => ⟨h, rfl⟩⟩
  · rw [if_neg h1]
    by_cases h2 : ¬ (0 ≤ i ∧ i < (d.last.length : Int)) ∨ d.size < b.length
    · rw [if_pos h2]; exact ⟨rfl, rfl, by dsimp only; omega, by dsimp only; omega, by dsimp only; omega, fun h => ⟨h, rfl⟩⟩
    · rw [if_neg h2]
      by_cases h3 : d.fuse = 0
      · simp only [if_pos h3]
        exact ⟨trivial, trivial, by omega, by omega, by omega, fun h => by omega⟩
      · simp only [if_neg h3]
        refine ⟨trivial, trivial, by omega, by simp, by split <;> omega, fun h => ?_⟩
        rw [if_neg (by omega)]
        exact ⟨h, trivial⟩
/-- A disk of 8 sectors that never goes dark. -/
def fine (d : DiskSt) (k : Nat) : Prop := d.ok ∧ d.last.length = 8 ∧ d.size = 64 ∧ d.deeds ≤ k ∧ d.waits.length ≤ k ∧ d.fuse = -1 ∧ d.dark = false
theorem fine_write {d : DiskSt} {k : Nat} (h : fine d k) (i : Int) (b : List UInt8) : fine (d.write i b).2 (k + 1) := by
  obtain ⟨h1, h2, h3, h4, h5, h6, h7⟩ := h
  obtain ⟨n1, n2, n3, n4, _, n6⟩ := write_num d i b
  exact ⟨write_ok h1 i b, by rw [n1]; exact h2, by rw [n2]; exact h3, by omega, by omega, (n6 h6).1, by rw [(n6 h6).2]; exact h7⟩
theorem fine_wr : ∀ (l : List Act7) {d : DiskSt} {k : Nat}, fine d k → fine (wrs d l) (k + l.length)
  | [], _, _, h => h
  | x :: l, d, k, h => by
    have := fine_wr l (fine_write h x.i x.b)
    rw [List.length_cons, show k + (l.length + 1) = k + 1 + l.length by omega]
    exact this
theorem fine_fresh : fine (fresh 8 64) 0 := by
  refine ⟨⟨by simp [fresh], ?_⟩, by simp [fresh], rfl, Nat.le_refl _, Nat.le_refl _, rfl, rfl⟩
  intro x hx
  have := List.eq_of_mem_replicate hx
  rw [this]; simp [fresh]
/-- Which sectors were written. -/
def tchs (d : DiskSt) (ts : List Bool) : List Act7 → List Bool
  | [] => ts
  | x :: l => tchs (d.write x.i x.b).2 (if (d.write x.i x.b).1 = 0 then ts.set x.i.toNat true else ts) l
theorem tchs_snoc (x : Act7) : ∀ (l : List Act7) (d : DiskSt) (ts : List Bool), tchs d ts (l ++ [x]) = if ((wrs d l).write x.i x.b).1 = 0 then (tchs d ts l).set x.i.toNat true else tchs d ts l
  | [], _, _ => rfl
  | y :: l, d, ts => tchs_snoc x l _ _
theorem tchs_len : ∀ (l : List Act7) (d : DiskSt) (ts : List Bool), (tchs d ts l).length = ts.length
  | [], _, _ => rfl
  | x :: l, d, ts => by
    show (tchs _ _ l).length = _
    rw [tchs_len l]
    split
    · rw [List.length_set]
    · rfl
theorem write_cases (d : DiskSt) (i : Int) (b : List UInt8) : ((d.write i b).1 = 0 ∧ 0 ≤ i ∧ i < d.last.length ∧ (d.write i b).2.waits = d.waits ++ [(i.toNat, pad d.size b)]) ∨ ((d.write i b).1 ≠ 0 ∧ (d.write i b).2.waits = d.waits) := by
  unfold DiskSt.write DiskSt.deed
  by_cases h1 : d.dark = true
  · rw [if_pos h1]; simp
  · rw [if_neg h1]
    by_cases h2 : ¬ (0 ≤ i ∧ i < (d.last.length : Int)) ∨ d.size < b.length
    · rw [if_pos h2]; simp
    · rw [if_neg h2]
      have hi : 0 ≤ i ∧ i < (d.last.length : Int) := Classical.not_not.1 (fun h => h2 (.inl h))
      by_cases h3 : d.fuse = 0
      · simp only [if_pos h3]
        simp
      · simp only [if_neg h3]
        simp [hi.1, hi.2]
theorem tchs_waits : ∀ (l : List Act7) (d : DiskSt) (ts : List Bool), d.last.length ≤ ts.length → (∀ x ∈ d.waits, ts[x.1]? = some true) → ∀ x ∈ (wrs d l).waits, (tchs d ts l)[x.1]? = some true
  | [], _, _, _, h => h
  | a :: l, d, ts, hl, h => by
    refine tchs_waits l _ _ ?_ ?_
    · rw [(write_num d a.i a.b).1]
      split
      · rw [List.length_set]; exact hl
      · exact hl
    · intro x hx
      rcases write_cases d a.i a.b with ⟨e1, i1, i2, e2⟩ | ⟨e1, e2⟩
      · rw [if_pos e1]
        rw [e2] at hx
        by_cases hxi : x.1 = a.i.toNat
        · rw [hxi, List.getElem?_set_self (by omega)]
        · rw [List.getElem?_set_ne (fun h => hxi h.symm)]
          rcases List.mem_append.1 hx with hx | hx
          · exact h x hx
          · simp at hx; subst hx; exact absurd rfl hxi
      · rw [if_neg e1]
        rw [e2] at hx
        exact h x hx
/-- The law in plain words: d2 as it was flushed, d3 behind the writes. -/
theorem lasts_pure {d : DiskSt} (hw : d.waits = []) (hl : d.last.length = 8) (l : List Act7) (pt k : Nat) (hk : k < 8) :
    ((tchs d (List.replicate 8 false) l)[k]? = some false → ((wrs d l).crash pt).sector k = d.sector k) ∧ (pt = 18446744073709551615 → ((wrs d l).crash pt).sector k = (wrs d l).sector k) ∧ (pt = 0 → ((wrs d l).crash pt).sector k = d.sector k) := by
  have e1 : ∀ l : List Act7, ∀ d : DiskSt, (wrs d l).last = d.last := by
    intro l
    induction l with
    | nil => exact fun _ => rfl
    | cons x l ih => exact fun d => (ih _).trans (write_num d x.i x.b).1
  have hd : d.sector k = d.last.getD k [] := sector_nowaits hw k
  refine ⟨fun ht => ?_, ?_, ?_⟩
  · rw [crash_sector, keep_else, hd, e1]
    intro x hx hk
    have := tchs_waits l d (List.replicate 8 false) (by simp [hl]) (by rw [hw]; intro x hx; cases hx) x hx
    rw [hk, ht] at this
    cases this
  · rintro rfl
    rw [crash_sector]
    exact keep_ones (by rw [e1, hl]; exact hk)
  · rintro rfl
    rw [crash_sector, keep_zero, hd, e1]
theorem flush_fine {d : DiskSt} {k : Nat} (h : fine d k) : d.flush.1 = 0 ∧ fine d.flush.2 (k + 1) ∧ d.flush.2.waits = [] := by
  obtain ⟨h1, h2, h3, h4, h5, h6, h7⟩ := h
  have e : d.flush = (0, d.deed.2.keep ones) := by
    unfold DiskSt.flush
    rw [if_neg (by rw [h7]; simp), if_neg (by omega)]
  have hk := flush_ok h1
  rw [e] at hk ⊢
  have hdd : d.deed.2 = { d with fuse := -1, deeds := d.deeds + 1 } := by
    unfold DiskSt.deed
    rw [if_neg (by omega), if_neg (by omega), h6]
  rw [hdd] at hk ⊢
  refine ⟨rfl, ⟨hk, ?_, h3, ?_, Nat.zero_le _, rfl, h7⟩, rfl⟩
  · rw [keep_last_len]; exact h2
  · show d.deeds + 1 ≤ k + 1
    omega
theorem crash_fine {d : DiskSt} {k : Nat} (h : fine d k) (p : Nat) : fine (d.crash p) k ∧ (d.crash p).waits = [] := by
  obtain ⟨h1, h2, h3, h4, h5, h6, h7⟩ := h
  exact ⟨⟨crash_ok h1 p, (keep_last_len d p).trans h2, h3, h4, Nat.zero_le _, rfl, rfl⟩, rfl⟩
theorem all_get {d : DiskSt} {i : Nat} (hi : i < d.last.length) : d.all[i]? = some (strB (d.sector i)) := by
  unfold DiskSt.all
  rw [List.getElem?_map, List.getElem?_range hi]; rfl
set_option maxHeartbeats 2000000 in
set_option maxRecDepth 100000 in
theorem lasts_any (A : Option Addr) (c : Nat) (l1 : List Act7) (B : Option Addr) (e : Nat) (l2 : List Act7) (pt : Nat) (w : World) (hA : SlR 4 encA w A l1) (hB : SlR 4 encA w B l2) (g1 : ∀ x ∈ l1, x.good w) (g2 : ∀ x ∈ l2, x.good w) (hp : pt < 18446744073709551616) (m1 : l1.length ≤ 8796093022208) (m2 : l2.length ≤ 8796093022208) :
    Calls Try.prog 3 #[.slice A l1.length c, .slice B l2.length e, .int .u64 pt] w fun e w' => e = .returned (.bool true) ∧ Below w.heap.size w w' := by
  have HW := Lib.hid (awake_any (sat.start w))
  have HA := Lib.hid hA
  have HB := Lib.hid hB
  have G1 := Lib.hid g1
  have G2 := Lib.hid g2
  clear hA hB g1 g2
  go_enter Try.func3, Try.ntmps3
  (go_wp2_with fail)
  refine (HW.out).mono ?_
  rintro e w' ⟨rfl, H⟩
  have HN := Lib.hid (New_ok 8 64 H (by decide) (by decide) (by decide) (by decide))
  clear H HW
  (go_wp2_with fail)
  refine (HN.out).mono ?_
  rintro e w' ⟨p, rfl, H⟩
  have H0 := Lib.hid H
  clear H HN
  go_upto_block 0 with fail
  go_cut [9] from 16 (fun _ wx => sat w wx (disk p (wrs (fresh 8 64) (l1.take 100)) :: oldH w :: []))
  case first =>
    go_wp2_with fail
    go_loopw [9] (fun i wx => ∃ k : Nat, k ≤ l1.length ∧ k ≤ 100 ∧ i = .int .i64 k ∧ sat w wx (disk p (wrs (fresh 8 64) (l1.take k)) :: oldH w :: [])) (fun i _ => l1.length - (intOf i).toNat)
    case atStart => exact ⟨0, Nat.zero_le _, by omega, rfl, H0.out⟩
    case round =>
      obtain ⟨k, hk, hk2, rfl, H⟩ := hrel
      have HH := Lib.hid H
      clear H H0
      by_cases hin : k < l1.length ∧ k < 100
      · obtain ⟨hin1, hin2⟩ := hin
        obtain ⟨⟨kd, xi, XA, xn, xc, xp, xb⟩, ex⟩ : ∃ x, l1[k]? = some x := ⟨_, List.getElem?_eq_getElem hin1⟩
        have hX := HA.out.old HH.out.pull1 HH.out.size
        obtain ⟨g, o, rfl, -, hc⟩ := hX.cells ex
        have k0 : (0 : Int) ≤ (k : Int) := by omega
        have k1 : (k : Int) < (l1.length : Int) := by omega
        have k2 : (k : Int) < 100 := by omega
        obtain ⟨b1, b2, b3, -, -⟩ := G1.out _ (List.mem_of_getElem? ex)
        have ht : l1.take (k + 1) = l1.take k ++ [⟨kd, xi, XA, xn, xc, xp, xb⟩] := by rw [List.take_add_one, ex]; rfl
        have HTK := Lib.hid ht
        have HXX := Lib.hid (fun W L (h : sat w W (oldH w :: L)) => (HA.out.old h h.size))
        have EX := Lib.hid ex
        have B1 := Lib.hid b1
        have B3 := Lib.hid b3
        have fn : fine (wrs (fresh 8 64) (l1.take k)) 100 := by
          have := fine_wr (l1.take k) fine_fresh
          obtain ⟨q1, q2, q3, q4, q5, q6, q7⟩ := this
          have hl := List.length_take_le k l1
          exact ⟨q1, q2, q3, by omega, by omega, q6, q7⟩
        have FN := Lib.hid fn
        clear hX hc ex ht b1 b2 b3 fn
        go_wp2
        refine Reg.wp_region_s (HH.out) (fun W => W.cell? ⟨g, o + k * 4 + 1, none⟩ = some (.int .i64 xi) ∧ W.cell? ⟨g, o + k * 4 + 2, none⟩ = some (.slice XA xn xc)) [5, 10] [11] [0, 1, 2, 3, 4, 5, 6, 7, 8, 9, 10, 11] (by kernel_rfl) (by kernel_rfl) (fun W HW => by have hq := (HXX.out W _ HW.pull1).cells EX.out; obtain ⟨g', o', he, -, hc⟩ := hq; cases he; exact ⟨hc 1 _ rfl, hc 2 _ rfl⟩) (fun W HW => ?_)
        simp only [Reg.pickOps, List.map_cons, List.map_nil, List.getD_cons_zero, List.getD_cons_succ, List.contains_cons, List.contains_nil, Nat.reduceBEq, Bool.or_false, Bool.or_true, Bool.or_self]
        iterate 5 (refine Reg.wpX_y (v := ?_) (fun w' => ?_) rfl ?_; rotate_left 1; focus (go_simp; (try with_reducible rfl)))
        (refine Reg.wpX_l (v := ?_) rfl (fun w' hw => ?_) rfl ?_; rotate_left 1; focus ((try dsimp only at hw); go_split_ands; go_simp; (try with_reducible rfl)))
        iterate 4 (refine Reg.wpX_y (v := ?_) (fun w' => ?_) rfl ?_; rotate_left 1; focus (go_simp; (try with_reducible rfl)))
        (refine Reg.wpX_l (v := ?_) rfl (fun w' hw => ?_) rfl ?_; rotate_left 1; focus ((try dsimp only at hw); go_split_ands; go_simp; (try with_reducible rfl)))
        try simp only [Act.put, List.setIfInBounds_toArray, List.set_cons_zero, List.set_cons_succ]
        have HWr := Lib.hid (Write_any (i := xi) (c := xc) (b := xb) HW (by have := FN.out.2.2.2.1; omega) (by have := FN.out.2.2.2.2.2.1; omega) (fun W h => B3.out.old h h.size) B1.out (by have := FN.out.2.2.1; omega) (by have := FN.out.2.2.1; omega) (by have := FN.out.2.2.2.2.1; omega))
        refine Reg.wpX_last rfl (by kernel_rfl) (fun K hK => ?_)
        go_simp
        refine HWr.out.mono ?_
        rintro ee w2 ⟨rfl, H1⟩
        have H2 : sat w w2 (disk p (wrs (fresh 8 64) (l1.take (k + 1))) :: oldH w :: []) := by
          rw [HTK.out, wr_snoc]; exact H1
        have H3 := Lib.hid H2
        clear H1 H2 HW HH HWr
        refine hK _ _ ?_
        try simp only [Act.put, List.setIfInBounds_toArray, List.set_cons_zero, List.set_cons_succ]
        refine Reg.wpX_nil ?_
        go_wp2
        go_roundw
        case rel => exact ⟨k + 1, by omega, by omega, by go_num, H3.out⟩
        case measure => simp [intOf] <;> omega
      · have hx : l1.take k = l1.take 100 := by
          by_cases h : k < l1.length
          · obtain rfl : k = 100 := by omega
            rfl
          · rw [List.take_of_length_le (by omega), List.take_of_length_le (by omega)]
        have HE := HH.out
        rw [hx] at HE
        replace HE := Lib.hid HE
        clear HH hx
        by_cases h : (k : Int) < (l1.length : Int)
        · have h2 : ¬ (k : Int) < 100 := by omega
          go_wp2
          go_meet
          case rel => exact HE.out
        · go_wp2
          go_meet
          case rel => exact HE.out
  case rest =>
    have H := hcut
    clear hcut H0
    obtain ⟨d1, e1⟩ : ∃ d1, d1 = wrs (fresh 8 64) (l1.take 100) := ⟨_, rfl⟩
    rw [← e1] at H
    have f1 : fine d1 100 := by
      have := fine_wr (l1.take 100) fine_fresh
      rw [← e1] at this
      obtain ⟨q1, q2, q3, q4, q5, q6, q7⟩ := this
      have hl := List.length_take_le 100 l1
      exact ⟨q1, q2, q3, by omega, by omega, q6, q7⟩
    obtain ⟨r1, f2, w2⟩ := flush_fine f1
    have HFl := Flush_any H f1.1 (by have := f1.2.2.2.1; omega) (by have := f1.2.2.2.2.2.1; omega) (by have := f1.2.2.2.2.1; omega)
    rw [r1] at HFl
    obtain ⟨d2, e2⟩ : ∃ d2, d2 = d1.flush.2 := ⟨_, rfl⟩
    rw [← e2] at HFl f2 w2
    replace HFl := Lib.hid HFl
    have F2 := Lib.hid f2
    have W2 := Lib.hid w2
    clear H e1 e2 f1 f2 r1 w2
    (go_wp2_with fail)
    refine (HFl.out).mono ?_
    rintro e w' ⟨rfl, H⟩
    have q := F2.out.2.1
    have HAl := all_any H (by have := F2.out.2.2.1; omega) F2.out.1 (by have := F2.out.2.2.2.2.1; omega) F2.out.2.2.2.2.2.2 (by omega)
    rw [q] at HAl
    replace HAl := Lib.hid HAl
    clear H HFl q
    (go_wp2_with fail)
    refine (HAl.out).mono ?_
    rintro e w' ⟨A1, c1, rfl, H⟩
    go_upto_block 2 with fail
    have T := (H.alloc #[.bool false, .bool false, .bool false, .bool false, .bool false, .bool false, .bool false, .bool false] 36).re [0, 2, 1, 3] rfl
    replace T : sat w _ (blk w'.heap.size ((tchs d2 (List.replicate 8 false) (l2.take 0)).map Value.bool).toArray 36 :: disk p (wrs d2 (l2.take 0)) :: vec 9 Value.string A1 8 c1 d2.all :: oldH w :: []) := T
    generalize w'.heap.size = G at T ⊢
    have T2 := Lib.hid T
    clear H HAl T
    go_cut [12] from 16 (fun _ wx => sat w wx (blk G ((tchs d2 (List.replicate 8 false) (l2.take 100)).map Value.bool).toArray 36 :: disk p (wrs d2 (l2.take 100)) :: vec 9 Value.string A1 8 c1 d2.all :: oldH w :: []))
    case first =>
      go_wp2_with fail
      go_loopw [12] (fun i wx => ∃ k : Nat, k ≤ l2.length ∧ k ≤ 100 ∧ i = .int .i64 k ∧ sat w wx (blk G ((tchs d2 (List.replicate 8 false) (l2.take k)).map Value.bool).toArray 36 :: disk p (wrs d2 (l2.take k)) :: vec 9 Value.string A1 8 c1 d2.all :: oldH w :: [])) (fun i _ => l2.length - (intOf i).toNat)
      case atStart => exact ⟨0, Nat.zero_le _, by omega, rfl, T2.out⟩
      case round =>
        obtain ⟨k, hk, hk2, rfl, H⟩ := hrel
        have HH := Lib.hid H
        clear H T2
        by_cases hin : k < l2.length ∧ k < 100
        · obtain ⟨hin1, hin2⟩ := hin
          obtain ⟨⟨kd, xi, XA, xn, xc, xp, xb⟩, ex⟩ : ∃ x, l2[k]? = some x := ⟨_, List.getElem?_eq_getElem hin1⟩
          have hX := HB.out.old HH.out.pull3 HH.out.size
          obtain ⟨g, o, rfl, -, hc⟩ := hX.cells ex
          have k0 : (0 : Int) ≤ (k : Int) := by omega
          have k1 : (k : Int) < (l2.length : Int) := by omega
          have k2 : (k : Int) < 100 := by omega
          obtain ⟨b1, b2, b3, -, -⟩ := G2.out _ (List.mem_of_getElem? ex)
          have ht : l2.take (k + 1) = l2.take k ++ [⟨kd, xi, XA, xn, xc, xp, xb⟩] := by rw [List.take_add_one, ex]; rfl
          have HTK := Lib.hid ht
          have CC : Hid (∀ W L, sat w W (oldH w :: L) → W.cell? ⟨g, o + k * 4 + 1, none⟩ = some (.int .i64 xi) ∧ W.cell? ⟨g, o + k * 4 + 2, none⟩ = some (.slice XA xn xc)) := fun W L h => by
            have hq := (HB.out.old h h.size).cells ex
            obtain ⟨g', o', he, -, hc⟩ := hq
            cases he
            exact ⟨hc 1 _ rfl, hc 2 _ rfl⟩
          have B1 := Lib.hid b1
          have B3 := Lib.hid b3
          have fn : fine (wrs d2 (l2.take k)) 201 := by
            have := fine_wr (l2.take k) F2.out
            obtain ⟨q1, q2, q3, q4, q5, q6, q7⟩ := this
            have hl := List.length_take_le k l2
            exact ⟨q1, q2, q3, by omega, by omega, q6, q7⟩
          have FN := Lib.hid fn
          have WC := Lib.hid (write_cases (wrs d2 (l2.take k)) xi xb)
          clear hX hc ex ht b1 b2 b3 fn
          go_wp2_with fail
          refine Reg.wp_region_s (HH.out) (fun W => W.cell? ⟨g, o + k * 4 + 1, none⟩ = some (.int .i64 xi) ∧ W.cell? ⟨g, o + k * 4 + 2, none⟩ = some (.slice XA xn xc)) [5, 10] [11] [0, 1, 2, 3, 4, 5, 6, 7, 8, 9, 10, 11, 12] (by kernel_rfl) (by kernel_rfl) (fun W HW => CC.out W _ HW.pull3) (fun W HW => ?_)
          simp only [Reg.pickOps, List.map_cons, List.map_nil, List.getD_cons_zero, List.getD_cons_succ, List.contains_cons, List.contains_nil, Nat.reduceBEq, Bool.or_false, Bool.or_true, Bool.or_self]
          iterate 5 (refine Reg.wpX_y (v := ?_) (fun w' => ?_) rfl ?_; rotate_left 1; focus (go_simp; (try with_reducible rfl)))
          (refine Reg.wpX_l (v := ?_) rfl (fun w' hw => ?_) rfl ?_; rotate_left 1; focus ((try dsimp only at hw); go_split_ands; go_simp; (try with_reducible rfl)))
          iterate 4 (refine Reg.wpX_y (v := ?_) (fun w' => ?_) rfl ?_; rotate_left 1; focus (go_simp; (try with_reducible rfl)))
          (refine Reg.wpX_l (v := ?_) rfl (fun w' hw => ?_) rfl ?_; rotate_left 1; focus ((try dsimp only at hw); go_split_ands; go_simp; (try with_reducible rfl)))
          try simp only [Act.put, List.setIfInBounds_toArray, List.set_cons_zero, List.set_cons_succ]
          have HWr := Lib.hid (Write_any (i := xi) (c := xc) (b := xb) HW.pull1 (by have := FN.out.2.2.2.1; omega) (by have := FN.out.2.2.2.2.2.1; omega) (fun W h => B3.out.old h.pull2 h.size) B1.out (by have := FN.out.2.2.1; omega) (by have := FN.out.2.2.1; omega) (by have := FN.out.2.2.2.2.1; omega))
          refine Reg.wpX_last rfl (by kernel_rfl) (fun K hK => ?_)
          go_simp
          refine HWr.out.mono ?_
          rintro ee w2 ⟨rfl, H1⟩
          refine hK _ _ ?_
          (refine Reg.wpX_y (v := ?_) (fun w' => ?_) rfl ?_; rotate_left 1; focus (go_simp; (try with_reducible rfl)))
          try simp only [Act.put, List.setIfInBounds_toArray, List.set_cons_zero, List.set_cons_succ]
          refine Reg.wpX_nil ?_
          have H2 : sat w w2 (blk G ((tchs d2 (List.replicate 8 false) (l2.take k)).map Value.bool).toArray 36 :: disk p (wrs d2 (l2.take (k + 1))) :: vec 9 Value.string A1 8 c1 d2.all :: oldH w :: []) := by
            rw [HTK.out, wr_snoc]; exact H1.pull1
          have HS := Lib.hid (tchs_snoc ⟨kd, xi, XA, xn, xc, xp, xb⟩ (l2.take k) d2 (List.replicate 8 false))
          clear H1 HW HH HWr
          rcases WC.out with ⟨e1, i1, i2, -⟩ | ⟨e1, -⟩
          · have t : (((wrs d2 (l2.take k)).write xi xb).1 == (0 : Int)) = true := by rw [e1]; rfl
            obtain ⟨j, rfl⟩ := Int.eq_ofNat_of_zero_le i1
            have hj : j < 8 := by have := FN.out.2.1; omega
            have j1 : (j : Int) < 8 := by omega
            obtain ⟨c1', -⟩ := CC.out _ _ H2.pull3
            have tl := tchs_len (l2.take k) d2 (List.replicate 8 false)
            obtain ⟨tj, etj⟩ : ∃ tj, (tchs d2 (List.replicate 8 false) (l2.take k))[j]? = some tj := ⟨_, List.getElem?_eq_getElem (by rw [tl]; simpa using hj)⟩
            have g0 : w2.cell? ⟨G, j, none⟩ = some (.bool tj) := by rw [H2.cell j, List.getElem?_toArray, List.getElem?_map, etj]; rfl
            have g1 := H2.frozen j
            have HE : sat w (w2.setCell ⟨G, j, none⟩ (.bool true)) (blk G ((tchs d2 (List.replicate 8 false) (l2.take (k + 1))).map Value.bool).toArray 36 :: disk p (wrs d2 (l2.take (k + 1))) :: vec 9 Value.string A1 8 c1 d2.all :: oldH w :: []) := by
              rw [show tchs d2 (List.replicate 8 false) (l2.take (k + 1)) = (tchs d2 (List.replicate 8 false) (l2.take k)).set j true by rw [HTK.out]; exact HS.out.trans (if_pos e1)]
              have := H2.setCell j (.bool true)
              rw [List.setIfInBounds_toArray, ← List.map_set] at this
              exact this
            have H3 := Lib.hid HE
            clear H2 HE HS e1 etj tl WC
            go_wp2
            go_roundw
            case rel => exact ⟨k + 1, by omega, by omega, by go_num, H3.out⟩
            case measure => simp [intOf] <;> omega
          · have t : (((wrs d2 (l2.take k)).write xi xb).1 == (0 : Int)) = false := by rw [beq_eq_false_iff_ne]; exact e1
            have HE : sat w w2 (blk G ((tchs d2 (List.replicate 8 false) (l2.take (k + 1))).map Value.bool).toArray 36 :: disk p (wrs d2 (l2.take (k + 1))) :: vec 9 Value.string A1 8 c1 d2.all :: oldH w :: []) := by
              rw [show tchs d2 (List.replicate 8 false) (l2.take (k + 1)) = tchs d2 (List.replicate 8 false) (l2.take k) by rw [HTK.out]; exact HS.out.trans (if_neg e1)]
              exact H2
            have H3 := Lib.hid HE
            clear H2 HE HS e1
            go_wp2
            go_roundw
            case rel => exact ⟨k + 1, by omega, by omega, by go_num, H3.out⟩
            case measure => simp [intOf] <;> omega
        · have hx : l2.take k = l2.take 100 := by
            by_cases h : k < l2.length
            · obtain rfl : k = 100 := by omega
              rfl
            · rw [List.take_of_length_le (by omega), List.take_of_length_le (by omega)]
          have HE := HH.out
          rw [hx] at HE
          replace HE := Lib.hid HE
          clear HH hx
          by_cases h : (k : Int) < (l2.length : Int)
          · have h2 : ¬ (k : Int) < 100 := by omega
            go_wp2
            go_meet
            case rel => exact HE.out
          · go_wp2
            go_meet
            case rel => exact HE.out
    case rest =>
      have H := hcut
      clear hcut T2
      have f3 : fine (wrs d2 (l2.take 100)) 201 := by
        have := fine_wr (l2.take 100) F2.out
        obtain ⟨q1, q2, q3, q4, q5, q6, q7⟩ := this
        have hl := List.length_take_le 100 l2
        exact ⟨q1, q2, q3, by omega, by omega, q6, q7⟩
      have LP := Lib.hid (fun k hk => lasts_pure W2.out F2.out.2.1 (l2.take 100) pt k hk)
      have tl := tchs_len (l2.take 100) d2 (List.replicate 8 false)
      rw [List.length_replicate] at tl
      obtain ⟨d3, e3⟩ : ∃ d3, d3 = wrs d2 (l2.take 100) := ⟨_, rfl⟩
      obtain ⟨ts, ets⟩ : ∃ ts, ts = tchs d2 (List.replicate 8 false) (l2.take 100) := ⟨_, rfl⟩
      rw [← e3, ← ets] at H
      rw [← e3] at f3
      rw [← ets] at tl
      rw [← e3, ← ets] at LP
      clear e3 ets
      obtain ⟨f4, w4⟩ := crash_fine f3 pt
      have q := f3.2.1
      have q' := f4.2.1
      have HA2 := all_any H.pull1 (by have := f3.2.2.1; omega) f3.1 (by have := f3.2.2.2.2.1; omega) f3.2.2.2.2.2.2 (by omega)
      rw [q] at HA2
      replace HA2 := Lib.hid HA2
      have F3 := Lib.hid f3
      have F4 := Lib.hid f4
      have W4 := Lib.hid w4
      have TL := Lib.hid tl
      have Q' := Lib.hid q'
      clear H f3 f4 w4 tl q q'
      (go_wp2_with fail)
      refine (HA2.out).mono ?_
      rintro e w' ⟨A2, c2, rfl, H⟩
      have HC := Lib.hid (Crash_any pt H.pull1 hp F3.out.1 (by have := F3.out.2.2.2.2.1; omega))
      clear H HA2
      (go_wp2_with fail)
      refine (HC.out).mono ?_
      rintro e w' ⟨rfl, H⟩
      have HA3 := all_any H (by have := F4.out.2.2.1; omega) F4.out.1 (by have := F4.out.2.2.2.2.1; omega) F4.out.2.2.2.2.2.2 (by have := F4.out.2.1; omega)
      rw [Q'.out] at HA3
      replace HA3 := Lib.hid HA3
      clear H HC
      (go_wp2_with fail)
      refine (HA3.out).mono ?_
      rintro e w' ⟨A3, c3, rfl, H⟩
      have HF := Lib.hid H
      clear H HA3
      go_wp2_with fail
      go_loopw [15] (fun i wx => ∃ k : Nat, k ≤ 8 ∧ i = .int .i64 k ∧ sat w wx (vec 9 Value.string A3 8 c3 (d3.crash pt).all :: disk p (d3.crash pt) :: vec 9 Value.string A2 8 c2 d3.all :: blk G (ts.map Value.bool).toArray 36 :: vec 9 Value.string A1 8 c1 d2.all :: oldH w :: [])) (fun i _ => 8 - (intOf i).toNat)
      case atStart => exact ⟨0, by omega, rfl, HF.out⟩
      case round =>
        obtain ⟨k, hk, rfl, H⟩ := hrel
        have HH := Lib.hid H
        clear HF H
        by_cases hin : k < 8
        · have k0 : (0 : Int) ≤ (k : Int) := by omega
          have k1 : (k : Int) < 8 := by omega
          obtain ⟨tk, etk⟩ : ∃ tk, ts[k]? = some tk := ⟨_, List.getElem?_eq_getElem (by rw [TL.out]; exact hin)⟩
          obtain ⟨l1', l2', l3'⟩ := LP.out k hin
          have q3 := all_get (d := d3.crash pt) (i := k) (by rw [F4.out.2.1]; exact hin)
          have q2 := all_get (d := d3) (i := k) (by rw [F3.out.2.1]; exact hin)
          have q1 := all_get (d := d2) (i := k) (by rw [F2.out.2.1]; exact hin)
          obtain ⟨S3, eS3⟩ : ∃ S3, S3 = strB ((d3.crash pt).sector k) := ⟨_, rfl⟩
          obtain ⟨S2, eS2⟩ : ∃ S2, S2 = strB (d3.sector k) := ⟨_, rfl⟩
          obtain ⟨S1, eS1⟩ : ∃ S1, S1 = strB (d2.sector k) := ⟨_, rfl⟩
          rw [← eS3] at q3
          rw [← eS2] at q2
          rw [← eS1] at q1
          replace l1' : tk = false → S3 = S1 := fun h => by rw [eS3, eS1, l1' (by rw [etk, h])]
          replace l2' : pt = 18446744073709551615 → S3 = S2 := fun h => by rw [eS3, eS2, l2' h]
          replace l3' : pt = 0 → S3 = S1 := fun h => by rw [eS3, eS1, l3' h]
          clear eS1 eS2 eS3
          obtain ⟨h3, rfl⟩ := HH.out.vaddr (by omega)
          obtain ⟨h2, rfl⟩ := (HH.out.pull2 : sat _ _ (vec 9 Value.string _ _ _ _ :: _)).vaddr (by omega)
          obtain ⟨h1, rfl⟩ := (HH.out.pull4 : sat _ _ (vec 9 Value.string _ _ _ _ :: _)).vaddr (by omega)
          have CC : Hid (∀ W, sat w W (vec 9 Value.string (some ⟨h3, 0, none⟩) 8 c3 (d3.crash pt).all :: disk p (d3.crash pt) :: vec 9 Value.string (some ⟨h2, 0, none⟩) 8 c2 d3.all :: blk G (ts.map Value.bool).toArray 36 :: vec 9 Value.string (some ⟨h1, 0, none⟩) 8 c1 d2.all :: oldH w :: []) →
            W.cell? ⟨G, k, none⟩ = some (.bool tk) ∧ W.cell? ⟨h1, k, none⟩ = some (.string S1) ∧ W.cell? ⟨h2, k, none⟩ = some (.string S2) ∧ W.cell? ⟨h3, k, none⟩ = some (.string S3)) := fun W h => by
            have c1 := (h.pull4 : sat _ _ (vec 9 Value.string _ _ _ _ :: _)).vcell q1
            have c2 := (h.pull2 : sat _ _ (vec 9 Value.string _ _ _ _ :: _)).vcell q2
            have c3 := h.vcell q3
            rw [Nat.zero_add] at c1 c2 c3
            refine ⟨?_, c1, c2, c3⟩
            rw [h.pull3.cell k, List.getElem?_toArray, List.getElem?_map, etk]; rfl
          have L1 := Lib.hid l1'
          have L2 := Lib.hid l2'
          have L3 := Lib.hid l3'
          clear etk q1 q2 q3 l1' l2' l3'
          by_cases p1 : pt = 18446744073709551615
          · have t1 : ((pt : Int) == 18446744073709551615) = true := by rw [p1]; rfl
            have t2 : ((pt : Int) == 0) = false := by rw [p1]; rfl
            have e := L2.out p1
            clear p1
            cases tk with
            | true =>
              go_wp2_with fail
              refine Reg.wp_region_s (HH.out) (fun W => W.cell? ⟨G, k, none⟩ = some (.bool true) ∧ W.cell? ⟨h1, k, none⟩ = some (.string S1) ∧ W.cell? ⟨h2, k, none⟩ = some (.string S2) ∧ W.cell? ⟨h3, k, none⟩ = some (.string S3)) [2, 8, 12, 22, 26, 37, 41] [] [0, 1, 2, 3, 4, 5, 6, 7, 8, 9, 10, 11, 12, 13, 14, 15, 16, 17, 18, 19, 20, 21, 22, 23, 24, 25, 26, 27, 28, 29, 30, 31, 32, 33, 34, 35, 36, 37, 38, 39, 40, 41, 42, 43, 44] (by kernel_rfl) (by kernel_rfl) (fun W HW => CC.out W HW) (fun W HW => ?_)
              simp only [Reg.pickOps, List.map_cons, List.map_nil, List.getD_cons_zero, List.getD_cons_succ, List.contains_cons, List.contains_nil, Nat.reduceBEq, Bool.or_false, Bool.or_true, Bool.or_self]
              iterate 2 (refine Reg.wpX_y (v := ?_) (fun w' => ?_) rfl ?_; rotate_left 1; focus (go_simp; (try with_reducible rfl)))
              (refine Reg.wpX_l (v := ?_) rfl (fun w' hw => ?_) rfl ?_; rotate_left 1; focus ((try dsimp only at hw); go_split_ands; go_simp; (try with_reducible rfl)))
              iterate 2 (refine Reg.wpX_y (v := ?_) (fun w' => ?_) rfl ?_; rotate_left 1; focus (go_simp; (try with_reducible rfl)))
              iterate 3 (refine Reg.wpX_off (by kernel_rfl) ?_)
              try simp only [Act.put, List.setIfInBounds_toArray, List.set_cons_zero, List.set_cons_succ]
              iterate 6 (refine Reg.wpX_off (by kernel_rfl) ?_)
              iterate 2 (refine Reg.wpX_y (v := ?_) (fun w' => ?_) rfl ?_; rotate_left 1; focus (go_simp; (try with_reducible rfl)))
              try simp only [Act.put, List.setIfInBounds_toArray, List.set_cons_zero, List.set_cons_succ]
              iterate 6 (refine Reg.wpX_y (v := ?_) (fun w' => ?_) (by kernel_rfl) ?_; rotate_left 1; focus (go_simp; (try with_reducible rfl)))
              (refine Reg.wpX_l (v := ?_) rfl (fun w' hw => ?_) (by kernel_rfl) ?_; rotate_left 1; focus ((try dsimp only at hw); go_split_ands; go_simp; (try with_reducible rfl)))
              (refine Reg.wpX_y (v := ?_) (fun w' => ?_) (by kernel_rfl) ?_; rotate_left 1; focus (go_simp; (try with_reducible rfl)))
              try simp only [Act.put, List.setIfInBounds_toArray, List.set_cons_zero, List.set_cons_succ]
              iterate 2 (refine Reg.wpX_y (v := ?_) (fun w' => ?_) (by kernel_rfl) ?_; rotate_left 1; focus (go_simp; (try with_reducible rfl)))
              (refine Reg.wpX_l (v := ?_) rfl (fun w' hw => ?_) (by kernel_rfl) ?_; rotate_left 1; focus ((try dsimp only at hw); go_split_ands; go_simp; (try with_reducible rfl)))
              iterate 2 (refine Reg.wpX_y (v := ?_) (fun w' => ?_) (by kernel_rfl) ?_; rotate_left 1; focus (go_simp; (try with_reducible rfl)))
              iterate 2 (refine Reg.wpX_y (v := ?_) (fun w' => ?_) rfl ?_; rotate_left 1; focus (go_simp; (try with_reducible rfl)))
              (refine Reg.wpX_y (v := ?_) (fun w' => ?_) (by kernel_rfl) ?_; rotate_left 1; focus (go_simp; (try with_reducible rfl)))
              try simp only [Act.put, List.setIfInBounds_toArray, List.set_cons_zero, List.set_cons_succ]
              iterate 2 (refine Reg.wpX_y (v := ?_) (fun w' => ?_) (by kernel_rfl) ?_; rotate_left 1; focus (go_simp; (try with_reducible rfl)))
              iterate 6 (refine Reg.wpX_off (by kernel_rfl) ?_)
              try simp only [Act.put, List.setIfInBounds_toArray, List.set_cons_zero, List.set_cons_succ]
              iterate 3 (refine Reg.wpX_off (by kernel_rfl) ?_)
              (refine Reg.wpX_y (v := ?_) (fun w' => ?_) (by kernel_rfl) ?_; rotate_left 1; focus (go_simp; (try with_reducible rfl)))
              (refine Reg.wpX_y (v := ?_) (fun w' => ?_) rfl ?_; rotate_left 1; focus (go_simp; (try with_reducible rfl)))
              try simp only [Act.put, List.setIfInBounds_toArray, List.set_cons_zero, List.set_cons_succ]
              refine Reg.wpX_nil ?_
              have HE := Lib.hid HW
              clear HW HH
              go_wp2
              go_roundw
              case rel => exact ⟨k + 1, by omega, by go_num, HE.out⟩
              case measure => simp [intOf] <;> omega
            | false =>
              have e2 := L1.out rfl
              rw [e] at e2
              go_wp2_with fail
              refine Reg.wp_region_s (HH.out) (fun W => W.cell? ⟨G, k, none⟩ = some (.bool false) ∧ W.cell? ⟨h1, k, none⟩ = some (.string S1) ∧ W.cell? ⟨h2, k, none⟩ = some (.string S2) ∧ W.cell? ⟨h3, k, none⟩ = some (.string S3)) [2, 8, 12, 22, 26, 37, 41] [] [0, 1, 2, 3, 4, 5, 6, 7, 8, 9, 10, 11, 12, 13, 14, 15, 16, 17, 18, 19, 20, 21, 22, 23, 24, 25, 26, 27, 28, 29, 30, 31, 32, 33, 34, 35, 36, 37, 38, 39, 40, 41, 42, 43, 44] (by kernel_rfl) (by kernel_rfl) (fun W HW => CC.out W HW) (fun W HW => ?_)
              simp only [Reg.pickOps, List.map_cons, List.map_nil, List.getD_cons_zero, List.getD_cons_succ, List.contains_cons, List.contains_nil, Nat.reduceBEq, Bool.or_false, Bool.or_true, Bool.or_self]
              iterate 2 (refine Reg.wpX_y (v := ?_) (fun w' => ?_) rfl ?_; rotate_left 1; focus (go_simp; (try with_reducible rfl)))
              (refine Reg.wpX_l (v := ?_) rfl (fun w' hw => ?_) rfl ?_; rotate_left 1; focus ((try dsimp only at hw); go_split_ands; go_simp; (try with_reducible rfl)))
              iterate 2 (refine Reg.wpX_y (v := ?_) (fun w' => ?_) rfl ?_; rotate_left 1; focus (go_simp; (try with_reducible rfl)))
              iterate 3 (refine Reg.wpX_y (v := ?_) (fun w' => ?_) (by kernel_rfl) ?_; rotate_left 1; focus (go_simp; (try with_reducible rfl)))
              try simp only [Act.put, List.setIfInBounds_toArray, List.set_cons_zero, List.set_cons_succ]
              (refine Reg.wpX_l (v := ?_) rfl (fun w' hw => ?_) (by kernel_rfl) ?_; rotate_left 1; focus ((try dsimp only at hw); go_split_ands; go_simp; (try with_reducible rfl)))
              iterate 3 (refine Reg.wpX_y (v := ?_) (fun w' => ?_) (by kernel_rfl) ?_; rotate_left 1; focus (go_simp; (try with_reducible rfl)))
              (refine Reg.wpX_l (v := ?_) rfl (fun w' hw => ?_) (by kernel_rfl) ?_; rotate_left 1; focus ((try dsimp only at hw); go_split_ands; go_simp; (try with_reducible rfl)))
              (refine Reg.wpX_y (v := ?_) (fun w' => ?_) (by kernel_rfl) ?_; rotate_left 1; focus (go_simp; (try with_reducible rfl)))
              iterate 2 (refine Reg.wpX_y (v := ?_) (fun w' => ?_) rfl ?_; rotate_left 1; focus (go_simp; (try with_reducible rfl)))
              try simp only [Act.put, List.setIfInBounds_toArray, List.set_cons_zero, List.set_cons_succ]
              iterate 6 (refine Reg.wpX_y (v := ?_) (fun w' => ?_) (by kernel_rfl) ?_; rotate_left 1; focus (go_simp; (try with_reducible rfl)))
              (refine Reg.wpX_l (v := ?_) rfl (fun w' hw => ?_) (by kernel_rfl) ?_; rotate_left 1; focus ((try dsimp only at hw); go_split_ands; go_simp; (try with_reducible rfl)))
              (refine Reg.wpX_y (v := ?_) (fun w' => ?_) (by kernel_rfl) ?_; rotate_left 1; focus (go_simp; (try with_reducible rfl)))
              try simp only [Act.put, List.setIfInBounds_toArray, List.set_cons_zero, List.set_cons_succ]
              iterate 2 (refine Reg.wpX_y (v := ?_) (fun w' => ?_) (by kernel_rfl) ?_; rotate_left 1; focus (go_simp; (try with_reducible rfl)))
              (refine Reg.wpX_l (v := ?_) rfl (fun w' hw => ?_) (by kernel_rfl) ?_; rotate_left 1; focus ((try dsimp only at hw); go_split_ands; go_simp; (try with_reducible rfl)))
              iterate 2 (refine Reg.wpX_y (v := ?_) (fun w' => ?_) (by kernel_rfl) ?_; rotate_left 1; focus (go_simp; (try with_reducible rfl)))
              iterate 2 (refine Reg.wpX_y (v := ?_) (fun w' => ?_) rfl ?_; rotate_left 1; focus (go_simp; (try with_reducible rfl)))
              (refine Reg.wpX_y (v := ?_) (fun w' => ?_) (by kernel_rfl) ?_; rotate_left 1; focus (go_simp; (try with_reducible rfl)))
              try simp only [Act.put, List.setIfInBounds_toArray, List.set_cons_zero, List.set_cons_succ]
              iterate 2 (refine Reg.wpX_y (v := ?_) (fun w' => ?_) (by kernel_rfl) ?_; rotate_left 1; focus (go_simp; (try with_reducible rfl)))
              iterate 6 (refine Reg.wpX_off (by kernel_rfl) ?_)
              try simp only [Act.put, List.setIfInBounds_toArray, List.set_cons_zero, List.set_cons_succ]
              iterate 3 (refine Reg.wpX_off (by kernel_rfl) ?_)
              (refine Reg.wpX_y (v := ?_) (fun w' => ?_) (by kernel_rfl) ?_; rotate_left 1; focus (go_simp; (try with_reducible rfl)))
              (refine Reg.wpX_y (v := ?_) (fun w' => ?_) rfl ?_; rotate_left 1; focus (go_simp; (try with_reducible rfl)))
              try simp only [Act.put, List.setIfInBounds_toArray, List.set_cons_zero, List.set_cons_succ]
              refine Reg.wpX_nil ?_
              have HE := Lib.hid HW
              clear HW HH
              go_wp2
              go_roundw
              case rel => exact ⟨k + 1, by omega, by go_num, HE.out⟩
              case measure => simp [intOf] <;> omega
          have t1 : ((pt : Int) == 18446744073709551615) = false := by rw [beq_eq_false_iff_ne]; omega
          by_cases p2 : pt = 0
          · have t2 : ((pt : Int) == 0) = true := by rw [p2]; rfl
            have e := L3.out p2
            clear p1 p2
            cases tk with
            | true =>
              go_wp2_with fail
              refine Reg.wp_region_s (HH.out) (fun W => W.cell? ⟨G, k, none⟩ = some (.bool true) ∧ W.cell? ⟨h1, k, none⟩ = some (.string S1) ∧ W.cell? ⟨h2, k, none⟩ = some (.string S2) ∧ W.cell? ⟨h3, k, none⟩ = some (.string S3)) [2, 8, 12, 22, 26, 37, 41] [] [0, 1, 2, 3, 4, 5, 6, 7, 8, 9, 10, 11, 12, 13, 14, 15, 16, 17, 18, 19, 20, 21, 22, 23, 24, 25, 26, 27, 28, 29, 30, 31, 32, 33, 34, 35, 36, 37, 38, 39, 40, 41, 42, 43, 44] (by kernel_rfl) (by kernel_rfl) (fun W HW => CC.out W HW) (fun W HW => ?_)
              simp only [Reg.pickOps, List.map_cons, List.map_nil, List.getD_cons_zero, List.getD_cons_succ, List.contains_cons, List.contains_nil, Nat.reduceBEq, Bool.or_false, Bool.or_true, Bool.or_self]
              iterate 2 (refine Reg.wpX_y (v := ?_) (fun w' => ?_) rfl ?_; rotate_left 1; focus (go_simp; (try with_reducible rfl)))
              (refine Reg.wpX_l (v := ?_) rfl (fun w' hw => ?_) rfl ?_; rotate_left 1; focus ((try dsimp only at hw); go_split_ands; go_simp; (try with_reducible rfl)))
              iterate 2 (refine Reg.wpX_y (v := ?_) (fun w' => ?_) rfl ?_; rotate_left 1; focus (go_simp; (try with_reducible rfl)))
              iterate 3 (refine Reg.wpX_off (by kernel_rfl) ?_)
              try simp only [Act.put, List.setIfInBounds_toArray, List.set_cons_zero, List.set_cons_succ]
              iterate 6 (refine Reg.wpX_off (by kernel_rfl) ?_)
              iterate 2 (refine Reg.wpX_y (v := ?_) (fun w' => ?_) rfl ?_; rotate_left 1; focus (go_simp; (try with_reducible rfl)))
              try simp only [Act.put, List.setIfInBounds_toArray, List.set_cons_zero, List.set_cons_succ]
              iterate 3 (refine Reg.wpX_y (v := ?_) (fun w' => ?_) (by kernel_rfl) ?_; rotate_left 1; focus (go_simp; (try with_reducible rfl)))
              iterate 5 (refine Reg.wpX_off (by kernel_rfl) ?_)
              try simp only [Act.put, List.setIfInBounds_toArray, List.set_cons_zero, List.set_cons_succ]
              iterate 4 (refine Reg.wpX_off (by kernel_rfl) ?_)
              (refine Reg.wpX_y (v := ?_) (fun w' => ?_) (by kernel_rfl) ?_; rotate_left 1; focus (go_simp; (try with_reducible rfl)))
              iterate 2 (refine Reg.wpX_y (v := ?_) (fun w' => ?_) rfl ?_; rotate_left 1; focus (go_simp; (try with_reducible rfl)))
              (refine Reg.wpX_y (v := ?_) (fun w' => ?_) (by kernel_rfl) ?_; rotate_left 1; focus (go_simp; (try with_reducible rfl)))
              try simp only [Act.put, List.setIfInBounds_toArray, List.set_cons_zero, List.set_cons_succ]
              iterate 5 (refine Reg.wpX_y (v := ?_) (fun w' => ?_) (by kernel_rfl) ?_; rotate_left 1; focus (go_simp; (try with_reducible rfl)))
              (refine Reg.wpX_l (v := ?_) rfl (fun w' hw => ?_) (by kernel_rfl) ?_; rotate_left 1; focus ((try dsimp only at hw); go_split_ands; go_simp; (try with_reducible rfl)))
              iterate 2 (refine Reg.wpX_y (v := ?_) (fun w' => ?_) (by kernel_rfl) ?_; rotate_left 1; focus (go_simp; (try with_reducible rfl)))
              try simp only [Act.put, List.setIfInBounds_toArray, List.set_cons_zero, List.set_cons_succ]
              (refine Reg.wpX_y (v := ?_) (fun w' => ?_) (by kernel_rfl) ?_; rotate_left 1; focus (go_simp; (try with_reducible rfl)))
              (refine Reg.wpX_l (v := ?_) rfl (fun w' hw => ?_) (by kernel_rfl) ?_; rotate_left 1; focus ((try dsimp only at hw); go_split_ands; go_simp; (try with_reducible rfl)))
              iterate 2 (refine Reg.wpX_y (v := ?_) (fun w' => ?_) (by kernel_rfl) ?_; rotate_left 1; focus (go_simp; (try with_reducible rfl)))
              (refine Reg.wpX_y (v := ?_) (fun w' => ?_) rfl ?_; rotate_left 1; focus (go_simp; (try with_reducible rfl)))
              try simp only [Act.put, List.setIfInBounds_toArray, List.set_cons_zero, List.set_cons_succ]
              refine Reg.wpX_nil ?_
              have HE := Lib.hid HW
              clear HW HH
              go_wp2
              go_roundw
              case rel => exact ⟨k + 1, by omega, by go_num, HE.out⟩
              case measure => simp [intOf] <;> omega
            | false =>
              go_wp2_with fail
              refine Reg.wp_region_s (HH.out) (fun W => W.cell? ⟨G, k, none⟩ = some (.bool false) ∧ W.cell? ⟨h1, k, none⟩ = some (.string S1) ∧ W.cell? ⟨h2, k, none⟩ = some (.string S2) ∧ W.cell? ⟨h3, k, none⟩ = some (.string S3)) [2, 8, 12, 22, 26, 37, 41] [] [0, 1, 2, 3, 4, 5, 6, 7, 8, 9, 10, 11, 12, 13, 14, 15, 16, 17, 18, 19, 20, 21, 22, 23, 24, 25, 26, 27, 28, 29, 30, 31, 32, 33, 34, 35, 36, 37, 38, 39, 40, 41, 42, 43, 44] (by kernel_rfl) (by kernel_rfl) (fun W HW => CC.out W HW) (fun W HW => ?_)
              simp only [Reg.pickOps, List.map_cons, List.map_nil, List.getD_cons_zero, List.getD_cons_succ, List.contains_cons, List.contains_nil, Nat.reduceBEq, Bool.or_false, Bool.or_true, Bool.or_self]
              iterate 2 (refine Reg.wpX_y (v := ?_) (fun w' => ?_) rfl ?_; rotate_left 1; focus (go_simp; (try with_reducible rfl)))
              (refine Reg.wpX_l (v := ?_) rfl (fun w' hw => ?_) rfl ?_; rotate_left 1; focus ((try dsimp only at hw); go_split_ands; go_simp; (try with_reducible rfl)))
              iterate 2 (refine Reg.wpX_y (v := ?_) (fun w' => ?_) rfl ?_; rotate_left 1; focus (go_simp; (try with_reducible rfl)))
              iterate 3 (refine Reg.wpX_y (v := ?_) (fun w' => ?_) (by kernel_rfl) ?_; rotate_left 1; focus (go_simp; (try with_reducible rfl)))
              try simp only [Act.put, List.setIfInBounds_toArray, List.set_cons_zero, List.set_cons_succ]
              (refine Reg.wpX_l (v := ?_) rfl (fun w' hw => ?_) (by kernel_rfl) ?_; rotate_left 1; focus ((try dsimp only at hw); go_split_ands; go_simp; (try with_reducible rfl)))
              iterate 3 (refine Reg.wpX_y (v := ?_) (fun w' => ?_) (by kernel_rfl) ?_; rotate_left 1; focus (go_simp; (try with_reducible rfl)))
              (refine Reg.wpX_l (v := ?_) rfl (fun w' hw => ?_) (by kernel_rfl) ?_; rotate_left 1; focus ((try dsimp only at hw); go_split_ands; go_simp; (try with_reducible rfl)))
              (refine Reg.wpX_y (v := ?_) (fun w' => ?_) (by kernel_rfl) ?_; rotate_left 1; focus (go_simp; (try with_reducible rfl)))
              iterate 2 (refine Reg.wpX_y (v := ?_) (fun w' => ?_) rfl ?_; rotate_left 1; focus (go_simp; (try with_reducible rfl)))
              try simp only [Act.put, List.setIfInBounds_toArray, List.set_cons_zero, List.set_cons_succ]
              iterate 3 (refine Reg.wpX_y (v := ?_) (fun w' => ?_) (by kernel_rfl) ?_; rotate_left 1; focus (go_simp; (try with_reducible rfl)))
              iterate 5 (refine Reg.wpX_off (by kernel_rfl) ?_)
              try simp only [Act.put, List.setIfInBounds_toArray, List.set_cons_zero, List.set_cons_succ]
              iterate 4 (refine Reg.wpX_off (by kernel_rfl) ?_)
              (refine Reg.wpX_y (v := ?_) (fun w' => ?_) (by kernel_rfl) ?_; rotate_left 1; focus (go_simp; (try with_reducible rfl)))
              iterate 2 (refine Reg.wpX_y (v := ?_) (fun w' => ?_) rfl ?_; rotate_left 1; focus (go_simp; (try with_reducible rfl)))
              (refine Reg.wpX_y (v := ?_) (fun w' => ?_) (by kernel_rfl) ?_; rotate_left 1; focus (go_simp; (try with_reducible rfl)))
              try simp only [Act.put, List.setIfInBounds_toArray, List.set_cons_zero, List.set_cons_succ]
              iterate 5 (refine Reg.wpX_y (v := ?_) (fun w' => ?_) (by kernel_rfl) ?_; rotate_left 1; focus (go_simp; (try with_reducible rfl)))
              (refine Reg.wpX_l (v := ?_) rfl (fun w' hw => ?_) (by kernel_rfl) ?_; rotate_left 1; focus ((try dsimp only at hw); go_split_ands; go_simp; (try with_reducible rfl)))
              iterate 2 (refine Reg.wpX_y (v := ?_) (fun w' => ?_) (by kernel_rfl) ?_; rotate_left 1; focus (go_simp; (try with_reducible rfl)))
              try simp only [Act.put, List.setIfInBounds_toArray, List.set_cons_zero, List.set_cons_succ]
              (refine Reg.wpX_y (v := ?_) (fun w' => ?_) (by kernel_rfl) ?_; rotate_left 1; focus (go_simp; (try with_reducible rfl)))
              (refine Reg.wpX_l (v := ?_) rfl (fun w' hw => ?_) (by kernel_rfl) ?_; rotate_left 1; focus ((try dsimp only at hw); go_split_ands; go_simp; (try with_reducible rfl)))
              iterate 2 (refine Reg.wpX_y (v := ?_) (fun w' => ?_) (by kernel_rfl) ?_; rotate_left 1; focus (go_simp; (try with_reducible rfl)))
              (refine Reg.wpX_y (v := ?_) (fun w' => ?_) rfl ?_; rotate_left 1; focus (go_simp; (try with_reducible rfl)))
              try simp only [Act.put, List.setIfInBounds_toArray, List.set_cons_zero, List.set_cons_succ]
              refine Reg.wpX_nil ?_
              have HE := Lib.hid HW
              clear HW HH
              go_wp2
              go_roundw
              case rel => exact ⟨k + 1, by omega, by go_num, HE.out⟩
              case measure => simp [intOf] <;> omega
          · have t2 : ((pt : Int) == 0) = false := by rw [beq_eq_false_iff_ne]; omega
            clear p1 p2
            cases tk with
            | true =>
              go_wp2_with fail
              refine Reg.wp_region_s (HH.out) (fun W => W.cell? ⟨G, k, none⟩ = some (.bool true) ∧ W.cell? ⟨h1, k, none⟩ = some (.string S1) ∧ W.cell? ⟨h2, k, none⟩ = some (.string S2) ∧ W.cell? ⟨h3, k, none⟩ = some (.string S3)) [2, 8, 12, 22, 26, 37, 41] [] [0, 1, 2, 3, 4, 5, 6, 7, 8, 9, 10, 11, 12, 13, 14, 15, 16, 17, 18, 19, 20, 21, 22, 23, 24, 25, 26, 27, 28, 29, 30, 31, 32, 33, 34, 35, 36, 37, 38, 39, 40, 41, 42, 43, 44] (by kernel_rfl) (by kernel_rfl) (fun W HW => CC.out W HW) (fun W HW => ?_)
              simp only [Reg.pickOps, List.map_cons, List.map_nil, List.getD_cons_zero, List.getD_cons_succ, List.contains_cons, List.contains_nil, Nat.reduceBEq, Bool.or_false, Bool.or_true, Bool.or_self]
              iterate 2 (refine Reg.wpX_y (v := ?_) (fun w' => ?_) rfl ?_; rotate_left 1; focus (go_simp; (try with_reducible rfl)))
              (refine Reg.wpX_l (v := ?_) rfl (fun w' hw => ?_) rfl ?_; rotate_left 1; focus ((try dsimp only at hw); go_split_ands; go_simp; (try with_reducible rfl)))
              iterate 2 (refine Reg.wpX_y (v := ?_) (fun w' => ?_) rfl ?_; rotate_left 1; focus (go_simp; (try with_reducible rfl)))
              iterate 3 (refine Reg.wpX_off (by kernel_rfl) ?_)
              try simp only [Act.put, List.setIfInBounds_toArray, List.set_cons_zero, List.set_cons_succ]
              iterate 6 (refine Reg.wpX_off (by kernel_rfl) ?_)
              iterate 2 (refine Reg.wpX_y (v := ?_) (fun w' => ?_) rfl ?_; rotate_left 1; focus (go_simp; (try with_reducible rfl)))
              try simp only [Act.put, List.setIfInBounds_toArray, List.set_cons_zero, List.set_cons_succ]
              iterate 3 (refine Reg.wpX_y (v := ?_) (fun w' => ?_) (by kernel_rfl) ?_; rotate_left 1; focus (go_simp; (try with_reducible rfl)))
              iterate 5 (refine Reg.wpX_off (by kernel_rfl) ?_)
              try simp only [Act.put, List.setIfInBounds_toArray, List.set_cons_zero, List.set_cons_succ]
              iterate 4 (refine Reg.wpX_off (by kernel_rfl) ?_)
              (refine Reg.wpX_y (v := ?_) (fun w' => ?_) (by kernel_rfl) ?_; rotate_left 1; focus (go_simp; (try with_reducible rfl)))
              iterate 2 (refine Reg.wpX_y (v := ?_) (fun w' => ?_) rfl ?_; rotate_left 1; focus (go_simp; (try with_reducible rfl)))
              (refine Reg.wpX_y (v := ?_) (fun w' => ?_) (by kernel_rfl) ?_; rotate_left 1; focus (go_simp; (try with_reducible rfl)))
              try simp only [Act.put, List.setIfInBounds_toArray, List.set_cons_zero, List.set_cons_succ]
              iterate 2 (refine Reg.wpX_y (v := ?_) (fun w' => ?_) (by kernel_rfl) ?_; rotate_left 1; focus (go_simp; (try with_reducible rfl)))
              iterate 6 (refine Reg.wpX_off (by kernel_rfl) ?_)
              try simp only [Act.put, List.setIfInBounds_toArray, List.set_cons_zero, List.set_cons_succ]
              iterate 3 (refine Reg.wpX_off (by kernel_rfl) ?_)
              (refine Reg.wpX_y (v := ?_) (fun w' => ?_) (by kernel_rfl) ?_; rotate_left 1; focus (go_simp; (try with_reducible rfl)))
              (refine Reg.wpX_y (v := ?_) (fun w' => ?_) rfl ?_; rotate_left 1; focus (go_simp; (try with_reducible rfl)))
              try simp only [Act.put, List.setIfInBounds_toArray, List.set_cons_zero, List.set_cons_succ]
              refine Reg.wpX_nil ?_
              have HE := Lib.hid HW
              clear HW HH
              go_wp2
              go_roundw
              case rel => exact ⟨k + 1, by omega, by go_num, HE.out⟩
              case measure => simp [intOf] <;> omega
            | false =>
              have e2 := L1.out rfl
              go_wp2_with fail
              refine Reg.wp_region_s (HH.out) (fun W => W.cell? ⟨G, k, none⟩ = some (.bool false) ∧ W.cell? ⟨h1, k, none⟩ = some (.string S1) ∧ W.cell? ⟨h2, k, none⟩ = some (.string S2) ∧ W.cell? ⟨h3, k, none⟩ = some (.string S3)) [2, 8, 12, 22, 26, 37, 41] [] [0, 1, 2, 3, 4, 5, 6, 7, 8, 9, 10, 11, 12, 13, 14, 15, 16, 17, 18, 19, 20, 21, 22, 23, 24, 25, 26, 27, 28, 29, 30, 31, 32, 33, 34, 35, 36, 37, 38, 39, 40, 41, 42, 43, 44] (by kernel_rfl) (by kernel_rfl) (fun W HW => CC.out W HW) (fun W HW => ?_)
              simp only [Reg.pickOps, List.map_cons, List.map_nil, List.getD_cons_zero, List.getD_cons_succ, List.contains_cons, List.contains_nil, Nat.reduceBEq, Bool.or_false, Bool.or_true, Bool.or_self]
              iterate 2 (refine Reg.wpX_y (v := ?_) (fun w' => ?_) rfl ?_; rotate_left 1; focus (go_simp; (try with_reducible rfl)))
              (refine Reg.wpX_l (v := ?_) rfl (fun w' hw => ?_) rfl ?_; rotate_left 1; focus ((try dsimp only at hw); go_split_ands; go_simp; (try with_reducible rfl)))
              iterate 2 (refine Reg.wpX_y (v := ?_) (fun w' => ?_) rfl ?_; rotate_left 1; focus (go_simp; (try with_reducible rfl)))
              iterate 3 (refine Reg.wpX_y (v := ?_) (fun w' => ?_) (by kernel_rfl) ?_; rotate_left 1; focus (go_simp; (try with_reducible rfl)))
              try simp only [Act.put, List.setIfInBounds_toArray, List.set_cons_zero, List.set_cons_succ]
              (refine Reg.wpX_l (v := ?_) rfl (fun w' hw => ?_) (by kernel_rfl) ?_; rotate_left 1; focus ((try dsimp only at hw); go_split_ands; go_simp; (try with_reducible rfl)))
              iterate 3 (refine Reg.wpX_y (v := ?_) (fun w' => ?_) (by kernel_rfl) ?_; rotate_left 1; focus (go_simp; (try with_reducible rfl)))
              (refine Reg.wpX_l (v := ?_) rfl (fun w' hw => ?_) (by kernel_rfl) ?_; rotate_left 1; focus ((try dsimp only at hw); go_split_ands; go_simp; (try with_reducible rfl)))
              (refine Reg.wpX_y (v := ?_) (fun w' => ?_) (by kernel_rfl) ?_; rotate_left 1; focus (go_simp; (try with_reducible rfl)))
              iterate 2 (refine Reg.wpX_y (v := ?_) (fun w' => ?_) rfl ?_; rotate_left 1; focus (go_simp; (try with_reducible rfl)))
              try simp only [Act.put, List.setIfInBounds_toArray, List.set_cons_zero, List.set_cons_succ]
              iterate 3 (refine Reg.wpX_y (v := ?_) (fun w' => ?_) (by kernel_rfl) ?_; rotate_left 1; focus (go_simp; (try with_reducible rfl)))
              iterate 5 (refine Reg.wpX_off (by kernel_rfl) ?_)
              try simp only [Act.put, List.setIfInBounds_toArray, List.set_cons_zero, List.set_cons_succ]
              iterate 4 (refine Reg.wpX_off (by kernel_rfl) ?_)
              (refine Reg.wpX_y (v := ?_) (fun w' => ?_) (by kernel_rfl) ?_; rotate_left 1; focus (go_simp; (try with_reducible rfl)))
              iterate 2 (refine Reg.wpX_y (v := ?_) (fun w' => ?_) rfl ?_; rotate_left 1; focus (go_simp; (try with_reducible rfl)))
              (refine Reg.wpX_y (v := ?_) (fun w' => ?_) (by kernel_rfl) ?_; rotate_left 1; focus (go_simp; (try with_reducible rfl)))
              try simp only [Act.put, List.setIfInBounds_toArray, List.set_cons_zero, List.set_cons_succ]
              iterate 2 (refine Reg.wpX_y (v := ?_) (fun w' => ?_) (by kernel_rfl) ?_; rotate_left 1; focus (go_simp; (try with_reducible rfl)))
              iterate 6 (refine Reg.wpX_off (by kernel_rfl) ?_)
              try simp only [Act.put, List.setIfInBounds_toArray, List.set_cons_zero, List.set_cons_succ]
              iterate 3 (refine Reg.wpX_off (by kernel_rfl) ?_)
              (refine Reg.wpX_y (v := ?_) (fun w' => ?_) (by kernel_rfl) ?_; rotate_left 1; focus (go_simp; (try with_reducible rfl)))
              (refine Reg.wpX_y (v := ?_) (fun w' => ?_) rfl ?_; rotate_left 1; focus (go_simp; (try with_reducible rfl)))
              try simp only [Act.put, List.setIfInBounds_toArray, List.set_cons_zero, List.set_cons_succ]
              refine Reg.wpX_nil ?_
              have HE := Lib.hid HW
              clear HW HH
              go_wp2
              go_roundw
              case rel => exact ⟨k + 1, by omega, by go_num, HE.out⟩
              case measure => simp [intOf] <;> omega
        · obtain rfl : k = 8 := by omega
          have k1 : ¬ ((8 : Nat) : Int) < 8 := by omega
          have HWt := Waits_any HH.out.pull1
          have w4 := W4.out
          rw [w4] at HWt
          replace HWt := Lib.hid HWt
          have HB := Lib.hid HH.out.pull5.toBelow
          clear w4 HH
          (go_wp2_with fail)
          refine (HWt.out).mono ?_
          rintro e w' ⟨rfl, rfl⟩
          go_wp2
          go_ret
          exact ⟨rfl, HB.out⟩
theorem decode_acts {W : World} {l : List (List Value)} (h : ∀ vs ∈ l, fitsBy ([.kd (.int .i64), .kd (.int .i64), .bytes, .kd (.int .u64)].map (Sp.ok W)) vs) : ∃ m : List Act7, l = m.map encA ∧ ∀ x ∈ m, x.good W :=
  decode (enc := encA) (p := fun x => x.good W) (fun v hv => act_of (h v hv))
theorem lasts_row (A : Option Addr) (c : Nat) (l : List (List Value)) (B : Option Addr) (e : Nat) (l2 : List (List Value)) (pt : Int) (w : World)
    (_hc : l.length ≤ c) (hl : SlR 4 (fun v => v) w A l) (hw : ∀ vs ∈ l, fitsBy ([.kd (.int .i64), .kd (.int .i64), .bytes, .kd (.int .u64)].map (Sp.ok w)) vs) (hm : l.length * 48 ≤ 140737488351232)
    (_hc2 : l2.length ≤ e) (hl2 : SlR 4 (fun v => v) w B l2) (hw2 : ∀ vs ∈ l2, fitsBy ([.kd (.int .i64), .kd (.int .i64), .bytes, .kd (.int .u64)].map (Sp.ok w)) vs) (hm2 : l2.length * 48 ≤ 140737488351232) (hp : (Lit.int .u64 pt).wf = true) :
    Calls Try.prog 3 #[.slice A l.length c, .slice B l2.length e, .int .u64 pt] w fun e w' => e = .returned (.bool true) ∧ Below w.heap.size w w' := by
  obtain ⟨m, rfl, g⟩ := decode_acts hw
  obtain ⟨m2, rfl, g2⟩ := decode_acts hw2
  have hz' : 0 ≤ pt ∧ pt ≤ 18446744073709551615 := by simpa [Lit.wf, IntKind.min, IntKind.max, IntKind.signed, IntKind.bits] using hp
  obtain ⟨q, rfl⟩ := Int.eq_ofNat_of_zero_le hz'.1
  rw [List.length_map] at hm hm2 ⊢
  rw [List.length_map]
  exact lasts_any A c m B e m2 q w (hl.map encA (fun _ => rfl)) (hl2.map encA (fun _ => rfl)) g g2 (by omega) (by omega) (by omega)
end Go.Proofs.Ytbkjkiaicaopoaa.Dk
