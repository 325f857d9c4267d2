/-
  The contracts of package sum and of its reference: the table, the sum, the register.
-/
import Derived.Test.YtafohemmjhjgbaaProg
import Derived.Test.YtafohemmjhjgbaaSlice
import Derived.Test.YtafohemmjhjgbaaCrc
import Derived.KernelRfl
import Derived.RowKit3
import Derived.WalkSpells
import Derived.LoopTactic
import Derived.Deep.QuietTactic
import Derived.BigQuiet
import Derived.Laws.BitsAllLaws
import Derived.Laws.Rows
import Derived.Laws.Tables
namespace Go.Proofs.Ytafohemmjhjgbaa.Sum
open Go.RowKit Go.Proofs.Ytafohemmjhjgbaa Go.Proofs.Ytafohemmjhjgbaa.Crc

def stpn : Nat → Nat → Nat
  | 0, c => c
  | j + 1, c => stp (stpn j c)
theorem stpn_lt (j : Nat) {c : Nat} (h : c < 4294967296) : stpn j c < 4294967296 := by
  induction j with
  | zero => exact h
  | succ j ih => exact stp_lt ih
theorem stpn_eight (c : Nat) : stpn 8 c = stp8 c := rfl

/-- One step, as the walk writes it. -/
theorem stp_int (c : Nat) (h : c < 4294967296) : bits .xor .u32 ((c : Int) / 2) (bits .and .u32 3988292384 (-(bits .and .u32 (c : Int) 1) % 4294967296)) = ((stp c : Nat) : Int) := by
  have h1 : bits .and .u32 (c : Int) 1 = ((c % 2 : Nat) : Int) := by
    have := u32_and_nat c 1 h (by omega)
    rw [show ((1 : Nat) : Int) = 1 from rfl, nat_mask1] at this
    exact this
  rw [h1]
  have e2 : (c : Int) / 2 = ((c / 2 : Nat) : Int) := by omega
  rw [e2]
  unfold stp
  rcases Nat.mod_two_eq_zero_or_one c with ho | ho
  · rw [ho, if_neg (by decide)]
    have : bits .and .u32 3988292384 (-((0 : Nat) : Int) % 4294967296) = 0 := by decide
    rw [this]
    have := u32_xor_nat (c / 2) 0 (by omega) (by omega)
    simpa using this
  · rw [ho, if_pos rfl]
    have : bits .and .u32 3988292384 (-((1 : Nat) : Int) % 4294967296) = ((3988292384 : Nat) : Int) := by decide
    rw [this]
    exact u32_xor_nat (c / 2) 3988292384 (by omega) (by omega)

/-- The table's cells when k of them are reckoned. -/
def tabc (k : Nat) : Array Value := ((List.range 256).map fun j => Value.int .u32 (if j < k then ((stp8 j : Nat) : Int) else 0)).toArray
theorem tabc_size (k : Nat) : (tabc k).size = 256 := by simp [tabc]
theorem tabc_get (k j : Nat) (h : j < 256) : (tabc k)[j]? = some (Value.int .u32 (if j < k then ((stp8 j : Nat) : Int) else 0)) := by
  simp [tabc, h]
theorem tabc_set (k : Nat) (h : k < 256) : (tabc k).setIfInBounds k (Value.int .u32 ((stp8 k : Nat) : Int)) = tabc (k + 1) := by
  apply Array.ext_getElem?
  intro i
  rw [Array.getElem?_setIfInBounds]
  by_cases hi : i < 256
  · rw [tabc_get _ _ hi, tabc_get _ _ hi, tabc_size]
    by_cases e : k = i
    · subst e; simp [h]
    · rw [if_neg e]
      by_cases c : i < k
      · rw [if_pos c, if_pos (by omega)]
      · rw [if_neg c, if_neg (by omega)]
  · have n1 : (tabc k)[i]? = none := Array.getElem?_eq_none (by rw [tabc_size]; omega)
    have n2 : (tabc (k + 1))[i]? = none := Array.getElem?_eq_none (by rw [tabc_size]; omega)
    rw [n1, n2, tabc_size]
    rw [if_neg (by omega)]
theorem zero_tab : Try.zeroCells96 = tabc 0 := by kernel_rfl
def tab : Array Value := tabc 256

set_option maxRecDepth 100000 in
theorem table_any (w : World) : Calls Try.prog 67 #[] w fun e w' => e = .returned (.agg tab) ∧ Below w.heap.size w w' := by
  go_enter Try.func67, Try.ntmps67
  go_wp2
  go_loopw [4] (fun i wr => ∃ k : Nat, k ≤ 256 ∧ i = .int .i64 k ∧ Blk wr w.heap.size Try.zeroCells96 96 ∧ Blk wr (w.heap.size + 1) (tabc k) 96 ∧ Below w.heap.size w wr) (fun i _ => 256 - (intOf i).toNat)
  case atStart => exact ⟨0, Nat.zero_le _, rfl, Blk.of_obj (by simp [obj_alloc]), Blk.of_obj (by simp [obj_alloc, zero_tab]), ((Below.refl _ _).alloc (Nat.le_refl _) _).alloc (by simp) _⟩
  case round =>
    obtain ⟨k, hk, rfl, b0, b1, hb⟩ := hrel
    by_cases hlt : k < 256
    · have hck := (b1.cell k).trans (tabc_get k k hlt)
      have hfk := b1.frozen k
      go_wp2
      obtain ⟨wo, rfl⟩ : ∃ wo : World, wo = wr := ⟨_, rfl⟩
      go_loop [3, 9] (fun c j => ∃ m : Nat, m ≤ 8 ∧ j = .int .i64 m ∧ c = .int .u32 ((stpn m k : Nat) : Int)) (fun _ j => 8 - (intOf j).toNat)
      case atStart => exact ⟨0, Nat.zero_le _, rfl, rfl⟩
      case round =>
        obtain ⟨m, hm, rfl, rfl⟩ := hrel
        have hsl := stpn_lt m (c := k) (by omega)
        have HS := Lib.hid (stp_int (stpn m k) hsl)
        by_cases hm8 : m < 8
        · generalize hc : stpn m k = c at *
          have HC := Lib.hid hc
          clear hc hsl
          go_wp2
          go_round
          case rel => exact ⟨m + 1, by omega, by go_num, by rw [HS.out, ← HC.out]; rfl⟩
          case measure => simp [intOf]; omega
        · obtain rfl : m = 8 := by omega
          clear HS hsl
          have h8 : stpn 8 k = stp8 k := rfl
          rw [h8]
          clear h8
          generalize hc : stp8 k = c at *
          have HC := Lib.hid hc
          clear hc
          go_wp2
          go_roundw
          case rel =>
            refine ⟨k + 1, by omega, by go_num, ?_, ?_, hb.setCell (p := ⟨w.heap.size + 1, k, none⟩) (by simp) _⟩
            · exact Blk.of_obj (by rw [obj_setCell, if_neg (by omega)]; exact b0.obj)
            · refine Blk.of_obj ?_
              rw [obj_setCell, if_pos rfl, b1.obj, ← HC.out]
              simp only [tabc_set k hlt]
          case measure => simp [intOf]; omega
    · obtain rfl : k = 256 := by omega
      have htab : (Try.prog.info? 96).map (·.size) = some tab.size := by rw [show tab.size = 256 from tabc_size 256]; kernel_rfl
      have b1' : wr.heap[w.heap.size + 1]? = some (.cells tab 96 (0, 0)) := b1
      have HB := Lib.hid b1'
      have HT := Lib.hid htab
      clear b1' b1 htab
      have HB0 : Hid (wr.heap[w.heap.size]? = some (.cells Try.zeroCells96 96 (0, 0))) := b0
      have HZ : Hid (Try.zeroCells96.size = tab.size) := by show _ = _; rw [zero_tab]; rfl
      have H1 : Hid (tab.all (·.oneCell') = true) := by show _ = _; rw [Array.all_eq_true_iff_forall_mem]; intro v hv; simp [tab, tabc] at hv; obtain ⟨a, _, rfl⟩ := hv; split <;> rfl
      have HR : Hid (obj (wr.setRow w.heap.size tab) w.heap.size = some (.cells tab 96 (0, 0))) := setRow_heap wr _ _ _ _ _ b0
      have HBL : Hid (Below w.heap.size w (wr.setRow w.heap.size tab)) := ⟨hb.os, hb.tape, hb.output, by rw [setRow_size]; exact hb.size, fun k hk => (setRow_other wr _ k tab (by omega)).trans (hb.block k hk)⟩
      clear b0 hb
      go_wp2_with (first | (refine wpList_load_row rfl 96 (.tmp 1) rfl (w.heap.size + 1) rfl 96 tab (0, 0) _ HB.out Try.underlying96 rfl HT.out ?_) | (refine wpList_store_row rfl 96 (.tmp 0) (.tmp 23) rfl w.heap.size tab rfl rfl 96 _ HB0.out HT.out HZ.out H1.out ?_))
      refine bodyPost_ret (v := .agg tab) (results_cell_row rfl _ _ w.heap.size 96 tab (0, 0) _ rfl HR.out Try.underlying96 rfl HT.out) rfl ⟨rfl, HBL.out⟩

/-- The register behind bytes, from a sum on. -/
def crcB (c : Nat) (l : List UInt8) : Nat := crc c (l.map UInt8.toNat)
def on (s : Nat) (l : List UInt8) : Nat := crcB (s ^^^ 4294967295) l ^^^ 4294967295
theorem crcB_snoc (c : Nat) (l : List UInt8) (b : UInt8) : crcB c (l ++ [b]) = stp8 (crcB c l ^^^ b.toNat) := by
  unfold crcB; rw [List.map_append, crc_append]; rfl
theorem crcB_lt {c : Nat} (hc : c < 4294967296) (l : List UInt8) : crcB c l < 4294967296 := crc_lt hc (by simp only [List.mem_map]; rintro x ⟨b, _, rfl⟩; exact b.toNat_lt)
/-- One byte by the table, as the walk writes it. -/
theorem tab_int (c : Nat) (b : UInt8) (h : c < 4294967296) : ∃ j : Nat, j < 256 ∧ bits .xor .u8 ((c : Int) % 256) (b.toNat : Int) = (j : Int) ∧ bits .xor .u32 ((c : Int) / 256) ((stp8 j : Nat) : Int) = ((stp8 (c ^^^ b.toNat) : Nat) : Int) := by
  have hb : b.toNat < 256 := b.toNat_lt
  refine ⟨(c % 256) ^^^ b.toNat, Nat.xor_lt_two_pow (n := 8) (by omega) (by omega), ?_, ?_⟩
  · rw [show (c : Int) % 256 = ((c % 256 : Nat) : Int) from by omega]; exact u8_xor_nat _ _ (by omega) hb
  · rw [show (c : Int) / 256 = ((c / 256 : Nat) : Int) from by omega, u32_xor_nat _ _ (by omega) (stp8_lt (xor_byte_lt (by omega) hb)), by_table]

set_option maxRecDepth 100000 in
theorem On_any (s : Nat) (hs : s < 4294967296) (A : Option Addr) (c : Nat) (l : List UInt8) (w : World) (hl : Sl B8 w A l) (hm : l.length ≤ 9223372036854775807) :
    Calls Try.prog 20 #[.int .u32 s, .slice A l.length c] w fun e w' => e = .returned (.int .u32 (on s l)) ∧ Below w.heap.size w w' := by
  have T := Lib.hid table_any
  have HT : Hid ((Try.prog.info? 96).map (·.size) = some tab.size) := by show _ = _; rw [show tab.size = 256 from tabc_size 256]; kernel_rfl
  have HZ : Hid (Try.zeroCells96.size = tab.size) := by show _ = _; rw [zero_tab]; rfl
  have H1 : Hid (tab.all (·.oneCell') = true) := by show _ = _; rw [Array.all_eq_true_iff_forall_mem]; intro v hv; simp [tab, tabc] at hv; obtain ⟨a, _, rfl⟩ := hv; split <;> rfl
  have HX : Hid (bits .xor .u32 (s : Int) 4294967295 = ((s ^^^ 4294967295 : Nat) : Int)) := u32_xor_nat s 4294967295 hs (by omega)
  have hc0 : s ^^^ 4294967295 < 4294967296 := Nat.xor_lt_two_pow (n := 32) hs (by omega)
  have hon : on s l = crcB (s ^^^ 4294967295) l ^^^ 4294967295 := rfl
  have HON := Lib.hid hon
  clear hon
  go_enter Try.func20, Try.ntmps20
  go_wp2_with fail
  refine (T.out _).mono ?_
  rintro e w1 ⟨rfl, hb1⟩
  have hl1 := hl.below hb1
  have hg : Hid ((w1.alloc (.cells Try.zeroCells96 96)).heap[w1.heap.size]? = some (.cells Try.zeroCells96 96 (0, 0))) := heap_alloc_new w1 _
  have hset : Hid (obj ((w1.alloc (.cells Try.zeroCells96 96)).setRow w1.heap.size tab) w1.heap.size = some (.cells tab 96 (0, 0))) := setRow_heap _ _ _ _ _ _ hg.out
  have hbl : Hid (Below w1.heap.size w1 ((w1.alloc (.cells Try.zeroCells96 96)).setRow w1.heap.size tab)) := ⟨rfl, rfl, rfl, by rw [setRow_size]; simp, fun k hk => (setRow_other _ _ k tab (by omega)).trans (Below.heap_alloc w1 _ k hk)⟩
  go_wp2_with (first | (refine wpList_store_row rfl 96 (.tmp 5) (.tmp 9) rfl w1.heap.size tab rfl rfl 96 _ hg.out HT.out HZ.out H1.out ?_))
  rw [HX.out]
  refine name_world (fun W => Blk W w1.heap.size tab 96 ∧ Below w1.heap.size w1 W) ⟨Blk.of_obj hset.out, hbl.out⟩ ?_
  rintro W2 ⟨k2, hb2⟩
  have hl2 := hl1.below hb2
  clear hg hset hbl hl hl1 HX T
  go_loop [6, 14] (fun c i => ∃ k : Nat, k ≤ l.length ∧ i = .int .i64 k ∧ c = .int .u32 ((crcB (s ^^^ 4294967295) (l.take k) : Nat) : Int)) (fun _ i => l.length - (intOf i).toNat)
  case atStart => exact ⟨0, Nat.zero_le _, rfl, rfl⟩
  case round =>
    obtain ⟨k, hk, rfl, rfl⟩ := hrel
    by_cases hlt : k < l.length
    · obtain ⟨x, hx⟩ : ∃ x, l[k]? = some x := ⟨_, List.getElem?_eq_getElem hlt⟩
      obtain ⟨b, o, rfl, _, hcx⟩ := hl2.cell hx
      have hsn : l.take (k + 1) = l.take k ++ [x] := by rw [List.take_add_one, hx]; rfl
      have HSN : Hid (crcB (s ^^^ 4294967295) (l.take (k + 1)) = stp8 (crcB (s ^^^ 4294967295) (l.take k) ^^^ x.toNat)) := by show _ = _; rw [hsn, crcB_snoc]
      have hclt := crcB_lt hc0 (l.take k)
      generalize crcB (s ^^^ 4294967295) (l.take k) = d at *
      obtain ⟨j, hj, e1, e2⟩ := tab_int d x hclt
      have E2 := Lib.hid e2
      have hct : W2.cell? ⟨w1.heap.size, j, none⟩ = some (.int .u32 ((stp8 j : Nat) : Int)) := by
        have := (k2.cell j).trans (tabc_get 256 j hj)
        rwa [if_pos hj] at this
      unfold B8 at hcx
      have hxb : x.toNat < 256 := x.toNat_lt
      clear e2 hx hsn hl2 k2
      go_wp2
      go_round
      case rel => exact ⟨k + 1, by omega, by go_num, by rw [HSN.out, E2.out]⟩
      case measure => simp [intOf]; omega
    · obtain rfl : k = l.length := by omega
      have hf := crcB_lt hc0 l
      have HF : Hid (bits .xor .u32 ((crcB (s ^^^ 4294967295) l : Nat) : Int) 4294967295 = ((on s l : Nat) : Int)) := by
        show _ = _
        rw [HON.out]
        exact u32_xor_nat _ 4294967295 hf (by omega)
      rw [List.take_length]
      generalize crcB (s ^^^ 4294967295) l = d at *
      go_wp2
      go_ret
      exact ⟨by rw [← HF.out]; rfl, hb1.trans (hb2.mono hb1.size)⟩

theorem on_zero (l : List UInt8) : on 0 l = crcB 4294967295 l ^^^ 4294967295 := by unfold on; rfl
/-- The sum of bytes. -/
def ofB (l : List UInt8) : Nat := on 0 l
theorem Of_any (A : Option Addr) (c : Nat) (l : List UInt8) (w : World) (hl : Sl B8 w A l) (hm : l.length ≤ 9223372036854775807) :
    Calls Try.prog 18 #[.slice A l.length c] w fun e w' => e = .returned (.int .u32 (ofB l)) ∧ Below w.heap.size w w' := by
  have T := Lib.hid (On_any 0 (by decide) A c l w hl hm)
  clear hl hm
  go_enter Try.func18, Try.ntmps18
  go_wp2_with fail
  refine T.out.mono ?_
  rintro e w1 ⟨rfl, hb1⟩
  go_wp2_with fail
  go_ret
  exact ⟨rfl, hb1⟩

/-- One bit of a byte, as the reference turns the register. -/
theorem stp_bit (c x : Nat) : stp (c ^^^ x) = if (c % 2 != x % 2) = true then (c / 2 ^^^ x / 2) ^^^ 3988292384 else c / 2 ^^^ x / 2 := by
  unfold stp
  rw [xor_half, xor_odd]
  rcases Nat.mod_two_eq_zero_or_one c with h | h <;> rcases Nat.mod_two_eq_zero_or_one x with h2 | h2 <;> rw [h, h2] <;> simp

/-- The reference's register, behind j bits of a byte. -/
def rb (c x : Nat) : Nat → Nat
  | 0 => c
  | j + 1 => if (rb c x j % 2 != x / 2 ^ j % 2) = true then (rb c x j / 2) ^^^ 3988292384 else rb c x j / 2
theorem rb_lt {c x : Nat} (h : c < 4294967296) (j : Nat) : rb c x j < 4294967296 := by
  induction j with
  | zero => exact h
  | succ j ih =>
    unfold rb
    split
    · exact Nat.xor_lt_two_pow (n := 32) (by omega) (by omega)
    · omega
theorem rb_succ (c x j : Nat) : rb c x (j + 1) = if (rb c x j % 2 != x / 2 ^ j % 2) = true then (rb c x j / 2) ^^^ 3988292384 else rb c x j / 2 := rfl
theorem rb_stpn (c x : Nat) (j : Nat) : rb c x j ^^^ (x / 2 ^ j) = stpn j (c ^^^ x) := by
  induction j with
  | zero => simp [rb, stpn]
  | succ j ih =>
    show rb c x (j + 1) ^^^ (x / 2 ^ (j + 1)) = stp (stpn j (c ^^^ x))
    rw [← ih, stp_bit]
    have e : x / 2 ^ (j + 1) = x / 2 ^ j / 2 := by rw [Nat.pow_succ, Nat.div_div_eq_div_mul]
    rw [e]
    rw [rb_succ]
    split
    · rw [Nat.xor_assoc, Nat.xor_comm 3988292384, ← Nat.xor_assoc]
    · rfl
theorem rb_eight (c x : Nat) (hx : x < 256) : rb c x 8 = stp8 (c ^^^ x) := by
  have h := rb_stpn c x 8
  rw [show x / 2 ^ 8 = 0 from by omega, Nat.xor_zero] at h
  exact h

theorem bit_test (c x m : Nat) : ((c : Int) % 2 != ((x : Int) / 2 ^ m).tmod 2) = (c % 2 != x / 2 ^ m % 2) := by
  have e : (x : Int) / 2 ^ m = ((x / 2 ^ m : Nat) : Int) := by rw [Int.natCast_ediv, Int.natCast_pow]; rfl
  rw [e, Int.tmod_eq_emod_of_nonneg (Int.natCast_nonneg _)]
  rw [Bool.eq_iff_iff, bne_iff_ne, bne_iff_ne]
  omega

set_option maxRecDepth 100000 in
theorem Register_any (s : Nat) (hs : s < 4294967296) (A : Option Addr) (c : Nat) (l : List UInt8) (w : World) (hl : Sl B8 w A l) (hm : l.length ≤ 9223372036854775807) :
    Calls Try.prog 66 #[.int .u32 s, .slice A l.length c] w fun e w' => e = .returned (.int .u32 (crcB s l)) ∧ w = w' := by
  go_enter Try.func66, Try.ntmps66
  go_wp2
  go_loop [0, 5] (fun c i => ∃ k : Nat, k ≤ l.length ∧ i = .int .i64 k ∧ c = .int .u32 ((crcB s (l.take k) : Nat) : Int)) (fun _ i => l.length - (intOf i).toNat)
  case atStart => exact ⟨0, Nat.zero_le _, rfl, rfl⟩
  case round =>
    obtain ⟨k, hk, rfl, rfl⟩ := hrel
    by_cases hlt : k < l.length
    · obtain ⟨x, hx⟩ : ∃ x, l[k]? = some x := ⟨_, List.getElem?_eq_getElem hlt⟩
      obtain ⟨b, o, rfl, _, hcx⟩ := hl.cell hx
      have hsn : l.take (k + 1) = l.take k ++ [x] := by rw [List.take_add_one, hx]; rfl
      have HSN : Hid (crcB s (l.take (k + 1)) = rb (crcB s (l.take k)) x.toNat 8) := by show _ = _; rw [hsn, crcB_snoc, rb_eight _ _ x.toNat_lt]
      have hclt := crcB_lt hs (l.take k)
      generalize crcB s (l.take k) = d at *
      unfold B8 at hcx
      have hxb : x.toNat < 256 := x.toNat_lt
      clear hx hsn hl
      go_wp2
      go_loop [0, 6] (fun c j => ∃ m : Nat, m ≤ 8 ∧ j = .int .i64 m ∧ c = .int .u32 ((rb d x.toNat m : Nat) : Int)) (fun _ j => 8 - (intOf j).toNat)
      case atStart => exact ⟨0, Nat.zero_le _, rfl, rfl⟩
      case round =>
        obtain ⟨m, hm', rfl, rfl⟩ := hrel
        have hr := rb_lt (x := x.toNat) hclt m
        by_cases hm8 : m < 8
        · have hbt := bit_test (rb d x.toNat m) x.toNat m
          have hsu := rb_succ d x.toNat m
          have hxr := u32_xor_nat (rb d x.toNat m / 2) 3988292384 (by omega) (by omega)
          rw [show ((rb d x.toNat m / 2 : Nat) : Int) = ((rb d x.toNat m : Nat) : Int) / 2 from by omega] at hxr
          by_cases hbit : (rb d x.toNat m % 2 != x.toNat / 2 ^ m % 2) = true
          · rw [hbit] at hbt
            rw [if_pos hbit] at hsu
            have HSU := Lib.hid hsu
            have HXR := Lib.hid hxr
            clear hbit hsu hxr
            go_wp2
            go_round
            case rel => exact ⟨m + 1, by omega, by go_num, by rw [HSU.out, ← HXR.out]; rfl⟩
            case measure => simp [intOf]; omega
          · have hbf : (rb d x.toNat m % 2 != x.toNat / 2 ^ m % 2) = false := by simpa using hbit
            rw [hbf] at hbt
            rw [if_neg hbit] at hsu
            have HSU := Lib.hid hsu
            clear hbit hbf hsu hxr
            go_wp2
            go_round
            case rel => exact ⟨m + 1, by omega, by go_num, by rw [HSU.out]; congr 1⟩
            case measure => simp [intOf]; omega
        · obtain rfl : m = 8 := by omega
          go_wp2
          go_round
          case rel => exact ⟨k + 1, by omega, by go_num, by rw [HSN.out]⟩
          case measure => simp [intOf]; omega
    · obtain rfl : k = l.length := by omega
      rw [List.take_length]
      go_wp2
      go_ret
      exact ⟨rfl, rfl⟩

theorem ofB_eq (l : List UInt8) : ((4294967295 : Int) - ((crcB 4294967295 l : Nat) : Int)) % 4294967296 = ((ofB l : Nat) : Int) := by
  have h := crcB_lt (c := 4294967295) (by decide) l
  unfold ofB
  rw [on_zero]
  generalize crcB 4294967295 l = d at *
  have e : d ^^^ 4294967295 = 4294967295 - d := by
    have h2 : (BitVec.ofNat 32 d ^^^ BitVec.allOnes 32) = ~~~ (BitVec.ofNat 32 d) := BitVec.xor_allOnes
    have h3 := congrArg BitVec.toNat h2
    rw [BitVec.toNat_xor, BitVec.toNat_not, BitVec.toNat_ofNat, BitVec.toNat_allOnes, Nat.mod_eq_of_lt (by omega : d < 2 ^ 32)] at h3
    simpa using h3
  rw [e]; omega

theorem ROf_any (A : Option Addr) (c : Nat) (l : List UInt8) (w : World) (hl : Sl B8 w A l) (hm : l.length ≤ 9223372036854775807) :
    Calls Try.prog 19 #[.slice A l.length c] w fun e w' => e = .returned (.int .u32 (ofB l)) ∧ w = w' := by
  have T := Lib.hid (Register_any 4294967295 (by decide) A c l w hl hm)
  have HE := Lib.hid (ofB_eq l)
  clear hl hm
  generalize crcB 4294967295 l = d at *
  go_enter Try.func19, Try.ntmps19
  go_wp2_with fail
  refine T.out.mono ?_
  rintro e w1 ⟨rfl, rfl⟩
  go_wp2_with fail
  go_ret
  exact ⟨by rw [← HE.out]; rfl, rfl⟩

theorem On_at (s : Nat) (hs : s < 4294967296) (A : Option Addr) (n c : Nat) (l : List UInt8) (w : World) (hn : l.length = n) (hl : Sl B8 w A l) (hm : n ≤ 9223372036854775807) :
    Calls Try.prog 20 #[.int .u32 s, .slice A n c] w fun e w' => e = .returned (.int .u32 (on s l)) ∧ Below w.heap.size w w' := by
  subst hn; exact On_any s hs A c l w hl hm
theorem Of_at (A : Option Addr) (n c : Nat) (l : List UInt8) (w : World) (hn : l.length = n) (hl : Sl B8 w A l) (hm : n ≤ 9223372036854775807) :
    Calls Try.prog 18 #[.slice A n c] w fun e w' => e = .returned (.int .u32 (ofB l)) ∧ Below w.heap.size w w' := by
  subst hn; exact Of_any A c l w hl hm
theorem on_lt {s : Nat} (hs : s < 4294967296) (l : List UInt8) : on s l < 4294967296 := by
  unfold on
  exact Nat.xor_lt_two_pow (n := 32) (crcB_lt (Nat.xor_lt_two_pow (n := 32) hs (by omega)) l) (by omega)
theorem ofB_lt (l : List UInt8) : ofB l < 4294967296 := on_lt (by decide) l
theorem on_on (s : Nat) (l m : List UInt8) : on (on s l) m = on s (l ++ m) := by
  unfold on crcB
  rw [Nat.xor_assoc, Nat.xor_self, Nat.xor_zero, List.map_append, crc_append]
theorem on_nil (s : Nat) : on s [] = s := by
  unfold on crcB crc
  simp [Nat.xor_assoc]

end Go.Proofs.Ytafohemmjhjgbaa.Sum
