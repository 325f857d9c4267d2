/-
  Package pack and its reference on numbers and texts: what each function does, by resources.
-/
import Derived.Test.YtafohemmjhjgbaaProg
import Derived.Test.YtafohemmjhjgbaaSep
import Derived.Test.YtafohemmjhjgbaaReg
import Derived.Test.YtafohemmjhjgbaaVarint
import Derived.Test.YtafohemmjhjgbaaAppStr
import Derived.Test.YtafohemmjhjgbaaBytesStr
import Derived.Test.YtafohemmjhjgbaaStrs
import Derived.Test.YtafohemmjhjgbaaShelf
import Derived.KernelRfl
import Derived.RowKit3
import Derived.WalkSpells
import Derived.LoopTactic
import Derived.Deep.QuietTactic
import Derived.BigQuiet
import Derived.Laws.BitsAllLaws
namespace Go.Proofs.Ytafohemmjhjgbaa.Pk
open Go.RowKit Go.Proofs.Ytafohemmjhjgbaa Go.Shelf

theorem info8 : (Try.prog.info? 5).map (fun i => (i.zero, i.size, i.bytes)) = some (some (.int .u8 0), 1, 1) := by kernel_rfl
theorem B8_one (b : UInt8) : (B8 b).oneCell' = true := rfl
theorem B8_b8 {n : Nat} (h : n < 256) : Value.int .u8 (n : Int) = B8 (b8 n) := by unfold B8; rw [b8_toNat h]
set_option maxRecDepth 20000 in
theorem more_bits (m : Nat) : bits .or .u8 ((m : Int) % 256) 128 = ((m % 128 + 128 : Nat) : Int) := by
  have h : (m : Int) % 256 = ((m % 256 : Nat) : Int) := by omega
  rw [h, show (128 : Int) = ((128 : Nat) : Int) from rfl, u8_or_nat _ _ (by omega) (by omega)]
  congr 1
  have h2 : m % 128 = m % 256 % 128 := by omega
  rw [h2]
  have h3 : m % 256 < 256 := by omega
  generalize m % 256 = k at h3
  revert k
  decide

set_option maxRecDepth 100000 in
theorem Uint_any {E w : World} {A : Option Addr} {n c : Nat} {l : List UInt8} {L : List HP} (x : Nat) (H : sat E w (vec 5 B8 A n c l :: L)) (hx : x < 18446744073709551616) (hl : n < 549755813888) :
    Calls Try.prog 36 #[.slice A n c, .int .u64 x] w fun e w' => ∃ A' c', e = .returned (.slice A' (n + (uvar x).length) c') ∧ sat E w' (vec 5 B8 A' (n + (uvar x).length) c' (l ++ uvar x) :: L) := by
  have H0 := Lib.hid H
  clear H
  go_enter Try.func36, Try.ntmps36
  go_wp2
  go_loopw [0, 1] (fun b y wr => ∃ (m n' c' : Nat) (A' : Option Addr) (d : List UInt8), b = .slice A' n' c' ∧ y = .int .u64 m ∧ m < 18446744073709551616 ∧ d ++ uvar m = uvar x ∧ n' = n + d.length ∧ sat E wr (vec 5 B8 A' n' c' (l ++ d) :: L)) (fun _ y _ => (intOf y).toNat)
  case atStart => exact ⟨x, n, c, A, [], rfl, rfl, hx, rfl, rfl, by rw [List.append_nil]; exact H0.out⟩
  case round =>
    obtain ⟨m, n', c', A', d, rfl, rfl, hm, hd, hn, H⟩ := hrel
    have hlen := congrArg List.length hd
    rw [List.length_append] at hlen
    have hx10 := uvar_len64 hx
    have hp := uvar_pos m
    have HL : Hid (n' < 1099511627776) := by show _ < _; omega
    have HD := Lib.hid hd
    have HN := Lib.hid hn
    have H1 := Lib.hid H
    have HX := Lib.hid hlen
    clear H H0 hd hlen hn hp hx10
    by_cases h : 128 ≤ m
    · have hb := more_bits m
      have ge := Lib.hid (uvar_ge h)
      have HU : Hid (Value.int .u8 ((m % 128 + 128 : Nat) : Int) = B8 (b8 (m % 128 + 128))) := B8_b8 (by omega)
      go_wp2_with (at_builtin; go_must (refine wpList_app1 rfl (.tmp 7) (.tmp 11) 29 rfl info8 Try.underlying29 rfl (by decide) H1.out (b8 (m % 128 + 128)) HU.out rfl rfl rfl rfl HL.out ?_))
      intro A'' c'' w1 H2
      have H3 := Lib.hid H2
      clear H2 H1 hb
      go_wp2
      go_roundw
      case rel => exact ⟨m / 128, n' + 1, c'', A'', d ++ [b8 (m % 128 + 128)], rfl, by go_num, by omega, by rw [List.append_assoc, List.singleton_append, ← ge.out]; exact HD.out, by have := HN.out; simp; omega, by first | exact H3.out | (rw [← List.append_assoc]; exact H3.out)⟩
      case measure => simp [intOf]; omega
    · have h' : m < 128 := by omega
      have ge := Lib.hid (uvar_lt h')
      have HU : Hid (Value.int .u8 (m : Int) = B8 (b8 m)) := B8_b8 (by omega)
      go_wp2_with (at_builtin; go_must (refine wpList_app1 rfl (.tmp 15) (.tmp 18) 29 rfl info8 Try.underlying29 rfl (by decide) H1.out (b8 m) HU.out rfl rfl rfl rfl HL.out ?_))
      intro A'' c'' w1 H2
      have H3 := Lib.hid H2
      clear H2 H1
      go_wp2
      go_ret
      have e1 : n' + 1 = n + (uvar x).length := by have h1 := HX.out; rw [ge.out] at h1; have := HN.out; simp at h1; omega
      have e2 : l ++ (d ++ [b8 m]) = l ++ uvar x := by rw [← ge.out, HD.out]
      have H4 := H3.out
      try rw [List.append_assoc] at H4
      rw [e2, e1] at H4
      exact ⟨A'', c'', by rw [← e1]; rfl, H4⟩

theorem not64 (a : Nat) (h : a < 18446744073709551616) : a ^^^ 18446744073709551615 = 18446744073709551615 - a := by
  have := congrArg BitVec.toNat (BitVec.xor_allOnes (x := BitVec.ofNat 64 a))
  rw [BitVec.toNat_xor, BitVec.toNat_allOnes, BitVec.toNat_not, BitVec.toNat_ofNat, Nat.mod_eq_of_lt (by omega)] at this
  exact this
theorem u64_wrap (x : Int) : IntKind.u64.wrap x = x % 18446744073709551616 := by simp [IntKind.wrap, IntKind.bits, IntKind.signed]
theorem zig_bits (x : Int) (h1 : -9223372036854775808 ≤ x) (h2 : x ≤ 9223372036854775807) :
    bits .xor .u64 (IntKind.u64.wrap (wrap64 (x * 2))) (IntKind.u64.wrap (x / 9223372036854775808)) = ((zig x : Nat) : Int) := by
  rw [u64_wrap, u64_wrap]
  by_cases h : 0 ≤ x
  · have e1 : wrap64 (x * 2) % 18446744073709551616 = (((2 * x).toNat : Nat) : Int) := by unfold wrap64; omega
    have e2 : x / 9223372036854775808 % 18446744073709551616 = ((0 : Nat) : Int) := by omega
    rw [e1, e2, u64_xor_nat _ _ (by omega) (by omega), Nat.xor_zero]
    unfold zig; rw [if_pos h]
  · have e1 : wrap64 (x * 2) % 18446744073709551616 = (((2 * x + 18446744073709551616).toNat : Nat) : Int) := by unfold wrap64; omega
    have e2 : x / 9223372036854775808 % 18446744073709551616 = ((18446744073709551615 : Nat) : Int) := by omega
    rw [e1, e2, u64_xor_nat _ _ (by omega) (by omega), not64 _ (by omega)]
    unfold zig; rw [if_neg h]; omega
set_option maxRecDepth 100000 in
theorem Int_any {E w : World} {A : Option Addr} {n c : Nat} {l : List UInt8} {L : List HP} (x : Int) (H : sat E w (vec 5 B8 A n c l :: L)) (h1 : -9223372036854775808 ≤ x) (h2 : x ≤ 9223372036854775807) (hl : n < 549755813888) :
    Calls Try.prog 37 #[.slice A n c, .int .i64 x] w fun e w' => ∃ A' c', e = .returned (.slice A' (n + (uvar (zig x)).length) c') ∧ sat E w' (vec 5 B8 A' (n + (uvar (zig x)).length) c' (l ++ uvar (zig x)) :: L) := by
  have HU := Lib.hid (Uint_any (zig x) H (zig_lt ⟨h1, h2⟩) hl)
  have HZ := Lib.hid (zig_bits x h1 h2)
  clear H
  go_enter Try.func37, Try.ntmps37
  go_wp2_with fail
  rw [HZ.out]
  refine HU.out.mono ?_
  rintro e w' ⟨A', c', rfl, H⟩
  have H1 := Lib.hid H
  clear H
  go_wp2
  go_ret
  exact ⟨A', c', rfl, H1.out⟩
set_option maxRecDepth 100000 in
theorem Text_any {E w : World} {A : Option Addr} {n c : Nat} {l : List UInt8} {L : List HP} (s : ByteArray) (H : sat E w (vec 5 B8 A n c l :: L)) (hs : s.size < 549755813888) (hl : n < 274877906944) :
    Calls Try.prog 38 #[.slice A n c, .string s] w fun e w' => ∃ A' c', e = .returned (.slice A' (n + (uvar s.size).length + s.size) c') ∧ sat E w' (vec 5 B8 A' (n + (uvar s.size).length + s.size) c' (l ++ uvar s.size ++ bs s) :: L) := by
  have HU := Lib.hid (Uint_any s.size H (by omega) (by omega))
  clear H
  go_enter Try.func38, Try.ntmps38
  go_wp2_with fail
  refine HU.out.mono ?_
  rintro e w' ⟨A', c', rfl, H⟩
  have H1 := Lib.hid H
  have h10 := uvar_len64 (n := s.size) (by omega)
  have HL : Hid (n + (uvar s.size).length + s.size ≤ 1099511627776) := by show _ ≤ _; omega
  clear H h10
  go_wp2_with (at_builtin; go_must (refine wpList_appT rfl (.tmp 9) (.tmp 10) 29 9 rfl info8 Try.underlying29 Try.underlying9 H1.out rfl rfl HL.out ?_))
  intro A'' c'' w1 H2
  have H3 := Lib.hid H2
  clear H2 H1
  go_wp2
  go_ret
  exact ⟨A'', c'', rfl, by have := H3.out; (try rw [List.append_assoc]); (try rw [List.append_assoc] at this); exact this⟩
theorem same_any (A B : Option Addr) (n m c d : Nat) (a b : List UInt8) (w : World) (hn : a.length = n) (hm : b.length = m) (ha : Sl B8 w A a) (hb : Sl B8 w B b) :
    Calls Try.prog 23 #[.slice A n c, .slice B m d] w fun e w' => e = .returned (.bool (decide (a = b))) ∧ w = w' := by
  have k1 := conv_sl (P := Try.prog) (c := c) Try.underlying29 Try.underlying5 Try.underlying9 hn ha
  have k2 := conv_sl (P := Try.prog) (c := d) Try.underlying29 Try.underlying5 Try.underlying9 hm hb
  clear ha hb
  have hd : decide (a = b) = ((strB a).toList == (strB b).toList) := by
    by_cases h : a = b
    · subst h; simp
    · rw [decide_eq_false h]; symm; rw [beq_eq_false_iff_ne]; intro e; exact h (strB_inj (ba_inj e))
  have HD := Lib.hid hd
  clear hd hn hm
  generalize strB a = s at *
  generalize strB b = t at *
  go_enter Try.func23, Try.ntmps23
  go_wp2
  go_ret
  exact ⟨by rw [HD.out]; rfl, rfl⟩

/-- A slice's address, cut at its front. -/
def cutA (A : Option Addr) (c k : Nat) : Option Addr := if c = k then A else A.map (fun x => x.add k)
theorem Sl_cutA {w : World} {A : Option Addr} {l : List UInt8} (h : Sl B8 w A l) (k c : Nat) (hk : k ≤ l.length) (hc : l.length ≤ c) : Sl B8 w (cutA A c k) (l.drop k) := by
  obtain ⟨A', e, h⟩ := h.cut k c hk hc
  unfold cutA; rw [e]; exact h
theorem bits7 (b : UInt8) : bits .andNot .u8 (b.toNat : Int) 128 = ((b.toNat % 128 : Nat) : Int) := by
  have hb : b.toNat < 256 := b.toNat_lt
  rw [show (128 : Int) = ((128 : Nat) : Int) from rfl, u8_andNot_nat _ _ hb (by omega)]
  congr 1
  exact nat_mask7 _
set_option maxRecDepth 20000 in
theorem bitLen7 {x : Nat} (h : x < 128) : Lib.bitLen x ≤ 7 ∧ (Lib.bitLen x ≤ 1 ↔ x ≤ 1) := by
  revert x
  decide
end Go.Proofs.Ytafohemmjhjgbaa.Pk
