/-
  SumFinds, its walk: any record of which one byte, behind its length, is another one isn't opened. Condition: the bytes take at most 2^47 - 4096 bytes (the form's own reach).
-/
import Derived.Test.YtafohemmjhjgbaaSealLaw
import Derived.Test.YtafohemmjhjgbaaSumTells
namespace Go.Proofs.Ytafohemmjhjgbaa.Sum
open Go.RowKit Go.Proofs.Ytafohemmjhjgbaa Go.Proofs.Ytafohemmjhjgbaa.Crc

theorem pick4 (a : Int) (n : Nat) (hn : n ≤ 4611686018427387904) (h0 : 0 < n) : ∃ k : Nat, k < n ∧ wrap64 (4 + wrap64 ((IntKind.u64.wrap a).tmod (n : Int))) = (k : Int) + 4 := by
  obtain ⟨k, hk, e⟩ := pick a (n - 1) (by omega)
  have : ((n - 1 : Nat) : Int) + 1 = (n : Int) := by omega
  rw [this] at e
  exact ⟨k, by omega, by rw [e]; unfold wrap64; omega⟩

theorem sealB_len (e : Nat) (l : List UInt8) : (sealB e l).length = l.length + 12 := by unfold sealB tailB word; simp

set_option maxHeartbeats 1000000 in
set_option maxRecDepth 100000 in
theorem finds_any (e : Nat) (A : Option Addr) (c : Nat) (l : List UInt8) (at_ : Int) (t : Nat) (w : World) (he : e < 4294967296) (hl : Sl B8 w A l) (hm : l.length ≤ 140737488351232) (ht : t < 256) :
    Calls Try.prog 5 #[.int .u32 e, .slice A l.length c, .int .i64 at_, .int .u8 t] w fun x w' => x = .returned (.bool true) ∧ Below w.heap.size w w' := by
  have AW := Lib.hid awake_any
  by_cases h3 : 3000 < l.length
  · go_enter Try.func5, Try.ntmps5
    go_wp2_with fail
    refine (AW.out _).mono ?_
    rintro x w1 ⟨rfl, hb1⟩
    go_wp2
    go_ret
    exact ⟨rfl, hb1⟩
  · have h3' : ¬ (3000 : Int) < (l.length : Int) := by omega
    by_cases h0 : t = 0
    · subst h0
      go_enter Try.func5, Try.ntmps5
      go_wp2_with fail
      refine (AW.out _).mono ?_
      rintro x w1 ⟨rfl, hb1⟩
      go_wp2
      go_ret
      exact ⟨rfl, hb1⟩
    · have t0 : ((t : Int) == 0) = false := by rw [beq_eq_false_iff_ne]; omega
      obtain ⟨k, hk, hpk⟩ := pick4 at_ (l.length + 8) (by omega) (by omega)
      rw [show ((l.length + 8 : Nat) : Int) = (l.length : Int) + 12 - 4 from by omega] at hpk
      have S := Lib.hid (fun W hW => Seal_any e A l.length c l W he rfl hW hm)
      go_enter Try.func5, Try.ntmps5
      go_wp2_with fail
      refine (AW.out _).mono ?_
      rintro x w1 ⟨rfl, hb1⟩
      have hl1 := Lib.hid (hl.below hb1)
      clear hl
      go_wp2_with fail
      refine (S.out _ hl1.out).mono ?_
      rintro x w2 ⟨v, rfl, hown, hb2⟩
      have hsl := sealB_len e l
      have hlm : ((sealB e l).map B8).length = l.length + 12 := by rw [List.length_map, hsl]
      rw [hlm] at hown
      obtain ⟨g, c2, rfl, hgb⟩ := own_some hown (by omega)
      obtain ⟨x, hx⟩ : ∃ x, (sealB e l)[k + 4]? = some x := ⟨_, List.getElem?_eq_getElem (by omega)⟩
      have hcell := hown.cellAt (k + 4) (by omega)
      rw [List.getElem?_map, hx] at hcell
      simp only [Option.map_some] at hcell
      have hfr := hown.frozenAt (k + 4)
      have hxt : bits .xor .u8 (x.toNat : Int) (t : Int) = ((x.toNat ^^^ t : Nat) : Int) := u8_xor_nat _ _ x.toNat_lt ht
      obtain ⟨y, hy⟩ : ∃ y : UInt8, y.toNat = x.toNat ^^^ t := ⟨UInt8.ofNat (x.toNat ^^^ t), of_nat _ (Nat.xor_lt_two_pow (n := 8) x.toNat_lt ht)⟩
      have hne : x ≠ y := by
        intro e
        subst e
        have : t = 0 := by
          have h2 : x.toNat ^^^ 0 = x.toNat ^^^ t := by rw [Nat.xor_zero]; exact hy
          exact (xor_cancel_left h2).symm
        exact h0 this
      have hst := hown.stored (k + 4) (B8 y)
      have hset : ((sealB e l).map B8).set (k + 4) (B8 y) = ((sealB e l).set (k + 4) y).map B8 := by rw [List.map_set]
      rw [hset] at hst
      have hop := open_turned e l (k + 4) x y (by omega) (by omega) hx hne
      have hb3 : Below w1.heap.size w1 (w2.setCell ⟨g, k + 4, none⟩ (B8 y)) := hb2.setCell (by simpa using hgb) _
      have hlen : ((sealB e l).set (k + 4) y).length = l.length + 12 := by rw [List.length_set, hsl]
      have sl3 := Sl.of_own hst.1
      have OP := Lib.hid (Open_any e (some ⟨g, 0, none⟩) (l.length + 12) c2 _ _ he hlen (own_cap hown) sl3 (by omega))
      have HB3 := Lib.hid (hb1.trans (hb3.mono hb1.size))
      have HOP := Lib.hid hop
      have HXT : Hid (bits .xor .u8 (x.toNat : Int) (t : Int) = (y.toNat : Int)) := by show _ = _; rw [hy]; exact hxt
      have k0 : (0 : Int) ≤ (k : Int) + 4 := by omega
      have k1 : (k : Int) + 4 < (l.length : Int) + 12 := by omega
      unfold B8 at hcell OP
      clear hown hx hxt hy hne hst hset hop hb3 hlen sl3 hsl hlm hb2 S
      go_wp2_with fail
      rw [HXT.out]
      refine OP.out.mono ?_
      rintro z w3 ⟨v3, rfl, _, hb4⟩
      rw [HOP.out]
      go_wp2
      go_ret
      exact ⟨rfl, HB3.out.trans (hb4.mono HB3.out.size)⟩

theorem finds_row (e : Int) (A : Option Addr) (c : Nat) (l : List UInt8) (a : Int) (t : Int) (w : World) (he : (Lit.int .u32 e).wf = true) (_hc : l.length ≤ c) (hl : Sl B8 w A l) (hm : l.length ≤ 140737488351232) (_ha : (Lit.int .i64 a).wf = true) (ht : (Lit.int .u8 t).wf = true) :
    Calls Try.prog 5 #[.int .u32 e, .slice A l.length c, .int .i64 a, .int .u8 t] w fun x w' => x = .returned (.bool true) ∧ Below w.heap.size w w' := by
  have he' : 0 ≤ e ∧ e ≤ 4294967295 := by simpa [Lit.wf, IntKind.min, IntKind.max, IntKind.signed, IntKind.bits] using he
  have ht' : 0 ≤ t ∧ t ≤ 255 := by simpa [Lit.wf, IntKind.min, IntKind.max, IntKind.signed, IntKind.bits] using ht
  obtain ⟨n, rfl⟩ := Int.eq_ofNat_of_zero_le he'.1
  obtain ⟨m, rfl⟩ := Int.eq_ofNat_of_zero_le ht'.1
  exact finds_any n A c l a m w (by omega) hl hm (by omega)
end Go.Proofs.Ytafohemmjhjgbaa.Sum
