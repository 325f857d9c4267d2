/-
  SumTells, its walk: of any bytes the sum is the remainder that the reference says, also in two pieces. No further condition.
-/
import Derived.Test.YtafohemmjhjgbaaSum
import Derived.Lib.SlBytesConst
import Derived.Deep.RegionHeld3
import Derived.Deep.DeepCutAuto
namespace Go.Proofs.Ytafohemmjhjgbaa.Sum
open Go.RowKit Go.Proofs.Ytafohemmjhjgbaa Go.Proofs.Ytafohemmjhjgbaa.Crc

set_option maxRecDepth 100000 in
theorem awake_any (w : World) : Calls Try.prog 17 #[] w fun e w' => e = .returned (.bool true) ∧ Below w.heap.size w w' := by
  have hv : ((ofB [49, 50, 51, 52, 53, 54, 55, 56, 57] : Nat) : Int) = 3421780262 := by decide +kernel
  have hl : ∀ W : World, Sl B8 (W.alloc (.cells #[.int .u8 49, .int .u8 50, .int .u8 51, .int .u8 52, .int .u8 53, .int .u8 54, .int .u8 55, .int .u8 56, .int .u8 57] 5 (9, 10))) (some ⟨W.heap.size, 0, none⟩) [49, 50, 51, 52, 53, 54, 55, 56, 57] := by
    intro W
    exact Sl.lit W _ _ _ _ rfl
  have O := Lib.hid (fun (W : World) c => Of_any _ c _ _ (hl W) (by decide))
  rw [hv] at O
  clear hv hl
  have kc := fun (w : World) (C : Array Value) (n c : Nat) => Lib.run_convert_bytes_const (P := Try.prog) w 29 5 C n c Try.underlying29 Try.underlying5
  go_enter Try.func17, Try.ntmps17
  go_wp2_with fail
  refine (O.out w 9).mono ?_
  rintro e w1 ⟨rfl, hb⟩
  go_wp2_with fail
  go_ret
  exact ⟨rfl, ((Below.refl _ _).alloc (Nat.le_refl _) _).trans (hb.mono (by simp))⟩

set_option maxRecDepth 100000 in
theorem tells_any (A : Option Addr) (c : Nat) (l : List UInt8) (at_ : Int) (w : World) (hc : l.length ≤ c) (hl : Sl B8 w A l) (hm : l.length ≤ 140737488351232) :
    Calls Try.prog 4 #[.slice A l.length c, .int .i64 at_] w fun e w' => e = .returned (.bool true) ∧ Below w.heap.size w w' := by
  have AW := Lib.hid awake_any
  by_cases h3 : 3000 < l.length
  · go_enter Try.func4, Try.ntmps4
    go_wp2_with fail
    refine (AW.out _).mono ?_
    rintro e w1 ⟨rfl, hb1⟩
    go_wp2
    go_ret
    exact ⟨rfl, hb1⟩
  · obtain ⟨k, hk, hke⟩ := pick at_ l.length (by omega)
    have HK := Lib.hid hke
    clear hke
    have h3' : ¬ (3000 : Int) < (l.length : Int) := by omega
    go_enter Try.func4, Try.ntmps4
    go_wp2_with fail
    refine (AW.out _).mono ?_
    rintro e w1 ⟨rfl, hb1⟩
    go_wp2_with fail
    rw [HK.out]
    refine (Of_any A c l _ (hl.below hb1) (by omega)).mono ?_
    rintro e w2 ⟨rfl, hb2⟩
    have hb12 := hb1.trans (hb2.mono hb1.size)
    obtain ⟨A', hA', hl'⟩ := hl.cut k c hk hc
    have ho1 : on (ofB (l.take k)) (l.drop k) = ofB l := by unfold ofB; rw [on_on, List.take_append_drop]
    have ho2 : on (ofB l) [] = ofB l := on_nil _
    have R1 : Hid (∀ W, Below w.heap.size w W → Calls Try.prog 19 #[.slice A l.length c] W fun e w' => e = .returned (.int .u32 (ofB l)) ∧ W = w') := fun W hW => ROf_any A c l W (hl.below hW) (by omega)
    have R2 : Hid (∀ W, Below w.heap.size w W → Calls Try.prog 18 #[.slice A k c] W fun e w' => e = .returned (.int .u32 (ofB (l.take k))) ∧ Below W.heap.size W w') := fun W hW => Of_at A k c (l.take k) W (by simp; omega) ((hl.take k).below hW) (by omega)
    have R3 : Hid (∀ W, Below w.heap.size w W → Calls Try.prog 20 #[.int .u32 (ofB (l.take k)), .slice A' (l.length - k) (c - k)] W fun e w' => e = .returned (.int .u32 (ofB l)) ∧ Below W.heap.size W w') := fun W hW => by
      have := On_at (ofB (l.take k)) (ofB_lt _) A' (l.length - k) (c - k) (l.drop k) W (by simp) (hl'.below hW) (by omega)
      rwa [ho1] at this
    have R4 : Hid (∀ W, Calls Try.prog 20 #[.int .u32 (ofB l), .slice none 0 0] W fun e w' => e = .returned (.int .u32 (ofB l)) ∧ Below W.heap.size W w') := fun W => by
      have := On_at (ofB l) (ofB_lt _) none 0 0 [] W rfl Sl.nil (by omega)
      rwa [ho2] at this
    clear hl hl' ho1 ho2
    have k1 : (0 : Int) ≤ (k : Int) := by omega
    have k2 : (k : Int) ≤ (c : Int) := by omega
    have k3 : (k : Int) ≤ (l.length : Int) := by omega
    generalize ofB (l.take k) = p at *
    generalize ofB l = q at *
    go_wp2_with fail
    go_region_held3 (fun w' => Below w.heap.size w w')
      (first | assumption | exact Below.drew ‹_› | exact Below.trans ‹_› (hb.mono (Below.size ‹_›)))
      (first | (go_at_call 19; (with_reducible refine (R1.out _ ‹_›).mono ?_); rintro e w' ⟨rfl, rfl⟩) | (go_at_call 18; (with_reducible refine (R2.out _ ‹_›).mono ?_); rintro e w' ⟨rfl, hb⟩) | (go_at_call 20; (with_reducible refine (R3.out _ ‹_›).mono ?_); rintro e w' ⟨rfl, hb⟩) | (go_at_call 20; (with_reducible refine (R4.out _).mono ?_); rintro e w' ⟨rfl, hb⟩))
    go_wp2
    go_ret
    exact ⟨by simp, ‹_›⟩

theorem tells_row (A : Option Addr) (c : Nat) (l : List UInt8) (a : Int) (w : World) (hc : l.length ≤ c) (hl : Sl B8 w A l) (hm : l.length ≤ 140737488351232) (_ha : (Lit.int .i64 a).wf = true) :
    Calls Try.prog 4 #[.slice A l.length c, .int .i64 a] w fun e w' => e = .returned (.bool true) ∧ Below w.heap.size w w' := tells_any A c l a w hc hl hm
end Go.Proofs.Ytafohemmjhjgbaa.Sum
