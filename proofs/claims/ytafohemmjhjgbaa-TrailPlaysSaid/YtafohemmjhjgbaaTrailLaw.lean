/-
  The laws on trails: their example; from the inside, or at once.
-/
import Derived.Test.YtafohemmjhjgbaaTrailCut
import Derived.Test.YtafohemmjhjgbaaStrs
namespace Go.Proofs.Ytafohemmjhjgbaa.Trails
open Go.RowKit Go.Proofs.Ytafohemmjhjgbaa Go.Shelf

abbrev sA : ByteArray := ⟨#[97]⟩
abbrev sB : ByteArray := ⟨#[98]⟩
abbrev sC : ByteArray := ⟨#[99]⟩
set_option maxRecDepth 100000 in
theorem awake_any {E w : World} {L : List HP} (H : sat E w L) : Calls Try.prog 27 #[] w fun e w' => e = .returned (.bool true) ∧ sat E w' L := by
  have H0 := Lib.hid (New_any H)
  clear H
  go_enter Try.func27, Try.ntmps27
  (go_wp2_with fail)
  refine (H0.out).mono ?_
  rintro e w' ⟨p, rfl, H⟩
  have H1 := Lib.hid (Add_any sA H (by decide))
  (go_wp2_with fail)
  refine (H1.out).mono ?_
  rintro e w' ⟨rfl, H⟩
  have H2 := Lib.hid (Mark_any H (by decide))
  (go_wp2_with fail)
  refine (H2.out).mono ?_
  rintro e w' ⟨rfl, H⟩
  have H3 := Lib.hid (Add_any sB H (by decide))
  (go_wp2_with fail)
  refine (H3.out).mono ?_
  rintro e w' ⟨rfl, H⟩
  have H4 := Lib.hid (Add_any sC H (by decide))
  (go_wp2_with fail)
  refine (H4.out).mono ?_
  rintro e w' ⟨rfl, H⟩
  have H5 := Lib.hid (Cut_ok (k := 0) (at_ := 1) H rfl (by decide) (by decide))
  (go_wp2_with fail)
  refine (H5.out).mono ?_
  rintro e w' ⟨A, n, c, rfl, H⟩
  obtain rfl : 2 = n := H.len
  obtain ⟨b, o, rfl, -⟩ := H.Sl (by decide)
  have c0 : w'.cell? ⟨b, o + 0, none⟩ = some (.string ⟨#[99]⟩) := H.vcell (i := 0) rfl
  have c1 : w'.cell? ⟨b, o + 1, none⟩ = some (.string ⟨#[98]⟩) := H.vcell (i := 1) rfl
  have HL := Lib.hid (Len_any H.pull1)
  have HR := Lib.hid H.tail.tail
  clear H H5 H4 H3 H2 H1 H0
  rw [Nat.add_zero] at c0
  (go_wp2_with fail)
  refine (HL.out).mono ?_
  rintro e w' ⟨rfl, rfl⟩
  go_wp2
  go_ret
  exact ⟨rfl, HR.out⟩

set_option maxRecDepth 100000 in
theorem Same_any (A B : Option Addr) (n m c d : Nat) (xs ys : List ByteArray) (w : World) (hn : xs.length = n) (hm : ys.length = m) (hA : Sl Value.string w A xs) (hB : Sl Value.string w B ys) (hx : n < 2097152) (hy : m < 2097152) :
    Calls Try.prog 32 #[.slice A n c, .slice B m d] w fun e w' => e = .returned (.bool (decide (xs = ys))) ∧ ∃ q, w' = w.drewN q := by
  subst hn hm
  by_cases hl : xs.length = ys.length
  · have hl' : ((xs.length : Int) == (ys.length : Int)) = true := by rw [hl]; simp
    have hl'' : ((xs.length : Int) != (ys.length : Int)) = false := by rw [hl]; simp
    have HL := Lib.hid hl
    clear hl
    go_enter Try.func32, Try.ntmps32
    go_wp2
    go_loopw [5] (fun i wr => ∃ k q : Nat, k ≤ xs.length ∧ i = .int .i64 k ∧ wr = w.drewN q ∧ xs.take k = ys.take k) (fun i _ => xs.length - (intOf i).toNat)
    case atStart => exact ⟨0, 0, Nat.zero_le _, rfl, rfl, rfl⟩
    case round =>
      obtain ⟨k, q, hk, rfl, rfl, hp⟩ := hrel
      have HP := Lib.hid hp
      clear hp
      by_cases hlt : k < xs.length
      · obtain ⟨x, ex⟩ : ∃ x, xs[k]? = some x := ⟨_, List.getElem?_eq_getElem hlt⟩
        obtain ⟨y, ey⟩ : ∃ y, ys[k]? = some y := ⟨_, List.getElem?_eq_getElem (by have := HL.out; omega)⟩
        obtain ⟨b, o, rfl, -, c0⟩ := hA.cell ex
        obtain ⟨g, u, rfl, -, c1⟩ := hB.cell ey
        have k0 : (0 : Int) ≤ (k : Int) := by omega
        have k1 : (k : Int) < (xs.length : Int) := by omega
        have k2 : (k : Int) < (ys.length : Int) := by have := HL.out; omega
        have EX := Lib.hid ex
        have EY := Lib.hid ey
        clear ex ey hA hB
        go_wp2
        go_quiet (fail)
        go_wp2
        · have hne := ba_ne ‹_›
          go_ret
          refine ⟨?_, q + nq, World.drewN_drewN ..⟩
          have : decide (xs = ys) = false := by
            rw [decide_eq_false_iff_not]
            rintro rfl
            have := EX.out.symm.trans EY.out
            exact hne (Option.some.inj this)
          rw [this]; rfl
        · have he := ba_eq ‹_›
          go_roundw
          case rel =>
            refine ⟨k + 1, q + nq, by omega, by go_num, rfl, ?_⟩
            rw [List.take_add_one, List.take_add_one, HP.out, EX.out, EY.out, he]
          case measure => simp [intOf]; omega
      · obtain rfl : k = xs.length := by omega
        clear hA hB
        go_wp2
        go_ret
        refine ⟨?_, _, rfl⟩
        have : decide (xs = ys) = true := by
          rw [decide_eq_true_eq]
          have h := HP.out
          rw [List.take_length, HL.out, List.take_length] at h
          exact h
        rw [this]; rfl
  · have hl' : ((xs.length : Int) == (ys.length : Int)) = false := by rw [beq_eq_false_iff_ne]; omega
    have hl'' : ((xs.length : Int) != (ys.length : Int)) = true := by rw [bne_iff_ne]; omega
    have hd : Hid (decide (xs = ys) = false) := by show _ = _; rw [decide_eq_false_iff_not]; rintro rfl; exact hl rfl
    rw [hd.out]
    clear hl hA hB
    go_enter Try.func32, Try.ntmps32
    go_wp2
    go_ret
    exact ⟨rfl, 0, rfl⟩
end Go.Proofs.Ytafohemmjhjgbaa.Trails
