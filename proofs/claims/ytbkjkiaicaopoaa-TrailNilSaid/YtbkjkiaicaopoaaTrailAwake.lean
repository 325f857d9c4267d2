/-
  The laws on trails: their example.
-/
import Derived.Test.YtbkjkiaicaopoaaTrailCut
import Derived.Test.YtbkjkiaicaopoaaStrs
namespace Go.Proofs.Ytbkjkiaicaopoaa.Trails
open Go.RowKit Go.Proofs.Ytbkjkiaicaopoaa Go.Shelf

abbrev sA : ByteArray := ⟨#[97]⟩
abbrev sB : ByteArray := ⟨#[98]⟩
abbrev sC : ByteArray := ⟨#[99]⟩
set_option maxRecDepth 100000 in
theorem awake_any {E w : World} {L : List HP} (H : sat E w L) : Calls Try.prog 62 #[] w fun e w' => e = .returned (.bool true) ∧ sat E w' L := by
  have H0 := Lib.hid (New_any H)
  clear H
  go_enter Try.func62, Try.ntmps62
  (go_wp2_with fail)
  refine (H0.out).mono ?_
  rintro e w' ⟨p, rfl, H⟩
  have H1 := Lib.hid (Add_any sA H (by decide))
  (go_wp2_with fail)
  refine (H1.out).mono ?_
  rintro e w' ⟨rfl, H⟩
  have H2 := Lib.hid (Mark_any H (by decide))
  (go_wp2_with fail)
  refine (H2.out).mono ?_
  rintro e w' ⟨rfl, H⟩
  have H3 := Lib.hid (Add_any sB H (by decide))
  (go_wp2_with fail)
  refine (H3.out).mono ?_
  rintro e w' ⟨rfl, H⟩
  have H4 := Lib.hid (Add_any sC H (by decide))
  (go_wp2_with fail)
  refine (H4.out).mono ?_
  rintro e w' ⟨rfl, H⟩
  have H5 := Lib.hid (Cut_ok (k := 0) (at_ := 1) H rfl (by decide) (by decide))
  (go_wp2_with fail)
  refine (H5.out).mono ?_
  rintro e w' ⟨A, n, c, rfl, H⟩
  obtain rfl : 2 = n := H.len
  obtain ⟨b, o, rfl, -⟩ := H.Sl (by decide)
  have c0 : w'.cell? ⟨b, o + 0, none⟩ = some (.string ⟨#[99]⟩) := H.vcell (i := 0) rfl
  have c1 : w'.cell? ⟨b, o + 1, none⟩ = some (.string ⟨#[98]⟩) := H.vcell (i := 1) rfl
  have HL := Lib.hid (Len_any H.pull1)
  have HR := Lib.hid H.tail.tail
  clear H H5 H4 H3 H2 H1 H0
  rw [Nat.add_zero] at c0
  (go_wp2_with fail)
  refine (HL.out).mono ?_
  rintro e w' ⟨rfl, rfl⟩
  go_wp2
  go_ret
  exact ⟨rfl, HR.out⟩

end Go.Proofs.Ytbkjkiaicaopoaa.Trails
