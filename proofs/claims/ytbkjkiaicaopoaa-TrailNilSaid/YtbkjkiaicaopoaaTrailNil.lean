/-
  TrailNil: a trail that is not there has nothing.
-/
import Derived.Test.YtbkjkiaicaopoaaTrailAwake
namespace Go.Proofs.Ytbkjkiaicaopoaa.Trails
open Go.RowKit Go.Proofs.Ytbkjkiaicaopoaa Go.Shelf

theorem bad_nil (n : Int) (w : World) : Calls Try.prog 103 #[.pointer none, .int .i64 n] w fun e w' => e = .returned (.int .i64 2) ∧ w = w' := by
  go_enter Try.func103, Try.ntmps103
  go_wp2
  go_ret
  exact ⟨rfl, rfl⟩
theorem Cut_nil (n : Int) (w : World) : Calls Try.prog 63 #[.pointer none, .int .i64 n] w fun e w' => e = .returned (.tuple #[.slice none 0 0, .int .i64 2]) ∧ w = w' := by
  have HB := Lib.hid (bad_nil n w)
  go_enter Try.func63, Try.ntmps63
  (go_wp2_with fail)
  refine (HB.out).mono ?_
  rintro e w' ⟨rfl, rfl⟩
  go_wp2
  go_ret2
  exact ⟨rfl, rfl⟩
theorem Since_nil (n : Int) (w : World) : Calls Try.prog 64 #[.pointer none, .int .i64 n] w fun e w' => e = .returned (.tuple #[.slice none 0 0, .int .i64 2]) ∧ w = w' := by
  have HB := Lib.hid (bad_nil n w)
  go_enter Try.func64, Try.ntmps64
  (go_wp2_with fail)
  refine (HB.out).mono ?_
  rintro e w' ⟨rfl, rfl⟩
  go_wp2
  go_ret2
  exact ⟨rfl, rfl⟩
theorem Forget_nil (n : Int) (w : World) : Calls Try.prog 67 #[.pointer none, .int .i64 n] w fun e w' => e = .returned (.int .i64 2) ∧ w = w' := by
  have HB := Lib.hid (bad_nil n w)
  go_enter Try.func67, Try.ntmps67
  (go_wp2_with fail)
  refine (HB.out).mono ?_
  rintro e w' ⟨rfl, rfl⟩
  go_wp2
  go_ret
  exact ⟨rfl, rfl⟩
theorem Add_nil (s : ByteArray) (w : World) : Calls Try.prog 65 #[.pointer none, .string s] w fun e w' => e = .returned (.int .i64 2) ∧ w = w' := by
  go_enter Try.func65, Try.ntmps65
  go_wp2
  go_ret
  exact ⟨rfl, rfl⟩
theorem Mark_nil (w : World) : Calls Try.prog 66 #[.pointer none] w fun e w' => e = .returned (.int .i64 (-1)) ∧ w = w' := by
  go_enter Try.func66, Try.ntmps66
  go_wp2
  go_ret
  exact ⟨rfl, rfl⟩
theorem Len_nil (w : World) : Calls Try.prog 68 #[.pointer none] w fun e w' => e = .returned (.int .i64 0) ∧ w = w' := by
  go_enter Try.func68, Try.ntmps68
  go_wp2
  go_ret
  exact ⟨rfl, rfl⟩
theorem Marks_nil (w : World) : Calls Try.prog 69 #[.pointer none] w fun e w' => e = .returned (.int .i64 0) ∧ w = w' := by
  go_enter Try.func69, Try.ntmps69
  go_wp2
  go_ret
  exact ⟨rfl, rfl⟩
set_option maxRecDepth 100000 in
theorem nil_any (n : Int) (s : ByteArray) (w : World) :
    Calls Try.prog 13 #[.int .i64 n, .string s] w fun e w' => e = .returned (.bool true) ∧ Below w.heap.size w w' := by
  have HW := Lib.hid (awake_any (sat.start w))
  have HC := Lib.hid (Cut_nil n)
  have HS := Lib.hid (Since_nil n)
  have HF := Lib.hid (Forget_nil n)
  have HA := Lib.hid (Add_nil s)
  go_enter Try.func13, Try.ntmps13
  (go_wp2_with fail)
  refine (HW.out).mono ?_
  rintro e w' ⟨rfl, H⟩
  have HB := Lib.hid H.toBelow
  clear H HW
  (go_wp2_with fail)
  refine (HC.out _).mono ?_
  rintro e w' ⟨rfl, rfl⟩
  (go_wp2_with fail)
  refine (HS.out _).mono ?_
  rintro e w' ⟨rfl, rfl⟩
  (go_wp2_with fail)
  refine (HA.out _).mono ?_
  rintro e w' ⟨rfl, rfl⟩
  (go_wp2_with fail)
  refine (Mark_nil _).mono ?_
  rintro e w' ⟨rfl, rfl⟩
  (go_wp2_with fail)
  refine (HF.out _).mono ?_
  rintro e w' ⟨rfl, rfl⟩
  (go_wp2_with fail)
  refine (Len_nil _).mono ?_
  rintro e w' ⟨rfl, rfl⟩
  (go_wp2_with fail)
  refine (Marks_nil _).mono ?_
  rintro e w' ⟨rfl, rfl⟩
  go_wp2
  go_ret
  exact ⟨rfl, HB.out⟩
theorem nil_row (n : Int) (s : ByteArray) (w : World) (_h : (Lit.int .i64 n).wf = true) (_hs : s.size ≤ 140737488351232) :
    Calls Try.prog 13 #[.int .i64 n, .string s] w fun e w' => e = .returned (.bool true) ∧ Below w.heap.size w w' := nil_any n s w
end Go.Proofs.Ytbkjkiaicaopoaa.Trails
