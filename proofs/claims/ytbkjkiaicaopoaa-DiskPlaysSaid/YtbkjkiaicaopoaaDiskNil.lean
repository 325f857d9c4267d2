/-
  The laws on disks: their example; a disk that is not there does nothing.
-/
import Derived.Test.YtbkjkiaicaopoaaDiskRead
import Derived.Lib.SlBytesConst
namespace Go.Proofs.Ytbkjkiaicaopoaa.Dk
open Go.RowKit Go.Proofs.Ytbkjkiaicaopoaa

theorem up_nil (w : World) : Calls Try.prog 70 #[.pointer none] w fun e w' => e = .returned (.int .i64 2) ∧ w = w' := by
  go_enter Try.func70, Try.ntmps70
  go_wp2
  go_ret
  exact ⟨rfl, rfl⟩
theorem Fuse_nil (n : Int) (w : World) : Calls Try.prog 21 #[.pointer none, .int .i64 n] w fun e w' => e = .returned undef ∧ w = w' := by
  go_enter Try.func21, Try.ntmps21
  go_wp2
  go_end0
  exact ⟨rfl, rfl⟩
theorem Crash_nil (n : Int) (w : World) : Calls Try.prog 19 #[.pointer none, .int .u64 n] w fun e w' => e = .returned undef ∧ w = w' := by
  go_enter Try.func19, Try.ntmps19
  go_wp2
  go_end0
  exact ⟨rfl, rfl⟩
theorem Write_nil (n : Int) (A : Option Addr) (m c : Nat) (w : World) : Calls Try.prog 16 #[.pointer none, .int .i64 n, .slice A m c] w fun e w' => e = .returned (.int .i64 2) ∧ w = w' := by
  have HU := Lib.hid (up_nil w)
  go_enter Try.func16, Try.ntmps16
  (go_wp2_with fail)
  refine (HU.out).mono ?_
  rintro e w' ⟨rfl, rfl⟩
  go_wp2
  go_ret
  exact ⟨rfl, rfl⟩
theorem Flush_nil (w : World) : Calls Try.prog 17 #[.pointer none] w fun e w' => e = .returned (.int .i64 2) ∧ w = w' := by
  have HU := Lib.hid (up_nil w)
  go_enter Try.func17, Try.ntmps17
  (go_wp2_with fail)
  refine (HU.out).mono ?_
  rintro e w' ⟨rfl, rfl⟩
  go_wp2
  go_ret
  exact ⟨rfl, rfl⟩
theorem Dark_nil (w : World) : Calls Try.prog 23 #[.pointer none] w fun e w' => e = .returned (.bool false) ∧ w = w' := by
  go_enter Try.func23, Try.ntmps23
  go_wp2
  go_ret
  exact ⟨rfl, rfl⟩
theorem Sectors_nil (w : World) : Calls Try.prog 26 #[.pointer none] w fun e w' => e = .returned (.int .i64 0) ∧ w = w' := by
  go_enter Try.func26, Try.ntmps26
  go_wp2
  go_ret
  exact ⟨rfl, rfl⟩
theorem Size_nil (w : World) : Calls Try.prog 27 #[.pointer none] w fun e w' => e = .returned (.int .i64 0) ∧ w = w' := by
  go_enter Try.func27, Try.ntmps27
  go_wp2
  go_ret
  exact ⟨rfl, rfl⟩
theorem Deeds_nil (w : World) : Calls Try.prog 22 #[.pointer none] w fun e w' => e = .returned (.int .i64 0) ∧ w = w' := by
  go_enter Try.func22, Try.ntmps22
  go_wp2
  go_ret
  exact ⟨rfl, rfl⟩
theorem Waits_nil (w : World) : Calls Try.prog 20 #[.pointer none] w fun e w' => e = .returned (.int .i64 0) ∧ w = w' := by
  go_enter Try.func20, Try.ntmps20
  go_wp2
  go_ret
  exact ⟨rfl, rfl⟩
set_option maxRecDepth 100000 in
theorem Read_nil {E w : World} {L : List HP} (i : Int) (H : sat E w L) : Calls Try.prog 29 #[.pointer none, .int .i64 i] w fun e w' => e = .returned (.tuple #[.slice none 0 0, .int .i64 2]) ∧ sat E w' L := by
  have HE := ((H.alloc #[.int .i64 i] 3).alloc #[.slice none 0 0] 30).alloc #[.int .i64 2] 26
  simp only [World.size_alloc] at HE
  have x4 := HE.pull1.cell 0
  have x5 := HE.cell 0
  have HF := Lib.hid (HE.choose 3 [] rfl rfl)
  clear H HE
  refine calls_of_marks Try.func29 rfl ?_
  simp only [Try.ntmps29, List.size_toArray, List.length_cons, List.length_nil, Nat.reduceAdd, Nat.reduceSub, Array.replicate_succ, Array.replicate_zero, List.push_toArray, List.append_toArray, List.nil_append, List.cons_append]
  (go_wp2_with fail)
  refine (up_nil _).mono ?_
  rintro e w' ⟨rfl, rfl⟩
  go_wp2
  refine leave_mark0 rfl (v := .tuple #[.slice none 0 0, .int .i64 2]) ?_ ⟨rfl, HF.out⟩
  simp [results, Try.results29, go_sem, x4, x5]

theorem obj_sl {E W : World} {L : List HP} {g : Nat} {x : UInt8} {t : TypeId} (h : sat E W (objr g (.cells #[.int .u8 (x.toNat : Int)] t (1, 2)) :: L)) : Sl B8 W (some ⟨g, 0, none⟩) [x] := fun _ => by
  have ho := h.obj
  refine ⟨g, 0, rfl, (Array.getElem?_eq_some_iff.1 ho).1, fun i y hi => ?_⟩
  cases i with
  | zero =>
    simp at hi
    subst hi
    exact cell_of_row W g 0 _ t (1, 2) ho
  | succ i => simp at hi
def dA : DiskSt := ((fresh 2 64).write 1 [97]).2
def dB : DiskSt := dA.flush.2
def dC : DiskSt := (dB.write 1 [98]).2
def dD : DiskSt := dC.crash 0
theorem dD_read : dD.read 1 = (0, pad 64 [97]) := by decide +kernel
theorem oks : dA.ok ∧ dC.ok ∧ dD.ok := by unfold DiskSt.ok; decide +kernel
theorem nums : (fresh 2 64).deeds = 0 ∧ (fresh 2 64).fuse = -1 ∧ dA.deeds = 1 ∧ dA.fuse = -1 ∧ dB.deeds = 2 ∧ dB.fuse = -1 ∧ dA.waits.length = 1 ∧ dB.waits.length = 0 ∧ dC.waits.length = 1 ∧ dD.waits.length = 0 ∧ dB.size = 64 ∧ dD.size = 64 := by decide +kernel
set_option maxRecDepth 100000 in
theorem awake_any {E w : World} {L : List HP} (H : sat E w L) : Calls Try.prog 14 #[] w fun e w' => e = .returned (.bool true) ∧ sat E w' L := by
  have HN := Lib.hid (New_ok 2 64 H (by decide) (by decide) (by decide) (by decide))
  obtain ⟨z1, z2, z3, z4, z5, z6, z7, z8, z9, z10, z11, z12⟩ := nums
  obtain ⟨k1, k2, k3⟩ := oks
  have NN := Lib.hid (⟨z1, z2, z3, z4, z5, z6, z7, z8, z9, z10, z11, z12⟩ : (fresh 2 64).deeds = 0 ∧ (fresh 2 64).fuse = -1 ∧ dA.deeds = 1 ∧ dA.fuse = -1 ∧ dB.deeds = 2 ∧ dB.fuse = -1 ∧ dA.waits.length = 1 ∧ dB.waits.length = 0 ∧ dC.waits.length = 1 ∧ dD.waits.length = 0 ∧ dB.size = 64 ∧ dD.size = 64)
  have OK := Lib.hid (⟨k1, k2, k3⟩ : dA.ok ∧ dC.ok ∧ dD.ok)
  clear H z1 z2 z3 z4 z5 z6 z7 z8 z9 z10 z11 z12 k1 k2 k3
  go_enter Try.func14, Try.ntmps14
  (go_wp2_with fail)
  refine (HN.out).mono ?_
  rintro e w' ⟨p, rfl, H⟩
  have cv : (convert 30 30 (.slice (some ⟨w'.heap.size, 0, none⟩) 1 1)).run Try.prog (w'.alloc (.cells #[.int .u8 97] 5)) = .ok (.slice (some ⟨w'.heap.size, 0, none⟩) 1 1) (w'.alloc (.cells #[.int .u8 97] 5 (1, 2))) := Lib.run_convert_bytes_const w' 30 5 #[.int .u8 97] 1 1 Try.underlying30 Try.underlying5
  have H1 := (H.allocObj (.cells #[.int .u8 97] 5 (1, 2))).pull1
  have HW := Lib.hid (Write_any (i := 1) (c := 1) (b := [97]) H1 (by have := NN.out; omega) (by have := NN.out; omega) (fun W h => obj_sl h) rfl (by decide) (by decide) (by decide))
  clear H H1
  (go_wp2_with fail)
  refine (HW.out).mono ?_
  rintro e w' ⟨rfl, H⟩
  replace H : sat E w' (disk p dA :: _) := H
  have HFl := Lib.hid (Flush_any H OK.out.1 (by have := NN.out; omega) (by have := NN.out; omega) (by have := NN.out; omega))
  clear H HW HN
  (go_wp2_with fail)
  refine (HFl.out).mono ?_
  rintro e w' ⟨rfl, H⟩
  replace H : sat E w' (disk p dB :: _) := H
  have cv : (convert 30 30 (.slice (some ⟨w'.heap.size, 0, none⟩) 1 1)).run Try.prog (w'.alloc (.cells #[.int .u8 98] 5)) = .ok (.slice (some ⟨w'.heap.size, 0, none⟩) 1 1) (w'.alloc (.cells #[.int .u8 98] 5 (1, 2))) := Lib.run_convert_bytes_const w' 30 5 #[.int .u8 98] 1 1 Try.underlying30 Try.underlying5
  have H1 := (H.allocObj (.cells #[.int .u8 98] 5 (1, 2))).pull1
  have HW := Lib.hid (Write_any (i := 1) (c := 1) (b := [98]) H1 (by have := NN.out; omega) (by have := NN.out; omega) (fun W h => obj_sl h) rfl (by have := NN.out; omega) (by have := NN.out; omega) (by have := NN.out; omega))
  clear H H1 HFl
  (go_wp2_with fail)
  refine (HW.out).mono ?_
  rintro e w' ⟨rfl, H⟩
  replace H : sat E w' (disk p dC :: _) := H
  have HCr := Lib.hid (Crash_any 0 H (by decide) OK.out.2.1 (by have := NN.out; omega))
  clear H HW
  (go_wp2_with fail)
  refine (HCr.out).mono ?_
  rintro e w' ⟨rfl, H⟩
  replace H : sat E w' (disk p dD :: _) := H
  have HR := Read_any 1 H (by have := NN.out; omega) OK.out.2.2 (by have := NN.out; omega)
  rw [dD_read] at HR
  replace HR := Lib.hid HR
  clear H HCr
  go_wp2_with fail
  refine HR.out.mono ?_
  rintro e w' ⟨⟨A, n, c, l⟩, hl, rfl, H⟩
  dsimp only at hl
  subst hl
  obtain rfl : 64 = n := by have : (pad 64 [97]).length = n := sat.len H; rw [← this]; rfl
  have hS : Sl B8 w' A (pad 64 [97]) := sat.Sl H
  obtain ⟨b, o, rfl, -, c0⟩ := hS.cell (i := 0) (x := 97) rfl
  rw [Nat.add_zero] at c0
  have c1 : w'.cell? ⟨b, o, none⟩ = some (.int .u8 97) := c0
  have HF := Lib.hid (H.choose 4 [] rfl rfl)
  clear H hS HR c0
  dsimp only [Sec.v]
  go_wp2
  go_ret
  exact ⟨rfl, HF.out⟩
set_option maxRecDepth 100000 in
theorem nil_any (n m : Int) (w : World) :
    Calls Try.prog 7 #[.int .i64 n, .int .u64 m] w fun e w' => e = .returned (.bool true) ∧ Below w.heap.size w w' := by
  have HW := Lib.hid (awake_any (sat.start w))
  have HF := Lib.hid (Fuse_nil n)
  have HC := Lib.hid (Crash_nil m)
  have HR := fun W (H : sat w W [oldH w]) => Read_nil n H
  replace HR := Lib.hid HR
  have HWr := Lib.hid (Write_nil n)
  go_enter Try.func7, Try.ntmps7
  (go_wp2_with fail)
  refine (HW.out).mono ?_
  rintro e w' ⟨rfl, H⟩
  have H0 := Lib.hid H
  clear H HW
  (go_wp2_with fail)
  refine (HF.out _).mono ?_
  rintro e w' ⟨rfl, rfl⟩
  (go_wp2_with fail)
  refine (HC.out _).mono ?_
  rintro e w' ⟨rfl, rfl⟩
  (go_wp2_with fail)
  refine (HR.out _ H0.out).mono ?_
  rintro e w' ⟨rfl, H⟩
  have HB := Lib.hid H.toBelow
  clear H H0 HR
  (go_wp2_with fail)
  refine (HWr.out _ _ _ _).mono ?_
  rintro e w' ⟨rfl, rfl⟩
  (go_wp2_with fail)
  refine (Flush_nil _).mono ?_
  rintro e w' ⟨rfl, rfl⟩
  (go_wp2_with fail)
  refine (Dark_nil _).mono ?_
  rintro e w' ⟨rfl, rfl⟩
  (go_wp2_with fail)
  refine (Sectors_nil _).mono ?_
  rintro e w' ⟨rfl, rfl⟩
  (go_wp2_with fail)
  refine (Size_nil _).mono ?_
  rintro e w' ⟨rfl, rfl⟩
  (go_wp2_with fail)
  refine (Deeds_nil _).mono ?_
  rintro e w' ⟨rfl, rfl⟩
  (go_wp2_with fail)
  refine (Waits_nil _).mono ?_
  rintro e w' ⟨rfl, rfl⟩
  go_wp2
  go_ret
  exact ⟨rfl, HB.out⟩
theorem nil_row (n m : Int) (w : World) (_h : (Lit.int .i64 n).wf = true) (_hs : (Lit.int .u64 m).wf = true) :
    Calls Try.prog 7 #[.int .i64 n, .int .u64 m] w fun e w' => e = .returned (.bool true) ∧ Below w.heap.size w w' := nil_any n m w
end Go.Proofs.Ytbkjkiaicaopoaa.Dk
