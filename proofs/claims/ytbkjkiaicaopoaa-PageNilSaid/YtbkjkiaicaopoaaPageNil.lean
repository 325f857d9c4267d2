/-
  The laws on pages: their example; a page that is not there has nothing.
-/
import Derived.Test.YtbkjkiaicaopoaaPageBytes
namespace Go.Proofs.Ytbkjkiaicaopoaa.Pg
open Go.RowKit Go.Proofs.Ytbkjkiaicaopoaa Go.Proofs.Ytbkjkiaicaopoaa.Dk

theorem pthere_nil (i : Int) (w : World) : Calls Try.prog 80 #[.pointer none, .int .i64 i] w fun e w' => e = .returned (.int .i64 2) ∧ w = w' := by
  go_enter Try.func80, Try.ntmps80
  go_wp2
  go_ret
  exact ⟨rfl, rfl⟩
theorem pAdd_nil (A : Option Addr) (n c : Nat) (w : World) : Calls Try.prog 31 #[.pointer none, .slice A n c] w fun e w' => e = .returned (.tuple #[.int .i64 0, .int .i64 2]) ∧ w = w' := by
  go_enter Try.func31, Try.ntmps31
  go_wp2
  go_ret2
  exact ⟨rfl, rfl⟩
theorem pGet_nil (i : Int) (w : World) : Calls Try.prog 32 #[.pointer none, .int .i64 i] w fun e w' => e = .returned (.tuple #[.slice none 0 0, .int .i64 2]) ∧ w = w' := by
  have HT := Lib.hid (pthere_nil i w)
  go_enter Try.func32, Try.ntmps32
  (go_wp2_with fail)
  refine (HT.out).mono ?_
  rintro e w' ⟨rfl, rfl⟩
  go_wp2
  go_ret2
  exact ⟨rfl, rfl⟩
theorem pSet_nil (i : Int) (A : Option Addr) (n c : Nat) (w : World) : Calls Try.prog 33 #[.pointer none, .int .i64 i, .slice A n c] w fun e w' => e = .returned (.int .i64 2) ∧ w = w' := by
  have HT := Lib.hid (pthere_nil i w)
  go_enter Try.func33, Try.ntmps33
  (go_wp2_with fail)
  refine (HT.out).mono ?_
  rintro e w' ⟨rfl, rfl⟩
  go_wp2
  go_ret
  exact ⟨rfl, rfl⟩
theorem pDrop_nil (i : Int) (w : World) : Calls Try.prog 34 #[.pointer none, .int .i64 i] w fun e w' => e = .returned (.int .i64 2) ∧ w = w' := by
  have HT := Lib.hid (pGet_nil i w)
  go_enter Try.func34, Try.ntmps34
  (go_wp2_with fail)
  refine (HT.out).mono ?_
  rintro e w' ⟨rfl, rfl⟩
  go_wp2
  go_ret
  exact ⟨rfl, rfl⟩
theorem pSlots_nil (w : World) : Calls Try.prog 35 #[.pointer none] w fun e w' => e = .returned (.int .i64 0) ∧ w = w' := by
  go_enter Try.func35, Try.ntmps35
  go_wp2
  go_ret
  exact ⟨rfl, rfl⟩
theorem pRoom_nil (w : World) : Calls Try.prog 36 #[.pointer none] w fun e w' => e = .returned (.int .i64 0) ∧ w = w' := by
  go_enter Try.func36, Try.ntmps36
  go_wp2
  go_ret
  exact ⟨rfl, rfl⟩
theorem pBytes_nil {E w : World} {L : List HP} (H : sat E w L) : Calls Try.prog 37 #[.pointer none] w fun e w' => e = .returned (.slice none 0 0) ∧ sat E w' L := by
  have H1 := H.alloc #[.pointer none] 54
  have a0 := H1.cell 0
  have HF := Lib.hid H1.tail
  clear H H1
  refine calls_of_marks Try.func37 rfl ?_
  simp only [Try.ntmps37, List.size_toArray, List.length_cons, List.length_nil, Nat.reduceAdd, Nat.reduceSub, Array.replicate_succ, Array.replicate_zero, List.push_toArray, List.append_toArray, List.nil_append, List.cons_append]
  go_wp2
  refine leave_mark0 rfl (v := .slice none 0 0) ?_ ⟨rfl, HF.out⟩
  simp [results, Try.results37, go_sem]
def pA : PageSt := ⟨64, [List.replicate 59 0]⟩
theorem pA_facts : (PageSt.add ⟨64, []⟩ (List.replicate 60 0)) = (0, 12, ⟨64, []⟩) ∧ (PageSt.add ⟨64, []⟩ (List.replicate 59 0)) = (0, 0, pA) ∧ pA.room = 0 := by
  refine ⟨rfl, rfl, rfl⟩
theorem pA_fit : pA.fit ∧ PageSt.fit ⟨64, []⟩ := by
  refine ⟨⟨by decide, by decide, fun x hx => ?_⟩, by decide, by decide, fun x hx => (by cases hx)⟩
  simp [pA] at hx
  rw [hx]; simp
set_option maxRecDepth 100000 in
theorem pawake_any {E w : World} {L : List HP} (H : sat E w L) : Calls Try.prog 30 #[] w fun e w' => e = .returned (.bool true) ∧ sat E w' L := by
  have HN := Lib.hid (pNew_ok 64 H (by decide) (by decide))
  clear H
  go_enter Try.func30, Try.ntmps30
  (go_wp2_with fail)
  refine (HN.out).mono ?_
  rintro e w' ⟨p, rfl, H⟩
  have mk : (Instr.makeSlice 30 (.int .i64 60) (.int .i64 60)).run Try.prog w' = .ok (.slice (some ⟨w'.heap.size, 0, none⟩) 60 60) (w'.alloc (.cells (Array.replicate 60 (B8 0)) 5)) := make_bytes info8 Try.underlying30 60 (by omega) w'
  have H1 := (H.zeros (n := 60) 5 (by decide)).pull1
  have HA := pAdd_any (c := 60) (n := 60) (b := List.replicate 60 0) H1 pA_fit.2 (fun W h => sat.Sl h) (by simp)
  rw [pA_facts.1] at HA
  replace HA := Lib.hid HA
  clear H H1 HN
  (go_wp2_with fail)
  refine (HA.out).mono ?_
  rintro e w' ⟨rfl, H⟩
  clear mk HA
  have mk : (Instr.makeSlice 30 (.int .i64 59) (.int .i64 59)).run Try.prog w' = .ok (.slice (some ⟨w'.heap.size, 0, none⟩) 59 59) (w'.alloc (.cells (Array.replicate 59 (B8 0)) 5)) := make_bytes info8 Try.underlying30 59 (by omega) w'
  have H1 := (H.zeros (n := 59) 5 (by decide)).pull1
  have HA := pAdd_any (c := 59) (n := 59) (b := List.replicate 59 0) H1 pA_fit.2 (fun W h => sat.Sl h) (by simp)
  rw [pA_facts.2.1] at HA
  replace HA := Lib.hid HA
  clear H H1
  (go_wp2_with fail)
  refine (HA.out).mono ?_
  rintro e w' ⟨rfl, H⟩
  have HR := pRoom_any H pA_fit.1
  rw [pA_facts.2.2] at HR
  replace HR := Lib.hid HR
  clear H HA mk
  (go_wp2_with fail)
  refine (HR.out).mono ?_
  rintro e w' ⟨rfl, H⟩
  have HF := Lib.hid (H.choose 3 [] rfl rfl)
  clear H HR
  go_wp2
  go_ret
  exact ⟨rfl, HF.out⟩
set_option maxRecDepth 100000 in
theorem pnil_any (i : Int) (A : Option Addr) (n c : Nat) (w : World) :
    Calls Try.prog 8 #[.int .i64 i, .slice A n c] w fun e w' => e = .returned (.bool true) ∧ Below w.heap.size w w' := by
  have HW := Lib.hid (pawake_any (sat.start w))
  go_enter Try.func8, Try.ntmps8
  (go_wp2_with fail)
  refine (HW.out).mono ?_
  rintro e w' ⟨rfl, H⟩
  have H0 := Lib.hid H
  clear H HW
  (go_wp2_with fail)
  refine (pAdd_nil _ _ _ _).mono ?_
  rintro e w' ⟨rfl, rfl⟩
  (go_wp2_with fail)
  refine (pGet_nil _ _).mono ?_
  rintro e w' ⟨rfl, rfl⟩
  (go_wp2_with fail)
  refine (pSet_nil _ _ _ _ _).mono ?_
  rintro e w' ⟨rfl, rfl⟩
  (go_wp2_with fail)
  refine (pDrop_nil _ _).mono ?_
  rintro e w' ⟨rfl, rfl⟩
  (go_wp2_with fail)
  refine (pSlots_nil _).mono ?_
  rintro e w' ⟨rfl, rfl⟩
  (go_wp2_with fail)
  refine (pRoom_nil _).mono ?_
  rintro e w' ⟨rfl, rfl⟩
  have HY := Lib.hid (pBytes_nil H0.out)
  (go_wp2_with fail)
  refine (HY.out).mono ?_
  rintro e w' ⟨rfl, H⟩
  have HB := Lib.hid H.toBelow
  clear H H0 HY
  go_wp2
  go_ret
  exact ⟨rfl, HB.out⟩
theorem pnil_row (i : Int) (A : Option Addr) (c : Nat) (l : List UInt8) (w : World) (_h : (Lit.int .i64 i).wf = true) (_hc : l.length ≤ c) (_hl : Sl B8 w A l) (_hm : l.length ≤ 140737488351232) :
    Calls Try.prog 8 #[.int .i64 i, .slice A l.length c] w fun e w' => e = .returned (.bool true) ∧ Below w.heap.size w w' := pnil_any i A _ c w
end Go.Proofs.Ytbkjkiaicaopoaa.Pg
