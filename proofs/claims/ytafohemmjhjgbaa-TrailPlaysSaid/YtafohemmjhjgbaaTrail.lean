/-
  A trail in memory, and what each of its functions does to it.
-/
import Derived.Test.YtafohemmjhjgbaaSep
import Derived.Test.YtafohemmjhjgbaaReg
import Derived.Test.YtafohemmjhjgbaaRange
import Derived.Test.YtafohemmjhjgbaaProg
import Derived.KernelRfl
import Derived.RowKit3
import Derived.WalkSpells
import Derived.LoopTactic
import Derived.Deep.QuietTactic
import Derived.BigQuiet
import Derived.Deep.RegionHeld3
import Derived.Deep.RegionHeldLaw
import Derived.Deep.AppendLies
import Derived.Deep.RegionWith
import Derived.StillTailTactics
namespace Go.Proofs.Ytafohemmjhjgbaa.Trails
open Go.RowKit Go.Proofs.Ytafohemmjhjgbaa Go.Shelf
attribute [local go_sem] Oper.semAt_some

def I64 (n : Nat) : Value := .int .i64 n
/-- A trail at block p: its things, its marks. -/
def trail (p : Nat) (xs : List ByteArray) (ms : List Nat) : HP := fun h => ∃ v : (Option Addr × Nat × Nat) × Option Addr × Nat × Nat,
  star [blk p #[.slice v.1.1 v.1.2.1 v.1.2.2, .slice v.2.1 v.2.2.1 v.2.2.2] 103, vec 9 Value.string v.1.1 v.1.2.1 v.1.2.2 xs, vec 3 I64 v.2.1 v.2.2.1 v.2.2.2 ms] h
theorem trail_open {E w : World} {p : Nat} {xs : List ByteArray} {ms : List Nat} {L : List HP} (H : sat E w (trail p xs ms :: L)) :
    ∃ A c B d, sat E w (blk p #[.slice A xs.length c, .slice B ms.length d] 103 :: vec 9 Value.string A xs.length c xs :: vec 3 I64 B ms.length d ms :: L) := by
  obtain ⟨⟨⟨A, n, c⟩, B, m, d⟩, H⟩ := H.open_ex
  replace H := H.flat
  have h1 := H.pull1.len
  have h2 := H.pull2.len
  dsimp only at h1 h2
  subst h1 h2
  exact ⟨A, c, B, d, H⟩
theorem trail_shut {E w : World} {p : Nat} {xs : List ByteArray} {ms : List Nat} {L : List HP} {A : Option Addr} {n c : Nat} {B : Option Addr} {m d : Nat}
    (H : sat E w (blk p #[.slice A n c, .slice B m d] 103 :: vec 9 Value.string A n c xs :: vec 3 I64 B m d ms :: L)) : sat E w (trail p xs ms :: L) :=
  sat.shut_ex ((A, n, c), B, m, d) (H.fold (L := [_, _, _]))

theorem New_any {E w : World} {L : List HP} (H : sat E w L) : Calls Try.prog 28 #[] w fun e w' => ∃ p, e = .returned (.pointer (some ⟨p, 0, none⟩)) ∧ sat E w' (trail p [] [] :: L) := by
  have HH := Lib.hid H
  clear H
  go_enter Try.func28, Try.ntmps28
  go_wp2
  go_ret
  exact ⟨_, rfl, trail_shut (((HH.out.nilVec 3 I64).nilVec 9 Value.string).alloc _ _)⟩

theorem Len_any {E w : World} {p : Nat} {xs : List ByteArray} {ms : List Nat} {L : List HP} (H : sat E w (trail p xs ms :: L)) : Calls Try.prog 33 #[.pointer (some ⟨p, 0, none⟩)] w fun e w' => e = .returned (.int .i64 xs.length) ∧ w = w' := by
  obtain ⟨A, c, B, d, H⟩ := trail_open H
  have c0 := H.cell 0
  clear H
  go_enter Try.func33, Try.ntmps33
  go_wp2
  go_ret
  exact ⟨rfl, rfl⟩
theorem Marks_any {E w : World} {p : Nat} {xs : List ByteArray} {ms : List Nat} {L : List HP} (H : sat E w (trail p xs ms :: L)) : Calls Try.prog 34 #[.pointer (some ⟨p, 0, none⟩)] w fun e w' => e = .returned (.int .i64 ms.length) ∧ w = w' := by
  obtain ⟨A, c, B, d, H⟩ := trail_open H
  have c0 := H.cell 1
  clear H
  go_enter Try.func34, Try.ntmps34
  go_wp2
  go_ret
  exact ⟨rfl, rfl⟩

theorem infoS : (Try.prog.info? 9).map (fun i => (i.zero, i.size, i.bytes)) = some (some (.string ByteArray.empty), 1, 16) := by kernel_rfl
theorem infoI : (Try.prog.info? 3).map (fun i => (i.zero, i.size, i.bytes)) = some (some (.int .i64 0), 1, 8) := by kernel_rfl

set_option maxRecDepth 100000 in
theorem Add_any {E w : World} {p : Nat} {xs : List ByteArray} {ms : List Nat} {L : List HP} (x : ByteArray) (H : sat E w (trail p xs ms :: L)) (hl : xs.length < 1048576) :
    Calls Try.prog 30 #[.pointer (some ⟨p, 0, none⟩), .string x] w fun e w' => e = .returned (.int .i64 0) ∧ sat E w' (trail p (xs ++ [x]) ms :: L) := by
  obtain ⟨A, c, B, d, H⟩ := trail_open H
  have c0 := H.cell 0
  have H1 := Lib.hid H.pull1
  have HL : Hid (xs.length < 1099511627776) := by show _ < _; omega
  have hli : ¬ (1048576 : Int) ≤ (xs.length : Int) := by omega
  clear H hl
  go_enter Try.func30, Try.ntmps30
  go_wp2_with (at_builtin; go_must (refine wpList_app1 rfl (.tmp 19) (.tmp 21) 43 rfl infoS Try.underlying43 rfl (by decide) H1.out x rfl rfl rfl rfl rfl HL.out ?_))
  intro A' c' w1 H2
  have H3 := H2.pull1
  have c1 := H3.cell 0
  have f1 := H3.frozen 0
  have H4 := Lib.hid (H3.setCell 0 (.slice A' (xs.length + 1) c'))
  clear H3 H2 H1
  go_wp2
  go_ret
  exact ⟨rfl, trail_shut H4.out⟩

set_option maxRecDepth 100000 in
theorem Mark_any {E w : World} {p : Nat} {xs : List ByteArray} {ms : List Nat} {L : List HP} (H : sat E w (trail p xs ms :: L)) (hl : ms.length < 1048576) :
    Calls Try.prog 29 #[.pointer (some ⟨p, 0, none⟩)] w fun e w' => e = .returned (.int .i64 ms.length) ∧ sat E w' (trail p xs (ms ++ [xs.length]) :: L) := by
  obtain ⟨A, c, B, d, H⟩ := trail_open H
  have c0 := H.cell 0
  have c1 := H.cell 1
  have f1 := H.frozen 1
  have H1 := Lib.hid H.pull2
  have HL : Hid (ms.length < 1099511627776) := by show _ < _; omega
  clear H
  go_enter Try.func29, Try.ntmps29
  go_wp2_with fail
  refine Reg.wp_region_s (H1.out) (fun W => W.cell? ⟨p, 0, none⟩ = some (.slice A xs.length c) ∧ W.cell? ⟨p, 1, none⟩ = some (.slice B ms.length d)) [4, 8] [10, 11, 14] [0, 1, 2, 3, 4, 5, 6, 7, 8, 9, 10, 11, 12, 13, 14] (by kernel_rfl) (by kernel_rfl) (fun W H => ⟨H.pull1.cell 0, H.pull1.cell 1⟩) (fun W HW => ?_)
  simp only [Reg.pickOps, List.map_cons, List.map_nil, List.getD_cons_zero, List.getD_cons_succ, List.contains_cons, List.contains_nil, Nat.reduceBEq, Bool.or_false, Bool.or_true, Bool.or_self]
  iterate 4 (refine Reg.wpX_y (v := ?_) (fun w' => ?_) rfl ?_; rotate_left 1; focus (go_simp; (try with_reducible rfl)))
  (refine Reg.wpX_l (v := ?_) rfl (fun w' hw => ?_) rfl ?_; rotate_left 1; focus ((try dsimp only at hw); go_split_ands; go_simp; (try with_reducible rfl)))
  iterate 3 (refine Reg.wpX_y (v := ?_) (fun w' => ?_) rfl ?_; rotate_left 1; focus (go_simp; (try with_reducible rfl)))
  (refine Reg.wpX_l (v := ?_) rfl (fun w' hw => ?_) rfl ?_; rotate_left 1; focus ((try dsimp only at hw); go_split_ands; go_simp; (try with_reducible rfl)))
  (refine Reg.wpX_y (v := ?_) (fun w' => ?_) rfl ?_; rotate_left 1; focus (go_simp; (try with_reducible rfl)))
  try simp only [Act.put, List.setIfInBounds_toArray, List.set_cons_zero, List.set_cons_succ]
  refine Reg.wpX_go rfl (fun K hK => ?_)
  go_simp
  refine hK _ _ ⟨(HW.alloc _ _).pull2.cell 0, (HW.alloc _ _).pull2.cell 1⟩ ?_
  try simp only [Act.put, List.setIfInBounds_toArray, List.set_cons_zero, List.set_cons_succ]
  refine Reg.wpX_go rfl (fun K hK => ?_)
  refine wp_app1 (.tmp 9) (.tmp 15) 23 rfl infoI Try.underlying23 rfl (by decide) HW xs.length rfl rfl rfl rfl rfl HL.out (fun A' c' w1 H2 => ?_)
  have H3 := H2.pull1
  refine hK _ _ ⟨H3.cell 0, H3.cell 1⟩ ?_
  iterate 2 (refine Reg.wpX_y (v := ?_) (fun w' => ?_) rfl ?_; rotate_left 1; focus (go_simp; (try with_reducible rfl)))
  try simp only [Act.put, List.setIfInBounds_toArray, List.set_cons_zero, List.set_cons_succ]
  have d1 := H3.cell 1
  have g1 := H3.frozen 1
  refine Reg.wpX_last rfl (by kernel_rfl) (fun K hK => ?_)
  go_simp
  refine hK _ _ ?_
  have H4 := Lib.hid (H3.setCell 1 (.slice A' (ms.length + 1) c'))
  clear H3 H2 H1
  try simp only [Act.put, List.setIfInBounds_toArray, List.set_cons_zero, List.set_cons_succ]
  refine Reg.wpX_nil ?_
  go_wp2
  go_ret
  exact ⟨rfl, trail_shut (H4.out.re [0, 2, 1] rfl)⟩

theorem bad_any {E w : World} {p : Nat} {xs : List ByteArray} {ms : List Nat} {L : List HP} (n : Int) (H : sat E w (trail p xs ms :: L)) :
    Calls Try.prog 72 #[.pointer (some ⟨p, 0, none⟩), .int .i64 n] w fun e w' => e = .returned (.int .i64 (if 0 ≤ n ∧ n < ms.length then 0 else 1)) ∧ w = w' := by
  obtain ⟨A, c, B, d, H⟩ := trail_open H
  have c0 := H.cell 1
  clear H
  by_cases h0 : n < 0
  · rw [if_neg (by omega)]
    have h0' : ¬ 0 ≤ n := by omega
    go_enter Try.func72, Try.ntmps72
    go_wp2
    go_ret
    exact ⟨rfl, rfl⟩
  · have h0' : 0 ≤ n := by omega
    by_cases h1 : n < ms.length
    · rw [if_pos ⟨h0', h1⟩]
      have h1' : ¬ (ms.length : Int) ≤ n := by omega
      go_enter Try.func72, Try.ntmps72
      go_wp2
      go_ret
      exact ⟨rfl, rfl⟩
    · rw [if_neg (by omega)]
      have h1' : (ms.length : Int) ≤ n := by omega
      go_enter Try.func72, Try.ntmps72
      go_wp2
      go_ret
      exact ⟨rfl, rfl⟩

theorem string_one (x : ByteArray) : (Value.string x).oneCell' = true := rfl
set_option maxRecDepth 100000 in
theorem Clone_any {E w : World} {L : List HP} {A : Option Addr} {n c : Nat} {xs : List ByteArray} (H : sat E w L) (hs : Sl Value.string w A xs) (hn : xs.length = n) (hl : n ≤ 1099511627776) (hA : A = none → n = 0 ∧ c = 0) :
    Calls Try.prog 82 #[.slice A n c] w fun e w' => ∃ A' c', e = .returned (.slice A' n c') ∧ sat E w' (vec 9 Value.string A' n c' xs :: L) := by
  cases A with
  | none =>
    obtain ⟨rfl, rfl⟩ := hA rfl
    obtain rfl : xs = [] := List.eq_nil_of_length_eq_zero hn
    have HH := Lib.hid H
    have q := fun (w : World) (a : Option Addr) (n c n' c' : Nat) => Lib.run_eql_slice_nil (P := Try.prog) w _ _ a n c n' c' Try.underlying43
    clear hs hn H
    go_enter Try.func82, Try.ntmps82
    go_wp2
    go_ret
    exact ⟨none, 0, rfl, HH.out.nilVec _ _⟩
  | some ad =>
    have H1 := Lib.hid (H.emptyLit Value.string 9)
    have hs1 := Lib.hid (hs.below ((Below.refl w.heap.size w).alloc (Nat.le_refl _) (.cells #[] 9)))
    have HL : Hid (0 + n ≤ 1099511627776) := by show _ ≤ _; omega
    have HN := Lib.hid hn
    have q := fun (w : World) (a : Option Addr) (n c n' c' : Nat) => Lib.run_eql_slice_nil (P := Try.prog) w _ _ a n c n' c' Try.underlying43
    clear H hs hn hl hA
    go_enter Try.func82, Try.ntmps82
    go_wp2_with (at_builtin; go_must (refine wpList_appS rfl (.tmp 5) (.tmp 6) 43 rfl infoS Try.underlying43 rfl (by decide) H1.out rfl rfl HN.out hs1.out string_one HL.out ?_))
    intro A' c' w1 H2
    have H3 := Lib.hid H2
    clear H2 H1 hs1
    go_wp2
    go_ret
    exact ⟨A', c', by simp, by have := H3.out; simpa using this⟩

set_option maxRecDepth 100000 in
theorem Forget_ok {E w : World} {p k : Nat} {xs : List ByteArray} {ms : List Nat} {L : List HP} (H : sat E w (trail p xs ms :: L)) (hk : k < ms.length) :
    Calls Try.prog 62 #[.pointer (some ⟨p, 0, none⟩), .int .i64 k] w fun e w' => e = .returned (.int .i64 0) ∧ sat E w' (trail p xs (ms.take k) :: L) := by
  have hb := bad_any (k : Int) H
  rw [if_pos ⟨by omega, by omega⟩] at hb
  have HB := Lib.hid hb
  obtain ⟨A, c, B, d, H⟩ := trail_open H
  have c1 := H.cell 1
  have f1 := H.frozen 1
  have hcap := H.pull2.cap
  have H1 := Lib.hid (H.pull2.vecShort (Nat.le_of_lt hk)).push1
  have H2 := Lib.hid (H1.out.setCell 1 (.slice B k d))
  clear H hb
  go_enter Try.func62, Try.ntmps62
  go_wp2_with fail
  refine HB.out.mono ?_
  rintro e w1 ⟨rfl, rfl⟩
  go_wp2
  go_ret
  exact ⟨rfl, trail_shut (H2.out.re [0, 2, 1] rfl)⟩
theorem bad_no {E w : World} {p : Nat} {n : Int} {xs : List ByteArray} {ms : List Nat} {L : List HP} (H : sat E w (trail p xs ms :: L)) (hk : ¬ (0 ≤ n ∧ n < ms.length)) :
    Calls Try.prog 72 #[.pointer (some ⟨p, 0, none⟩), .int .i64 n] w fun e w' => e = .returned (.int .i64 1) ∧ w = w' := by
  have := bad_any n H
  rwa [if_neg hk] at this
theorem bad_yes {E w : World} {p k : Nat} {xs : List ByteArray} {ms : List Nat} {L : List HP} (H : sat E w (trail p xs ms :: L)) (hk : k < ms.length) :
    Calls Try.prog 72 #[.pointer (some ⟨p, 0, none⟩), .int .i64 k] w fun e w' => e = .returned (.int .i64 0) ∧ w = w' := by
  have := bad_any k H
  rwa [if_pos ⟨by omega, by omega⟩] at this
theorem Forget_no {E w : World} {p : Nat} {n : Int} {xs : List ByteArray} {ms : List Nat} {L : List HP} (H : sat E w (trail p xs ms :: L)) (hk : ¬ (0 ≤ n ∧ n < ms.length)) :
    Calls Try.prog 62 #[.pointer (some ⟨p, 0, none⟩), .int .i64 n] w fun e w' => e = .returned (.int .i64 1) ∧ w = w' := by
  have HB := Lib.hid (bad_no H hk)
  clear hk H
  go_enter Try.func62, Try.ntmps62
  go_wp2_with fail
  refine HB.out.mono ?_
  rintro e w1 ⟨rfl, rfl⟩
  go_wp2
  go_ret
  exact ⟨rfl, rfl⟩
theorem Since_no {E w : World} {p : Nat} {n : Int} {xs : List ByteArray} {ms : List Nat} {L : List HP} (H : sat E w (trail p xs ms :: L)) (hk : ¬ (0 ≤ n ∧ n < ms.length)) :
    Calls Try.prog 58 #[.pointer (some ⟨p, 0, none⟩), .int .i64 n] w fun e w' => e = .returned (.tuple #[.slice none 0 0, .int .i64 1]) ∧ w = w' := by
  have HB := Lib.hid (bad_no H hk)
  clear hk H
  go_enter Try.func58, Try.ntmps58
  go_wp2_with fail
  refine HB.out.mono ?_
  rintro e w1 ⟨rfl, rfl⟩
  go_wp2
  go_ret2
  exact ⟨rfl, rfl⟩
theorem Cut_no {E w : World} {p : Nat} {n : Int} {xs : List ByteArray} {ms : List Nat} {L : List HP} (H : sat E w (trail p xs ms :: L)) (hk : ¬ (0 ≤ n ∧ n < ms.length)) :
    Calls Try.prog 31 #[.pointer (some ⟨p, 0, none⟩), .int .i64 n] w fun e w' => e = .returned (.tuple #[.slice none 0 0, .int .i64 1]) ∧ w = w' := by
  have HB := Lib.hid (bad_no H hk)
  clear hk H
  go_enter Try.func31, Try.ntmps31
  go_wp2_with fail
  refine HB.out.mono ?_
  rintro e w1 ⟨rfl, rfl⟩
  go_wp2
  go_ret2
  exact ⟨rfl, rfl⟩

set_option maxRecDepth 100000 in
theorem Since_ok {E w : World} {p k at_ : Nat} {xs : List ByteArray} {ms : List Nat} {L : List HP} (H : sat E w (trail p xs ms :: L)) (hk : ms[k]? = some at_) (hat : at_ ≤ xs.length) (hx : xs.length < 2097152) :
    Calls Try.prog 58 #[.pointer (some ⟨p, 0, none⟩), .int .i64 k] w fun e w' => ∃ A n c, e = .returned (.tuple #[.slice A n c, .int .i64 0]) ∧ sat E w' (vec 9 Value.string A n c (xs.drop at_) :: trail p xs ms :: L) := by
  have hkl : k < ms.length := (List.getElem?_eq_some_iff.1 hk).1
  have HB := Lib.hid (bad_yes H hkl)
  obtain ⟨A, c, B, d, H⟩ := trail_open H
  obtain ⟨b, o, rfl, _⟩ := H.pull2.Sl.cell hk
  have hcap := H.pull1.cap
  obtain ⟨A', hA⟩ := cut_name A at_ c
  have HC : Hid (∀ W, sat E W (blk p #[.slice A xs.length c, .slice (some ⟨b, o, none⟩) ms.length d] 103 :: vec 9 Value.string A xs.length c xs :: vec 3 I64 (some ⟨b, o, none⟩) ms.length d ms :: L) →
      Calls Try.prog 82 #[.slice A' (xs.length - at_) (c - at_)] W fun e w' => ∃ A'' c', e = .returned (.slice A'' (xs.length - at_) c') ∧ sat E w' (vec 9 Value.string A'' (xs.length - at_) c' (xs.drop at_) :: blk p #[.slice A xs.length c, .slice (some ⟨b, o, none⟩) ms.length d] 103 :: vec 9 Value.string A xs.length c xs :: vec 3 I64 (some ⟨b, o, none⟩) ms.length d ms :: L)) := fun W HW =>
    Clone_any HW (HW.pull1.cutSl hat hA) (by simp) (by omega) (HW.pull1.cutNil hat hA)
  have hi0 : (0 : Int) ≤ (k : Int) := by omega
  have hi1 : (k : Int) < (ms.length : Int) := by omega
  have ha0 : (0 : Int) ≤ (at_ : Int) := by omega
  have ha1 : (at_ : Int) ≤ (xs.length : Int) := by omega
  have hle : at_ ≤ c := by omega
  have HH := Lib.hid H
  have HK := Lib.hid hk
  clear H hk
  go_enter Try.func58, Try.ntmps58
  go_wp2_with fail
  refine HB.out.mono ?_
  rintro e w1 ⟨rfl, rfl⟩
  go_wp2_with fail
  refine Reg.wp_region_s (HH.out) (fun W => W.cell? ⟨p, 0, none⟩ = some (.slice A xs.length c) ∧ W.cell? ⟨p, 1, none⟩ = some (.slice (some ⟨b, o, none⟩) ms.length d) ∧ W.cell? ⟨b, o + k, none⟩ = some (.int .i64 at_)) [3, 7, 10] [12] [0, 1, 2, 3, 4, 5, 6, 7, 8, 9, 10, 11, 12, 13, 14] (by kernel_rfl) (by kernel_rfl) (fun W H => ⟨H.cell 0, H.cell 1, H.pull2.vcell HK.out⟩) (fun W HW => ?_)
  simp only [Reg.pickOps, List.map_cons, List.map_nil, List.getD_cons_zero, List.getD_cons_succ, List.contains_cons, List.contains_nil, Nat.reduceBEq, Bool.or_false, Bool.or_true, Bool.or_self]
  iterate 3 (refine Reg.wpX_y (v := ?_) (fun w' => ?_) rfl ?_; rotate_left 1; focus (go_simp; (try with_reducible rfl)))
  (refine Reg.wpX_l (v := ?_) rfl (fun w' hw => ?_) rfl ?_; rotate_left 1; focus ((try dsimp only at hw); go_split_ands; go_simp; (try with_reducible rfl)))
  iterate 3 (refine Reg.wpX_y (v := ?_) (fun w' => ?_) rfl ?_; rotate_left 1; focus (go_simp; (try with_reducible rfl)))
  (refine Reg.wpX_l (v := ?_) rfl (fun w' hw => ?_) rfl ?_; rotate_left 1; focus ((try dsimp only at hw); go_split_ands; go_simp; (try with_reducible rfl)))
  iterate 2 (refine Reg.wpX_y (v := ?_) (fun w' => ?_) rfl ?_; rotate_left 1; focus (go_simp; (try with_reducible rfl)))
  (refine Reg.wpX_l (v := ?_) rfl (fun w' hw => ?_) rfl ?_; rotate_left 1; focus ((try dsimp only at hw); go_split_ands; go_simp; (try with_reducible rfl)))
  (refine Reg.wpX_y (v := ?_) (fun w' => ?_) rfl ?_; rotate_left 1; focus (go_simp; (try with_reducible rfl)))
  try simp only [Act.put, List.setIfInBounds_toArray, List.set_cons_zero, List.set_cons_succ]
  refine Reg.wpX_go rfl (fun K hK => ?_)
  go_simp
  refine (HC.out W HW).mono ?_
  rintro e w1 ⟨A'', c', rfl, H1⟩
  refine hK _ _ ⟨H1.pull1.cell 0, H1.pull1.cell 1, H1.pull3.vcell HK.out⟩ ?_
  have H2 := Lib.hid H1
  clear H1
  iterate 2 (refine Reg.wpX_y (v := ?_) (fun w' => ?_) rfl ?_; rotate_left 1; focus (go_simp; (try with_reducible rfl)))
  try simp only [Act.put, List.setIfInBounds_toArray, List.set_cons_zero, List.set_cons_succ]
  refine Reg.wpX_nil ?_
  go_wp2
  go_ret2
  exact ⟨A'', _, c', rfl, (trail_shut H2.out.push3).pull1⟩

/-- What the iterator of 'back' reads. -/
def BackRd (b1 b2 p at_ : Nat) (A : Option Addr) (c : Nat) (xs : List ByteArray) (W : World) : Prop :=
  W.cell? ⟨b1, 0, none⟩ = some (.pointer (some ⟨p, 0, none⟩)) ∧ W.cell? ⟨b2, 0, none⟩ = some (.int .i64 at_) ∧ W.cell? ⟨p, 0, none⟩ = some (.slice A xs.length c) ∧ Sl Value.string W A xs
theorem rev_split {α : Type} {l pre rest : List α} {x : α} (h : l.reverse = pre ++ x :: rest) : l[l.length - 1 - pre.length]? = some x := by
  have h2 : l = (pre ++ x :: rest).reverse := by rw [← h, List.reverse_reverse]
  subst h2
  simp
theorem drop_rev_get {α : Type} {xs pre rest : List α} {x : α} {k : Nat} (h : (xs.drop k).reverse = pre ++ x :: rest) : xs[xs.length - 1 - pre.length]? = some x ∧ k + pre.length + 1 ≤ xs.length := by
  have hl := congrArg List.length h
  simp at hl
  have := rev_split h
  rw [List.getElem?_drop, List.length_drop] at this
  refine ⟨?_, by omega⟩
  rw [← this]; congr 1; omega
set_option maxRecDepth 100000 in
theorem back1_seq (b1 b2 p at_ : Nat) (A : Option Addr) (c : Nat) (xs : List ByteArray) (hl : xs.length < 2097152) (hat : at_ ≤ xs.length) :
    SeqS Try.prog 83 #[.pointer (some ⟨b1, 0, none⟩), .pointer (some ⟨b2, 0, none⟩)] (fun x vs _ => vs = #[.string x]) (xs.drop at_).reverse (BackRd b1 b2 p at_ A c xs) := by
  intro n l E J Jx hRd hY W L H
  have HH := Lib.hid H
  clear H
  refine callsIn_of_wp Try.func83 rfl trivial ?_ rfl
  simp only [Try.ntmps83, List.size_toArray, List.length_cons, List.length_nil, Nat.reduceAdd, Nat.reduceSub, Array.replicate_succ, Array.replicate_zero, List.push_toArray, List.append_toArray, List.nil_append, List.cons_append]
  obtain ⟨r1, r2, r3, _⟩ := hRd _ _ _ HH.out
  gi_wp2
  gi_loopw [4] (fun i wr => ∃ pre rest : List ByteArray, i = .int .i64 ((xs.length : Int) - 1 - pre.length) ∧ (xs.drop at_).reverse = pre ++ rest ∧ sat E wr (J pre :: L)) (fun i _ => (intOf i + 1).toNat)
  case atStart => exact ⟨[], _, by simp, rfl, HH.out⟩
  case round =>
    clear r1 r2 r3
    obtain ⟨pre, rest, rfl, hx, Hr⟩ := hrel
    have HX := Lib.hid hx
    obtain ⟨r1, r2, r3, rs⟩ := hRd _ _ _ Hr
    have HR := Lib.hid Hr
    clear Hr
    cases rest with
    | nil =>
      have hlen : at_ + pre.length = xs.length := by have := congrArg List.length hx; simp at this; omega
      have ht : ¬ (at_ : Int) ≤ (xs.length : Int) - 1 - pre.length := by omega
      clear hx rs hY hRd
      gi_wp2
      go_end0
      exact ⟨⟨_, rfl⟩, .inl (by rw [HX.out, List.append_nil]; exact HR.out)⟩
    | cons x rest =>
      obtain ⟨hg, hle⟩ := drop_rev_get hx
      have ht : (at_ : Int) ≤ (xs.length : Int) - 1 - pre.length := by omega
      obtain ⟨b, o, rfl, _, hcx⟩ := rs.cell hg
      have e1 : (xs.length : Int) - 1 - pre.length = ((xs.length - 1 - pre.length : Nat) : Int) := by omega
      have hk : xs.length - 1 - pre.length < xs.length := by omega
      have hkk : xs.length - 1 - pre.length + pre.length + 1 = xs.length := by omega
      obtain ⟨fn, tmps, assign, body, hy, hR⟩ := hY pre x rest #[.string x] wr L hx (HR.out.pureR rfl).pull1
      rw [e1] at ht ⊢
      generalize xs.length - 1 - pre.length = k at *
      have i1 : (0 : Int) ≤ (k : Int) := by omega
      have i2 : (k : Int) < (xs.length : Int) := by omega
      clear e1 hg hx rs hY hle
      gi_wp2
      refine hR.mono ?_
      rintro e W3 (⟨rfl, H3⟩ | ⟨rfl, H3⟩)
      · have H4 := Lib.hid H3
        clear H3 hR hy
        obtain ⟨r1', r2', r3', _⟩ := hRd _ _ _ H4.out
        gi_wp2
        go_roundw
        case rel => exact ⟨pre ++ [x], rest, by congr 1; simp; omega, by rw [HX.out]; simp, H4.out⟩
        case measure => simp [intOf] <;> omega
      · have H4 := Lib.hid H3
        clear H3 hR hy hRd
        gi_wp2
        refine bodyPost_ret (results_none rfl _ _ _) rfl ?_
        exact ⟨⟨_, rfl⟩, .inr ⟨pre, x, rest, HX.out, H4.out⟩⟩

theorem back_any {E w : World} {L : List HP} (p : Option Addr) (at_ : Int) (H : sat E w L) :
    Calls Try.prog 73 #[.pointer p, .int .i64 at_] w fun e w' => ∃ b1 b2, e = .returned (.func (.func 83) #[] #[.pointer (some ⟨b1, 0, none⟩), .pointer (some ⟨b2, 0, none⟩)]) ∧
      sat E w' (blk b2 #[.int .i64 at_] 3 :: blk b1 #[.pointer p] 44 :: L) := by
  have HH := (H.alloc #[.pointer p] 44).alloc #[.int .i64 at_] 3
  rw [World.size_alloc] at HH
  replace HH := Lib.hid HH
  clear H
  go_enter Try.func73, Try.ntmps73
  go_wp2
  go_ret
  exact ⟨_, _, rfl, HH.out⟩

end Go.Proofs.Ytafohemmjhjgbaa.Trails
