/-
  PackNumbers, whole.
-/
import Derived.Test.YtafohemmjhjgbaaPackLaw
namespace Go.Proofs.Ytafohemmjhjgbaa.Pk
open Go.RowKit Go.Proofs.Ytafohemmjhjgbaa Go.Shelf

theorem old_sl {w0 w : World} {α : Type} {enc : α → Value} {A : Option Addr} {xs : List α} {L : List HP} (h : Sl enc w0 A xs) (H : sat w0 w (oldH w0 :: L)) : Sl enc w A xs := h.old H H.size
theorem same_refl {A B : Option Addr} {n m c d : Nat} {a b : List UInt8} {w : World} (he : a = b) (hn : a.length = n) (hm : b.length = m) (ha : Sl B8 w A a) (hb : Sl B8 w B b) :
    Calls Try.prog 23 #[.slice A n c, .slice B m d] w fun e w' => e = .returned (.bool true) ∧ w = w' := by
  have := same_any A B n m c d a b w hn hm ha hb
  rw [decide_eq_true he] at this
  exact this
theorem getU_vec {E w : World} {A : Option Addr} {n c x : Nat} {tl : List UInt8} {L : List HP} (H : sat E w (vec 5 B8 A n c (uvar x ++ tl) :: L)) (hx : x < 18446744073709551616) (ht : tl.length ≤ 1000) :
    Calls Try.prog 42 #[.slice A n c] w fun e w' => ∃ B d, e = .returned (.tuple #[.int .u64 x, .slice B tl.length d, .int .i64 0]) ∧ sat E w' (vec 5 B8 A n c (uvar x ++ tl) :: L) ∧ ∀ W M, sat E W (vec 5 B8 A n c (uvar x ++ tl) :: M) → Sl B8 W B tl := by
  have hn := H.len
  have hl := uvar_len64 hx
  have hn2 := hn
  rw [List.length_append] at hn2
  have h := GetUint_any A n c _ w hn H.cap H.Sl (by omega)
  rw [get_uvar hx] at h
  refine h.mono ?_
  rintro e w' ⟨rfl, q, rfl⟩
  have e1 : n - (uvar x).length = tl.length := by omega
  refine ⟨_, _, by dsimp only [gotU]; rw [e1], H.drewN q, fun W M h => ?_⟩
  have := Sl_cutA h.Sl (uvar x).length c (by rw [List.length_append]; omega) (by rw [hn]; exact h.cap)
  rw [List.drop_left] at this
  exact this
theorem getI_vec {E w : World} {A : Option Addr} {n c : Nat} {y : Int} {tl : List UInt8} {L : List HP} (H : sat E w (vec 5 B8 A n c (uvar (zig y) ++ tl) :: L)) (h1 : -9223372036854775808 ≤ y) (h2 : y ≤ 9223372036854775807) (ht : tl.length ≤ 1000) :
    Calls Try.prog 43 #[.slice A n c] w fun e w' => ∃ B d, e = .returned (.tuple #[.int .i64 y, .slice B tl.length d, .int .i64 0]) ∧ sat E w' (vec 5 B8 A n c (uvar (zig y) ++ tl) :: L) ∧ ∀ W M, sat E W (vec 5 B8 A n c (uvar (zig y) ++ tl) :: M) → Sl B8 W B tl := by
  have hn := H.len
  have hx := zig_lt ⟨h1, h2⟩
  have hl := uvar_len64 hx
  have hn2 := hn
  rw [List.length_append] at hn2
  have h := GetInt_any A n c _ w hn H.cap H.Sl (by omega)
  rw [get_uvar hx] at h
  refine h.mono ?_
  rintro e w' ⟨rfl, q, rfl⟩
  have e1 : n - (uvar (zig y)).length = tl.length := by omega
  refine ⟨_, _, by dsimp only [gotI]; rw [e1, unzig_zig], H.drewN q, fun W M h => ?_⟩
  have := Sl_cutA h.Sl (uvar (zig y)).length c (by rw [List.length_append]; omega) (by rw [hn]; exact h.cap)
  rw [List.drop_left] at this
  exact this
theorem getT_vec {E w : World} {A : Option Addr} {n c : Nat} {s : ByteArray} {tl : List UInt8} {L : List HP} (H : sat E w (vec 5 B8 A n c (uvar s.size ++ (bs s ++ tl)) :: L)) (hs : s.size ≤ 1000) (ht : tl.length ≤ 1000) :
    Calls Try.prog 44 #[.slice A n c] w fun e w' => ∃ B d, e = .returned (.tuple #[.string s, .slice B tl.length d, .int .i64 0]) ∧ sat E w' (vec 5 B8 A n c (uvar s.size ++ (bs s ++ tl)) :: L) ∧ ∀ W M, sat E W (vec 5 B8 A n c (uvar s.size ++ (bs s ++ tl)) :: M) → Sl B8 W B tl := by
  have hn := H.len
  have hl := uvar_len64 (n := s.size) (by omega)
  have hb := bs_len s
  have hn2 := hn
  rw [List.length_append, List.length_append] at hn2
  have h := GetText_any A n c _ w hn H.cap H.Sl (by omega)
  rw [← List.append_assoc, getT_text s tl hs] at h
  refine h.mono ?_
  rintro e w' ⟨rfl, q, rfl⟩
  have e1 : n - (uvar s.size).length - (bs s).length = tl.length := by omega
  refine ⟨_, _, by dsimp only [gotT]; rw [e1, strB_bs], H.drewN q, fun W M h => ?_⟩
  have hc := h.cap
  have h1 := Sl_cutA h.Sl (uvar s.size).length c (by simp only [List.length_append]; omega) (by rw [hn]; exact hc)
  rw [List.drop_left] at h1
  have h2 := Sl_cutA h1 (bs s).length (c - (uvar s.size).length) (by rw [List.length_append]; omega) (by rw [List.length_append]; omega)
  rw [List.drop_left] at h2
  exact h2

set_option maxHeartbeats 2000000 in
set_option maxRecDepth 100000 in
theorem numbers_any (x : Nat) (y : Int) (s : ByteArray) (A B : Option Addr) (c d : Nat) (hd tl : List UInt8) (w : World) (hA : Sl B8 w A hd) (hB : Sl B8 w B tl) (hx : x < 18446744073709551616) (h1 : -9223372036854775808 ≤ y) (h2 : y ≤ 9223372036854775807) (hs : s.size ≤ 140737488351232) (hh : hd.length ≤ 140737488355328) (ht : tl.length ≤ 140737488355328) :
    Calls Try.prog 8 #[.int .u64 x, .int .i64 y, .string s, .slice A hd.length c, .slice B tl.length d] w fun e w' => e = .returned (.bool true) ∧ Below w.heap.size w w' := by
  have HW := Lib.hid (awake_any (sat.start w))
  by_cases b1 : 1000 < s.size
  · have b1' : (1000 : Int) < (s.size : Int) := by omega
    clear hA hB
    go_enter Try.func8, Try.ntmps8
    (go_wp2_with fail)
    refine (HW.out).mono ?_
    rintro e w' ⟨rfl, H⟩
    have HB := Lib.hid H.toBelow
    go_wp2
    go_ret
    exact ⟨rfl, HB.out⟩
  by_cases b2 : 1000 < hd.length
  · have b1' : ¬ (1000 : Int) < (s.size : Int) := by omega
    have b2' : (1000 : Int) < (hd.length : Int) := by omega
    clear hA hB
    go_enter Try.func8, Try.ntmps8
    (go_wp2_with fail)
    refine (HW.out).mono ?_
    rintro e w' ⟨rfl, H⟩
    have HB := Lib.hid H.toBelow
    go_wp2
    go_ret
    exact ⟨rfl, HB.out⟩
  by_cases b3 : 1000 < tl.length
  · have b1' : ¬ (1000 : Int) < (s.size : Int) := by omega
    have b2' : ¬ (1000 : Int) < (hd.length : Int) := by omega
    have b3' : (1000 : Int) < (tl.length : Int) := by omega
    clear hA hB
    go_enter Try.func8, Try.ntmps8
    (go_wp2_with fail)
    refine (HW.out).mono ?_
    rintro e w' ⟨rfl, H⟩
    have HB := Lib.hid H.toBelow
    go_wp2
    go_ret
    exact ⟨rfl, HB.out⟩
  have b1' : ¬ (1000 : Int) < (s.size : Int) := by omega
  have b2' : ¬ (1000 : Int) < (hd.length : Int) := by omega
  have b3' : ¬ (1000 : Int) < (tl.length : Int) := by omega
  have SA := Lib.hid hA
  have SB := Lib.hid hB
  have HX : Hid (x < 18446744073709551616) := hx
  have HY : Hid (-9223372036854775808 ≤ y ∧ y ≤ 9223372036854775807) := ⟨h1, h2⟩
  have N1 : Hid (s.size ≤ 1000) := by show _ ≤ _; omega
  have N2 : Hid (hd.length ≤ 1000) := by show _ ≤ _; omega
  have N3 : Hid (tl.length ≤ 1000) := by show _ ≤ _; omega
  have U1 : Hid ((uvar x).length ≤ 10) := uvar_len64 hx
  have U2 : Hid ((uvar (zig y)).length ≤ 10) := uvar_len64 (zig_lt ⟨h1, h2⟩)
  have U3 : Hid ((uvar s.size).length ≤ 10) := uvar_len64 (by omega)
  have BL : Hid ((bs s).length = s.size) := bs_len s
  clear hA hB hx h1 h2 hs hh ht b1 b2 b3
  go_enter Try.func8, Try.ntmps8
  (go_wp2_with fail)
  refine (HW.out).mono ?_
  rintro e w' ⟨rfl, H0⟩
  have H := Lib.hid H0
  clear HW H0
  go_wp2_with (at_builtin; go_must (refine wpList_appS rfl (.tmp 42) (.tmp 43) 29 rfl info8 Try.underlying29 rfl (by decide) (H.out.emptyLit B8 5) rfl rfl (by first | rfl | (have := BL.out; simp only [List.length_append]; omega)) (old_sl SA.out (H.out.emptyLit B8 5).pull1) B8_one (by have := N2.out; omega) ?_))
  intro A1 c1 w1 H2
  clear H
  have H := Lib.hid H2
  clear H2
  go_wp2_with (at_builtin; go_must (refine wpList_appS rfl (.tmp 45) (.tmp 46) 29 rfl info8 Try.underlying29 rfl (by decide) (H.out.emptyLit B8 5) rfl rfl (by first | rfl | (have := BL.out; simp only [List.length_append]; omega)) (H.out.emptyLit B8 5).pull1.Sl B8_one (by have := N2.out; omega) ?_))
  intro A2 c2 w2 H2
  clear H
  have HU := Lib.hid (Uint_any x H2 HX.out (by have := N2.out; omega))
  clear H2
  (go_wp2_with fail)
  refine (HU.out).mono ?_
  rintro e w' ⟨A3, c3, rfl, H2⟩
  clear HU
  have H := Lib.hid H2
  clear H2
  go_wp2_with (at_builtin; go_must (refine wpList_appS rfl (.tmp 50) (.tmp 51) 29 rfl info8 Try.underlying29 rfl (by decide) (H.out.emptyLit B8 5) rfl rfl (by first | rfl | (have := BL.out; simp only [List.length_append]; omega)) (H.out.emptyLit B8 5).pull2.Sl B8_one (by have := N2.out; omega) ?_))
  intro A4 c4 w4 H2
  clear H
  have HU := Lib.hid (Int_any y H2 HY.out.1 HY.out.2 (by have := N2.out; omega))
  clear H2
  (go_wp2_with fail)
  refine (HU.out).mono ?_
  rintro e w' ⟨A5, c5, rfl, H2⟩
  clear HU
  have H := Lib.hid H2
  clear H2
  go_wp2_with (at_builtin; go_must (refine wpList_appS rfl (.tmp 55) (.tmp 56) 29 rfl info8 Try.underlying29 rfl (by decide) (H.out.emptyLit B8 5) rfl rfl (by first | rfl | (have := BL.out; simp only [List.length_append]; omega)) (H.out.emptyLit B8 5).pull3.Sl B8_one (by have := N2.out; omega) ?_))
  intro A6 c6 w6 H2
  clear H
  have HU := Lib.hid (Text_any s H2 (by have := N1.out; omega) (by have := N2.out; omega))
  clear H2
  (go_wp2_with fail)
  refine (HU.out).mono ?_
  rintro e w' ⟨A7, c7, rfl, H2⟩
  clear HU
  have HU := Lib.hid (refU_any x H2 HX.out)
  clear H2
  (go_wp2_with fail)
  refine (HU.out).mono ?_
  rintro e w' ⟨A8, c8, rfl, H2⟩
  clear HU
  have HU := Lib.hid (refI_any y H2 HY.out.1 HY.out.2)
  clear H2
  (go_wp2_with fail)
  refine (HU.out).mono ?_
  rintro e w' ⟨A9, c9, rfl, H2⟩
  clear HU
  have HU := Lib.hid (refT_any s H2 (by have := N1.out; omega))
  clear H2
  (go_wp2_with fail)
  refine (HU.out).mono ?_
  rintro e w' ⟨A10, c10, rfl, H2⟩
  clear HU
  have H := Lib.hid H2
  clear H2
  go_wp2_with (at_builtin; go_must (refine wpList_appS rfl (.tmp 67) (.tmp 68) 29 rfl info8 Try.underlying29 rfl (by decide) (H.out.emptyLit B8 5) rfl rfl (by first | rfl | (have := BL.out; simp only [List.length_append]; omega)) ((H.out.emptyLit B8 5).choose 8 [7] rfl rfl).Sl B8_one (by have := N1.out; have := N2.out; have := N3.out; have := U1.out; have := U2.out; have := U3.out; omega) ?_))
  intro A11 c11 w11 H2
  clear H
  have H := Lib.hid H2
  clear H2
  go_wp2_with (at_builtin; go_must (refine wpList_appS rfl (.tmp 69) (.tmp 70) 29 rfl info8 Try.underlying29 rfl (by decide) H.out rfl rfl (by first | rfl | (have := BL.out; simp only [List.length_append]; omega)) (H.out.choose 4 [3] rfl rfl).Sl B8_one (by have := N1.out; have := N2.out; have := N3.out; have := U1.out; have := U2.out; have := U3.out; omega) ?_))
  intro A12 c12 w12 H2
  clear H
  have H := Lib.hid H2
  clear H2
  have HS := Lib.hid (same_refl (c := c3) (d := c12) (by simp only [List.append_assoc]) (H.out.choose 7 [6] rfl rfl).len H.out.len (H.out.choose 7 [6] rfl rfl).Sl H.out.Sl)
  go_wp2_with fail
  first | refine HS.out.mono ?_ | (refine (by simpa only [Nat.add_assoc] using HS.out : Calls _ _ _ _ _).mono ?_)
  rintro e w' ⟨rfl, rfl⟩
  clear HS
  have H2 := Lib.hid H.out.tail
  clear H
  have H := H2
  clear H2
  go_wp2_with (at_builtin; go_must (refine wpList_appS rfl (.tmp 76) (.tmp 77) 29 rfl info8 Try.underlying29 rfl (by decide) (H.out.emptyLit B8 5) rfl rfl (by first | rfl | (have := BL.out; simp only [List.length_append]; omega)) ((H.out.emptyLit B8 5).choose 8 [7] rfl rfl).Sl B8_one (by have := N1.out; have := N2.out; have := N3.out; have := U1.out; have := U2.out; have := U3.out; omega) ?_))
  intro A11 c11 w11 H2
  clear H
  have H := Lib.hid H2
  clear H2
  go_wp2_with (at_builtin; go_must (refine wpList_appS rfl (.tmp 78) (.tmp 79) 29 rfl info8 Try.underlying29 rfl (by decide) H.out rfl rfl (by first | rfl | (have := BL.out; simp only [List.length_append]; omega)) (H.out.choose 3 [2] rfl rfl).Sl B8_one (by have := N1.out; have := N2.out; have := N3.out; have := U1.out; have := U2.out; have := U3.out; omega) ?_))
  intro A12 c12 w12 H2
  clear H
  have H := Lib.hid H2
  clear H2
  have HS := Lib.hid (same_refl (c := c5) (d := c12) (by simp only [List.append_assoc]) (H.out.choose 6 [5] rfl rfl).len H.out.len (H.out.choose 6 [5] rfl rfl).Sl H.out.Sl)
  go_wp2_with fail
  first | refine HS.out.mono ?_ | (refine (by simpa only [Nat.add_assoc] using HS.out : Calls _ _ _ _ _).mono ?_)
  rintro e w' ⟨rfl, rfl⟩
  clear HS
  have H2 := Lib.hid H.out.tail
  clear H
  have H := H2
  clear H2
  go_wp2_with (at_builtin; go_must (refine wpList_appS rfl (.tmp 86) (.tmp 87) 29 rfl info8 Try.underlying29 rfl (by decide) (H.out.emptyLit B8 5) rfl rfl (by first | rfl | (have := BL.out; simp only [List.length_append]; omega)) ((H.out.emptyLit B8 5).choose 8 [7] rfl rfl).Sl B8_one (by have := N1.out; have := N2.out; have := N3.out; have := U1.out; have := U2.out; have := U3.out; omega) ?_))
  intro A11 c11 w11 H2
  clear H
  have H := Lib.hid H2
  clear H2
  go_wp2_with (at_builtin; go_must (refine wpList_appS rfl (.tmp 88) (.tmp 89) 29 rfl info8 Try.underlying29 rfl (by decide) H.out rfl rfl (by first | rfl | (have := BL.out; simp only [List.length_append]; omega)) (H.out.choose 2 [1] rfl rfl).Sl B8_one (by have := N1.out; have := N2.out; have := N3.out; have := U1.out; have := U2.out; have := U3.out; omega) ?_))
  intro A12 c12 w12 H2
  clear H
  have H := Lib.hid H2
  clear H2
  have HS := Lib.hid (same_refl (c := c7) (d := c12) (by simp only [List.append_assoc]) (H.out.choose 5 [4] rfl rfl).len H.out.len (H.out.choose 5 [4] rfl rfl).Sl H.out.Sl)
  go_wp2_with fail
  first | refine HS.out.mono ?_ | (refine (by simpa only [Nat.add_assoc] using HS.out : Calls _ _ _ _ _).mono ?_)
  rintro e w' ⟨rfl, rfl⟩
  clear HS
  have H2 := Lib.hid H.out.tail
  clear H
  have H := H2
  clear H2
  have H2 := Lib.hid H.out.pull2
  clear H
  have H := H2
  clear H2
  go_wp2_with (at_builtin; go_must (refine wpList_appS rfl (.tmp 95) (.tmp 96) 29 rfl info8 Try.underlying29 rfl (by decide) H.out rfl rfl (by first | rfl | (have := BL.out; simp only [List.length_append]; omega)) (old_sl SB.out (H.out.choose 8 [7] rfl rfl)) B8_one (by have := N1.out; have := N2.out; have := N3.out; have := U1.out; have := U2.out; have := U3.out; omega) ?_))
  intro A21 c21 w21 H2
  clear H
  have H := Lib.hid H2
  clear H2
  have HG := Lib.hid (getU_vec H.out HX.out N3.out)
  (go_wp2_with fail)
  refine (HG.out).mono ?_
  rintro e w' ⟨B1, d1, rfl, H2, V1⟩
  have W1 := Lib.hid V1
  clear HG H V1
  have H := Lib.hid H2
  clear H2
  have H2 := Lib.hid H.out.pull2
  clear H
  have H := H2
  clear H2
  go_wp2_with (at_builtin; go_must (refine wpList_appS rfl (.tmp 103) (.tmp 104) 29 rfl info8 Try.underlying29 rfl (by decide) H.out rfl rfl (by first | rfl | (have := BL.out; simp only [List.length_append]; omega)) (old_sl SB.out (H.out.choose 8 [7] rfl rfl)) B8_one (by have := N1.out; have := N2.out; have := N3.out; have := U1.out; have := U2.out; have := U3.out; omega) ?_))
  intro A22 c22 w22 H2
  clear H
  have H := Lib.hid H2
  clear H2
  have HG := Lib.hid (getI_vec H.out HY.out.1 HY.out.2 N3.out)
  (go_wp2_with fail)
  refine (HG.out).mono ?_
  rintro e w' ⟨B2, d2, rfl, H2, V2⟩
  have W2 := Lib.hid V2
  clear HG H V2
  have H := Lib.hid H2
  clear H2
  have H2 := Lib.hid H.out.pull2
  clear H
  have H := H2
  clear H2
  go_wp2_with (at_builtin; go_must (refine wpList_appS rfl (.tmp 111) (.tmp 112) 29 rfl info8 Try.underlying29 rfl (by decide) H.out rfl rfl (by first | rfl | (have := BL.out; simp only [List.length_append]; omega)) (old_sl SB.out (H.out.choose 8 [7] rfl rfl)) B8_one (by have := N1.out; have := N2.out; have := N3.out; have := U1.out; have := U2.out; have := U3.out; omega) ?_))
  intro A23 c23 w23 H2
  clear H
  have H := Lib.hid H2
  clear H2
  have HG := Lib.hid (getT_vec H.out N1.out N3.out)
  (go_wp2_with fail)
  refine (HG.out).mono ?_
  rintro e w' ⟨B3, d3, rfl, H2, V3⟩
  have W3 := Lib.hid V3
  clear HG H V3
  have H := Lib.hid H2
  clear H2
  have HB := Lib.hid (H.out.choose 8 [7] rfl rfl).toBelow
  have S1 := Lib.hid (same_refl (c := d1) (d := d) rfl rfl rfl (W1.out _ _ (H.out.choose 3 [2] rfl rfl)) (old_sl SB.out (H.out.choose 8 [7] rfl rfl)))
  have S2 := Lib.hid (same_refl (c := d2) (d := d) rfl rfl rfl (W2.out _ _ (H.out.choose 2 [1] rfl rfl)) (old_sl SB.out (H.out.choose 8 [7] rfl rfl)))
  have S3 := Lib.hid (same_refl (c := d3) (d := d) rfl rfl rfl (W3.out _ _ H.out) (old_sl SB.out (H.out.choose 8 [7] rfl rfl)))
  clear H W1 W2 W3
  (go_wp2_with fail)
  refine (S1.out).mono ?_
  rintro e w' ⟨rfl, rfl⟩
  (go_wp2_with fail)
  refine (S2.out).mono ?_
  rintro e w' ⟨rfl, rfl⟩
  (go_wp2_with fail)
  refine (S3.out).mono ?_
  rintro e w' ⟨rfl, rfl⟩
  go_wp2
  go_ret
  exact ⟨rfl, HB.out⟩
theorem numbers_row (a : Int) (y : Int) (s : ByteArray) (A : Option Addr) (c : Nat) (hd : List UInt8) (B : Option Addr) (d : Nat) (tl : List UInt8) (w : World) (ha : (Lit.int .u64 a).wf = true) (hy : (Lit.int .i64 y).wf = true) (hs : s.size ≤ 140737488351232)
    (_hc : hd.length ≤ c) (hA : Sl B8 w A hd) (hh : hd.length ≤ 140737488351232) (_hd : tl.length ≤ d) (hB : Sl B8 w B tl) (ht : tl.length ≤ 140737488351232) :
    Calls Try.prog 8 #[.int .u64 a, .int .i64 y, .string s, .slice A hd.length c, .slice B tl.length d] w fun e w' => e = .returned (.bool true) ∧ Below w.heap.size w w' := by
  have ha' : 0 ≤ a ∧ a ≤ 18446744073709551615 := by simpa [Lit.wf, IntKind.min, IntKind.max, IntKind.signed, IntKind.bits] using ha
  have hy' : -9223372036854775808 ≤ y ∧ y ≤ 9223372036854775807 := by simpa [Lit.wf, IntKind.min, IntKind.max, IntKind.signed, IntKind.bits] using hy
  obtain ⟨n, rfl⟩ := Int.eq_ofNat_of_zero_le ha'.1
  exact numbers_any n y s A B c d hd tl w hA hB (by omega) hy'.1 hy'.2 hs (by omega) (by omega)
end Go.Proofs.Ytafohemmjhjgbaa.Pk
