/-
  PackNumbers: what is packed is the reference's, and is got back.
-/
import Derived.Test.YtafohemmjhjgbaaPackGet
namespace Go.Proofs.Ytafohemmjhjgbaa.Pk
open Go.RowKit Go.Proofs.Ytafohemmjhjgbaa Go.Shelf

theorem strB_bs (s : ByteArray) : strB (bs s) = s := by
  obtain ⟨⟨l⟩⟩ := s
  rfl
theorem getT_text (s : ByteArray) (t : List UInt8) (h : s.size ≤ 1000) : getT 65536 (uvar s.size ++ bs s ++ t) = some (bs s, (uvar s.size).length) := by
  unfold getT
  rw [List.append_assoc, get_uvar (by omega)]
  dsimp only
  have := bs_len s
  rw [if_neg (by simp only [List.length_append]; omega), List.drop_left]
  congr 2
  rw [← this, List.take_left]
set_option maxRecDepth 100000 in
theorem refU_any (x : Nat) : ∀ {E w : World} {L : List HP}, sat E w L → x < 18446744073709551616 →
    Calls Try.prog 39 #[.int .u64 x] w fun e w' => ∃ A c, e = .returned (.slice A (uvar x).length c) ∧ sat E w' (vec 5 B8 A (uvar x).length c (uvar x) :: L) := by
  induction x using Nat.strongRecOn with
  | _ x ih =>
  intro E w L H hx
  by_cases h : x < 128
  · have hi : (x : Int) < 128 := by omega
    have HU : Value.int .u8 (x : Int) = B8 (b8 x) := B8_b8 (by omega)
    have w1 : IntKind.u8.wrap (x : Int) = x := by rw [IntKind.wrap_u8]; omega
    have ge := Lib.hid (uvar_lt h)
    have HV := Lib.hid (H.litVec B8 #[.int .u8 x] 5 [b8 x] (congrArg (fun v => [v]) HU) (show (1 : Nat) ≤ maxLen by decide))
    clear H HU ih
    go_enter Try.func39, Try.ntmps39
    go_wp2
    go_ret
    rw [ge.out]
    exact ⟨_, _, rfl, HV.out⟩
  · have hi : ¬ (x : Int) < 128 := by omega
    have hd : x / 128 < x := by omega
    have hq : x / 128 < 18446744073709551616 := by omega
    have HU : Value.int .u8 ((x : Int) % 128 + 128) = B8 (b8 (x % 128 + 128)) := B8_b8 (n := x % 128 + 128) (by omega)
    have w1 : IntKind.u8.wrap ((x : Int) % 128) = (x : Int) % 128 := by rw [IntKind.wrap_u8]; omega
    have w2 : IntKind.u8.wrap ((x : Int) % 128 + 128) = (x : Int) % 128 + 128 := by rw [IntKind.wrap_u8]; omega
    have w3 : Hid (((x : Int) / 128) = ((x / 128 : Nat) : Int)) := by show _ = _; omega
    have ge := Lib.hid (uvar_ge (by omega : 128 ≤ x))
    have HV := H.litVec B8 #[.int .u8 ((x : Int) % 128 + 128)] 5 [b8 (x % 128 + 128)] (congrArg (fun v => [v]) HU) (show (1 : Nat) ≤ maxLen by decide)
    have HR := Lib.hid (ih (x / 128) hd HV hq)
    have hl10 := uvar_len64 hq
    have HL : Hid (1 + (uvar (x / 128)).length ≤ 1099511627776) := by show _ ≤ _; omega
    clear H HU ih hl10 HV
    go_enter Try.func39, Try.ntmps39
    go_wp2_with fail
    try rw [w3.out]
    have HR2 := HR.out
    refine HR2.mono ?_
    rintro e w' ⟨A, c, rfl, H⟩
    have HS := Lib.hid H.Sl
    have HE := Lib.hid H.pull1
    clear H HR HR2
    go_wp2_with (at_builtin; go_must (refine wpList_appS rfl (.tmp 12) (.tmp 15) 29 rfl info8 Try.underlying29 rfl (by decide) HE.out rfl rfl rfl HS.out B8_one HL.out ?_))
    intro A' c' w1 H2
    have H3 := Lib.hid H2
    clear H2 HE HS
    go_wp2
    go_ret
    have e1 : (uvar x).length = 1 + (uvar (x / 128)).length := by rw [ge.out, List.length_cons]; omega
    rw [e1, ge.out]
    exact ⟨_, _, rfl, H3.out.pull1.tail⟩
theorem zig_pos {y : Int} (h : 0 ≤ y) : y * 2 = ((zig y : Nat) : Int) := by
  unfold zig; rw [if_pos h]; omega
theorem zig_neg {y : Int} (h : ¬ 0 ≤ y) (h2 : -9223372036854775808 ≤ y) : IntKind.u64.wrap (IntKind.u64.wrap (IntKind.u64.wrap (-IntKind.u64.wrap y) * 2) - 1) = ((zig y : Nat) : Int) := by
  rw [u64_wrap, u64_wrap, u64_wrap, u64_wrap]; unfold zig; rw [if_neg h]; omega
set_option maxRecDepth 100000 in
theorem refI_any {E w : World} {L : List HP} (y : Int) (H : sat E w L) (h1 : -9223372036854775808 ≤ y) (h2 : y ≤ 9223372036854775807) :
    Calls Try.prog 40 #[.int .i64 y] w fun e w' => ∃ A c, e = .returned (.slice A (uvar (zig y)).length c) ∧ sat E w' (vec 5 B8 A (uvar (zig y)).length c (uvar (zig y)) :: L) := by
  have HR := Lib.hid (refU_any (zig y) H (zig_lt ⟨h1, h2⟩))
  clear H
  by_cases h : 0 ≤ y
  · have z := Lib.hid (zig_pos h)
    go_enter Try.func40, Try.ntmps40
    go_wp2_with fail
    rw [z.out]
    refine HR.out.mono ?_
    rintro e w' ⟨A, c, rfl, H⟩
    have H1 := Lib.hid H
    clear H HR z
    go_wp2
    go_ret
    exact ⟨_, _, rfl, H1.out⟩
  · have z := Lib.hid (zig_neg h h1)
    go_enter Try.func40, Try.ntmps40
    go_wp2_with fail
    rw [z.out]
    refine HR.out.mono ?_
    rintro e w' ⟨A, c, rfl, H⟩
    have H1 := Lib.hid H
    clear H HR z
    go_wp2
    go_ret
    exact ⟨_, _, rfl, H1.out⟩
set_option maxRecDepth 100000 in
theorem refT_any {E w : World} {L : List HP} (s : ByteArray) (H : sat E w L) (hs : s.size < 1000000) :
    Calls Try.prog 41 #[.string s] w fun e w' => ∃ A c, e = .returned (.slice A ((uvar s.size).length + s.size) c) ∧ sat E w' (vec 5 B8 A ((uvar s.size).length + s.size) c (uvar s.size ++ bs s) :: L) := by
  have HR := Lib.hid (refU_any s.size H (by omega))
  have hl10 := uvar_len64 (n := s.size) (by omega)
  have HL : Hid ((uvar s.size).length + s.size ≤ 1099511627776) := by show _ ≤ _; omega
  clear H hl10
  go_enter Try.func41, Try.ntmps41
  go_wp2_with fail
  refine HR.out.mono ?_
  rintro e w' ⟨A, c, rfl, H⟩
  have H1 := Lib.hid H
  clear H HR
  go_wp2_with (at_builtin; go_must (refine wpList_appT rfl (.tmp 6) (.tmp 7) 29 9 rfl info8 Try.underlying29 Try.underlying9 H1.out rfl rfl HL.out ?_))
  intro A' c' w1 H2
  have H3 := Lib.hid H2
  clear H2 H1
  go_wp2
  go_ret
  exact ⟨_, _, rfl, H3.out⟩
theorem uvar_300 : uvar 300 = [172, 2] := by
  rw [uvar_ge (by omega), uvar_lt (by omega)]; rfl
set_option maxRecDepth 100000 in
theorem awake_any {E w : World} {L : List HP} (H : sat E w L) : Calls Try.prog 35 #[] w fun e w' => e = .returned (.bool true) ∧ sat E w' L := by
  have HU := Lib.hid (Uint_any 300 (H.nilVec 5 B8) (by omega) (by omega))
  clear H
  go_enter Try.func35, Try.ntmps35
  go_wp2_with fail
  have HU2 := HU.out
  rw [uvar_300] at HU2
  refine HU2.mono ?_
  rintro e w' ⟨A, c, rfl, H⟩
  obtain ⟨b, o, rfl, -⟩ := H.Sl (by decide)
  have c0 : w'.cell? ⟨b, o + 0, none⟩ = some (.int .u8 172) := H.vcell (i := 0) rfl
  have c1 : w'.cell? ⟨b, o + 1, none⟩ = some (.int .u8 2) := H.vcell (i := 1) rfl
  have HR := Lib.hid H.tail
  clear H HU HU2
  rw [Nat.add_zero] at c0
  go_wp2
  go_ret
  exact ⟨rfl, HR.out⟩
end Go.Proofs.Ytafohemmjhjgbaa.Pk
