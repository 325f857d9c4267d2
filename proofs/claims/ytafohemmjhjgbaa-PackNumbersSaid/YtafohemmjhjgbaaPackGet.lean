/-
  Package pack: what is got at the front.
-/
import Derived.Test.YtafohemmjhjgbaaPack
import Derived.Test.YtafohemmjhjgbaaBits
namespace Go.Proofs.Ytafohemmjhjgbaa.Pk
open Go.RowKit Go.Proofs.Ytafohemmjhjgbaa Go.Shelf

def gotU (A : Option Addr) (n c : Nat) : Option (Nat × Nat) → Value
  | some (x, k) => .tuple #[.int .u64 x, .slice (cutA A c k) (n - k) (c - k), .int .i64 0]
  | none => .tuple #[.int .u64 0, .slice none 0 0, .int .i64 7]
theorem badU_any (w : World) : Calls Try.prog 75 #[] w fun e w' => e = .returned (.tuple #[.int .u64 0, .slice none 0 0, .int .i64 7]) ∧ w = w' := by
  go_enter Try.func75, Try.ntmps75
  go_wp2
  go_ret3
  exact ⟨rfl, rfl⟩
theorem pow7 (k : Nat) : (2 : Nat) ^ (7 * k) = 128 ^ k := by rw [Nat.pow_mul]
theorem join7 {x p k : Nat} (hx : x < 128 ^ k) (hp : p < 128) (hk : k < 10) (h9 : k = 9 → p ≤ 1) :
    bits .or .u64 (x : Int) (IntKind.u64.wrap ((p : Int) * 2 ^ (7 * k))) = ((x + p * 128 ^ k : Nat) : Int) ∧ x + p * 128 ^ k < 128 ^ (k + 1) := by
  have e : (128 : Nat) ^ 9 = 9223372036854775808 := rfl
  have hlt : p * 128 ^ k < 18446744073709551616 := by
    by_cases h : k = 9
    · subst h; rw [e]; have := h9 rfl; omega
    · have h1 : (128 : Nat) ^ k ≤ 128 ^ 8 := Nat.pow_le_pow_right (by omega) (by omega)
      have e8 : (128 : Nat) ^ 8 = 72057594037927936 := rfl
      have h2 : p * 128 ^ k ≤ 127 * 128 ^ 8 := Nat.mul_le_mul (by omega) h1
      omega
  have hk9 : (128 : Nat) ^ k ≤ 128 ^ 9 := Nat.pow_le_pow_right (by omega) (by omega)
  have hc : (p : Int) * 2 ^ (7 * k) = ((p * 128 ^ k : Nat) : Int) := by
    rw [← pow7]
    push_cast
    rfl
  have hw : IntKind.u64.wrap ((p * 128 ^ k : Nat) : Int) = ((p * 128 ^ k : Nat) : Int) := by rw [u64_wrap]; omega
  refine ⟨?_, ?_⟩
  · rw [hc, hw, u64_or_nat _ _ (by omega) hlt, Nat.or_comm, nat_join (7 * k) _ _ (by rw [pow7]; exact Nat.mul_mod_left _ _) (by rw [pow7]; exact hx), Nat.add_comm]
  · rw [Nat.pow_succ]
    have : p * 128 ^ k ≤ 127 * 128 ^ k := Nat.mul_le_mul_right _ (by omega)
    omega
set_option maxRecDepth 100000 in
theorem GetUint_any (A : Option Addr) (n c : Nat) (l : List UInt8) (w : World) (hn : l.length = n) (hc : n ≤ c) (hA : Sl B8 w A l) (hl : n ≤ 140737488355328) :
    Calls Try.prog 42 #[.slice A n c] w fun e w' => e = .returned (gotU A n c (getU 0 0 l)) ∧ ∃ q, w' = w.drewN q := by
  subst hn
  have HB := Lib.hid (badU_any w)
  go_enter Try.func42, Try.ntmps42
  go_wp2_with fail
  go_loop [5, 12] (fun t i => ∃ k x : Nat, k ≤ l.length ∧ i = .int .i64 k ∧ t = .int .u64 x ∧ x < 128 ^ k ∧ getU k x (l.drop k) = getU 0 0 l) (fun _ i => l.length - (intOf i).toNat)
  case atStart => exact ⟨0, 0, Nat.zero_le _, rfl, rfl, by simp, rfl⟩
  case round =>
    obtain ⟨k, x, hk, rfl, rfl, hx, hg⟩ := hrel
    by_cases hlt : k < l.length
    · obtain ⟨b, eb⟩ : ∃ b, l[k]? = some b := ⟨_, List.getElem?_eq_getElem hlt⟩
      obtain ⟨g, o, rfl, -, hcell⟩ := hA.cell eb
      unfold B8 at hcell
      have hd : l.drop k = b :: l.drop (k + 1) := by
        rw [List.drop_eq_getElem_cons hlt]
        congr 1
        rw [List.getElem?_eq_getElem hlt] at eb
        exact Option.some.inj eb
      rw [hd, getU_cons] at hg
      have HG := Lib.hid hg
      have HX := Lib.hid hx
      have hb := b.toNat_lt
      have h7 := bits7 b
      have hm7 : b.toNat % 128 < 128 := Nat.mod_lt _ (by omega)
      obtain ⟨z1, z2⟩ := bitLen7 hm7
      have HZ := Lib.hid z2
      have i0 : (0 : Int) ≤ (k : Int) := by omega
      have i1 : (k : Int) < (l.length : Int) := by omega
      clear hg hx hd eb z2 hA
      have ht : (if c = k + 1 then some ⟨g, o, none⟩ else (some (⟨g, o, none⟩ : Addr)).map (fun x => x.add (k + 1))) = cutA (some ⟨g, o, none⟩) c (k + 1) := rfl
      have hkc : k + 1 ≤ c := by omega
      by_cases h10 : 10 ≤ k
      · have h10' : (10 : Int) ≤ (k : Int) := by omega
        have e := HG.out
        rw [if_pos (.inl h10)] at e
        have HE := Lib.hid e
        clear e
        go_wp2_with fail
        refine HB.out.mono ?_
        rintro e w' ⟨rfl, rfl⟩
        go_wp2
        go_ret3
        exact ⟨by rw [← HE.out]; rfl, 0, rfl⟩
      · have h10' : (k : Int) < 10 := by omega
        have LN := Lib.hid (Try.bits_Len64 ((b.toNat % 128 : Nat) : Int) w (by omega) (by omega))
        rw [Int.toNat_natCast] at LN
        by_cases h9 : k = 9 ∧ 1 < b.toNat % 128
        · have h9' : (64 - 7 * (k : Int)) < (Lib.bitLen (b.toNat % 128) : Int) := by
            have := HZ.out; omega
          have e := HG.out
          rw [if_pos (.inr h9)] at e
          have HE := Lib.hid e
          clear e h9
          go_wp2_with fail
          refine LN.out.mono ?_
          rintro e w' ⟨rfl, rfl⟩
          go_wp2_with fail
          refine HB.out.mono ?_
          rintro e w' ⟨rfl, rfl⟩
          go_wp2
          go_ret3
          exact ⟨by rw [← HE.out]; rfl, 0, rfl⟩
        · have h9' : (Lib.bitLen (b.toNat % 128) : Int) ≤ 64 - 7 * (k : Int) := by
            have := HZ.out; omega
          obtain ⟨j1, j2⟩ := join7 HX.out hm7 (by omega) (fun e => by omega)
          have J1 := Lib.hid j1
          have J2 := Lib.hid j2
          have e := HG.out
          rw [if_neg (by omega)] at e
          have HE := Lib.hid e
          clear e h9 j1 j2 HX HG
          go_wp2_with fail
          refine LN.out.mono ?_
          rintro e w' ⟨rfl, rfl⟩
          go_wp2_with fail
          · have t1 : b.toNat = 0 := by assumption
            have t2 : 0 < k := by assumption
            have e := HE.out
            rw [if_pos (by omega), if_pos ⟨t1, t2⟩] at e
            have HE2 := Lib.hid e
            clear e
            refine HB.out.mono ?_
            rintro e w' ⟨rfl, rfl⟩
            go_wp2
            go_ret3
            exact ⟨by rw [← HE2.out]; rfl, 0, rfl⟩
          · have t2 : ¬ 0 < k := by assumption
            have t1 : b.toNat = 0 := by assumption
            have t0 : b.toNat < 128 := by omega
            have e := HE.out
            rw [if_pos t0, if_neg (by omega)] at e
            have HE2 := Lib.hid e
            have j := J1.out
            have e0 : ((b.toNat % 128 : Nat) : Int) * 2 ^ (7 * k) = 0 := by rw [t1]; simp
            rw [e0] at j
            have J4 := Lib.hid j
            clear e j e0 t1 J1
            have w1 : IntKind.i64.wrap ((k : Int) + 1) = (k : Int) + 1 := by rw [IntKind.wrap_i64]; omega
            have w2 : (0 : Int) ≤ (k : Int) + 1 := by omega
            have w3 : (k : Int) + 1 ≤ (l.length : Int) := by omega
            have w4 : ((k : Int) + 1).toNat = k + 1 := by omega
            by_cases hck : c = k + 1
            · obtain rfl := hck
              refine Reg.wp_region_g (fun W => ∃ q, W = w'.drewN q) (fun n => ⟨n, rfl⟩) (fun _ => True) [] [] [0, 1, 2, 3, 4, 5, 6, 7] (by kernel_rfl) (by kernel_rfl) (fun _ _ => trivial) (fun W HW => ?_)
              simp only [Reg.pickOps, List.map_cons, List.map_nil, List.getD_cons_zero, List.getD_cons_succ, List.contains_cons, List.contains_nil, Nat.reduceBEq, Bool.or_false, Bool.or_true, Bool.or_self]
              iterate 8 (refine Reg.wpX_y (v := ?_) (fun w' => ?_) rfl ?_; rotate_left 1; focus (go_simp; (try with_reducible rfl)))
              try simp only [Act.put, List.setIfInBounds_toArray, List.set_cons_zero, List.set_cons_succ]
              refine Reg.wpX_nil ?_
              obtain ⟨q, rfl⟩ := HW
              go_wp2
              go_ret3
              refine ⟨?_, q, rfl⟩
              rw [← HE2.out]
              dsimp only [gotU]
              rw [← J4.out]
              (simp [cutA, *]) <;> rfl
            · skip
              refine Reg.wp_region_g (fun W => ∃ q, W = w'.drewN q) (fun n => ⟨n, rfl⟩) (fun _ => True) [] [] [0, 1, 2, 3, 4, 5, 6, 7] (by kernel_rfl) (by kernel_rfl) (fun _ _ => trivial) (fun W HW => ?_)
              simp only [Reg.pickOps, List.map_cons, List.map_nil, List.getD_cons_zero, List.getD_cons_succ, List.contains_cons, List.contains_nil, Nat.reduceBEq, Bool.or_false, Bool.or_true, Bool.or_self]
              iterate 8 (refine Reg.wpX_y (v := ?_) (fun w' => ?_) rfl ?_; rotate_left 1; focus (go_simp; (try with_reducible rfl)))
              try simp only [Act.put, List.setIfInBounds_toArray, List.set_cons_zero, List.set_cons_succ]
              refine Reg.wpX_nil ?_
              obtain ⟨q, rfl⟩ := HW
              go_wp2
              go_ret3
              refine ⟨?_, q, rfl⟩
              rw [← HE2.out]
              dsimp only [gotU]
              rw [← J4.out]
              (simp [cutA, *]) <;> rfl
          · have t1 : ¬ b.toNat = 0 := by assumption
            have t00 : (b.toNat : Int) < 128 := by assumption
            have t0 : b.toNat < 128 := by omega
            have e := HE.out
            rw [if_pos t0, if_neg (by omega)] at e
            have HE2 := Lib.hid e
            have j := J1.out
            rw [Int.natCast_emod] at j
            have J4 := Lib.hid j
            clear e j J1
            have w1 : IntKind.i64.wrap ((k : Int) + 1) = (k : Int) + 1 := by rw [IntKind.wrap_i64]; omega
            have w2 : (0 : Int) ≤ (k : Int) + 1 := by omega
            have w3 : (k : Int) + 1 ≤ (l.length : Int) := by omega
            have w4 : ((k : Int) + 1).toNat = k + 1 := by omega
            by_cases hck : c = k + 1
            · obtain rfl := hck
              refine Reg.wp_region_g (fun W => ∃ q, W = w'.drewN q) (fun n => ⟨n, rfl⟩) (fun _ => True) [] [] [0, 1, 2, 3, 4, 5, 6, 7] (by kernel_rfl) (by kernel_rfl) (fun _ _ => trivial) (fun W HW => ?_)
              simp only [Reg.pickOps, List.map_cons, List.map_nil, List.getD_cons_zero, List.getD_cons_succ, List.contains_cons, List.contains_nil, Nat.reduceBEq, Bool.or_false, Bool.or_true, Bool.or_self]
              iterate 8 (refine Reg.wpX_y (v := ?_) (fun w' => ?_) rfl ?_; rotate_left 1; focus (go_simp; (try with_reducible rfl)))
              try simp only [Act.put, List.setIfInBounds_toArray, List.set_cons_zero, List.set_cons_succ]
              refine Reg.wpX_nil ?_
              obtain ⟨q, rfl⟩ := HW
              go_wp2
              go_ret3
              refine ⟨?_, q, rfl⟩
              rw [← HE2.out]
              dsimp only [gotU]
              rw [← J4.out]
              (simp [cutA, *]) <;> rfl
            · skip
              refine Reg.wp_region_g (fun W => ∃ q, W = w'.drewN q) (fun n => ⟨n, rfl⟩) (fun _ => True) [] [] [0, 1, 2, 3, 4, 5, 6, 7] (by kernel_rfl) (by kernel_rfl) (fun _ _ => trivial) (fun W HW => ?_)
              simp only [Reg.pickOps, List.map_cons, List.map_nil, List.getD_cons_zero, List.getD_cons_succ, List.contains_cons, List.contains_nil, Nat.reduceBEq, Bool.or_false, Bool.or_true, Bool.or_self]
              iterate 8 (refine Reg.wpX_y (v := ?_) (fun w' => ?_) rfl ?_; rotate_left 1; focus (go_simp; (try with_reducible rfl)))
              try simp only [Act.put, List.setIfInBounds_toArray, List.set_cons_zero, List.set_cons_succ]
              refine Reg.wpX_nil ?_
              obtain ⟨q, rfl⟩ := HW
              go_wp2
              go_ret3
              refine ⟨?_, q, rfl⟩
              rw [← HE2.out]
              dsimp only [gotU]
              rw [← J4.out]
              (simp [cutA, *]) <;> rfl
          · have t1 : (128 : Int) ≤ (b.toNat : Int) := by assumption
            have e := HE.out
            rw [if_neg (by omega)] at e
            go_round
            case rel => exact ⟨k + 1, x + b.toNat % 128 * 128 ^ k, by omega, by go_num, by rw [← J1.out]; rfl, J2.out, e⟩
            case measure => simp [intOf]; omega
    · obtain rfl : k = l.length := by omega
      rw [List.drop_length, getU_nil] at hg
      have HE := Lib.hid hg
      clear hg hA
      go_wp2_with fail
      refine HB.out.mono ?_
      rintro e w' ⟨rfl, rfl⟩
      go_wp2
      go_ret3
      exact ⟨by rw [← HE.out]; rfl, 0, rfl⟩


theorem badI_any (w : World) : Calls Try.prog 76 #[] w fun e w' => e = .returned (.tuple #[.int .i64 0, .slice none 0 0, .int .i64 7]) ∧ w = w' := by
  go_enter Try.func76, Try.ntmps76
  go_wp2
  go_ret3
  exact ⟨rfl, rfl⟩
theorem badS_any (w : World) : Calls Try.prog 84 #[] w fun e w' => e = .returned (.tuple #[.string (strB []), .slice none 0 0, .int .i64 7]) ∧ w = w' := by
  go_enter Try.func84, Try.ntmps84
  go_wp2
  go_ret3
  exact ⟨rfl, rfl⟩
theorem xor_ones (a : BitVec 64) : (a ^^^ BitVec.ofInt 64 (-1)).toNat = 18446744073709551615 - a.toNat := by
  have e : BitVec.ofInt 64 (-1) = BitVec.allOnes 64 := by decide
  rw [e, BitVec.xor_allOnes, BitVec.toNat_not]
theorem unzig_bits (x : Nat) (h : x < 18446744073709551616) : bits .xor .i64 ((x / 2 : Nat) : Int) (-((x % 2 : Nat) : Int)) = unzig x := by
  have hd : (BitVec.ofInt 64 ((x / 2 : Nat) : Int)).toNat = x / 2 := by rw [BitVec.toNat_ofInt]; omega
  rw [Bits.bits_xor_i64]
  unfold unzig
  rcases Nat.mod_two_eq_zero_or_one x with e | e
  · rw [e, if_pos rfl]
    have e0 : BitVec.ofInt 64 (-((0 : Nat) : Int)) = 0#64 := by decide
    rw [e0, BitVec.xor_zero, hd, IntKind.wrap_i64]
    omega
  · rw [e, if_neg (by omega)]
    have e0 : (-((1 : Nat) : Int)) = -1 := by rfl
    rw [e0, xor_ones, hd, IntKind.wrap_i64]
    omega
def gotI (A : Option Addr) (n c : Nat) : Option (Nat × Nat) → Value
  | some (x, k) => .tuple #[.int .i64 (unzig x), .slice (cutA A c k) (n - k) (c - k), .int .i64 0]
  | none => .tuple #[.int .i64 0, .slice none 0 0, .int .i64 7]
theorem and_one (x : Nat) (h : x < 18446744073709551616) : bits .and .u64 (x : Int) 1 = ((x % 2 : Nat) : Int) := by
  rw [show (1 : Int) = ((1 : Nat) : Int) from rfl, u64_and_nat _ _ h (by omega), Nat.and_one_is_mod]
theorem unzig_bits2 (x : Nat) (h : x < 18446744073709551616) : bits .xor .i64 ((x : Int) / 2) (wrap64 (-wrap64 (bits .and .u64 (x : Int) 1))) = unzig x := by
  rw [← unzig_bits x h, and_one x h]
  have e1 : wrap64 (-wrap64 ((x % 2 : Nat) : Int)) = -((x % 2 : Nat) : Int) := by unfold wrap64; omega
  rw [e1]
  rfl
set_option maxRecDepth 100000 in
theorem GetInt_any (A : Option Addr) (n c : Nat) (l : List UInt8) (w : World) (hn : l.length = n) (hc : n ≤ c) (hA : Sl B8 w A l) (hl : n ≤ 140737488355328) :
    Calls Try.prog 43 #[.slice A n c] w fun e w' => e = .returned (gotI A n c (getU 0 0 l)) ∧ ∃ q, w' = w.drewN q := by
  have HU := Lib.hid (GetUint_any A n c l w hn hc hA hl)
  have hb := getU_bd l 0 0
  clear hA
  go_enter Try.func43, Try.ntmps43
  go_wp2_with fail
  refine HU.out.mono ?_
  rintro e w' ⟨rfl, q, rfl⟩
  cases hg : getU 0 0 l with
  | none =>
    have HB := Lib.hid (badI_any (w.drewN q))
    have HG := Lib.hid hg
    clear hg hb HU
    unfold gotU
    go_wp2_with fail
    refine HB.out.mono ?_
    rintro e w' ⟨rfl, rfl⟩
    go_wp2
    go_ret3
    exact ⟨by rw [HG.out]; rfl, q, rfl⟩
  | some p =>
    obtain ⟨x, k⟩ := p
    have hx := (hb x k hg (by decide)).1
    have HZ := Lib.hid (unzig_bits2 x hx)
    have HG := Lib.hid hg
    clear hg hb HU
    unfold gotU
    go_wp2
    go_ret3
    exact ⟨by rw [HG.out]; dsimp only [gotI]; rw [← HZ.out]; rfl, q, rfl⟩

/-- A text at the front, no longer than most. -/
def getT (most : Nat) (l : List UInt8) : Option (List UInt8 × Nat) := match getU 0 0 l with
  | some (x, k) => if most < x ∨ l.length - k < x then none else some ((l.drop k).take x, k)
  | none => none
def gotT (A : Option Addr) (n c : Nat) : Option (List UInt8 × Nat) → Value
  | some (t, k) => .tuple #[.string (strB t), .slice (cutA (cutA A c k) (c - k) t.length) (n - k - t.length) (c - k - t.length), .int .i64 0]
  | none => .tuple #[.string (strB []), .slice none 0 0, .int .i64 7]
set_option maxRecDepth 100000 in
theorem text_any (A : Option Addr) (n c most : Nat) (l : List UInt8) (w : World) (hn : l.length = n) (hc : n ≤ c) (hA : Sl B8 w A l) (hl : n ≤ 140737488355328) (hm : most < 18446744073709551616) :
    Calls Try.prog 77 #[.slice A n c, .int .u64 most] w fun e w' => e = .returned (gotT A n c (getT most l)) ∧ ∃ q, w' = w.drewN q := by
  have HU := Lib.hid (GetUint_any A n c l w hn hc hA hl)
  have hb := getU_bd l 0 0
  have HA := Lib.hid hA
  clear hA
  go_enter Try.func77, Try.ntmps77
  go_wp2_with fail
  refine HU.out.mono ?_
  rintro e w' ⟨rfl, q, rfl⟩
  have HB := Lib.hid (badS_any (w.drewN q))
  cases hg : getU 0 0 l with
  | none =>
    have HG : Hid (getT most l = none) := by show _ = _; unfold getT; rw [hg]
    clear hg hb HU
    unfold gotU
    go_wp2_with fail
    refine HB.out.mono ?_
    rintro e w' ⟨rfl, rfl⟩
    go_wp2
    go_ret3
    exact ⟨by rw [HG.out]; rfl, q, rfl⟩
  | some p =>
    obtain ⟨x, k⟩ := p
    obtain ⟨hx, -, hk, -⟩ := hb x k hg (by decide)
    rw [Nat.zero_add, hn] at hk
    have hgt : getT most l = if most < x ∨ n - k < x then none else some ((l.drop k).take x, k) := by unfold getT; rw [hg, hn]
    have HT := Lib.hid hgt
    clear hg hb HU hgt
    unfold gotU
    by_cases h1 : most < x
    · have e := HT.out
      rw [if_pos (.inl h1)] at e
      have HG := Lib.hid e
      clear e
      go_wp2_with fail
      refine HB.out.mono ?_
      rintro e w' ⟨rfl, rfl⟩
      go_wp2
      go_ret3
      exact ⟨by rw [HG.out]; rfl, q, rfl⟩
    · have h1' : x ≤ most := by omega
      by_cases h2 : n - k < x
      · have e := HT.out
        rw [if_pos (.inr h2)] at e
        have HG := Lib.hid e
        clear e
        go_wp2_with fail
        refine HB.out.mono ?_
        rintro e w' ⟨rfl, rfl⟩
        go_wp2
        go_ret3
        exact ⟨by rw [HG.out]; rfl, q, rfl⟩
      · have h2' : x ≤ n - k := by omega
        have e := HT.out
        rw [if_neg (by omega)] at e
        have HG := Lib.hid e
        clear e
        have hS := Sl_cutA HA.out k c (by omega) (by omega)
        have hT : Sl B8 w (cutA A c k) ((l.drop k).take x) := hS.take x
        have HT2 := Lib.hid hT
        have hlen : ((l.drop k).take x).length = x := by rw [List.length_take, List.length_drop]; omega
        have HL := Lib.hid hlen
        clear hS hT hlen HT
        have i1 : (0 : Int) ≤ (x : Int) := by omega
        have i2 : (x : Int) ≤ ((n - k : Nat) : Int) := by omega
        have i3 : (x : Int) ≤ ((c - k : Nat) : Int) := by omega
        have i4 : n - k ≤ c - k := by omega
        by_cases hck : c - k = x
        · go_wp2
          refine Reg.wp_region_g (fun W => ∃ q, W = w.drewN q) (fun m => ⟨q + m, by rw [World.drewN_drewN]⟩) (fun _ => True) [] [3] [0, 1, 2, 4, 5, 6, 3, 7, 8, 9] (by kernel_rfl) (by kernel_rfl) (fun _ _ => trivial) (fun W HW => ?_)
          simp only [Reg.pickOps, List.map_cons, List.map_nil, List.getD_cons_zero, List.getD_cons_succ, List.contains_cons, List.contains_nil, Nat.reduceBEq, Bool.or_false, Bool.or_true, Bool.or_self]
          iterate 6 (refine Reg.wpX_y (v := ?_) (fun w' => ?_) rfl ?_; rotate_left 1; focus (go_simp; (try with_reducible rfl)))
          try simp only [Act.put, List.setIfInBounds_toArray, List.set_cons_zero, List.set_cons_succ]
          obtain ⟨q2, rfl⟩ := HW
          have cv := conv_sl (P := Try.prog) (w := w.drewN q2) (c := c - k) Try.underlying29 Try.underlying5 Try.underlying9 HL.out (show Sl B8 (w.drewN q2) _ _ from HT2.out)
          try rw [hck] at cv
          refine Reg.wpX_last rfl (by kernel_rfl) (fun K hK => ?_)
          go_simp
          refine hK _ _ ?_
          iterate 3 (refine Reg.wpX_y (v := ?_) (fun w' => ?_) rfl ?_; rotate_left 1; focus (go_simp; (try with_reducible rfl)))
          try simp only [Act.put, List.setIfInBounds_toArray, List.set_cons_zero, List.set_cons_succ]
          refine Reg.wpX_nil ?_
          go_wp2
          go_ret3
          refine ⟨?_, q2, rfl⟩
          rw [HG.out]
          dsimp only [gotT]
          rw [HL.out]
          (simp [cutA, *]) <;> rfl
        · go_wp2
          refine Reg.wp_region_g (fun W => ∃ q, W = w.drewN q) (fun m => ⟨q + m, by rw [World.drewN_drewN]⟩) (fun _ => True) [] [3] [0, 1, 2, 4, 5, 6, 3, 7, 8, 9] (by kernel_rfl) (by kernel_rfl) (fun _ _ => trivial) (fun W HW => ?_)
          simp only [Reg.pickOps, List.map_cons, List.map_nil, List.getD_cons_zero, List.getD_cons_succ, List.contains_cons, List.contains_nil, Nat.reduceBEq, Bool.or_false, Bool.or_true, Bool.or_self]
          iterate 6 (refine Reg.wpX_y (v := ?_) (fun w' => ?_) rfl ?_; rotate_left 1; focus (go_simp; (try with_reducible rfl)))
          try simp only [Act.put, List.setIfInBounds_toArray, List.set_cons_zero, List.set_cons_succ]
          obtain ⟨q2, rfl⟩ := HW
          have cv := conv_sl (P := Try.prog) (w := w.drewN q2) (c := c - k) Try.underlying29 Try.underlying5 Try.underlying9 HL.out (show Sl B8 (w.drewN q2) _ _ from HT2.out)
          try rw [hck] at cv
          refine Reg.wpX_last rfl (by kernel_rfl) (fun K hK => ?_)
          go_simp
          refine hK _ _ ?_
          iterate 3 (refine Reg.wpX_y (v := ?_) (fun w' => ?_) rfl ?_; rotate_left 1; focus (go_simp; (try with_reducible rfl)))
          try simp only [Act.put, List.setIfInBounds_toArray, List.set_cons_zero, List.set_cons_succ]
          refine Reg.wpX_nil ?_
          go_wp2
          go_ret3
          refine ⟨?_, q2, rfl⟩
          rw [HG.out]
          dsimp only [gotT]
          rw [HL.out]
          (simp [cutA, *]) <;> rfl
set_option maxRecDepth 100000 in
theorem GetText_any (A : Option Addr) (n c : Nat) (l : List UInt8) (w : World) (hn : l.length = n) (hc : n ≤ c) (hA : Sl B8 w A l) (hl : n ≤ 140737488355328) :
    Calls Try.prog 44 #[.slice A n c] w fun e w' => e = .returned (gotT A n c (getT 65536 l)) ∧ ∃ q, w' = w.drewN q := by
  have HU := Lib.hid (text_any A n c 65536 l w hn hc hA hl (by decide))
  have HG := Lib.hid (rfl : gotT A n c (getT 65536 l) = gotT A n c (getT 65536 l))
  clear hA
  go_enter Try.func44, Try.ntmps44
  generalize getT 65536 l = r at *
  go_wp2_with fail
  refine HU.out.mono ?_
  rintro e w' ⟨rfl, q, rfl⟩
  cases r with
  | none =>
    dsimp only [gotT]
    clear HU HG
    go_wp2
    go_ret3
    exact ⟨rfl, q, rfl⟩
  | some p =>
    obtain ⟨t, k⟩ := p
    dsimp only [gotT]
    clear HU HG
    go_wp2
    go_ret3
    exact ⟨rfl, q, rfl⟩
end Go.Proofs.Ytafohemmjhjgbaa.Pk
