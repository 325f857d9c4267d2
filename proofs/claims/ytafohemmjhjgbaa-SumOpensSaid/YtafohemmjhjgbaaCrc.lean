/-
  The sum, in plain numbers: one step of the register, eight of them, bytes one behind the other; a step loses nothing.
-/
import Derived.Laws.BitsAllLaws
namespace Go.Proofs.Ytafohemmjhjgbaa.Crc

/-- One step of the register. -/
def stp (c : Nat) : Nat := if c % 2 = 1 then (c / 2) ^^^ 3988292384 else c / 2
def stp8 (c : Nat) : Nat := stp (stp (stp (stp (stp (stp (stp (stp c)))))))
/-- The register behind bytes. -/
def crc (c : Nat) (l : List Nat) : Nat := l.foldl (fun c x => stp8 (c ^^^ x)) c

theorem stp_lt {c : Nat} (h : c < 4294967296) : stp c < 4294967296 := by
  unfold stp
  split
  · exact Nat.xor_lt_two_pow (n := 32) (by omega) (by omega)
  · omega
theorem stp8_lt {c : Nat} (h : c < 4294967296) : stp8 c < 4294967296 := by
  unfold stp8
  exact stp_lt (stp_lt (stp_lt (stp_lt (stp_lt (stp_lt (stp_lt (stp_lt h)))))))

theorem xor_half (a b : Nat) : (a ^^^ b) / 2 = (a / 2) ^^^ (b / 2) := by
  have h := Nat.shiftRight_xor_distrib (a := a) (b := b) (i := 1)
  simpa [Nat.shiftRight_succ] using h
theorem xor_odd (a b : Nat) : (a ^^^ b) % 2 = (a % 2 + b % 2) % 2 := by
  have h : (a ^^^ b).testBit 0 = (a.testBit 0 ^^ b.testBit 0) := Nat.testBit_xor ..
  rw [Nat.testBit_zero, Nat.testBit_zero, Nat.testBit_zero] at h
  rcases Nat.mod_two_eq_zero_or_one a with ha | ha <;> rcases Nat.mod_two_eq_zero_or_one b with hb | hb <;> rw [ha, hb] at h ⊢ <;> rcases Nat.mod_two_eq_zero_or_one (a ^^^ b) with hc | hc <;> rw [hc] at h ⊢ <;> simp at h ⊢

theorem xor_cancel_right {a b c : Nat} (h : a ^^^ c = b ^^^ c) : a = b := by
  have := congrArg (· ^^^ c) h
  simpa [Nat.xor_assoc] using this
theorem xor_cancel_left {a b c : Nat} (h : c ^^^ a = c ^^^ b) : a = b := by
  rw [Nat.xor_comm c a, Nat.xor_comm c b] at h; exact xor_cancel_right h

theorem stp_xor (a b : Nat) : stp (a ^^^ b) = stp a ^^^ stp b := by
  unfold stp
  rw [xor_half, xor_odd]
  rcases Nat.mod_two_eq_zero_or_one a with ha | ha <;> rcases Nat.mod_two_eq_zero_or_one b with hb | hb <;> rw [ha, hb] <;> simp
  · rw [Nat.xor_assoc]
  · rw [Nat.xor_assoc, Nat.xor_comm (b / 2), ← Nat.xor_assoc]
  · rw [Nat.xor_assoc, Nat.xor_comm (b / 2), ← Nat.xor_assoc 3988292384, Nat.xor_self, Nat.zero_xor]

theorem stp8_xor (a b : Nat) : stp8 (a ^^^ b) = stp8 a ^^^ stp8 b := by
  unfold stp8; simp only [stp_xor]
theorem stp_even (a : Nat) : stp (a * 2) = a := by unfold stp; rw [if_neg (by omega)]; omega
theorem stp8_high (a : Nat) : stp8 (a * 256) = a := by
  have e : a * 256 = a * 2 * 2 * 2 * 2 * 2 * 2 * 2 * 2 := by omega
  rw [e]; unfold stp8; simp only [stp_even]
theorem split_low (c : Nat) : (c / 256 * 256) ^^^ (c % 256) = c := by
  have h := Nat.two_pow_add_eq_or_of_lt (i := 8) (b := c % 256) (by omega) (c / 256)
  have h2 : (c / 256 * 256) ^^^ (c % 256) = c / 256 * 256 + c % 256 := by
    have h3 : 2 ^ 8 * (c / 256) + c % 256 = (2 ^ 8 * (c / 256)) ||| (c % 256) := h
    have h4 : (2 ^ 8 * (c / 256)) ^^^ (c % 256) = (2 ^ 8 * (c / 256)) ||| (c % 256) := by
      apply Nat.eq_of_testBit_eq
      intro i
      rw [Nat.testBit_xor, Nat.testBit_or]
      by_cases hi : i < 8
      · have : (2 ^ 8 * (c / 256)).testBit i = false := by rw [Nat.testBit_two_pow_mul]; simp; omega
        rw [this]; simp
      · have : (c % 256).testBit i = false := by
          apply Nat.testBit_lt_two_pow
          have : 2 ^ 8 ≤ 2 ^ i := Nat.pow_le_pow_right (by decide) (by omega)
          omega
        rw [this]; simp
    have e : c / 256 * 256 = 2 ^ 8 * (c / 256) := by omega
    rw [e, h4, ← h3]
  rw [h2]; omega

/-- By the table: the low byte alone, and the rest moved on. -/
theorem by_table (c x : Nat) : (c / 256) ^^^ stp8 ((c % 256) ^^^ x) = stp8 (c ^^^ x) := by
  have h : c ^^^ x = (c / 256 * 256) ^^^ ((c % 256) ^^^ x) := by rw [← Nat.xor_assoc, split_low]
  rw [h, stp8_xor (c / 256 * 256), stp8_high]

theorem stp_inj {a b : Nat} (ha : a < 4294967296) (hb : b < 4294967296) (h : stp a = stp b) : a = b := by
  have top : ∀ y, y < 2147483648 → 2147483648 ≤ y ^^^ 3988292384 := by
    intro y hy
    apply Nat.le_of_not_lt
    intro hlt
    have h1 : (y ^^^ 3988292384).testBit 31 = false := Nat.testBit_lt_two_pow hlt
    rw [Nat.testBit_xor, Nat.testBit_lt_two_pow (i := 31) hy] at h1
    simp at h1
    revert h1; decide
  unfold stp at h
  by_cases h1 : a % 2 = 1 <;> by_cases h2 : b % 2 = 1
  · rw [if_pos h1, if_pos h2] at h
    have := xor_cancel_right h
    omega
  · rw [if_pos h1, if_neg h2] at h
    have := top (a / 2) (by omega)
    omega
  · rw [if_neg h1, if_pos h2] at h
    have := top (b / 2) (by omega)
    omega
  · rw [if_neg h1, if_neg h2] at h
    omega
theorem stp8_inj {a b : Nat} (ha : a < 4294967296) (hb : b < 4294967296) (h : stp8 a = stp8 b) : a = b := by
  unfold stp8 at h
  have l := fun {c : Nat} (h : c < 4294967296) => stp_lt h
  exact stp_inj ha hb (stp_inj (l ha) (l hb) (stp_inj (l (l ha)) (l (l hb)) (stp_inj (l (l (l ha))) (l (l (l hb))) (stp_inj (l (l (l (l ha)))) (l (l (l (l hb)))) (stp_inj (l (l (l (l (l ha))))) (l (l (l (l (l hb))))) (stp_inj (l (l (l (l (l (l ha)))))) (l (l (l (l (l (l hb))))))
    (stp_inj (l (l (l (l (l (l (l ha))))))) (l (l (l (l (l (l (l hb))))))) h)))))))

theorem xor_byte_lt {c x : Nat} (hc : c < 4294967296) (hx : x < 256) : c ^^^ x < 4294967296 := Nat.xor_lt_two_pow (n := 32) hc (by omega)
theorem crc_lt {l : List Nat} : ∀ {c : Nat}, c < 4294967296 → (∀ x ∈ l, x < 256) → crc c l < 4294967296 := by
  induction l with
  | nil => intro c hc _; exact hc
  | cons x l ih => intro c hc h; exact ih (stp8_lt (xor_byte_lt hc (h x (by simp)))) (fun y hy => h y (by simp [hy]))
theorem crc_append (l m : List Nat) (c : Nat) : crc c (l ++ m) = crc (crc c l) m := by unfold crc; rw [List.foldl_append]
theorem crc_inj {l : List Nat} : ∀ {c d : Nat}, c < 4294967296 → d < 4294967296 → (∀ x ∈ l, x < 256) → crc c l = crc d l → c = d := by
  induction l with
  | nil => intro c d _ _ _ h; exact h
  | cons x l ih =>
    intro c d hc hd h e
    have hx := h x (by simp)
    have := ih (stp8_lt (xor_byte_lt hc hx)) (stp8_lt (xor_byte_lt hd hx)) (fun y hy => h y (by simp [hy])) e
    exact xor_cancel_right (stp8_inj (xor_byte_lt hc hx) (xor_byte_lt hd hx) this)
/-- ONE TURNED BYTE IS FOUND. -/
theorem crc_turned {l m : List Nat} {x y c : Nat} (hc : c < 4294967296) (hl : ∀ z ∈ l, z < 256) (hm : ∀ z ∈ m, z < 256) (hx : x < 256) (hy : y < 256) (hne : x ≠ y) : crc c (l ++ x :: m) ≠ crc c (l ++ y :: m) := by
  intro h
  rw [crc_append, crc_append] at h
  have hcl := crc_lt hc hl
  have e := crc_inj (l := m) (stp8_lt (xor_byte_lt hcl hx)) (stp8_lt (xor_byte_lt hcl hy)) hm h
  exact hne (xor_cancel_left (stp8_inj (xor_byte_lt hcl hx) (xor_byte_lt hcl hy) e))
end Go.Proofs.Ytafohemmjhjgbaa.Crc
