/-
  Records, in plain lists: what is sealed is opened; one turned byte is found.
-/
import Derived.Test.YtafohemmjhjgbaaSeal
namespace Go.Proofs.Ytafohemmjhjgbaa.Sum
open Go.RowKit Go.Proofs.Ytafohemmjhjgbaa Go.Proofs.Ytafohemmjhjgbaa.Crc

theorem get4_cons (a b c d : UInt8) (r : List UInt8) : get4 (a :: b :: c :: d :: r) 0 = a.toNat + 256 * b.toNat + 65536 * c.toNat + 16777216 * d.toNat := by simp [get4]
theorem get4_four (x0 x1 x2 x3 a b c d : UInt8) (r : List UInt8) : get4 (x0 :: x1 :: x2 :: x3 :: a :: b :: c :: d :: r) 4 = a.toNat + 256 * b.toNat + 65536 * c.toNat + 16777216 * d.toNat := by simp [get4]
theorem of_nat (n : Nat) (h : n < 256) : (UInt8.ofNat n).toNat = n := UInt8.toNat_ofNat_of_lt' (by have : UInt8.size = 256 := rfl; omega)
theorem word_value (n : Nat) (h : n < 4294967296) : (UInt8.ofNat (n % 256)).toNat + 256 * (UInt8.ofNat (n / 256 % 256)).toNat + 65536 * (UInt8.ofNat (n / 65536 % 256)).toNat + 16777216 * (UInt8.ofNat (n / 16777216 % 256)).toNat = n := by
  rw [of_nat _ (by omega), of_nat _ (by omega), of_nat _ (by omega), of_nat _ (by omega)]; omega
theorem word_shape (n : Nat) : ∃ a b c d, word n = [a, b, c, d] ∧ (n < 4294967296 → a.toNat + 256 * b.toNat + 65536 * c.toNat + 16777216 * d.toNat = n) := ⟨_, _, _, _, rfl, word_value n⟩

theorem toNat_ne {a b : UInt8} (h : a ≠ b) : a.toNat ≠ b.toNat := fun e => h (UInt8.toNat_inj.1 e)

theorem ofB_turned (t : List UInt8) (k : Nat) (x y : UInt8) (hx : t[k]? = some x) (hne : x ≠ y) : ofB (t.set k y) ≠ ofB t := by
  have hk : k < t.length := (List.getElem?_eq_some_iff.1 hx).1
  have e1 : t = t.take k ++ x :: t.drop (k + 1) := by
    have := List.take_append_drop k t
    rw [List.drop_eq_getElem_cons hk] at this
    have hg : t[k] = x := (List.getElem?_eq_some_iff.1 hx).2
    rw [hg] at this; exact this.symm
  have e2 : t.set k y = t.take k ++ y :: t.drop (k + 1) := by
    conv => lhs; rw [e1]
    rw [List.set_append_right _ _ (by simp; omega)]
    have : k - (t.take k).length = 0 := by simp; omega
    rw [this]; rfl
  intro h
  unfold ofB on crcB at h
  have h2 := xor_cancel_right h
  rw [e2] at h2
  conv at h2 => rhs; rw [e1]
  rw [List.map_append, List.map_append, List.map_cons, List.map_cons] at h2
  exact crc_turned (by decide) (by simp only [List.mem_map]; rintro z ⟨b, _, rfl⟩; exact b.toNat_lt) (by simp only [List.mem_map]; rintro z ⟨b, _, rfl⟩; exact b.toNat_lt) y.toNat_lt x.toNat_lt (toNat_ne (Ne.symm hne)) h2

/-- ONE TURNED BYTE IS FOUND. -/
theorem open_turned (e : Nat) (b : List UInt8) (k : Nat) (x y : UInt8) (hb : b.length < 4294967296) (hk : 4 ≤ k) (hx : (sealB e b)[k]? = some x) (hne : x ≠ y) : (openB e ((sealB e b).set k y)).2.2 = 11 := by
  unfold sealB at hx ⊢
  obtain ⟨a0, a1, a2, a3, ha, hv⟩ := word_shape (b.length % 4294967296)
  obtain ⟨s0, s1, s2, s3, hs, hw⟩ := word_shape (ofB (tailB e b))
  have hv' := hv (by omega)
  have hw' := hw (ofB_lt _)
  have htl : (tailB e b).length = b.length + 4 := by unfold tailB word; simp
  rw [ha, hs] at hx ⊢
  generalize tailB e b = t at *
  simp only [List.cons_append, List.nil_append] at hx ⊢
  have fin : ∀ L : List UInt8, L.length = b.length + 12 → get4 L 0 = b.length → get4 L 4 ≠ ofB (L.drop 8) → (openB e L).2.2 = 11 := by
    intro L h1 h2 h3
    have hm : midB L = L.drop 8 := by unfold midB; rw [h2, List.take_of_length_le (by simp; omega)]
    unfold openB
    rw [if_neg (by omega), if_neg (by omega), if_neg (by rw [hm]; exact h3)]
  have hbm : b.length % 4294967296 = b.length := by omega
  rw [hbm] at hv'
  match k, hk with
  | 4, _ =>
    simp only [List.getElem?_cons_succ, List.getElem?_cons_zero, Option.some.injEq] at hx
    subst hx
    refine fin _ (by simp; omega) (by simp [List.set, get4_cons]; exact hv') ?_
    simp only [List.set, get4_four, List.drop_succ_cons, List.drop_zero]
    have := toNat_ne hne; omega
  | 5, _ =>
    simp only [List.getElem?_cons_succ, List.getElem?_cons_zero, Option.some.injEq] at hx
    subst hx
    refine fin _ (by simp; omega) (by simp [List.set, get4_cons]; exact hv') ?_
    simp only [List.set, get4_four, List.drop_succ_cons, List.drop_zero]
    have := toNat_ne hne; omega
  | 6, _ =>
    simp only [List.getElem?_cons_succ, List.getElem?_cons_zero, Option.some.injEq] at hx
    subst hx
    refine fin _ (by simp; omega) (by simp [List.set, get4_cons]; exact hv') ?_
    simp only [List.set, get4_four, List.drop_succ_cons, List.drop_zero]
    have := toNat_ne hne; omega
  | 7, _ =>
    simp only [List.getElem?_cons_succ, List.getElem?_cons_zero, Option.some.injEq] at hx
    subst hx
    refine fin _ (by simp; omega) (by simp [List.set, get4_cons]; exact hv') ?_
    simp only [List.set, get4_four, List.drop_succ_cons, List.drop_zero]
    have := toNat_ne hne; omega
  | j + 8, _ =>
    simp only [List.getElem?_cons_succ] at hx
    refine fin _ (by simp; omega) (by simp [List.set, get4_cons]; exact hv') ?_
    simp only [List.set, get4_four, List.drop_succ_cons, List.drop_zero]
    have := ofB_turned t j x y hx hne
    omega
end Go.Proofs.Ytafohemmjhjgbaa.Sum
