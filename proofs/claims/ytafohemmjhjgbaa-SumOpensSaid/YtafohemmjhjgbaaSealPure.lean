/-
  Records, in plain lists: a list's front is the record of its body just when its sum and its epoch fit.
-/
import Derived.Test.YtafohemmjhjgbaaSealLaw
namespace Go.Proofs.Ytafohemmjhjgbaa.Sum
open Go.RowKit Go.Proofs.Ytafohemmjhjgbaa Go.Proofs.Ytafohemmjhjgbaa.Crc

theorem byte_eq (x : UInt8) (n : Nat) (h : x.toNat = n) : UInt8.ofNat n = x := by subst h; exact UInt8.ofNat_toNat

theorem word_get4 (l : List UInt8) (k : Nat) (h : k + 4 ≤ l.length) : (l.drop k).take 4 = word (get4 l k) := by
  obtain ⟨x0, h0⟩ : ∃ x, l[k]? = some x := ⟨_, List.getElem?_eq_getElem (by omega)⟩
  obtain ⟨x1, h1⟩ : ∃ x, l[k + 1]? = some x := ⟨_, List.getElem?_eq_getElem (by omega)⟩
  obtain ⟨x2, h2⟩ : ∃ x, l[k + 2]? = some x := ⟨_, List.getElem?_eq_getElem (by omega)⟩
  obtain ⟨x3, h3⟩ : ∃ x, l[k + 3]? = some x := ⟨_, List.getElem?_eq_getElem (by omega)⟩
  have e0 : l.drop k = x0 :: x1 :: x2 :: x3 :: l.drop (k + 4) := by
    have g0 := (List.getElem?_eq_some_iff.1 h0).2
    have g1 := (List.getElem?_eq_some_iff.1 h1).2
    have g2 := (List.getElem?_eq_some_iff.1 h2).2
    have g3 := (List.getElem?_eq_some_iff.1 h3).2
    rw [List.drop_eq_getElem_cons (by omega), List.drop_eq_getElem_cons (by omega), List.drop_eq_getElem_cons (by omega), List.drop_eq_getElem_cons (by omega), g0, g1, g2, g3]
  rw [e0]
  unfold get4
  rw [h0, h1, h2, h3]
  simp only [Option.getD_some, List.take_succ_cons, List.take_zero]
  have b0 := x0.toNat_lt
  have b1 := x1.toNat_lt
  have b2 := x2.toNat_lt
  have b3 := x3.toNat_lt
  unfold word
  rw [byte_eq x0 _ (by omega), byte_eq x1 _ (by omega), byte_eq x2 _ (by omega), byte_eq x3 _ (by omega)]

theorem word_inj {a b : Nat} (ha : a < 4294967296) (hb : b < 4294967296) (h : word a = word b) : a = b := by
  obtain ⟨a0, a1, a2, a3, e1, v1⟩ := word_shape a
  obtain ⟨b0, b1, b2, b3, e2, v2⟩ := word_shape b
  rw [e1, e2] at h
  simp only [List.cons.injEq, and_true] at h
  obtain ⟨rfl, rfl, rfl, rfl⟩ := h
  have := v1 ha
  have := v2 hb
  omega

theorem front_eq (l : List UInt8) (h : get4 l 0 + 12 ≤ l.length) : midB l = word (get4 l 8) ++ bodyB l ∧ l.take (get4 l 0 + 12) = word (get4 l 0) ++ word (get4 l 4) ++ midB l := by
  have w0 := word_get4 l 0 (by omega)
  have w4 := word_get4 l 4 (by omega)
  have w8 := word_get4 l 8 (by omega)
  have hm : midB l = word (get4 l 8) ++ bodyB l := by
    unfold midB bodyB
    rw [← w8, Nat.add_comm (get4 l 0) 4, List.take_add, List.drop_drop]
  refine ⟨hm, ?_⟩
  rw [show get4 l 0 + 12 = 4 + (4 + (get4 l 0 + 4)) from by omega, List.take_add, List.take_add, ← w0, ← w4, List.drop_zero, List.drop_drop, List.append_assoc]
  rfl

theorem front_iff (e : Nat) (l : List UInt8) (he : e < 4294967296) (h : get4 l 0 + 12 ≤ l.length) : sealB e (bodyB l) = l.take (get4 l 0 + 12) ↔ (get4 l 4 = ofB (midB l) ∧ get4 l 8 = e) := by
  obtain ⟨hm, hf⟩ := front_eq l h
  have hb : (bodyB l).length = get4 l 0 := by unfold bodyB; simp; omega
  have hg := get4_lt l 0
  rw [hf]
  unfold sealB tailB
  rw [hb, Nat.mod_eq_of_lt hg, hm, List.append_assoc, List.append_assoc]
  constructor
  · intro h1
    have h2 := List.append_cancel_left h1
    have h3 := List.append_inj h2 (by simp [word])
    have h4 := List.append_inj h3.2 (by simp [word])
    have e8 := word_inj he (get4_lt l 8) h4.1
    have e4 := word_inj (ofB_lt _) (get4_lt l 4) h3.1
    rw [e8] at e4
    exact ⟨e4.symm, e8.symm⟩
  · rintro ⟨h4, h8⟩
    rw [h8] at h4 ⊢
    rw [h4]

theorem open_fits (e : Nat) (l : List UInt8) (he : e < 4294967296) (h : get4 l 0 + 12 ≤ l.length) (hs : sealB e (bodyB l) = l.take (get4 l 0 + 12)) : openB e l = (bodyB l, 12 + get4 l 0, 0) := by
  obtain ⟨h4, h8⟩ := (front_iff e l he h).1 hs
  unfold openB
  rw [if_neg (by omega), if_neg (by omega), if_pos h4, if_pos h8]

theorem open_else (e : Nat) (l : List UInt8) (he : e < 4294967296) (h : get4 l 0 + 12 ≤ l.length) (hs : sealB e (bodyB l) ≠ l.take (get4 l 0 + 12)) : openB e l = ([], 0, 11) := by
  have hn : ¬ (get4 l 4 = ofB (midB l) ∧ get4 l 8 = e) := fun x => hs ((front_iff e l he h).2 x)
  unfold openB
  rw [if_neg (by omega), if_neg (by omega)]
  by_cases h4 : get4 l 4 = ofB (midB l)
  · rw [if_pos h4, if_neg (fun h8 => hn ⟨h4, h8⟩)]
  · rw [if_neg h4]

theorem sealB_length {e g : Nat} {b : List UInt8} (h : b.length = g) : (sealB e b).length = g + 12 := by unfold sealB tailB word; simp; omega
theorem fits_at {e g : Nat} {l : List UInt8} (he : e < 4294967296) (hg : get4 l 0 = g) (h : g + 12 ≤ l.length) (hs : sealB e (bodyB l) = l.take (g + 12)) : openB e l = (bodyB l, 12 + g, 0) := by
  subst hg; exact open_fits e l he h hs
theorem else_at {e g : Nat} {l : List UInt8} (he : e < 4294967296) (hg : get4 l 0 = g) (h : g + 12 ≤ l.length) (hs : sealB e (bodyB l) ≠ l.take (g + 12)) : openB e l = ([], 0, 11) := by
  subst hg; exact open_else e l he h hs

theorem sealB_parts (e : Nat) (b t : List UInt8) (hb : b.length < 4294967296) : get4 (sealB e b ++ t) 0 = b.length ∧ bodyB (sealB e b ++ t) = b ∧ (sealB e b ++ t).take (b.length + 12) = sealB e b ∧ b.length + 12 ≤ (sealB e b ++ t).length := by
  have hl : (sealB e b).length = b.length + 12 := by unfold sealB tailB word; simp
  have hg : get4 (sealB e b ++ t) 0 = b.length := by
    unfold sealB
    obtain ⟨a0, a1, a2, a3, ha, hv⟩ := word_shape (b.length % 4294967296)
    rw [ha]
    simp only [List.cons_append, List.nil_append]
    rw [get4_cons, hv (by omega), Nat.mod_eq_of_lt hb]
  refine ⟨hg, ?_, ?_, by rw [List.length_append, hl]; omega⟩
  · unfold bodyB
    rw [hg]
    have : (sealB e b ++ t).drop 12 = b ++ t := by
      unfold sealB tailB word
      simp
    rw [this, List.take_left]
  · rw [← hl, List.take_left]

theorem open_sealed (e : Nat) (b t : List UInt8) (he : e < 4294967296) (hb : b.length < 4294967296) : openB e (sealB e b ++ t) = (b, b.length + 12, 0) := by
  obtain ⟨hg, hx, ht, hl⟩ := sealB_parts e b t hb
  have := open_fits e (sealB e b ++ t) he (by rw [hg]; exact hl) (by rw [hg, hx, ht])
  rw [this, hx, hg, Nat.add_comm]

theorem open_other (e o : Nat) (b : List UInt8) (he : e < 4294967296) (ho : o < 4294967296) (hb : b.length < 4294967296) (hne : o ≠ e) : (openB o (sealB e b)).2.2 = 11 := by
  obtain ⟨hg, hx, ht, hl⟩ := sealB_parts e b [] hb
  rw [List.append_nil] at hg hx ht hl
  rw [open_else o (sealB e b) ho (by rw [hg]; exact hl)]
  rw [hg, hx, ht]
  unfold sealB tailB
  intro h
  have h2 := List.append_inj h (by simp [word])
  have h3 := List.append_inj h2.2 (by simp [word])
  exact hne (word_inj ho he h3.1)

theorem take_snoc_eq {l m : List UInt8} {k : Nat} {x y : UInt8} (h : l.take k = m.take k) (hx : l[k]? = some x) (hy : m[k]? = some y) (he : x = y) : l.take (k + 1) = m.take (k + 1) := by
  subst he
  rw [List.take_add_one, List.take_add_one, hx, hy, h]
theorem ne_at {l m : List UInt8} {k n : Nat} {x y : UInt8} (hx : l[k]? = some x) (hy : m[k]? = some y) (hk : k < n) (hne : x ≠ y) : l ≠ m.take n := by
  intro h
  have := congrArg (fun q => q[k]?) h
  simp only [List.getElem?_take, if_pos hk, hx, hy, Option.some.injEq] at this
  exact hne this
end Go.Proofs.Ytafohemmjhjgbaa.Sum
