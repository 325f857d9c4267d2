/-
  A law's arguments: a slice of whole numbers that came in, as a list; its size.
-/
import Derived.Test.YtbkjkiaicaopoaaSlice
import Derived.SizedLaws
import Derived.ChangeSlices
import Derived.WideShapes
import Derived.SliceStrings
namespace Go.Proofs.Ytbkjkiaicaopoaa
open Go.RowKit Go.ChangeShapes Go.WideShapes

theorem arg_ints {H : Type} {enc : TypeId × Value → H} {P : Program} {W : World} {r : Reach} {b0 base : Nat} {spare : Nat → Bool} {held : Bool} {t e : TypeId} {k : IntKind} {v : Value} {d : DataW H} {ps : List MemPlace} {ts : List TypeId} {ds : List (DataW H)} {j : Nat}
    (hsz : (DataW.weightsEach P ts ds).all (· ≤ reachBytes) = true) (ht : ts[j]? = some t) (hd : ds[j]? = some d) (hu : P.underlying t = some (.slice e)) (he : P.underlying e = some (.int k)) (hc : P.cellsOf e = 1) {B : Nat} (hB : P.bytesOf e = B)
    (hv : Value.okWide P W r b0 t v) (h : DataW.Trod enc P W base spare held t v d ps) :
    ∃ (A : Option Addr) (c : Nat) (l : List Int), v = .slice A l.length c ∧ l.length ≤ c ∧ Sl (Value.int k) W A l ∧ (∀ n ∈ l, (Lit.int k n).wf = true) ∧ l.length * B ≤ 140737488351232 := by
  obtain ⟨a, len, cap, rfl⟩ := okWide_slice hu hv
  obtain ⟨fuel, hf⟩ := h
  rcases open_ints hu he hc hf with ⟨hcs, _⟩ | ⟨x, l, c, zs, hcs, _, hl, _, hz, hx, hcell, hwf⟩
  · simp [Value.cells] at hcs
    obtain ⟨rfl, rfl, rfl⟩ := hcs
    exact ⟨none, 0, [], rfl, Nat.le_refl _, fun h => absurd h (by simp), by simp, by simp⟩
  · simp [Value.cells] at hcs
    obtain ⟨rfl, rfl, rfl⟩ := hcs
    obtain ⟨hx, _⟩ := Prod.mk.inj hx
    subst hx
    have z := sized_slice hsz ht hd hu
    rw [hB] at z
    have hl2 : len ≤ zs.length := by
      rw [hz]
      split
      · exact hl
      · exact Nat.le_refl _
    have h1 : (lits (H := H) k (zs.take len)).length + (lits (H := H) k (zs.drop len)).length = zs.length := by
      simp [lits]
      omega
    rw [h1] at z
    have hlen : (zs.take len).length = len := by simp; omega
    refine ⟨some x, cap, zs.take len, by rw [hlen], by rw [hlen]; exact hl, ?_, fun n hn => hwf n (List.mem_of_mem_take hn), by rw [hlen]; exact Nat.le_trans (Nat.mul_le_mul_right _ hl2) z⟩
    intro h0
    rw [hlen] at h0
    have hc0 := hcell 0 (by omega)
    have e0 : x.add 0 = x := by unfold Addr.add; simp
    rw [e0] at hc0
    have hlt := World.block_lt_of_cell? W _ hc0
    obtain ⟨xb, xo, xs⟩ := x
    have hs : xs = none := by
      cases xs with
      | none => rfl
      | some q => simp only [World.cell?] at hc0; split at hc0 <;> simp at hc0
    subst hs
    refine ⟨xb, xo, rfl, hlt, fun i n hi => ?_⟩
    have hi' : i < len := by have := (List.getElem?_eq_some_iff.1 hi).1; omega
    have hci := hcell i (by omega)
    have hg : zs.getD i 0 = n := by
      have : zs[i]? = some n := by rw [← hi, List.getElem?_take, if_pos hi']
      rw [List.getD_eq_getElem?_getD, this]; rfl
    rw [hg] at hci
    have ea : (⟨xb, xo, none⟩ : Addr).add i = ⟨xb, xo + i, none⟩ := by unfold Addr.add; by_cases h : i = 0 <;> simp [h]
    rwa [ea] at hci

theorem arg_strs {H : Type} {enc : TypeId × Value → H} {P : Program} {W : World} {r : Reach} {b0 base : Nat} {spare : Nat → Bool} {held : Bool} {t e : TypeId} {v : Value} {d : DataW H} {ps : List MemPlace} {ts : List TypeId} {ds : List (DataW H)} {j : Nat}
    (hsz : (DataW.weightsEach P ts ds).all (· ≤ reachBytes) = true) (ht : ts[j]? = some t) (hd : ds[j]? = some d) (hu : P.underlying t = some (.slice e)) (he : P.underlying e = some .string) (hc : P.cellsOf e = 1) (hB : P.bytesOf e = 16)
    (hv : Value.okWide P W r b0 t v) (h : DataW.Trod enc P W base spare held t v d ps) :
    ∃ (A : Option Addr) (c : Nat) (l : List ByteArray), v = .slice A l.length c ∧ l.length ≤ c ∧ Sl Value.string W A l ∧ (∀ s ∈ l, s.size ≤ maxLen) ∧ l.length * 16 ≤ 140737488351232 := by
  obtain ⟨a, len, cap, rfl⟩ := okWide_slice hu hv
  obtain ⟨fuel, hf⟩ := h
  rcases open_strings hu he hc hf with ⟨hcs, _⟩ | ⟨x, l, c, zs, hcs, _, hl, _, hz, hx, hcell, hwf⟩
  · simp [Value.cells] at hcs
    obtain ⟨rfl, rfl, rfl⟩ := hcs
    exact ⟨none, 0, [], rfl, Nat.le_refl _, fun h => absurd h (by simp), by simp, by simp⟩
  · simp [Value.cells] at hcs
    obtain ⟨rfl, rfl, rfl⟩ := hcs
    obtain ⟨hx, _⟩ := Prod.mk.inj hx
    subst hx
    have z := sized_slice hsz ht hd hu
    rw [hB] at z
    have hl2 : len ≤ zs.length := by
      rw [hz]
      split
      · exact hl
      · exact Nat.le_refl _
    have h1 : (strs (H := H) (zs.take len)).length + (strs (H := H) (zs.drop len)).length = zs.length := by
      simp [strs]
      omega
    rw [h1] at z
    have hlen : (zs.take len).length = len := by simp; omega
    refine ⟨some x, cap, zs.take len, by rw [hlen], by rw [hlen]; exact hl, ?_, fun n hn => hwf n (List.mem_of_mem_take hn), by rw [hlen]; exact Nat.le_trans (Nat.mul_le_mul_right _ hl2) z⟩
    intro h0
    rw [hlen] at h0
    have hc0 := hcell 0 (by omega)
    have e0 : x.add 0 = x := by unfold Addr.add; simp
    rw [e0] at hc0
    have hlt := World.block_lt_of_cell? W _ hc0
    obtain ⟨xb, xo, xs⟩ := x
    have hs : xs = none := by
      cases xs with
      | none => rfl
      | some q => simp only [World.cell?] at hc0; split at hc0 <;> simp at hc0
    subst hs
    refine ⟨xb, xo, rfl, hlt, fun i n hi => ?_⟩
    have hi' : i < len := by have := (List.getElem?_eq_some_iff.1 hi).1; omega
    have hci := hcell i (by omega)
    have hg : zs.getD i ByteArray.empty = n := by
      have : zs[i]? = some n := by rw [← hi, List.getElem?_take, if_pos hi']
      rw [List.getD_eq_getElem?_getD, this]; rfl
    rw [hg] at hci
    have ea : (⟨xb, xo, none⟩ : Addr).add i = ⟨xb, xo + i, none⟩ := by unfold Addr.add; by_cases h : i = 0 <;> simp [h]
    rwa [ea] at hci

theorem bytes_of {W : World} {A : Option Addr} {l : List Int} (h : Sl (Value.int .u8) W A l) (hw : ∀ n ∈ l, (Lit.int .u8 n).wf = true) :
    ∃ l8 : List UInt8, l8.length = l.length ∧ Sl B8 W A l8 := by
  refine ⟨l.map fun n => UInt8.ofNat n.toNat, by simp, fun h0 => ?_⟩
  rw [List.length_map] at h0
  obtain ⟨b, o, rfl, hb, hc⟩ := h h0
  refine ⟨b, o, rfl, hb, fun i x hi => ?_⟩
  rw [List.getElem?_map] at hi
  cases e : l[i]? with
  | none => rw [e] at hi; simp at hi
  | some n =>
    rw [e] at hi
    simp only [Option.map_some, Option.some.injEq] at hi
    have hn := hw n (List.mem_of_getElem? e)
    have hr : 0 ≤ n ∧ n ≤ 255 := by simpa [Lit.wf, IntKind.min, IntKind.max, IntKind.signed, IntKind.bits] using hn
    have hx : ((x.toNat : Nat) : Int) = n := by rw [← hi, UInt8.toNat_ofNat_of_lt' (by have : UInt8.size = 256 := rfl; omega)]; omega
    have := hc i n e
    unfold B8
    rw [hx]; exact this

theorem arg_bytes {H : Type} {enc : TypeId × Value → H} {P : Program} {W : World} {r : Reach} {b0 base : Nat} {spare : Nat → Bool} {held : Bool} {t e : TypeId} {v : Value} {d : DataW H} {ps : List MemPlace} {ts : List TypeId} {ds : List (DataW H)} {j : Nat}
    (hsz : (DataW.weightsEach P ts ds).all (· ≤ reachBytes) = true) (ht : ts[j]? = some t) (hd : ds[j]? = some d) (hu : P.underlying t = some (.slice e)) (he : P.underlying e = some (.int .u8)) (hc : P.cellsOf e = 1) (hB : P.bytesOf e = 1)
    (hv : Value.okWide P W r b0 t v) (h : DataW.Trod enc P W base spare held t v d ps) :
    ∃ (A : Option Addr) (c : Nat) (l : List UInt8), v = .slice A l.length c ∧ l.length ≤ c ∧ Sl B8 W A l ∧ l.length ≤ 140737488351232 := by
  obtain ⟨A, c, l, rfl, hc, hs, hw, hz⟩ := arg_ints hsz ht hd hu he hc hB hv h
  obtain ⟨l8, e8, h8⟩ := bytes_of hs hw
  exact ⟨A, c, l8, by rw [e8], by rw [e8]; exact hc, h8, by rw [e8]; omega⟩
end Go.Proofs.Ytbkjkiaicaopoaa
