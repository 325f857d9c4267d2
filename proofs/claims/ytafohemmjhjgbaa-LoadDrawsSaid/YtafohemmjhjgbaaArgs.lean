/-
  A law's arguments: a slice of whole numbers that came in, as a list; its size.
-/
import Derived.Test.YtafohemmjhjgbaaSlice
import Derived.SizedLaws
import Derived.ChangeSlices
import Derived.WideShapes
import Derived.SliceStrings
namespace Go.Proofs.Ytafohemmjhjgbaa
open Go.RowKit Go.ChangeShapes Go.WideShapes

theorem arg_ints {H : Type} {enc : TypeId × Value → H} {P : Program} {W : World} {r : Reach} {b0 base : Nat} {spare : Nat → Bool} {held : Bool} {t e : TypeId} {k : IntKind} {v : Value} {d : DataW H} {ps : List MemPlace} {ts : List TypeId} {ds : List (DataW H)} {j : Nat}
    (hsz : (DataW.weightsEach P ts ds).all (· ≤ reachBytes) = true) (ht : ts[j]? = some t) (hd : ds[j]? = some d) (hu : P.underlying t = some (.slice e)) (he : P.underlying e = some (.int k)) (hc : P.cellsOf e = 1) {B : Nat} (hB : P.bytesOf e = B)
    (hv : Value.okWide P W r b0 t v) (h : DataW.Trod enc P W base spare held t v d ps) :
    ∃ (A : Option Addr) (c : Nat) (l : List Int), v = .slice A l.length c ∧ l.length ≤ c ∧ Sl (Value.int k) W A l ∧ (∀ n ∈ l, (Lit.int k n).wf = true) ∧ l.length * B ≤ 140737488351232 := by
  obtain ⟨a, len, cap, rfl⟩ := okWide_slice hu hv
  obtain ⟨fuel, hf⟩ := h
  rcases open_ints hu he hc hf with ⟨hcs, _⟩ | ⟨x, l, c, zs, hcs, _, hl, _, hz, hx, hcell, hwf⟩
  · simp [Value.cells] at hcs
    obtain ⟨rfl, rfl, rfl⟩ := hcs
    exact ⟨none, 0, [], rfl, Nat.le_refl _, fun h => absurd h (by simp), by simp, by simp⟩
  · simp [Value.cells] at hcs
    obtain ⟨rfl, rfl, rfl⟩ := hcs
    obtain ⟨hx, _⟩ := Prod.mk.inj hx
    subst hx
    have z := sized_slice hsz ht hd hu
    rw [hB] at z
    have hl2 : len ≤ zs.length := by
      rw [hz]
      split
      · exact hl
      · exact Nat.le_refl _
    have h1 : (lits (H := H) k (zs.take len)).length + (lits (H := H) k (zs.drop len)).length = zs.length := by
      simp [lits]
      omega
    rw [h1] at z
    have hlen : (zs.take len).length = len := by simp; omega
    refine ⟨some x, cap, zs.take len, by rw [hlen], by rw [hlen]; exact hl, ?_, fun n hn => hwf n (List.mem_of_mem_take hn), by rw [hlen]; exact Nat.le_trans (Nat.mul_le_mul_right _ hl2) z⟩
    intro h0
    rw [hlen] at h0
    have hc0 := hcell 0 (by omega)
    have e0 : x.add 0 = x := by unfold Addr.add; simp
    rw [e0] at hc0
    have hlt := World.block_lt_of_cell? W _ hc0
    obtain ⟨xb, xo, xs⟩ := x
    have hs : xs = none := by
      cases xs with
      | none => rfl
      | some q => simp only [World.cell?] at hc0; split at hc0 <;> simp at hc0
    subst hs
    refine ⟨xb, xo, rfl, hlt, fun i n hi => ?_⟩
    have hi' : i < len := by have := (List.getElem?_eq_some_iff.1 hi).1; omega
    have hci := hcell i (by omega)
    have hg : zs.getD i 0 = n := by
      have : zs[i]? = some n := by rw [← hi, List.getElem?_take, if_pos hi']
      rw [List.getD_eq_getElem?_getD, this]; rfl
    rw [hg] at hci
    have ea : (⟨xb, xo, none⟩ : Addr).add i = ⟨xb, xo + i, none⟩ := by unfold Addr.add; by_cases h : i = 0 <;> simp [h]
    rwa [ea] at hci
end Go.Proofs.Ytafohemmjhjgbaa
