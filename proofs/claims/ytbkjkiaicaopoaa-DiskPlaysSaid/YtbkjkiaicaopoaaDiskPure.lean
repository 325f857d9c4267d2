/-
  What is kept at a crash: plain lists.
-/
import Derived.Test.YtbkjkiaicaopoaaDiskRead
namespace Go.Proofs.Ytbkjkiaicaopoaa.Dk
open Go.RowKit Go.Proofs.Ytbkjkiaicaopoaa

theorem keepL_len (p : Nat) : ∀ (ws : List (Nat × List UInt8)) (k : Nat) (last : List (List UInt8)), (keepL p k last ws).length = last.length
  | [], _, _ => rfl
  | x :: ws, k, last => by
    show (keepL p (k + 1) _ ws).length = _
    rw [keepL_len p ws]
    split
    · rw [List.length_set]
    · rfl
theorem keepL_none (p i : Nat) : ∀ (ws : List (Nat × List UInt8)) (k : Nat) (last : List (List UInt8)), (∀ x ∈ ws, x.1 ≠ i) → (keepL p k last ws)[i]? = last[i]?
  | [], _, _, _ => rfl
  | x :: ws, k, last, h => by
    show (keepL p (k + 1) _ ws)[i]? = _
    rw [keepL_none p i ws _ _ (fun y hy => h y (List.mem_cons_of_mem _ hy))]
    split
    · rw [List.getElem?_set_ne (h x (by simp))]
    · rfl
theorem bit_zero (k : Nat) : bit 0 k = false := by unfold bit; rw [Nat.zero_div]; rfl
theorem keepL_zero : ∀ (ws : List (Nat × List UInt8)) (k : Nat) (last : List (List UInt8)), keepL 0 k last ws = last
  | [], _, _ => rfl
  | x :: ws, k, last => by
    show keepL 0 (k + 1) (if bit 0 k = true then _ else last) ws = last
    rw [bit_zero, if_neg (by simp), keepL_zero ws]
theorem bit_ones (k : Nat) : bit 18446744073709551615 k = true := by
  unfold bit
  have h : k % 64 < 64 := Nat.mod_lt _ (by decide)
  generalize k % 64 = j at h
  have : ∀ j : Fin 64, (18446744073709551615 / 2 ^ j.val % 2 == 1) = true := by decide +kernel
  exact this ⟨j, h⟩
theorem keepL_ones (i : Nat) : ∀ (ws : List (Nat × List UInt8)) (k : Nat) (last : List (List UInt8)), i < last.length → (keepL 18446744073709551615 k last ws)[i]? = some (((ws.reverse.find? (fun x => x.1 == i)).map (·.2)).getD (last.getD i []))
  | [], _, last, h => by
    show last[i]? = _
    simp [List.getD_eq_getElem?_getD, List.getElem?_eq_getElem h]
  | x :: ws, k, last, h => by
    show (keepL 18446744073709551615 (k + 1) (if bit 18446744073709551615 k = true then last.set x.1 x.2 else last) ws)[i]? = _
    rw [bit_ones, if_pos rfl, keepL_ones i ws _ _ (by rw [List.length_set]; exact h), List.reverse_cons, List.find?_append]
    cases hf : ws.reverse.find? (fun x => x.1 == i) with
    | some y => rfl
    | none =>
      by_cases hx : x.1 = i
      · subst hx
        simp [List.getD_eq_getElem?_getD, List.getElem?_set_self h]
      · have hb : (x.1 == i) = false := by simpa using hx
        simp [hb, List.getD_eq_getElem?_getD, List.getElem?_set_ne hx]
theorem write_ok {d : DiskSt} (h : d.ok) (i : Int) (b : List UInt8) : (d.write i b).2.ok := by
  unfold DiskSt.write
  split
  · exact h
  · split
    · exact h
    · rename_i h1 h2
      split
      · rename_i h3
        have : d.deed.2.last = d.last ∧ d.deed.2.waits = d.waits ∧ d.deed.2.size = d.size := by unfold DiskSt.deed; rw [if_pos h3]; exact ⟨rfl, rfl, rfl⟩
        unfold DiskSt.ok
        rw [this.1, this.2.1, this.2.2]
        exact h
      · rename_i h3
        have : d.deed.2.last = d.last ∧ d.deed.2.size = d.size := by unfold DiskSt.deed; rw [if_neg h3]; exact ⟨rfl, rfl⟩
        have hn : ¬ (¬ (0 ≤ i ∧ i < (d.last.length : Int))) ∧ ¬ d.size < b.length := ⟨fun hh => h2 (.inl hh), fun hh => h2 (.inr hh)⟩
        have hi : 0 ≤ i ∧ i < (d.last.length : Int) := Classical.not_not.1 hn.1
        unfold DiskSt.ok
        dsimp only
        rw [this.1, this.2]
        refine ⟨fun x hx => ?_, h.2⟩
        rcases List.mem_append.1 hx with hx | hx
        · exact h.1 x hx
        · simp at hx
          subst hx
          refine ⟨by dsimp only; omega, ?_⟩
          dsimp only [pad]
          rw [List.length_append, List.length_replicate]
          omega
/-! What is seen behind a flush, and behind a crash. -/
theorem look_none {i : Nat} {ws : List (Nat × List UInt8)} (h : ∀ x ∈ ws, x.1 ≠ i) : look i ws = none := by
  unfold look
  rw [List.find?_eq_none.2]
  · rfl
  · intro x hx
    have := h x (List.mem_reverse.1 hx)
    simpa using this
theorem getD_of {l l' : List (List UInt8)} {i : Nat} (h : l[i]? = l'[i]?) : l.getD i [] = l'.getD i [] := by
  rw [List.getD_eq_getElem?_getD, List.getD_eq_getElem?_getD, h]
theorem keep_last_len (d : DiskSt) (p : Nat) : (d.keep p).last.length = d.last.length := keepL_len p _ _ _
theorem sector_nowaits {d : DiskSt} (h : d.waits = []) (i : Nat) : d.sector i = d.last.getD i [] := by
  unfold DiskSt.sector
  rw [h]; rfl
theorem keep_sector (d : DiskSt) (p i : Nat) : (d.keep p).sector i = (keepL p 0 d.last d.waits).getD i [] := sector_nowaits rfl i
theorem keep_ones {d : DiskSt} {i : Nat} (hi : i < d.last.length) : (d.keep ones).sector i = d.sector i := by
  rw [keep_sector, List.getD_eq_getElem?_getD]
  unfold ones
  rw [keepL_ones i d.waits 0 d.last hi]
  rfl
theorem keep_zero (d : DiskSt) (i : Nat) : (d.keep 0).sector i = d.last.getD i [] := by
  rw [keep_sector, keepL_zero]
theorem keep_else {d : DiskSt} {p i : Nat} (h : ∀ x ∈ d.waits, x.1 ≠ i) : (d.keep p).sector i = d.last.getD i [] := by
  rw [keep_sector]
  exact getD_of (keepL_none p i _ _ _ h)
theorem crash_sector (d : DiskSt) (p i : Nat) : (d.crash p).sector i = (d.keep p).sector i := rfl
theorem keep_ok {d : DiskSt} (h : d.ok) (p : Nat) : (d.keep p).ok := by
  have : ∀ (ws : List (Nat × List UInt8)) (k : Nat) (last : List (List UInt8)), (∀ x ∈ ws, x.2.length = d.size) → (∀ x ∈ last, x.length = d.size) → ∀ x ∈ keepL p k last ws, x.length = d.size := by
    intro ws
    induction ws with
    | nil => exact fun _ _ _ h => h
    | cons y ws ih =>
      intro k last h1 h2
      refine ih (k + 1) _ (fun x hx => h1 x (List.mem_cons_of_mem _ hx)) ?_
      intro x hx
      split at hx
      · rcases List.mem_or_eq_of_mem_set hx with hx | rfl
        · exact h2 x hx
        · exact h1 y (by simp)
      · exact h2 x hx
  exact ⟨(by intro x hx; cases hx), this d.waits 0 d.last (fun x hx => (h.1 x hx).2) h.2⟩
theorem deed_ok {d : DiskSt} (h : d.ok) : d.deed.2.ok := by
  unfold DiskSt.deed
  split <;> exact h
theorem flush_ok {d : DiskSt} (h : d.ok) : d.flush.2.ok := by
  unfold DiskSt.flush
  split
  · exact h
  · split
    · exact deed_ok h
    · exact keep_ok (deed_ok h) _
theorem crash_ok {d : DiskSt} (h : d.ok) (p : Nat) : (d.crash p).ok := keep_ok h p
end Go.Proofs.Ytbkjkiaicaopoaa.Dk
