/-
  Rows of the call's own, written into; make and copy of bytes.
-/
import Derived.Test.YtbkjkiaicaopoaaBag
import Derived.Laws.CopyRow
import Derived.Laws.OwnMore
namespace Go.Proofs.Ytbkjkiaicaopoaa
open Go.RowKit

theorem sat.setRow {E w : World} {g : Nat} {cs : Array Value} {t : TypeId} {L : List HP} (H : sat E w (blk g cs t :: L)) (ds : Array Value) : sat E (w.setRow g ds) (blk g ds t :: L) := by
  have hb : w.heap[g]? = some (.cells cs t (0, 0)) := H.Blk
  refine H.turn rfl rfl rfl (by simp [World.setRow]) fun h1 w1 hA => ⟨fun k => if k = g then some (.cells ds t (0, 0)) else none, ?_, ?_, ?_, ?_⟩
  · intro k o e
    dsimp only at e
    split at e
    · subst k
      cases e
      exact setRow_heap w g cs ds t (0, 0) hb
    · cases e
  · show (if g = g then _ else _) = _; rw [if_pos rfl]
  · intro k o hk e
    dsimp only at e
    split at e
    · subst k; exact ⟨_, hA⟩
    · cases e
  · intro k hk e
    have hne : k ≠ g := by rintro rfl; rw [hA] at e; cases e
    simp only [World.setRow, Array.getElem?_modify]
    rw [if_neg (fun h => hne h.symm)]
section
variable {E w : World} {L : List HP} {e : TypeId} {sz n c : Nat} {A : Option Addr} {xs : List Value}
/-- A row's own block. -/
theorem sat.rowBlk (H : sat E w (row e sz (.slice A n c) n xs :: L)) (h0 : 0 < n) : ∃ g cur, A = some ⟨g, 0, none⟩ ∧ n ≤ c ∧ c ≤ maxLen ∧ cur.size = c * sz ∧ cur.toList.take (n * sz) = xs ∧ sat E w (blk g cur e :: L) := by
  obtain ⟨o, t, p, s, h1, h2, ha, w1, w2, ⟨hl, hA⟩, hL⟩ := H
  rcases hA with ⟨_, hn⟩ | ⟨g, cap, cur, hv, hg, hc, hm, hs, ht⟩
  · omega
  · simp only [Value.slice.injEq] at hv
    obtain ⟨rfl, -, rfl⟩ := hv
    exact ⟨g, cur, rfl, hc, hm, hs, ht, o, t, p, s, h1, h2, ha, w1, w2, hg, hL⟩
theorem sat.vaddr {α : Type} {enc : α → Value} {l : List α} (H : sat E w (vec e enc A n c l :: L)) (h0 : 0 < n) : ∃ g, A = some ⟨g, 0, none⟩ := by
  obtain ⟨g, _, h, _⟩ := sat.rowBlk H h0
  exact ⟨g, h⟩
theorem sat.vfrozen {α : Type} {enc : α → Value} {l : List α} {g : Nat} (H : sat E w (vec e enc (some ⟨g, 0, none⟩) n c l :: L)) (h0 : 0 < n) (i : Nat) : w.frozen? ⟨g, i, none⟩ = false := by
  obtain ⟨g', _, h, _, _, _, _, H⟩ := sat.rowBlk H h0
  cases h
  exact H.frozen i
/-- One element of a vec, set. -/
theorem sat.vecSet {α : Type} {enc : α → Value} {l : List α} {g i : Nat} (H : sat E w (vec e enc (some ⟨g, 0, none⟩) n c l :: L)) (hi : i < n) (x : α) : sat E (w.setCell ⟨g, i, none⟩ (enc x)) (vec e enc (some ⟨g, 0, none⟩) n c (l.set i x) :: L) := by
  obtain ⟨g', cur, h, hc, hm, hs, ht, H⟩ := sat.rowBlk H (by omega)
  cases h
  have H2 := (H.setCell i (enc x)).toRow (size := 1) (n := n) (cap := c) hc hm (by rw [Array.size_setIfInBounds]; exact hs)
  have e1 : ((cur.setIfInBounds i (enc x)).toList).take (n * 1) = (l.set i x).map enc := by
    rw [Array.toList_setIfInBounds, List.map_set, ← ht, List.take_set]
  rw [e1] at H2
  exact H2
theorem zeros_eq (n : Nat) : ((List.replicate n (0 : UInt8)).map B8).toArray = Array.replicate n (B8 0) := by simp
theorem zeros_made (n : Nat) : madeCells (Value.int .u8 0).cells n = Array.replicate n (B8 0) := by
  rw [← zeros_eq]
  apply Array.ext'
  rw [List.map_replicate]
  apply List.ext_getElem
  · simp [madeCells]
  · intro i h1 h2
    simp [madeCells, Value.cells, B8]
    rw [Nat.mod_one]; rfl
theorem sat.zeros (H : sat E w L) (t : TypeId) (hm : n ≤ maxLen) : sat E (w.alloc (.cells (Array.replicate n (B8 0)) t)) (vec t B8 (some ⟨w.heap.size, 0, none⟩) n n (List.replicate n 0) :: L) := by
  have := H.litVec B8 (((List.replicate n (0 : UInt8)).map B8).toArray) t (List.replicate n 0) rfl (by simpa using hm)
  rw [← zeros_eq]
  simpa using this
end
theorem make_bytes {P : Program} {t e : TypeId} (hinf : (P.info? e).map (fun i => (i.zero, i.size, i.bytes)) = some (some (.int .u8 0), 1, 1)) (ht : P.underlying t = some (.slice e)) (n : Nat) (hn : n ≤ 1073741824) (w : World) :
    (Instr.makeSlice t (.int .i64 (n : Int)) (.int .i64 (n : Int))).run P w = .ok (.slice (some ⟨w.heap.size, 0, none⟩) n n) (w.alloc (.cells (Array.replicate n (B8 0)) e)) := by
  obtain ⟨i0, hi, hz0, hz1, hz2⟩ := info_parts hinf
  have := run_make (P := P) w t e i0 (.int .u8 0) ht hi hz0 .i64 .i64 n n (by omega) (Int.le_refl _) (by rw [hz2]; omega) (by omega)
  rw [hz1, Nat.mul_one, Int.toNat_natCast, zeros_made] at this
  exact this
section laws
variable {P : Program}
variable {e : TypeId} {n c m d : Nat} {g : Nat} {B : Option Addr} {l ys : List UInt8} {L : List HP} {E W : World}
/-- 'copy(x, y)' of bytes, no more than x has room for. -/
theorem copyB (t ty : TypeId)
    (hinf : (P.info? e).map (fun i => (i.zero, i.size, i.bytes)) = some (some (.int .u8 0), 1, 1)) (ht : P.underlying t = some (.slice e))
    (H : sat E W (vec e B8 (some ⟨g, 0, none⟩) n c l :: L)) (hm : ys.length = m) (hy : Sl B8 W B ys) (hmn : m ≤ n) (h0 : 0 < n) :
    ∃ w', (Builtin.copy_ #[t, t] ty #[.slice (some ⟨g, 0, none⟩) n c, .slice B m d]).run P W = .ok (.int .i64 m) w' ∧ sat E w' (vec e B8 (some ⟨g, 0, none⟩) n c (ys ++ l.drop m) :: L) := by
  obtain ⟨i0, hi, hz0, hz1, hz2⟩ := info_parts hinf
  have hln := H.len
  subst hm
  cases B with
  | none =>
    have hl0 : ys = [] := by
      cases ys with
      | nil => rfl
      | cons y l => obtain ⟨b, o, e, _⟩ := hy (by simp); cases e
    subst hl0
    refine ⟨W, ?_, by simpa using H⟩
    simp [Builtin.copy_, run_underlying ht, Builtin.lenOf, Builtin.firstCells, sizeOf, typeInfo, hi, storeCells, goInt]
  | some ad =>
    obtain ⟨g', cur, h, hc, hmx, hsz, htk, HB⟩ := sat.rowBlk H h0
    cases h
    rw [Nat.mul_one] at hsz htk
    have hr := run_copy_row (P := P) W t t ty e g 0 n c ad ys.length d cur e (ys.map B8) ht (by rw [hi]; simp [hz1]) HB.Blk (by simp; exact (Nat.min_eq_left hmn).symm)
      (fun j v hj => by
        rw [List.getElem?_map] at hj
        cases ey : ys[j]? with
        | none => rw [ey] at hj; simp at hj
        | some y =>
          rw [ey] at hj
          simp only [Option.map_some, Option.some.injEq] at hj
          obtain ⟨b, o, e, _, hc⟩ := hy.cell ey
          injection e with e
          subst e hj
          rw [add_off]; exact hc) (by simp; omega) (by simp only [List.mem_map]; rintro u ⟨y, _, rfl⟩; rfl)
    have H2 := (HB.setRow (cur.toList.take 0 ++ ys.map B8 ++ cur.toList.drop (0 + (ys.map B8).length)).toArray).toRow (size := 1) (n := n) (cap := c) hc hmx (by simp; omega)
    have e1 : ((cur.toList.take 0 ++ ys.map B8 ++ cur.toList.drop (0 + (ys.map B8).length)).toArray.toList).take (n * 1) = (ys ++ l.drop ys.length).map B8 := by
      rw [Nat.mul_one, List.take_zero, List.nil_append, Nat.zero_add, List.map_append, List.map_drop, ← htk, List.length_map]
      rw [List.take_append, List.length_map, List.take_of_length_le (by simp; omega), List.drop_take]
    rw [e1] at H2
    refine ⟨_, ?_, H2⟩
    rw [hr]
    simp [goInt]
end laws
end Go.Proofs.Ytbkjkiaicaopoaa
