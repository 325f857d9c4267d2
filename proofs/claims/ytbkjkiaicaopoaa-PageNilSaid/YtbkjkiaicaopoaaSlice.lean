/-
  Words for slices in walks: a slice that came in and reads as a list of one-cell elements; append of one element to a row of the call's own.
-/
import Derived.Test.YtbkjkiaicaopoaaHeap
import Derived.Maps.AppendAt
import Derived.Laws.OwnMore
namespace Go.Proofs.Ytbkjkiaicaopoaa
open Go.RowKit

/-- A byte as a cell. -/
def B8 (b : UInt8) : Value := .int .u8 (b.toNat : Int)

/-- A slice of length n at A holds the cells 'enc x' of the list's elements, one after the other. -/
def Sl {α : Type} (enc : α → Value) (w : World) (A : Option Addr) (xs : List α) : Prop :=
  0 < xs.length → ∃ b o, A = some ⟨b, o, none⟩ ∧ b < w.heap.size ∧ ∀ i x, xs[i]? = some x → w.cell? ⟨b, o + i, none⟩ = some (enc x)

theorem Sl.below {α : Type} {enc : α → Value} {w w' : World} {A : Option Addr} {xs : List α} (h : Sl enc w A xs) (hb : Below w.heap.size w w') : Sl enc w' A xs := by
  intro h0
  obtain ⟨b, o, rfl, hlt, hc⟩ := h h0
  exact ⟨b, o, rfl, Nat.lt_of_lt_of_le hlt hb.size, fun i x hi => (hb.cell (p := ⟨b, o + i, none⟩) hlt).trans (hc i x hi)⟩

theorem Sl.cell {α : Type} {enc : α → Value} {w : World} {A : Option Addr} {xs : List α} (h : Sl enc w A xs) {i : Nat} {x : α} (hi : xs[i]? = some x) :
    ∃ b o, A = some ⟨b, o, none⟩ ∧ b < w.heap.size ∧ w.cell? ⟨b, o + i, none⟩ = some (enc x) := by
  have hl : i < xs.length := (List.getElem?_eq_some_iff.1 hi).1
  obtain ⟨b, o, rfl, hlt, hc⟩ := h (by omega)
  exact ⟨b, o, rfl, hlt, hc i x hi⟩

/-- A row of the call's own reads as a slice. -/
theorem Sl.of_own {α : Type} {enc : α → Value} {w : World} {base : Nat} {e : TypeId} {A : Option Addr} {n c : Nat} {xs : List α} (h : w.ownsRow base e 1 (.slice A n c) n (xs.map enc)) : Sl enc w A xs := by
  intro h0
  have hl : n = xs.length := by have := h.1; simp at this; omega
  rcases h.2 with ⟨hv, hn⟩ | ⟨g, cap, cur, hv, _, hg, _⟩
  · omega
  · injection hv with hA
    subst hA
    refine ⟨g, 0, rfl, (Array.getElem?_eq_some_iff.1 hg).1, fun i x hi => ?_⟩
    have hli : i < xs.length := (List.getElem?_eq_some_iff.1 hi).1
    have := h.cells (g := g) rfl i (enc x) (by rw [List.getElem?_map, hi]; rfl)
    rw [Nat.zero_add]
    by_cases hi0 : i = 0
    · subst hi0; simpa [Addr.add] using this
    · simpa [Addr.add, hi0] using this

/-- 'int(uint(a) % uint(n+1))': one of 0 .. n. -/
theorem pick (a : Int) (n : Nat) (hn : n ≤ 4611686018427387904) : ∃ k : Nat, k ≤ n ∧ wrap64 ((IntKind.u64.wrap a).tmod ((n : Int) + 1)) = (k : Int) := by
  rw [show IntKind.u64.wrap a = a % 18446744073709551616 from by simp [IntKind.wrap, IntKind.bits, IntKind.signed]]
  have h0 : 0 ≤ a % 18446744073709551616 := by omega
  rw [Int.tmod_eq_emod_of_nonneg h0]
  have h1 := Int.emod_nonneg (a % 18446744073709551616) (by omega : (n : Int) + 1 ≠ 0)
  have h2 := Int.emod_lt_of_pos (a % 18446744073709551616) (by omega : 0 < (n : Int) + 1)
  generalize a % 18446744073709551616 % ((n : Int) + 1) = m at *
  exact ⟨m.toNat, by omega, by unfold wrap64; omega⟩

/-- A slice cut at its front or at its end. -/
theorem Sl.take {α : Type} {enc : α → Value} {w : World} {A : Option Addr} {xs : List α} (h : Sl enc w A xs) (k : Nat) : Sl enc w A (xs.take k) := by
  intro h0
  obtain ⟨b, o, e, hlt, hc⟩ := h (by rw [List.length_take] at h0; omega)
  refine ⟨b, o, e, hlt, fun i x hi => hc i x ?_⟩
  rw [List.getElem?_take] at hi
  split at hi
  · exact hi
  · simp at hi
theorem Sl.drop {α : Type} {enc : α → Value} {w : World} {b o : Nat} {xs : List α} (h : Sl enc w (some ⟨b, o, none⟩) xs) (k : Nat) : Sl enc w (some ⟨b, o + k, none⟩) (xs.drop k) := by
  intro h0
  obtain ⟨b', o', e, hlt, hc⟩ := h (by rw [List.length_drop] at h0; omega)
  injection e with e
  injection e with e1 e2
  subst e1 e2
  refine ⟨b, o + k, rfl, hlt, fun i x hi => ?_⟩
  rw [List.getElem?_drop] at hi
  have := hc _ x hi
  rwa [← Nat.add_assoc] at this

theorem Sl.nil {α : Type} {enc : α → Value} {w : World} {A : Option Addr} : Sl enc w A ([] : List α) := fun h => absurd h (by simp)
theorem add_off (b o k : Nat) : (⟨b, o, none⟩ : Addr).add k = ⟨b, o + k, none⟩ := by unfold Addr.add; by_cases h : k = 0 <;> simp [h]
/-- 's[k:]': the address that the walk writes, under one name. -/
theorem Sl.cut {α : Type} {enc : α → Value} {w : World} {A : Option Addr} {xs : List α} (h : Sl enc w A xs) (k c : Nat) (_hk : k ≤ xs.length) (hc : xs.length ≤ c) :
    ∃ A', (if c = k then A else A.map (fun x => x.add k)) = A' ∧ Sl enc w A' (xs.drop k) := by
  refine ⟨_, rfl, ?_⟩
  by_cases hlt : k < xs.length
  · rw [if_neg (by omega)]
    obtain ⟨b, o, rfl, hb, hcell⟩ := h (by omega)
    have e : (some (⟨b, o, none⟩ : Addr)).map (fun x => x.add k) = some ⟨b, o + k, none⟩ := by simp [add_off]
    rw [e]
    exact Sl.drop h k
  · rw [List.drop_eq_nil_of_le (by omega)]
    exact Sl.nil

/-- A block just laid reads as the list of its cells. -/
theorem Sl.lit {α : Type} {enc : α → Value} (W : World) (cs : Array Value) (t : TypeId) (fr : Nat × Nat) (xs : List α) (h : cs.toList = xs.map enc) : Sl enc (W.alloc (.cells cs t fr)) (some ⟨W.heap.size, 0, none⟩) xs := by
  intro _
  refine ⟨_, _, rfl, by simp, fun i x hi => ?_⟩
  rw [Nat.zero_add, cell_of_row _ W.heap.size i cs t fr (heap_alloc_new W _), ← Array.getElem?_toList, h, List.getElem?_map, hi]
  rfl

theorem own_form {w : World} {base : Nat} {e : TypeId} {v : Value} {n : Nat} {xs : List Value} (h : w.ownsRow base e 1 v n xs) : ∃ A c, v = .slice A n c := by
  rcases h.2 with ⟨rfl, rfl⟩ | ⟨g, cap, cur, rfl, _⟩
  · exact ⟨none, 0, rfl⟩
  · exact ⟨some ⟨g, 0, none⟩, cap, rfl⟩

theorem own_some {w : World} {base : Nat} {e : TypeId} {v : Value} {n : Nat} {xs : List Value} (h : w.ownsRow base e 1 v n xs) (hn : 0 < n) : ∃ g c, v = .slice (some ⟨g, 0, none⟩) n c ∧ base ≤ g := by
  rcases h.2 with ⟨rfl, rfl⟩ | ⟨g, cap, cur, rfl, hb, _⟩
  · omega
  · exact ⟨g, cap, rfl, hb⟩
theorem own_cap {w : World} {base : Nat} {e : TypeId} {A : Option Addr} {n c : Nat} {xs : List Value} (h : w.ownsRow base e 1 (.slice A n c) n xs) : n ≤ c := by
  rcases h.2 with ⟨h1, _⟩ | ⟨g, cap, cur, h1, _, _, h2, _⟩
  · injection h1 with _ e1 e2; omega
  · injection h1 with _ _ e2; omega

/-- 'append(s, u)' of one element that was laid in a block of its own just before. -/
theorem wpList_append_one {P : Program} {ops : Array Oper} {rest : List Oper} {o : Oper} {a : Act} {Q : Exit → Act → World → Prop} (hgd : o.guard = none) (s x : Operand) (t : TypeId)
    (ho : o.op = .call { callee := .builtin .append, args := #[s, x], argTypes := #[t, t] })
    (base : Nat) {e : TypeId} {z : Value} {bytes : Nat} (hinf : (P.info? e).map (fun i => (i.zero, i.size, i.bytes)) = some (some z, 1, bytes)) (ht : P.underlying t = some (.slice e)) (hzs : z.cells.size = 1)
    {W : World} {v : Value} {xs : List Value} {u : Value} (hown : W.ownsRow base e 1 v xs.length xs) (hs : a.eval s = v) {B : Nat} (hx : a.eval x = .slice (some ⟨B, 0, none⟩) 1 1) (hB : B = W.heap.size)
    (h1 : u.oneCell' = true) (h63 : xs.length + 1 ≤ maxLen) (hbytes : (xs.length + 1) * bytes ≤ 140737488355328) (hbase : base ≤ W.heap.size)
    (h : ∀ v' w', w'.ownsRow base e 1 v' (xs ++ [u]).length (xs ++ [u]) → W.grownBy w' v.ownBlock → (v'.ownBlock = v.ownBlock ∨ ∃ g, v'.ownBlock = some g ∧ W.heap.size ≤ g) → wpList P ops Q rest (a.put o.dst v') w') :
    wpList P ops Q (o :: rest) a (W.alloc (.cells #[u] e)) := by
  subst hB
  obtain ⟨i0, hi, hz0, hz1, hz2⟩ := info_parts hinf
  refine wpList_append_own_at (W.alloc (.cells #[u] e)) hgd s x t ho base e i0 z 1 bytes ht hi hz0 hz1 hz2 hzs (by decide) v xs.length xs hs (hown.alloc _) ⟨W.heap.size, 0, none⟩ 1 1 [u] hx rfl (cell_one_new _ _ _)
    (by simpa using h1) h63 hbytes (by simp; omega) ?_
  intro v' w' hown' hgrow _ hat
  refine h v' w' (by simpa using hown') ((World.grownBy_alloc W _ _).trans hgrow) ?_
  rcases hat with hat | hat
  · exact .inl hat
  · exact .inr ⟨_, hat, by simp⟩

theorem run_append_nil {P : Program} (w : World) (base : Nat) (t ty e : TypeId) (i : TypeInfo) (ht : P.underlying t = some (.slice e)) (hi : P.info? e = some i)
    (v : Value) (n : Nat) (xs : List Value) (hown : w.ownsRow base e 1 v n xs) (c : Nat) : (Builtin.append_ #[t, t] ty #[v, .slice none 0 c]).run P w = .ok v w := by
  rcases hown.2 with ⟨rfl, rfl⟩ | ⟨g, cap, cur, rfl, _, _, hnc, _⟩
  · simp [Builtin.append_, run_underlying ht, sizeOf, typeInfo, hi, Builtin.lenOf, Builtin.firstCells]
  · simp [Builtin.append_, run_underlying ht, sizeOf, typeInfo, hi, Builtin.lenOf, Builtin.firstCells, hnc, storeCells]

/-- 'append(s, l...)' of a slice that reads as a list, nil and empty ones too. -/
theorem wpList_append_sl {P : Program} {ops : Array Oper} {rest : List Oper} {o : Oper} {a : Act} {Q : Exit → Act → World → Prop} (hgd : o.guard = none) (s x : Operand) (t : TypeId)
    (ho : o.op = .call { callee := .builtin .append, args := #[s, x], argTypes := #[t, t] })
    (base : Nat) {e : TypeId} {z : Value} {bytes : Nat} (hinf : (P.info? e).map (fun i => (i.zero, i.size, i.bytes)) = some (some z, 1, bytes)) (ht : P.underlying t = some (.slice e)) (hzs : z.cells.size = 1)
    {α : Type} {enc : α → Value} {W : World} {v : Value} {xs : List Value} (hown : W.ownsRow base e 1 v xs.length xs) (hs : a.eval s = v) {A : Option Addr} {n c : Nat} {l : List α} (hx : a.eval x = .slice A n c) (hn : l.length = n) (hl : Sl enc W A l)
    (h1 : ∀ u, (enc u).oneCell' = true) (h63 : xs.length + n ≤ maxLen) (hbytes : (xs.length + n) * bytes ≤ 140737488355328) (hbase : base ≤ W.heap.size)
    (h : ∀ v' w', w'.ownsRow base e 1 v' (xs ++ l.map enc).length (xs ++ l.map enc) → W.grownBy w' v.ownBlock → (v'.ownBlock = v.ownBlock ∨ ∃ g, v'.ownBlock = some g ∧ W.heap.size ≤ g) → wpList P ops Q rest (a.put o.dst v') w') :
    wpList P ops Q (o :: rest) a W := by
  obtain ⟨i0, hi, hz0, hz1, hz2⟩ := info_parts hinf
  subst hn
  cases A with
  | none =>
    have hl0 : l = [] := by
      cases l with
      | nil => rfl
      | cons y l => obtain ⟨b, o, e, _⟩ := hl (by simp); cases e
    subst hl0
    refine wpList_plain hgd fun K hK => ?_
    have hrun := run_append_nil (P := P) W base t o.type e i0 ht hi v xs.length xs hown c
    unfold Oper.wp
    simp [execOp, ho, resolve, invoke, builtin, hs, hx, hrun, Result.andThen]
    exact hK _ _ (h v W (by simpa using hown) (World.grownBy.refl _ _) (.inl rfl))
  | some ad =>
    refine wpList_append_own_at W hgd s x t ho base e i0 z 1 bytes ht hi hz0 hz1 hz2 hzs (by decide) v xs.length xs hs hown ad l.length c (l.map enc) hx (by simp) ?_ (by simp only [List.mem_map]; rintro u ⟨y, _, rfl⟩; exact h1 y) h63 hbytes hbase ?_
    · intro j u hj
      rw [List.getElem?_map] at hj
      cases ey : l[j]? with
      | none => rw [ey] at hj; simp at hj
      | some y =>
        rw [ey] at hj
        simp only [Option.map_some, Option.some.injEq] at hj
        obtain ⟨b, o, e, _, hc⟩ := hl.cell ey
        injection e with e
        subst e hj
        rw [add_off]; exact hc
    · intro v' w' hown' hgrow _ hat
      refine h v' w' (by simpa using hown') hgrow ?_
      rcases hat with hat | hat
      · exact .inl hat
      · exact .inr ⟨_, hat, Nat.le_refl _⟩

/-- A cell below the rows' base, behind an append. -/
theorem cell_behind {W w' : World} {base : Nat} {e : TypeId} {v : Value} {n : Nat} {xs : List Value} (hown : W.ownsRow base e 1 v n xs) (hg : W.grownBy w' v.ownBlock) {b i : Nat} {u : Value} (hb : b < base) (h : W.cell? ⟨b, i, none⟩ = some u) : w'.cell? ⟨b, i, none⟩ = some u :=
  hg.cell h (fun he => by have := (hown.lt b he.symm).1; omega)
theorem frozen_behind {W w' : World} {base : Nat} {e : TypeId} {v : Value} {n : Nat} {xs : List Value} (hown : W.ownsRow base e 1 v n xs) (hg : W.grownBy w' v.ownBlock) {b i : Nat} (hb : b < base) (hlt : b < W.heap.size) : w'.frozen? ⟨b, i, none⟩ = W.frozen? ⟨b, i, none⟩ :=
  World.frozen?_of_block (hg.block b hlt (fun he => by have := (hown.lt b he.symm).1; omega))
theorem below_behind {B : Nat} {w W w' : World} {base : Nat} {e : TypeId} {v : Value} {n : Nat} {xs : List Value} (h : Below B w W) (hown : W.ownsRow base e 1 v n xs) (hg : W.grownBy w' v.ownBlock) (hB : B ≤ base) (hs : B ≤ W.heap.size) : Below B w w' :=
  h.grown hg hs (fun k hk => by have := (hown.lt k hk).1; omega)
end Go.Proofs.Ytbkjkiaicaopoaa
