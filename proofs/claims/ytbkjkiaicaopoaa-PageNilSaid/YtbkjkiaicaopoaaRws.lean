/-
  Slices whose elements are several cells each (plain structs): of the call's own, and such as came in.
-/
import Derived.Test.YtbkjkiaicaopoaaSep
namespace Go.Proofs.Ytbkjkiaicaopoaa
open Go.RowKit

/-- A slice of length l.length at A holds the cells of the list's elements, sz each. -/
def SlR {α : Type} (sz : Nat) (enc : α → List Value) (w : World) (A : Option Addr) (l : List α) : Prop :=
  0 < l.length → ∃ b o, A = some ⟨b, o, none⟩ ∧ b < w.heap.size ∧ ∀ i x, l[i]? = some x → ∀ j v, (enc x)[j]? = some v → w.cell? ⟨b, o + i * sz + j, none⟩ = some v
theorem SlR.below {α : Type} {sz : Nat} {enc : α → List Value} {w w' : World} {A : Option Addr} {l : List α} (h : SlR sz enc w A l) (hb : Below w.heap.size w w') : SlR sz enc w' A l := fun h0 => by
  obtain ⟨b, o, rfl, hlt, hc⟩ := h h0
  exact ⟨b, o, rfl, Nat.lt_of_lt_of_le hlt hb.size, fun i x hi j v hj => (World.cell?_of_block (hb.block b hlt)).trans (hc i x hi j v hj)⟩
theorem SlR.old {α : Type} {E w w0 : World} {sz : Nat} {enc : α → List Value} {A : Option Addr} {l : List α} {L : List HP} (h : SlR sz enc w0 A l) (H : sat E w (oldH w0 :: L)) (hs : w0.heap.size ≤ w.heap.size) : SlR sz enc w A l := fun h0 => by
  obtain ⟨b, o, rfl, hlt, hc⟩ := h h0
  exact ⟨b, o, rfl, Nat.lt_of_lt_of_le hlt hs, fun i x hi j v hj => (World.cell?_of_block (H.old b hlt)).trans (hc i x hi j v hj)⟩
theorem SlR.cells {α : Type} {sz : Nat} {enc : α → List Value} {w : World} {A : Option Addr} {l : List α} (h : SlR sz enc w A l) {i : Nat} {x : α} (hi : l[i]? = some x) :
    ∃ b o, A = some ⟨b, o, none⟩ ∧ b < w.heap.size ∧ ∀ j v, (enc x)[j]? = some v → w.cell? ⟨b, o + i * sz + j, none⟩ = some v := by
  obtain ⟨b, o, rfl, hlt, hc⟩ := h (by have := (List.getElem?_eq_some_iff.1 hi).1; omega)
  exact ⟨b, o, rfl, hlt, hc i x hi⟩
theorem SlR.nil {α : Type} {sz : Nat} {enc : α → List Value} {w : World} {A : Option Addr} : SlR sz enc w A ([] : List α) := fun h => absurd h (by simp)
theorem SlR.take {α : Type} {sz : Nat} {enc : α → List Value} {w : World} {A : Option Addr} {l : List α} (h : SlR sz enc w A l) (k : Nat) : SlR sz enc w A (l.take k) := fun h0 => by
  obtain ⟨b, o, rfl, hlt, hc⟩ := h (by rw [List.length_take] at h0; omega)
  refine ⟨b, o, rfl, hlt, fun i x hi j v hj => hc i x ?_ j v hj⟩
  rw [List.getElem?_take] at hi
  split at hi
  · exact hi
  · cases hi
theorem SlR.map {α β : Type} {sz : Nat} {enc : α → List Value} {enc' : β → List Value} (f : β → α) (hf : ∀ x, enc' x = enc (f x)) {w : World} {A : Option Addr} {l : List β} (h : SlR sz enc w A (l.map f)) : SlR sz enc' w A l := fun h0 => by
  obtain ⟨b, o, rfl, hlt, hc⟩ := h (by simpa using h0)
  exact ⟨b, o, rfl, hlt, fun i x hi j v hj => hc i (f x) (by rw [List.getElem?_map, hi]; rfl) j v (by rw [← hf]; exact hj)⟩

theorem flat_len {α : Type} {sz : Nat} {enc : α → List Value} (hz : ∀ x, (enc x).length = sz) : ∀ l : List α, (l.flatMap enc).length = l.length * sz
  | [] => by simp
  | x :: l => by rw [List.flatMap_cons, List.length_append, hz, flat_len hz l, List.length_cons, Nat.add_mul, Nat.one_mul, Nat.add_comm]
theorem flat_get {α : Type} {sz : Nat} {enc : α → List Value} (hz : ∀ x, (enc x).length = sz) : ∀ (l : List α) (i : Nat) (x : α) (j : Nat) (v : Value), l[i]? = some x → (enc x)[j]? = some v → (l.flatMap enc)[i * sz + j]? = some v
  | [], i, x, j, v, h, _ => by simp at h
  | y :: l, 0, x, j, v, h, hj => by
    simp only [List.getElem?_cons_zero, Option.some.injEq] at h
    subst h
    rw [List.flatMap_cons, Nat.zero_mul, Nat.zero_add, List.getElem?_append_left (List.getElem?_eq_some_iff.1 hj).1]
    exact hj
  | y :: l, i + 1, x, j, v, h, hj => by
    simp only [List.getElem?_cons_succ] at h
    have := flat_get hz l i x j v h hj
    rw [List.flatMap_cons, List.getElem?_append_right (by rw [hz, Nat.add_mul]; omega), hz]
    rw [show (i + 1) * sz + j - sz = i * sz + j by rw [Nat.add_mul]; omega]
    exact this

/-- A slice of the call's own that reads as a list of elements of sz cells. -/
def rows {α : Type} (e : TypeId) (sz : Nat) (enc : α → List Value) (A : Option Addr) (n c : Nat) (l : List α) : HP := row e sz (.slice A n c) n (l.flatMap enc)
section
variable {α : Type} {e : TypeId} {sz : Nat} {enc : α → List Value} {A : Option Addr} {n c : Nat} {l : List α} {L : List HP} {E w : World}
theorem sat.rlen (H : sat E w (rows e sz enc A n c l :: L)) (hz : ∀ x, (enc x).length = sz) (h0 : 0 < sz) : l.length = n := by
  have := H.own.1
  rw [flat_len hz] at this
  exact Nat.eq_of_mul_eq_mul_right h0 this
theorem sat.rcap (H : sat E w (rows e sz enc A n c l :: L)) : n ≤ c := by
  rcases H.own.2 with ⟨hv, hn⟩ | ⟨g, cap, cur, hv, _, hg, hc, _⟩
  · omega
  · simp only [Value.slice.injEq] at hv; omega
theorem sat.nilRows (H : sat E w L) (e : TypeId) (sz : Nat) (enc : α → List Value) : sat E w (rows e sz enc none 0 0 [] :: L) := H.nilRow e sz
theorem sat.emptyRows (H : sat E w L) (e : TypeId) (sz : Nat) (enc : α → List Value) : sat E (w.alloc (.cells #[] e (0, 0))) (rows e sz enc (some ⟨w.heap.size, 0, none⟩) 0 0 [] :: L) := by
  have := (H.alloc #[] e).toRow (size := sz) (n := 0) (cap := 0) (Nat.le_refl _) (Nat.zero_le _) (by simp)
  simpa [rows] using this
theorem sat.SlR (H : sat E w (rows e sz enc A n c l :: L)) (hz : ∀ x, (enc x).length = sz) (h0z : 0 < sz) : SlR sz enc w A l := fun h0 => by
  have hl := H.rlen hz h0z
  have ho := H.own
  rcases ho.2 with ⟨hv, hn⟩ | ⟨g, cap, cur, hv, _, hg, hc, _⟩
  · omega
  · simp only [Value.slice.injEq] at hv
    obtain ⟨rfl, -, -⟩ := hv
    refine ⟨g, 0, rfl, (Array.getElem?_eq_some_iff.1 hg).1, fun i x hi j v hj => ?_⟩
    have := ho.cells (g := g) rfl (i * sz + j) v (flat_get hz l i x j v hi hj)
    rw [add_off] at this
    rw [Nat.add_assoc]
    exact this
theorem sat.rnil (H : sat E w (rows e sz enc none n c l :: L)) : n = 0 ∧ c = 0 := by
  rcases H.own.2 with ⟨h, _⟩ | ⟨_, _, _, h, _⟩
  · simp only [Value.slice.injEq] at h; omega
  · cases h
theorem sat.rshort {k : Nat} (H : sat E w (rows e sz enc A n c l :: L)) (hz : ∀ x, (enc x).length = sz) (hk : k ≤ n) : sat E w (rows e sz enc A k c (l.take k) :: L) := H.map fun h hr => by
  obtain ⟨hl, hr⟩ := hr
  have hll : (l.take k).length = k ∨ sz = 0 := by
    rw [flat_len hz] at hl
    rcases Nat.eq_zero_or_pos sz with h | h
    · exact .inr h
    · left
      have := Nat.eq_of_mul_eq_mul_right h hl
      rw [List.length_take]; omega
  have hf : (l.take k).flatMap enc = (l.flatMap enc).take (k * sz) := by
    have e1 : l.flatMap enc = (l.take k).flatMap enc ++ (l.drop k).flatMap enc := by rw [← List.flatMap_append, List.take_append_drop]
    rw [e1]
    symm
    have e2 : ((l.take k).flatMap enc).length = k * sz := by rw [flat_len hz]; rcases hll with h | h <;> simp [h]
    rw [← e2, List.take_left]
  refine ⟨by rw [flat_len hz]; rcases hll with h | h <;> simp [h], ?_⟩
  rcases hr with ⟨hv, hn⟩ | ⟨g, cap, cur, hv, hg, hc, hm, hs, ht⟩
  · left
    simp only [Value.slice.injEq] at hv
    obtain ⟨rfl, rfl, rfl⟩ := hv
    obtain rfl : k = 0 := by omega
    exact ⟨rfl, rfl⟩
  · right
    simp only [Value.slice.injEq] at hv
    obtain ⟨rfl, _, rfl⟩ := hv
    refine ⟨g, c, cur, rfl, hg, by omega, hm, hs, ?_⟩
    rw [hf, ← ht, List.take_take]
    congr 1
    exact (Nat.min_eq_left (Nat.mul_le_mul_right _ hk)).symm
end
theorem run_append_nilR {P : Program} (w : World) (base size : Nat) (t ty e : TypeId) (i : TypeInfo) (ht : P.underlying t = some (.slice e)) (hi : P.info? e = some i)
    (v : Value) (n : Nat) (xs : List Value) (hown : w.ownsRow base e size v n xs) (c : Nat) : (Builtin.append_ #[t, t] ty #[v, .slice none 0 c]).run P w = .ok v w := by
  rcases hown.2 with ⟨rfl, rfl⟩ | ⟨g, cap, cur, rfl, _, _, hnc, _⟩
  · simp [Builtin.append_, run_underlying ht, sizeOf, typeInfo, hi, Builtin.lenOf, Builtin.firstCells]
  · simp [Builtin.append_, run_underlying ht, sizeOf, typeInfo, hi, Builtin.lenOf, Builtin.firstCells, hnc, storeCells]
section laws
variable {P : Program} {ops : Array Oper} {rest : List Oper} {o : Oper} {a : Act} {Q : Exit → Act → World → Prop}
variable {α : Type} {e : TypeId} {sz : Nat} {enc : α → List Value} {A : Option Addr} {n c : Nat} {l : List α} {L : List HP} {E W : World} {z : Value} {bytes : Nat}
/-- 'append(s, u)' of one element that was laid in a block of its own just before. -/
theorem run_appR1 (s x : Operand) (t : TypeId) (ho : o.op = .call { callee := .builtin .append, args := #[s, x], argTypes := #[t, t] })
    (hinf : (P.info? e).map (fun i => (i.zero, i.size, i.bytes)) = some (some z, sz, bytes)) (ht : P.underlying t = some (.slice e)) (hzs : z.cells.size = sz) (hz : ∀ x, (enc x).length = sz) (h0z : 0 < sz) (hby : bytes ≤ 64)
    (H : sat E W (rows e sz enc A n c l :: L)) (y : α) {cs : Array Value} (hu : cs.toList = enc y) (hs : a.eval s = .slice A n c) {B : Nat} (hx : a.eval x = .slice (some ⟨B, 0, none⟩) 1 1) (hB : B = W.heap.size)
    (h1 : ∀ v ∈ enc y, v.oneCell' = true) (hl : n < 1099511627776) :
    ∃ A' c' w', (execOp a.eval o).run P (W.alloc (.cells cs e)) = .ok (.value (.slice A' (n + 1) c')) w' ∧ sat E w' (rows e sz enc A' (n + 1) c' (l ++ [y]) :: L) := by
  subst hB
  obtain ⟨i0, hi, hz0, hz1, hz2⟩ := info_parts hinf
  have hnb : (n + 1) * bytes ≤ 140737488355328 := Nat.le_trans (Nat.mul_le_mul_left _ hby) (by omega)
  have hown : W.ownsRow 0 e sz (.slice A n c) n (l.flatMap enc) := H.own
  obtain ⟨v', w', hr, h2, h3, _, h5⟩ := run_append_own_at (P := P) (W.alloc (.cells cs e)) 0 t o.type e i0 z sz bytes ht hi hz0 hz1 hz2 hzs h0z _ _ _ (hown.alloc _) ⟨W.heap.size, 0, none⟩ 1 1 (enc y) (by rw [hz, Nat.one_mul])
    (fun j u hj => by
      rw [add_off, Nat.zero_add, ← hu] at *
      have := (Blk.cell (w := W.alloc (.cells cs e)) (g := W.heap.size) (cs := cs) (t := e) (heap_alloc_new W _) j)
      rw [this, ← Array.getElem?_toList]
      exact hj)
    h1 (by unfold maxLen; omega) hnb (Nat.zero_le _)
  have hg : W.grownBy w' (Value.slice A n c).ownBlock := (World.grownBy_alloc W _ _).trans h3
  have H2 := sat.grown H h2 hg (h5.imp id fun h5 => ⟨_, h5, by simp⟩)
  have e1 : l.flatMap enc ++ enc y = (l ++ [y]).flatMap enc := by simp
  rw [e1] at H2
  obtain ⟨A', c', rfl⟩ := H2.form
  refine ⟨A', c', w', ?_, H2⟩
  unfold execOp
  simp only [ho, resolve, invoke, builtin, Sem.run_bind, Sem.run_pure, Result.andThen_ok, List.map_toArray, List.map_cons, List.map_nil, hs, hx, hr]
/-- 'append(s, l...)' of a slice that reads as a list, nil and empty ones too. -/
theorem run_appRS (s x : Operand) (t : TypeId) (ho : o.op = .call { callee := .builtin .append, args := #[s, x], argTypes := #[t, t] })
    (hinf : (P.info? e).map (fun i => (i.zero, i.size, i.bytes)) = some (some z, sz, bytes)) (ht : P.underlying t = some (.slice e)) (hzs : z.cells.size = sz) (hz : ∀ x, (enc x).length = sz) (h0z : 0 < sz) (hby : bytes ≤ 64)
    (H : sat E W (rows e sz enc A n c l :: L)) (hs : a.eval s = .slice A n c) {B : Option Addr} {m d : Nat} {ys : List α} (hx : a.eval x = .slice B m d) (hm : ys.length = m) (hy : SlR sz enc W B ys)
    (h1 : ∀ y, ∀ v ∈ enc y, v.oneCell' = true) (hl : n + m ≤ 1099511627776) :
    ∃ A' c' w', (execOp a.eval o).run P W = .ok (.value (.slice A' (n + m) c')) w' ∧ sat E w' (rows e sz enc A' (n + m) c' (l ++ ys) :: L) := by
  obtain ⟨i0, hi, hz0, hz1, hz2⟩ := info_parts hinf
  have hown : W.ownsRow 0 e sz (.slice A n c) n (l.flatMap enc) := H.own
  subst hm
  cases B with
  | none =>
    have hl0 : ys = [] := by
      cases ys with
      | nil => rfl
      | cons y l => obtain ⟨b, o, e, _⟩ := hy (by simp); cases e
    subst hl0
    have hrun := run_append_nilR (P := P) W 0 sz t o.type e i0 ht hi _ _ _ hown d
    refine ⟨A, c, W, ?_, by rw [List.append_nil]; exact H⟩
    simp only [execOp, ho, resolve, invoke, builtin, Sem.run_bind, Sem.run_pure, Result.andThen_ok, List.map_toArray, List.map_cons, List.map_nil, hs, hx, List.length_nil, hrun]
    rfl
  | some ad =>
    have hnb : (n + ys.length) * bytes ≤ 140737488355328 := Nat.le_trans (Nat.mul_le_mul_left _ hby) (by omega)
    obtain ⟨v', w', hr, h2, h3, _, h5⟩ := run_append_own_at (P := P) W 0 t o.type e i0 z sz bytes ht hi hz0 hz1 hz2 hzs h0z _ _ _ hown ad ys.length d (ys.flatMap enc) (flat_len hz ys) (by
        intro j u hj
        have hjl : j < ys.length * sz := by rw [← flat_len hz]; exact (List.getElem?_eq_some_iff.1 hj).1
        have hq : j / sz < ys.length := (Nat.div_lt_iff_lt_mul h0z).2 hjl
        obtain ⟨y, ey⟩ : ∃ y, ys[j / sz]? = some y := ⟨_, List.getElem?_eq_getElem hq⟩
        have hr : j % sz < (enc y).length := by rw [hz]; exact Nat.mod_lt _ h0z
        obtain ⟨v, ev⟩ : ∃ v, (enc y)[j % sz]? = some v := ⟨_, List.getElem?_eq_getElem hr⟩
        have hf := flat_get hz ys _ y _ v ey ev
        have ej : j / sz * sz + j % sz = j := by rw [Nat.mul_comm]; exact Nat.div_add_mod j sz
        rw [ej, hj] at hf
        injection hf with hf
        subst hf
        obtain ⟨b, o, e, _, hc⟩ := hy.cells ey
        injection e with e
        subst e
        have := hc _ _ ev
        rw [Nat.add_assoc, ej] at this
        rw [add_off]; exact this) (by simp only [List.mem_flatMap]; rintro u ⟨y, _, hu⟩; exact h1 y u hu) (by unfold maxLen; omega) hnb (Nat.zero_le _)
    have H2 := sat.grown H h2 h3 (h5.imp id fun h5 => ⟨_, h5, Nat.le_refl _⟩)
    rw [← List.flatMap_append] at H2
    obtain ⟨A', c', rfl⟩ := H2.form
    refine ⟨A', c', w', ?_, H2⟩
    unfold execOp
    simp only [ho, resolve, invoke, builtin, Sem.run_bind, Sem.run_pure, Result.andThen_ok, List.map_toArray, List.map_cons, List.map_nil, hs, hx, hr]
theorem wp_appR1 {K : Act → World → Prop} (s x : Operand) (t : TypeId) (ho : o.op = .call { callee := .builtin .append, args := #[s, x], argTypes := #[t, t] })
    (hinf : (P.info? e).map (fun i => (i.zero, i.size, i.bytes)) = some (some z, sz, bytes)) (ht : P.underlying t = some (.slice e)) (hzs : z.cells.size = sz) (hz : ∀ x, (enc x).length = sz) (h0z : 0 < sz) (hby : bytes ≤ 64)
    (H : sat E W (rows e sz enc A n c l :: L)) (y : α) {cs : Array Value} (hu : cs.toList = enc y) (hs : a.eval s = .slice A n c) {B : Nat} (hx : a.eval x = .slice (some ⟨B, 0, none⟩) 1 1) (hB : B = W.heap.size)
    (h1 : ∀ v ∈ enc y, v.oneCell' = true) (hl : n < 1099511627776)
    (h : ∀ A' c' w', sat E w' (rows e sz enc A' (n + 1) c' (l ++ [y]) :: L) → K (a.put o.dst (.slice A' (n + 1) c')) w') : o.wp P a (W.alloc (.cells cs e)) K Q := by
  obtain ⟨A', c', w', hr, h2⟩ := run_appR1 s x t ho hinf ht hzs hz h0z hby H y hu hs hx hB h1 hl
  exact wp_run hr (h A' c' w' h2)
theorem wpList_appR1 (hw : Region.wanted o (yielded ops a.tmps) = true) (s x : Operand) (t : TypeId) (ho : o.op = .call { callee := .builtin .append, args := #[s, x], argTypes := #[t, t] })
    (hinf : (P.info? e).map (fun i => (i.zero, i.size, i.bytes)) = some (some z, sz, bytes)) (ht : P.underlying t = some (.slice e)) (hzs : z.cells.size = sz) (hz : ∀ x, (enc x).length = sz) (h0z : 0 < sz) (hby : bytes ≤ 64)
    (H : sat E W (rows e sz enc A n c l :: L)) (y : α) {cs : Array Value} (hu : cs.toList = enc y) (hs : a.eval s = .slice A n c) {B : Nat} (hx : a.eval x = .slice (some ⟨B, 0, none⟩) 1 1) (hB : B = W.heap.size)
    (h1 : ∀ v ∈ enc y, v.oneCell' = true) (hl : n < 1099511627776)
    (h : ∀ A' c' w', sat E w' (rows e sz enc A' (n + 1) c' (l ++ [y]) :: L) → wpList P ops Q rest (a.put o.dst (.slice A' (n + 1) c')) w') : wpList P ops Q (o :: rest) a (W.alloc (.cells cs e)) :=
  wpList_w hw fun _ hK => wp_appR1 s x t ho hinf ht hzs hz h0z hby H y hu hs hx hB h1 hl fun A' c' w' h2 => hK _ _ (h A' c' w' h2)
theorem wp_appRS {K : Act → World → Prop} (s x : Operand) (t : TypeId) (ho : o.op = .call { callee := .builtin .append, args := #[s, x], argTypes := #[t, t] })
    (hinf : (P.info? e).map (fun i => (i.zero, i.size, i.bytes)) = some (some z, sz, bytes)) (ht : P.underlying t = some (.slice e)) (hzs : z.cells.size = sz) (hz : ∀ x, (enc x).length = sz) (h0z : 0 < sz) (hby : bytes ≤ 64)
    (H : sat E W (rows e sz enc A n c l :: L)) (hs : a.eval s = .slice A n c) {B : Option Addr} {m d : Nat} {ys : List α} (hx : a.eval x = .slice B m d) (hm : ys.length = m) (hy : SlR sz enc W B ys)
    (h1 : ∀ y, ∀ v ∈ enc y, v.oneCell' = true) (hl : n + m ≤ 1099511627776)
    (h : ∀ A' c' w', sat E w' (rows e sz enc A' (n + m) c' (l ++ ys) :: L) → K (a.put o.dst (.slice A' (n + m) c')) w') : o.wp P a W K Q := by
  obtain ⟨A', c', w', hr, h2⟩ := run_appRS s x t ho hinf ht hzs hz h0z hby H hs hx hm hy h1 hl
  exact wp_run hr (h A' c' w' h2)
theorem wpList_appRS (hw : Region.wanted o (yielded ops a.tmps) = true) (s x : Operand) (t : TypeId) (ho : o.op = .call { callee := .builtin .append, args := #[s, x], argTypes := #[t, t] })
    (hinf : (P.info? e).map (fun i => (i.zero, i.size, i.bytes)) = some (some z, sz, bytes)) (ht : P.underlying t = some (.slice e)) (hzs : z.cells.size = sz) (hz : ∀ x, (enc x).length = sz) (h0z : 0 < sz) (hby : bytes ≤ 64)
    (H : sat E W (rows e sz enc A n c l :: L)) (hs : a.eval s = .slice A n c) {B : Option Addr} {m d : Nat} {ys : List α} (hx : a.eval x = .slice B m d) (hm : ys.length = m) (hy : SlR sz enc W B ys)
    (h1 : ∀ y, ∀ v ∈ enc y, v.oneCell' = true) (hl : n + m ≤ 1099511627776)
    (h : ∀ A' c' w', sat E w' (rows e sz enc A' (n + m) c' (l ++ ys) :: L) → wpList P ops Q rest (a.put o.dst (.slice A' (n + m) c')) w') : wpList P ops Q (o :: rest) a W :=
  wpList_w hw fun _ hK => wp_appRS s x t ho hinf ht hzs hz h0z hby H hs hx hm hy h1 hl fun A' c' w' h2 => hK _ _ (h A' c' w' h2)
end laws
end Go.Proofs.Ytbkjkiaicaopoaa
