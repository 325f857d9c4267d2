/-
  append of a string's bytes to a slice of the call's own.
-/
import Derived.Test.YtafohemmjhjgbaaSep
import Derived.Lib.AppendStr
namespace Go.Proofs.Ytafohemmjhjgbaa
open Go.RowKit
/-- A text's bytes. -/
def bs (s : ByteArray) : List UInt8 := s.data.toList
theorem bs_len (s : ByteArray) : (bs s).length = s.size := by unfold bs; rw [Array.length_toList]; rfl
theorem bs_inj {a b : ByteArray} (h : bs a = bs b) : a = b := by
  obtain ⟨⟨a⟩⟩ := a
  obtain ⟨⟨b⟩⟩ := b
  simp [bs] at h
  rw [h]
theorem bs_cells (s : ByteArray) : Lib.strCells s = (bs s).map B8 := rfl

theorem run_append_str_at {P : Program} {w : World} (t u ty e : TypeId) (i : TypeInfo) (ht : P.underlying t = some (.slice e)) (hu : P.underlying u = some .string) (hi : P.info? e = some i) (hz : i.zero = some (.int .u8 0)) (hsize : i.size = 1) (hby : i.bytes = 1)
    (v : Value) (n : Nat) (xs : List Value) (hown : w.ownsRow 0 e 1 v n xs) (s : ByteArray) (hb : n + s.size ≤ 140737488355328) :
    ∃ v' w', (Builtin.append_ #[t, u] ty #[v, .string s]).run P w = .ok v' w' ∧ w'.ownsRow 0 e 1 v' (n + s.size) (xs ++ Lib.strCells s) ∧ w.grownBy w' v.ownBlock ∧ (v'.ownBlock = v.ownBlock ∨ ∃ g, v'.ownBlock = some g ∧ w.heap.size ≤ g) := by
  obtain ⟨v', w', hr, h2, h3, _⟩ := Lib.run_append_own_string (P := P) w 0 t u ty e i ht hu hi hz hsize hby v n xs hown s (by unfold maxLen; omega) hb (Nat.zero_le _)
  refine ⟨v', w', hr, h2, h3, ?_⟩
  rcases hown.2 with ⟨rfl, rfl⟩ | ⟨g, cap, cur, rfl, _, hg, hnc, _, hcs, htake⟩
  · have hx : xs = [] := List.eq_nil_of_length_eq_zero (by simpa using hown.1)
    subst hx
    obtain ⟨v2, w2, hr2, h22, _, hn⟩ := Lib.run_append_own_string (P := P) w w.heap.size t u ty e i ht hu hi hz hsize hby (.slice none 0 0) 0 [] (World.ownsRow_nil _ _ _ _) s (by unfold maxLen; omega) (by omega) (Nat.le_refl _)
    rw [hr] at hr2
    cases hr2
    cases hv : v'.ownBlock with
    | none => left; rfl
    | some k => exact .inr ⟨k, rfl, (h22.lt k hv).1⟩
  · by_cases hroom : n + s.size ≤ cap
    · have := Lib.run_append_room_string (P := P) w t u ty e i ht hu hi hsize g n cap cur hg s hroom (by omega)
      rw [hr] at this
      cases this
      exact .inl rfl
    · have holds : ∀ j u, xs[j]? = some u → w.cell? ((⟨g, 0, none⟩ : Addr).add j) = some u := hown.cells (g := g) rfl
      have := Lib.run_append_grow_string (P := P) w t u ty e i (.int .u8 0) ht hu hi hz ⟨g, 0, none⟩ n cap xs (by rw [hsize]; simpa using hown.1) holds s (by omega) (by omega) (by rw [hby]; exact growslice_fits (by omega) (by omega))
      rw [hr] at this
      cases this
      exact .inr ⟨w.heap.size, rfl, Nat.le_refl _⟩

section
variable {P : Program} {ops : Array Oper} {rest : List Oper} {o : Oper} {a : Act} {Q : Exit → Act → World → Prop}
theorem run_appT (s x : Operand) (t u : TypeId) (ho : o.op = .call { callee := .builtin .append, args := #[s, x], argTypes := #[t, u] })
    {e : TypeId} (hinf : (P.info? e).map (fun i => (i.zero, i.size, i.bytes)) = some (some (.int .u8 0), 1, 1)) (ht : P.underlying t = some (.slice e)) (hu : P.underlying u = some .string)
    {E W : World} {A : Option Addr} {n c : Nat} {l : List UInt8} {L : List HP} (H : sat E W (vec e B8 A n c l :: L)) (hs : a.eval s = .slice A n c) {y : ByteArray} (hx : a.eval x = .string y) (hl : n + y.size ≤ 1099511627776) :
    ∃ A' c' w', (execOp a.eval o).run P W = .ok (.value (.slice A' (n + y.size) c')) w' ∧ sat E w' (vec e B8 A' (n + y.size) c' (l ++ bs y) :: L) := by
  obtain ⟨i0, hi, hz0, hz1, hz2⟩ := info_parts hinf
  have hown : W.ownsRow 0 e 1 (.slice A n c) n (l.map B8) := H.own
  obtain ⟨v', w', hr, h2, h3, h5⟩ := run_append_str_at (P := P) (w := W) t u o.type e i0 ht hu hi hz0 hz1 hz2 _ _ _ hown y (by omega)
  have H2 := sat.grown H h2 h3 h5
  rw [bs_cells, ← List.map_append] at H2
  obtain ⟨A', c', rfl⟩ := H2.form
  refine ⟨A', c', w', ?_, H2⟩
  unfold execOp
  simp only [ho, resolve, invoke, builtin, Sem.run_bind, Sem.run_pure, Result.andThen_ok, List.map_toArray, List.map_cons, List.map_nil, hs, hx, hr]
theorem wpList_appT (hw : Region.wanted o (yielded ops a.tmps) = true) (s x : Operand) (t u : TypeId) (ho : o.op = .call { callee := .builtin .append, args := #[s, x], argTypes := #[t, u] })
    {e : TypeId} (hinf : (P.info? e).map (fun i => (i.zero, i.size, i.bytes)) = some (some (.int .u8 0), 1, 1)) (ht : P.underlying t = some (.slice e)) (hu : P.underlying u = some .string)
    {E W : World} {A : Option Addr} {n c : Nat} {l : List UInt8} {L : List HP} (H : sat E W (vec e B8 A n c l :: L)) (hs : a.eval s = .slice A n c) {y : ByteArray} (hx : a.eval x = .string y) (hl : n + y.size ≤ 1099511627776)
    (h : ∀ A' c' w', sat E w' (vec e B8 A' (n + y.size) c' (l ++ bs y) :: L) → wpList P ops Q rest (a.put o.dst (.slice A' (n + y.size) c')) w') : wpList P ops Q (o :: rest) a W :=
  wpList_w hw fun _ hK => by
    obtain ⟨A', c', w', hr, h2⟩ := run_appT s x t u ho hinf ht hu H hs hx hl
    exact wp_run hr (hK _ _ (h A' c' w' h2))
end
end Go.Proofs.Ytafohemmjhjgbaa
