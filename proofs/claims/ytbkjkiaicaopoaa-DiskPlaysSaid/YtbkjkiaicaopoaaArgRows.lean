/-
  A law's argument that is a slice of plain structs: a list of rows of cells, each cell of its kind.
-/
import Derived.Test.YtbkjkiaicaopoaaRws
import Derived.SizedLaws
import Derived.WideShapes
import Derived.Deep.Slices
namespace Go.Proofs.Ytbkjkiaicaopoaa
open Go.RowKit Go.ChangeShapes Go.WideShapes

/-- What a cell may hold. -/
inductive Kd where
  | int (k : IntKind)
  | str
  | bool
def Kd.fits : Kd → Value → Prop
  | .int k, v => ∃ n, v = .int k n ∧ (Lit.int k n).wf = true
  | .str, v => ∃ s : ByteArray, v = .string s ∧ s.size ≤ maxLen
  | .bool, v => ∃ b, v = .bool b
def kdOf (P : Program) (t : TypeId) : Option Kd := match P.underlying t with
  | some (.int k) => some (.int k)
  | some .string => some .str
  | some .bool => some .bool
  | _ => none
def fitsAll (ks : List Kd) (vs : List Value) : Prop := vs.length = ks.length ∧ ∀ (j : Nat) (k : Kd) (v : Value), ks[j]? = some k → vs[j]? = some v → k.fits v
theorem decode {α β : Type} {enc : β → α} {p : β → Prop} : ∀ {l : List α}, (∀ v ∈ l, ∃ x, v = enc x ∧ p x) → ∃ m : List β, l = m.map enc ∧ ∀ x ∈ m, p x
  | [], _ => ⟨[], rfl, by simp⟩
  | v :: l, h => by
    obtain ⟨x, rfl, hx⟩ := h v (by simp)
    obtain ⟨m, rfl, hm⟩ := decode (l := l) (fun v hv => h v (List.mem_cons_of_mem _ hv))
    exact ⟨x :: m, rfl, by simp; exact ⟨hx, hm⟩⟩
theorem fits_of {H : Type} {enc : TypeId × Value → H} {P : Program} {W : World} {base : Nat} {spare : Nat → Bool} {held : Bool} {fuel : Nat} {t : TypeId} {k : Kd} {v : Value} {x : DataW H × List MemPlace}
    (hk : kdOf P t = some k) (h : DataW.trod enc P W base spare held fuel t [v] = some x) : k.fits v := by
  unfold kdOf at hk
  split at hk
  · rename_i q hu
    cases hk
    obtain ⟨n, e, _, hw⟩ := DataW.trod_int hu h
    cases e
    exact ⟨n, rfl, hw⟩
  · rename_i hu
    cases hk
    obtain ⟨s, e, _, hw⟩ := DataW.trod_string hu h
    cases e
    exact ⟨s, rfl, hw⟩
  · rename_i hu
    cases hk
    obtain ⟨b, e, _⟩ := DataW.trod_bool hu h
    cases e
    exact ⟨b, rfl⟩
  · cases hk
theorem arg_structs {H : Type} {enc : TypeId × Value → H} {P : Program} {W : World} {r : Reach} {b0 base : Nat} {spare : Nat → Bool} {held : Bool} {t e : TypeId} {fs : Array Field} {v : Value} {d : DataW H} {ps : List MemPlace} {ts : List TypeId} {ds : List (DataW H)} {j : Nat}
    (hsz : (DataW.weightsEach P ts ds).all (· ≤ reachBytes) = true) (ht : ts[j]? = some t) (hd : ds[j]? = some d) (hu : P.underlying t = some (.slice e)) (he : P.underlying e = some (.struct fs)) {ks : List Kd} (h0 : 0 < ks.length)
    (hc : P.cellsOf e = ks.length) (hf : fs.toList.map (fun f => (f.offset, P.cellsOf f.type, kdOf P f.type)) = ks.mapIdx fun i k => (i, 1, some k)) {B : Nat} (hB : P.bytesOf e = B)
    (hv : Value.okWide P W r b0 t v) (h : DataW.Trod enc P W base spare held t v d ps) :
    ∃ (A : Option Addr) (c : Nat) (l : List (List Value)), v = .slice A l.length c ∧ l.length ≤ c ∧ SlR ks.length (fun v => v) W A l ∧ (∀ vs ∈ l, fitsAll ks vs) ∧ l.length * B ≤ 140737488351232 := by
  obtain ⟨a, len, cap, rfl⟩ := okWide_slice hu hv
  obtain ⟨fuel, hf'⟩ := h
  rcases Deep.open_slice hu hf' with ⟨hcs, _⟩ | ⟨x, ln, c, m, n, D, Pl, hcs, _, hl, _, hm, hx, hcell⟩
  · simp [Value.cells] at hcs
    obtain ⟨rfl, rfl, rfl⟩ := hcs
    exact ⟨none, 0, [], rfl, Nat.le_refl _, fun h => absurd h (by simp), by simp, by simp⟩
  · simp [Value.cells] at hcs
    obtain ⟨rfl, rfl, rfl⟩ := hcs
    obtain ⟨hx, _⟩ := Prod.mk.inj hx
    subst hx
    have z := sized_slice hsz ht hd hu
    rw [hB] at z
    have hl2 : len ≤ m := by
      rw [hm]
      split
      · exact hl
      · exact Nat.le_refl _
    have hlz : ((List.range len).map D).length + ((List.range (m - len)).map fun j => D (len + j)).length = m := by simp; omega
    rw [hlz] at z
    have each : ∀ i, i < len → ∃ vs : List Value, fitsAll ks vs ∧ ∀ j v, vs[j]? = some v → W.cell? (x.add (i * ks.length + j)) = some v := by
      intro i hi
      obtain ⟨cs', h1, h2⟩ := hcell i (by omega)
      rw [hc] at h1
      obtain ⟨_, hlen, hce⟩ := World.cells?_some h1
      obtain ⟨xs, q, _, _, _, hxl, hfs⟩ := DataW.trod_struct he h2
      refine ⟨cs', ⟨hlen, fun j k v hk hj => ?_⟩, fun j v hj => ?_⟩
      · have hjl : j < ks.length := (List.getElem?_eq_some_iff.1 hk).1
        have hg := congrArg (fun l => l[j]?) hf
        simp only [List.getElem?_map, List.getElem?_mapIdx, hk, Option.map_some] at hg
        cases hfj : fs.toList[j]? with
        | none => rw [hfj] at hg; cases hg
        | some f =>
          rw [hfj] at hg
          simp only [Option.map_some, Option.some.injEq, Prod.mk.injEq] at hg
          obtain ⟨g1, g2, g3⟩ := hg
          have hfa : fs[j]? = some f := by rw [← hfj, Array.getElem?_toList]
          have := hfs j f hfa
          rw [g1, g2] at this
          have e1 : (cs'.drop j).take 1 = [v] := by
            rw [List.drop_eq_getElem_cons (by omega), List.take_succ_cons, List.take_zero]
            congr 1
            exact Option.some.inj ((List.getElem?_eq_getElem (by omega)).symm.trans hj)
          rw [e1] at this
          have hxj : j < xs.length := by
            rw [hxl]
            exact (Array.getElem?_eq_some_iff.1 hfa).1
          rw [List.getElem?_eq_getElem hxj] at this
          exact fits_of g3 this
      · have hjl : j < cs'.length := (List.getElem?_eq_some_iff.1 hj).1
        have := hce j (by omega)
        rw [Deep.add_add] at this
        rw [this]
        first | exact hj | (rw [← hj]; rfl)
    obtain ⟨V, hV⟩ := Deep.choose_lt (α := List Value) each
    refine ⟨some x, cap, (List.range len).map V, by simp, by simp; exact hl, ?_, ?_, ?_⟩
    · intro hlen
      simp only [List.length_map, List.length_range] at hlen
      have hc0 : ∃ v, W.cell? (x.add 0) = some v := by
        obtain ⟨hfit, hcl⟩ := hV 0 hlen
        have : 0 < (V 0).length := by rw [hfit.1]; exact h0
        have := hcl 0 _ (List.getElem?_eq_getElem this)
        rw [Nat.zero_mul] at this
        exact ⟨_, this⟩
      obtain ⟨v0, hc0⟩ := hc0
      have e0 : x.add 0 = x := by unfold Addr.add; simp
      rw [e0] at hc0
      have hlt := World.block_lt_of_cell? W _ hc0
      obtain ⟨xb, xo, xs⟩ := x
      have hs : xs = none := by
        cases xs with
        | none => rfl
        | some q => simp only [World.cell?] at hc0; split at hc0 <;> simp at hc0
      subst hs
      refine ⟨xb, xo, rfl, hlt, fun i vs hi j v hj => ?_⟩
      have hi' : i < len := by have := (List.getElem?_eq_some_iff.1 hi).1; simpa using this
      rw [List.getElem?_map, List.getElem?_range hi'] at hi
      simp only [Option.map_some, Option.some.injEq] at hi
      subst hi
      have := (hV i hi').2 j v hj
      have ea : ∀ q, (⟨xb, xo, none⟩ : Addr).add q = ⟨xb, xo + q, none⟩ := fun q => by unfold Addr.add; by_cases h : q = 0 <;> simp [h]
      rw [ea] at this
      rw [Nat.add_assoc]
      exact this
    · intro vs hvs
      obtain ⟨i, hi, rfl⟩ := List.mem_map.1 hvs
      exact (hV i (List.mem_range.1 hi)).1
    · simp only [List.length_map, List.length_range]
      exact Nat.le_trans (Nat.mul_le_mul_right _ hl2) z
end Go.Proofs.Ytbkjkiaicaopoaa
