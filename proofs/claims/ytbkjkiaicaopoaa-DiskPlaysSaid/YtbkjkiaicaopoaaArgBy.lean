/-
  A law's argument that is a slice of structs, each field by a law of its own; a field that is a slice of bytes.
-/
import Derived.Test.YtbkjkiaicaopoaaArgRows
import Derived.Test.YtbkjkiaicaopoaaArgs
namespace Go.Proofs.Ytbkjkiaicaopoaa
open Go.RowKit Go.ChangeShapes Go.WideShapes

def fitsBy (qs : List (Value → Prop)) (vs : List Value) : Prop := vs.length = qs.length ∧ ∀ (j : Nat) (q : Value → Prop) (v : Value), qs[j]? = some q → vs[j]? = some v → q v
theorem arg_structs_by {H : Type} {enc : TypeId × Value → H} {P : Program} {W : World} {r : Reach} {b0 base : Nat} {spare : Nat → Bool} {held : Bool} {t e : TypeId} {fs : Array Field} {v : Value} {d : DataW H} {ps : List MemPlace} {ts : List TypeId} {ds : List (DataW H)} {j : Nat}
    (hsz : (DataW.weightsEach P ts ds).all (· ≤ reachBytes) = true) (ht : ts[j]? = some t) (hd : ds[j]? = some d) (hu : P.underlying t = some (.slice e)) (he : P.underlying e = some (.struct fs)) {qs : List (Value → Prop)} (h0 : 0 < qs.length)
    (hc : P.cellsOf e = qs.length) (hf : fs.toList.map (fun f => (f.offset, P.cellsOf f.type)) = (List.range qs.length).map fun i => (i, 1))
    (hq : ∀ (j : Nat) (f : Field) (q : Value → Prop), fs[j]? = some f → qs[j]? = some q → ∀ fuel v x, DataW.trod enc P W base spare held fuel f.type [v] = some x → q v) {B : Nat} (hB : P.bytesOf e = B)
    (hv : Value.okWide P W r b0 t v) (h : DataW.Trod enc P W base spare held t v d ps) :
    ∃ (A : Option Addr) (c : Nat) (l : List (List Value)), v = .slice A l.length c ∧ l.length ≤ c ∧ SlR qs.length (fun v => v) W A l ∧ (∀ vs ∈ l, fitsBy qs vs) ∧ l.length * B ≤ 140737488351232 := by
  obtain ⟨a, len, cap, rfl⟩ := okWide_slice hu hv
  obtain ⟨fuel, hf'⟩ := h
  rcases Deep.open_slice hu hf' with ⟨hcs, _⟩ | ⟨x, ln, c, m, n, D, Pl, hcs, _, hl, _, hm, hx, hcell⟩
  · simp [Value.cells] at hcs
    obtain ⟨rfl, rfl, rfl⟩ := hcs
    exact ⟨none, 0, [], rfl, Nat.le_refl _, fun h => absurd h (by simp), by simp, by simp⟩
  · simp [Value.cells] at hcs
    obtain ⟨rfl, rfl, rfl⟩ := hcs
    obtain ⟨hx, _⟩ := Prod.mk.inj hx
    subst hx
    have z := sized_slice hsz ht hd hu
    rw [hB] at z
    have hl2 : len ≤ m := by
      rw [hm]
      split
      · exact hl
      · exact Nat.le_refl _
    have hlz : ((List.range len).map D).length + ((List.range (m - len)).map fun j => D (len + j)).length = m := by simp; omega
    rw [hlz] at z
    have each : ∀ i, i < len → ∃ vs : List Value, fitsBy qs vs ∧ ∀ j v, vs[j]? = some v → W.cell? (x.add (i * qs.length + j)) = some v := by
      intro i hi
      obtain ⟨cs', h1, h2⟩ := hcell i (by omega)
      rw [hc] at h1
      obtain ⟨_, hlen, hce⟩ := World.cells?_some h1
      obtain ⟨xs, q, _, _, _, hxl, hfs⟩ := DataW.trod_struct he h2
      refine ⟨cs', ⟨hlen, fun j k v hk hj => ?_⟩, fun j v hj => ?_⟩
      · have hjl : j < qs.length := (List.getElem?_eq_some_iff.1 hk).1
        have hg := congrArg (fun l => l[j]?) hf
        simp only [List.getElem?_map, List.getElem?_range hjl, Option.map_some] at hg
        cases hfj : fs.toList[j]? with
        | none => rw [hfj] at hg; cases hg
        | some f =>
          rw [hfj] at hg
          simp only [Option.map_some, Option.some.injEq, Prod.mk.injEq] at hg
          obtain ⟨g1, g2⟩ := hg
          have hfa : fs[j]? = some f := by rw [← hfj, Array.getElem?_toList]
          have := hfs j f hfa
          rw [g1, g2] at this
          have e1 : (cs'.drop j).take 1 = [v] := by
            rw [List.drop_eq_getElem_cons (by omega), List.take_succ_cons, List.take_zero]
            congr 1
            exact Option.some.inj ((List.getElem?_eq_getElem (by omega)).symm.trans hj)
          rw [e1] at this
          have hxj : j < xs.length := by
            rw [hxl]
            exact (Array.getElem?_eq_some_iff.1 hfa).1
          rw [List.getElem?_eq_getElem hxj] at this
          exact hq j f k hfa hk _ _ _ this
      · have hjl : j < cs'.length := (List.getElem?_eq_some_iff.1 hj).1
        have := hce j (by omega)
        rw [Deep.add_add] at this
        rw [this]
        first | exact hj | (rw [← hj]; rfl)
    obtain ⟨V, hV⟩ := Deep.choose_lt (α := List Value) each
    refine ⟨some x, cap, (List.range len).map V, by simp, by simp; exact hl, ?_, ?_, ?_⟩
    · intro hlen
      simp only [List.length_map, List.length_range] at hlen
      have hc0 : ∃ v, W.cell? (x.add 0) = some v := by
        obtain ⟨hfit, hcl⟩ := hV 0 hlen
        have : 0 < (V 0).length := by rw [hfit.1]; exact h0
        have := hcl 0 _ (List.getElem?_eq_getElem this)
        rw [Nat.zero_mul] at this
        exact ⟨_, this⟩
      obtain ⟨v0, hc0⟩ := hc0
      have e0 : x.add 0 = x := by unfold Addr.add; simp
      rw [e0] at hc0
      have hlt := World.block_lt_of_cell? W _ hc0
      obtain ⟨xb, xo, xs⟩ := x
      have hs : xs = none := by
        cases xs with
        | none => rfl
        | some q => simp only [World.cell?] at hc0; split at hc0 <;> simp at hc0
      subst hs
      refine ⟨xb, xo, rfl, hlt, fun i vs hi j v hj => ?_⟩
      have hi' : i < len := by have := (List.getElem?_eq_some_iff.1 hi).1; simpa using this
      rw [List.getElem?_map, List.getElem?_range hi'] at hi
      simp only [Option.map_some, Option.some.injEq] at hi
      subst hi
      have := (hV i hi').2 j v hj
      have ea : ∀ q, (⟨xb, xo, none⟩ : Addr).add q = ⟨xb, xo + q, none⟩ := fun q => by unfold Addr.add; by_cases h : q = 0 <;> simp [h]
      rw [ea] at this
      rw [Nat.add_assoc]
      exact this
    · intro vs hvs
      obtain ⟨i, hi, rfl⟩ := List.mem_map.1 hvs
      exact (hV i (List.mem_range.1 hi)).1
    · simp only [List.length_map, List.length_range]
      exact Nat.le_trans (Nat.mul_le_mul_right _ hl2) z
/-- A cell that holds a slice of bytes that came in. -/
def isBytes (W : World) (v : Value) : Prop := ∃ (A : Option Addr) (l : List UInt8) (c : Nat), v = .slice A l.length c ∧ l.length ≤ c ∧ Sl B8 W A l ∧ l.length ≤ maxLen
theorem bytes_trod {H : Type} {enc : TypeId × Value → H} {P : Program} {W : World} {base : Nat} {spare : Nat → Bool} {held : Bool} {fuel : Nat} {t e : TypeId} {v : Value} {x : DataW H × List MemPlace}
    (hu : P.underlying t = some (.slice e)) (he : P.underlying e = some (.int .u8)) (hc : P.cellsOf e = 1) (h : DataW.trod enc P W base spare held fuel t [v] = some x) : isBytes W v := by
  rcases open_ints hu he hc h with ⟨hcs, _⟩ | ⟨a, len, cap, zs, hcs, _, hl, hm, hz, hx, hcell, hwf⟩
  · cases hcs
    exact ⟨none, [], 0, rfl, Nat.le_refl _, fun h => absurd h (by simp), by simp⟩
  · cases hcs
    have hl2 : len ≤ zs.length := by
      rw [hz]
      split
      · exact hl
      · exact Nat.le_refl _
    have hlen : (zs.take len).length = len := by simp; omega
    have hS : Sl (Value.int .u8) W (some a) (zs.take len) := by
      intro h0
      rw [hlen] at h0
      have hc0 := hcell 0 (by omega)
      have e0 : a.add 0 = a := by unfold Addr.add; simp
      rw [e0] at hc0
      have hlt := World.block_lt_of_cell? W _ hc0
      obtain ⟨xb, xo, xs⟩ := a
      have hs : xs = none := by
        cases xs with
        | none => rfl
        | some q => simp only [World.cell?] at hc0; split at hc0 <;> simp at hc0
      subst hs
      refine ⟨xb, xo, rfl, hlt, fun i n hi => ?_⟩
      have hi' : i < len := by have := (List.getElem?_eq_some_iff.1 hi).1; omega
      have hci := hcell i (by omega)
      have hg : zs.getD i 0 = n := by
        have : zs[i]? = some n := by rw [← hi, List.getElem?_take, if_pos hi']
        rw [List.getD_eq_getElem?_getD, this]; rfl
      rw [hg, add_off] at hci
      exact hci
    obtain ⟨l8, e8, h8⟩ := bytes_of hS (fun n hn => hwf n (List.mem_of_mem_take hn))
    rw [hlen] at e8
    exact ⟨some a, l8, cap, by rw [e8], by rw [e8]; exact hl, h8, by rw [e8]; omega⟩
/-- What a field may be: a plain cell, or a slice of bytes. -/
inductive Sp where
  | kd (k : Kd)
  | bytes
def Sp.ok (W : World) : Sp → Value → Prop
  | .kd k, v => k.fits v
  | .bytes, v => isBytes W v
def spOf (P : Program) (t : TypeId) : Option Sp := match kdOf P t with
  | some k => some (.kd k)
  | none => match P.underlying t with
    | some (.slice e) => match P.underlying e with
      | some (.int .u8) => if P.cellsOf e = 1 then some .bytes else none
      | _ => none
    | _ => none
theorem sp_of {H : Type} {enc : TypeId × Value → H} {P : Program} {W : World} {base : Nat} {spare : Nat → Bool} {held : Bool} {fuel : Nat} {t : TypeId} {s : Sp} {v : Value} {x : DataW H × List MemPlace}
    (hs : spOf P t = some s) (h : DataW.trod enc P W base spare held fuel t [v] = some x) : s.ok W v := by
  unfold spOf at hs
  split at hs
  · rename_i k hk
    cases hs
    exact fits_of hk h
  · split at hs
    · rename_i e hu
      split at hs
      · rename_i he
        split at hs
        · rename_i hc
          cases hs
          exact bytes_trod hu he hc h
        · cases hs
      · cases hs
    · cases hs
theorem arg_recs {H : Type} {enc : TypeId × Value → H} {P : Program} {W : World} {r : Reach} {b0 base : Nat} {spare : Nat → Bool} {held : Bool} {t e : TypeId} {fs : Array Field} {v : Value} {d : DataW H} {ps : List MemPlace} {ts : List TypeId} {ds : List (DataW H)} {j : Nat}
    (hsz : (DataW.weightsEach P ts ds).all (· ≤ reachBytes) = true) (ht : ts[j]? = some t) (hd : ds[j]? = some d) (hu : P.underlying t = some (.slice e)) (he : P.underlying e = some (.struct fs)) {sps : List Sp} (h0 : 0 < sps.length)
    (hc : P.cellsOf e = sps.length) (hf : fs.toList.map (fun f => (f.offset, P.cellsOf f.type, spOf P f.type)) = sps.mapIdx fun i s => (i, 1, some s)) {B : Nat} (hB : P.bytesOf e = B)
    (hv : Value.okWide P W r b0 t v) (h : DataW.Trod enc P W base spare held t v d ps) :
    ∃ (A : Option Addr) (c : Nat) (l : List (List Value)), v = .slice A l.length c ∧ l.length ≤ c ∧ SlR sps.length (fun v => v) W A l ∧ (∀ vs ∈ l, fitsBy (sps.map (Sp.ok W)) vs) ∧ l.length * B ≤ 140737488351232 := by
  have hlen : (sps.map (Sp.ok W)).length = sps.length := List.length_map _
  have hfl := congrArg List.length hf
  rw [List.length_map, List.length_mapIdx, Array.length_toList] at hfl
  have := arg_structs_by (qs := sps.map (Sp.ok W)) hsz ht hd hu he (by rw [hlen]; exact h0) (by rw [hlen]; exact hc) (by
      have h2 := congrArg (fun l => l.map fun x => (x.1, x.2.1)) hf
      simp only [List.map_map] at h2
      rw [hlen]
      refine Eq.trans ?_ (h2.trans ?_)
      · rfl
      · apply List.ext_getElem?
        intro i
        simp only [List.getElem?_map, List.getElem?_mapIdx]
        rcases Nat.lt_or_ge i sps.length with h | h
        · rw [List.getElem?_eq_getElem h, List.getElem?_range h]; rfl
        · rw [List.getElem?_eq_none h, List.getElem?_eq_none (by simpa using h)]; rfl) (fun j f q hj hq fuel v x hx => by
      have hg := congrArg (fun l => l[j]?) hf
      simp only [List.getElem?_map, List.getElem?_mapIdx] at hg hq
      rw [Array.getElem?_toList, hj] at hg
      cases hs : sps[j]? with
      | none => rw [hs] at hq; cases hq
      | some s =>
        rw [hs] at hg hq
        simp only [Option.map_some, Option.some.injEq, Prod.mk.injEq] at hg hq
        subst hq
        exact sp_of hg.2.2 hx) hB hv h
  rw [hlen] at this
  exact this
end Go.Proofs.Ytbkjkiaicaopoaa
