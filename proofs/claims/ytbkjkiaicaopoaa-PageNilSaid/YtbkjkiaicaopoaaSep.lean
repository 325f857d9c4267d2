/-
  What lies where, in parts that do not meet: a list of resources that a world holds apart from each other, beside whatever else.
-/
import Derived.Test.YtbkjkiaicaopoaaSlice
namespace Go.Proofs.Ytbkjkiaicaopoaa
open Go.RowKit

/-- A part of a heap. -/
abbrev Hp := Nat → Option Obj
/-- A resource: what a part of a heap holds. -/
abbrev HP := Hp → Prop
def Hp.within (h k : Hp) : Prop := ∀ g o, h g = some o → k g = some o
def Hp.apart (h k : Hp) : Prop := ∀ g, h g = none ∨ k g = none
def Hp.join (h k : Hp) : Hp := fun g => (h g).or (k g)
theorem Hp.within_refl (h : Hp) : h.within h := fun _ _ e => e
theorem Hp.within_trans {a b c : Hp} (h : a.within b) (k : b.within c) : a.within c := fun g o e => k g o (h g o e)
theorem Hp.apart_symm {a b : Hp} (h : a.apart b) : b.apart a := fun g => (h g).symm
theorem Hp.apart_sub {a b a' b' : Hp} (h : a.apart b) (ha : a'.within a) (hb : b'.within b) : a'.apart b' := fun g => by
  cases e : a' g with
  | none => exact .inl rfl
  | some o =>
    cases e' : b' g with
    | none => exact .inr rfl
    | some o' =>
      have h1 := ha g o e
      have h2 := hb g o' e'
      rcases h g with h | h
      · rw [h] at h1; cases h1
      · rw [h] at h2; cases h2
theorem Hp.join_left (a b : Hp) : a.within (a.join b) := fun g o e => by unfold Hp.join; rw [e]; rfl
theorem Hp.join_right {a b : Hp} (h : a.apart b) : b.within (a.join b) := fun g o e => by
  unfold Hp.join
  rcases h g with h | h
  · rw [h]; exact e
  · rw [h] at e; cases e
theorem Hp.join_within {a b c : Hp} (h : a.within c) (k : b.within c) : (a.join b).within c := fun g o e => by
  unfold Hp.join at e
  cases ea : a g with
  | none => rw [ea] at e; exact k g o e
  | some x => rw [ea] at e; exact h g o (ea.trans e)
theorem Hp.apart_join {a b c : Hp} (h : a.apart b) (k : a.apart c) : a.apart (b.join c) := fun g => by
  unfold Hp.join
  rcases h g with h | h
  · exact .inl h
  · rcases k g with k | k
    · exact .inl k
    · right; rw [h, k]; rfl

/-- All of a list, in parts that do not meet. -/
def star : List HP → Hp → Prop
  | [], _ => True
  | A :: L, h => ∃ h1 h2 : Hp, Hp.apart h1 h2 ∧ h1.within h ∧ h2.within h ∧ A h1 ∧ star L h2
theorem star_mono {h k : Hp} (hk : h.within k) : ∀ {L : List HP}, star L h → star L k
  | [], _ => trivial
  | _ :: _, ⟨h1, h2, ha, w1, w2, hA, hL⟩ => ⟨h1, h2, ha, Hp.within_trans w1 hk, Hp.within_trans w2 hk, hA, hL⟩
theorem star_cons_imp {A B : HP} {L M : List HP} {h : Hp} (hAB : ∀ h, A h → B h) (hLM : ∀ h, star L h → star M h) (H : star (A :: L) h) : star (B :: M) h := by
  obtain ⟨h1, h2, ha, w1, w2, hA, hL⟩ := H
  exact ⟨h1, h2, ha, w1, w2, hAB _ hA, hLM _ hL⟩
theorem star_swap {A B : HP} {L : List HP} {h : Hp} (H : star (A :: B :: L) h) : star (B :: A :: L) h := by
  obtain ⟨h1, h2, ha, w1, w2, hA, k1, k2, kb, v1, v2, hB, hL⟩ := H
  refine ⟨k1, h1.join k2, ?_, Hp.within_trans v1 w2, Hp.join_within w1 (Hp.within_trans v2 w2), hB, h1, k2, Hp.apart_sub ha (Hp.within_refl _) v2, Hp.join_left _ _, Hp.join_right (Hp.apart_sub ha (Hp.within_refl _) v2), hA, hL⟩
  exact Hp.apart_join (Hp.apart_symm (Hp.apart_sub ha (Hp.within_refl _) v1)) kb
theorem star_perm {L M : List HP} (p : L.Perm M) : ∀ {h : Hp}, star L h → star M h := by
  induction p with
  | nil => exact fun h => h
  | cons A _ ih => exact fun H => star_cons_imp (fun _ h => h) (fun _ h => ih h) H
  | swap A B L => exact star_swap
  | trans _ _ ih1 ih2 => exact fun H => ih2 (ih1 H)
theorem star_append {L M : List HP} {h : Hp} (H : star (L ++ M) h) : star (star L :: M) h := by
  induction L generalizing h with
  | nil => exact ⟨fun _ => none, h, fun _ => .inl rfl, fun _ _ e => (by cases e), Hp.within_refl _, trivial, H⟩
  | cons A L ih =>
    obtain ⟨h1, h2, ha, w1, w2, hA, hL⟩ := H
    obtain ⟨k1, k2, kb, v1, v2, hB, hM⟩ := ih hL
    have a1 := Hp.apart_sub ha (Hp.within_refl _) v1
    have a2 := Hp.apart_sub ha (Hp.within_refl _) v2
    exact ⟨h1.join k1, k2, Hp.apart_symm (Hp.apart_join (Hp.apart_symm a2) (Hp.apart_symm kb)), Hp.join_within w1 (Hp.within_trans v1 w2), Hp.within_trans v2 w2, ⟨h1, k1, a1, Hp.join_left _ _, Hp.join_right a1, hA, hB⟩, hM⟩
theorem star_flat {L M : List HP} {h : Hp} (H : star (star L :: M) h) : star (L ++ M) h := by
  obtain ⟨h1, h2, ha, w1, w2, hL, hM⟩ := H
  suffices ∀ (L : List HP) (h1 h2 h : Hp), Hp.apart h1 h2 → h1.within h → h2.within h → star L h1 → star M h2 → star (L ++ M) h from this L h1 h2 h ha w1 w2 hL hM
  intro L
  induction L with
  | nil => exact fun h1 h2 h _ _ w2 _ hM => star_mono w2 hM
  | cons A L ih =>
    rintro h1 h2 h ha w1 w2 ⟨k1, k2, kb, v1, v2, hA, hL⟩ hM
    have a1 := Hp.apart_sub ha v1 (Hp.within_refl _)
    have a2 := Hp.apart_sub ha v2 (Hp.within_refl _)
    exact ⟨k1, k2.join h2, Hp.apart_join kb a1, Hp.within_trans v1 w1, Hp.join_within (Hp.within_trans v2 w1) w2, hA, ih k2 h2 _ a2 (Hp.join_left _ _) (Hp.join_right a2) hL hM⟩

/-- The world's heap, as a part. -/
def hpOf (w : World) : Hp := fun g => w.heap[g]?
/-- The world w, which came of E, holds these resources apart. -/
structure sat (E w : World) (L : List HP) : Prop where
  os : w.os = E.os
  tape : w.tape = E.tape
  output : w.output = E.output
  size : E.heap.size ≤ w.heap.size
  st : star L (hpOf w)

/-- A block of cells; a block of whatever kind; all that lay in a world. -/
def blk (g : Nat) (cs : Array Value) (t : TypeId) : HP := fun h => h g = some (.cells cs t (0, 0))
def objr (g : Nat) (o : Obj) : HP := fun h => h g = some o
def oldH (w : World) : HP := fun h => ∀ g, g < w.heap.size → h g = w.heap[g]?

theorem sat.imp {E w : World} {L M : List HP} (H : sat E w L) (h : ∀ h, star L h → star M h) : sat E w M := ⟨H.os, H.tape, H.output, H.size, h _ H.st⟩
theorem sat.perm {E w : World} {L M : List HP} (p : L.Perm M) (H : sat E w L) : sat E w M := H.imp fun _ h => star_perm p h
theorem sat.tail {E w : World} {A : HP} {L : List HP} (H : sat E w (A :: L)) : sat E w L := H.imp fun _ ⟨_, _, _, _, w2, _, hL⟩ => star_mono w2 hL
theorem sat.map {E w : World} {A B : HP} {L : List HP} (h : ∀ h, A h → B h) (H : sat E w (A :: L)) : sat E w (B :: L) := H.imp fun _ k => star_cons_imp h (fun _ h => h) k
theorem sat.pull1 {E w : World} {A B : HP} {L : List HP} (H : sat E w (A :: B :: L)) : sat E w (B :: A :: L) := H.imp fun _ k => star_swap k
theorem sat.pull2 {E w : World} {A B C : HP} {L : List HP} (H : sat E w (A :: B :: C :: L)) : sat E w (C :: A :: B :: L) := H.perm (((List.Perm.swap C B L).cons A).trans (List.Perm.swap C A (B :: L)))
theorem sat.pull3 {E w : World} {A B C D : HP} {L : List HP} (H : sat E w (A :: B :: C :: D :: L)) : sat E w (D :: A :: B :: C :: L) := H.perm (((((List.Perm.swap D C L).cons B).trans (List.Perm.swap D B (C :: L))).cons A).trans (List.Perm.swap D A (B :: C :: L)))
theorem perm_front {α : Type} (L : List α) (A : α) (M : List α) : (L ++ A :: M).Perm (A :: (L ++ M)) := List.perm_middle
theorem sat.pull4 {E w : World} {A B C D F : HP} {L : List HP} (H : sat E w (A :: B :: C :: D :: F :: L)) : sat E w (F :: A :: B :: C :: D :: L) := H.perm (perm_front [A, B, C, D] F L)
theorem sat.pull5 {E w : World} {A B C D F G : HP} {L : List HP} (H : sat E w (A :: B :: C :: D :: F :: G :: L)) : sat E w (G :: A :: B :: C :: D :: F :: L) := H.perm (perm_front [A, B, C, D, F] G L)
theorem sat.pull6 {E w : World} {A B C D F G I : HP} {L : List HP} (H : sat E w (A :: B :: C :: D :: F :: G :: I :: L)) : sat E w (I :: A :: B :: C :: D :: F :: G :: L) := H.perm (perm_front [A, B, C, D, F, G] I L)
theorem sat.pull7 {E w : World} {A B C D F G I J : HP} {L : List HP} (H : sat E w (A :: B :: C :: D :: F :: G :: I :: J :: L)) : sat E w (J :: A :: B :: C :: D :: F :: G :: I :: L) := H.perm (perm_front [A, B, C, D, F, G, I] J L)
theorem sat.pull8 {E w : World} {A B C D F G I J K : HP} {L : List HP} (H : sat E w (A :: B :: C :: D :: F :: G :: I :: J :: K :: L)) : sat E w (K :: A :: B :: C :: D :: F :: G :: I :: J :: L) := H.perm (perm_front [A, B, C, D, F, G, I, J] K L)
/-- To the first's place goes the second but one, and so on: the list's head goes behind n others. -/
theorem sat.push1 {E w : World} {A B : HP} {L : List HP} (H : sat E w (A :: B :: L)) : sat E w (B :: A :: L) := H.pull1
theorem sat.push2 {E w : World} {A B C : HP} {L : List HP} (H : sat E w (A :: B :: C :: L)) : sat E w (B :: C :: A :: L) := H.perm (perm_front [B, C] A L).symm
theorem sat.push3 {E w : World} {A B C D : HP} {L : List HP} (H : sat E w (A :: B :: C :: D :: L)) : sat E w (B :: C :: D :: A :: L) := H.perm (perm_front [B, C, D] A L).symm
theorem sat.push4 {E w : World} {A B C D F : HP} {L : List HP} (H : sat E w (A :: B :: C :: D :: F :: L)) : sat E w (B :: C :: D :: F :: A :: L) := H.perm (perm_front [B, C, D, F] A L).symm
theorem sat.push5 {E w : World} {A B C D F G : HP} {L : List HP} (H : sat E w (A :: B :: C :: D :: F :: G :: L)) : sat E w (B :: C :: D :: F :: G :: A :: L) := H.perm (perm_front [B, C, D, F, G] A L).symm

/-- In another order: the numbers of the first places, as they are to stand. -/
def emp : HP := fun _ => True
def insN (a : Nat) : List Nat → List Nat
  | [] => [a]
  | b :: l => if a ≤ b then a :: b :: l else b :: insN a l
def sortN : List Nat → List Nat
  | [] => []
  | a :: l => insN a (sortN l)
theorem insN_perm (a : Nat) : ∀ l : List Nat, (insN a l).Perm (a :: l)
  | [] => .refl _
  | b :: l => by
    unfold insN
    split
    · exact .refl _
    · exact ((insN_perm a l).cons b).trans (.swap a b l)
theorem sortN_perm : ∀ l : List Nat, (sortN l).Perm l
  | [] => .refl _
  | a :: l => (insN_perm a (sortN l)).trans ((sortN_perm l).cons a)
def permB (is : List Nat) : Bool := sortN is == List.range is.length
def putIn (is : List Nat) (L : List HP) : List HP := (is.map fun i => L.getD i emp) ++ L.drop is.length
theorem sat.re {E w : World} {L : List HP} (H : sat E w L) (is : List Nat) (hb : permB is = true) (hl : is.length ≤ L.length := by simp) : sat E w (putIn is L) := by
  refine H.perm ?_
  have hp : is.Perm (List.range is.length) := by
    have : sortN is = List.range is.length := by simpa [permB] using hb
    rw [← this]; exact (sortN_perm is).symm
  have h1 : L = (List.range is.length).map (fun i => L.getD i emp) ++ L.drop is.length := by
    conv => lhs; rw [← List.take_append_drop is.length L]
    congr 1
    apply List.ext_getElem?
    intro i
    rw [List.getElem?_take, List.getElem?_map]
    by_cases hi : i < is.length
    · rw [if_pos hi, List.getElem?_range hi]
      simp only [Option.map_some, List.getD_eq_getElem?_getD]
      rw [List.getElem?_eq_getElem (by omega)]
      rfl
    · rw [if_neg hi, List.getElem?_eq_none (by simpa using hi)]
      rfl
  unfold putIn
  conv => lhs; rw [h1]
  exact (hp.symm.map _).append_right _

theorem sat.dropFront {E w : World} {M : List HP} : ∀ {B : List HP}, sat E w (B ++ M) → sat E w M
  | [], H => H
  | _ :: _, H => sat.dropFront H.tail
/-- Of the first n those with these numbers, in this order; the others are let go. -/
def chooseIn (n : Nat) (is : List Nat) (L : List HP) : List HP := (is.map fun i => L.getD i emp) ++ L.drop n
theorem sat.choose {E w : World} {L : List HP} (H : sat E w L) (n : Nat) (is : List Nat) (hb : permB (is ++ (List.range n).filter (fun i => !is.contains i)) = true) (hn : (is ++ (List.range n).filter (fun i => !is.contains i)).length = n) (hl : n ≤ L.length := by simp) : sat E w (chooseIn n is L) := by
  have h := H.re _ hb (by rw [hn]; exact hl)
  unfold putIn at h
  rw [hn, List.map_append, List.append_assoc] at h
  unfold chooseIn
  refine sat.dropFront (B := (List.map (fun i => L.getD i emp) ((List.range n).filter (fun i => !is.contains i)))) (h.perm ?_)
  rw [← List.append_assoc, ← List.append_assoc]
  exact List.Perm.append_right _ List.perm_append_comm

/-- A resource that is several, opened and shut. -/
theorem sat.flat {E w : World} {L M : List HP} (H : sat E w (star L :: M)) : sat E w (L ++ M) := H.imp fun _ k => star_flat k
theorem sat.fold {E w : World} {L M : List HP} (H : sat E w (L ++ M)) : sat E w (star L :: M) := H.imp fun _ k => star_append k
theorem sat.open_ex {E w : World} {α : Type} {A : α → HP} {L : List HP} (H : sat E w ((fun h => ∃ x, A x h) :: L)) : ∃ x, sat E w (A x :: L) := by
  obtain ⟨o, t, p, s, h1, h2, ha, w1, w2, ⟨x, hA⟩, hL⟩ := H
  exact ⟨x, o, t, p, s, h1, h2, ha, w1, w2, hA, hL⟩
theorem sat.shut_ex {E w : World} {α : Type} {A : α → HP} {L : List HP} (x : α) (H : sat E w (A x :: L)) : sat E w ((fun h => ∃ x, A x h) :: L) := H.map fun _ h => ⟨x, h⟩
theorem sat.open_and {E w : World} {p : Prop} {A : HP} {L : List HP} (H : sat E w ((fun h => p ∧ A h) :: L)) : p ∧ sat E w (A :: L) := by
  obtain ⟨o, t, q, s, h1, h2, ha, w1, w2, ⟨hp, hA⟩, hL⟩ := H
  exact ⟨hp, o, t, q, s, h1, h2, ha, w1, w2, hA, hL⟩
theorem sat.shut_and {E w : World} {p : Prop} {A : HP} {L : List HP} (hp : p) (H : sat E w (A :: L)) : sat E w ((fun h => p ∧ A h) :: L) := H.map fun _ h => ⟨hp, h⟩
theorem sat.look {E w : World} {A : HP} {L : List HP} {p : Prop} (H : sat E w (A :: L)) (h : ∀ h : Hp, h.within (hpOf w) → A h → p) : p := by
  obtain ⟨_, _, _, _, h1, h2, ha, w1, w2, hA, hL⟩ := H
  exact h h1 w1 hA

/-- From here on the world is a letter, of which the resources are known. -/
theorem nameW {K : World → Prop} {E W : World} {L : List HP} (H : sat E W L) (h : ∀ W', sat E W' L → K W') : K W := h W H
/-- What names no memory, as a resource. -/
theorem sat.pureR {E w : World} {L : List HP} {p : Prop} (hp : p) (H : sat E w L) : sat E w ((fun _ => p) :: L) :=
  ⟨H.os, H.tape, H.output, H.size, fun _ => none, hpOf w, fun _ => .inl rfl, fun _ _ e => (by cases e), Hp.within_refl _, hp, H.st⟩
theorem sat.pure_out {E w : World} {L : List HP} {p : Prop} (H : sat E w ((fun _ => p) :: L)) : p := H.look fun _ _ h => h

/-! Blocks. -/
theorem sat.Blk {E w : World} {g : Nat} {cs : Array Value} {t : TypeId} {L : List HP} (H : sat E w (blk g cs t :: L)) : Blk w g cs t := H.look fun _ k h => k _ _ h
theorem sat.cell {E w : World} {g : Nat} {cs : Array Value} {t : TypeId} {L : List HP} (H : sat E w (blk g cs t :: L)) (i : Nat) : w.cell? ⟨g, i, none⟩ = cs[i]? := H.Blk.cell i
theorem sat.frozen {E w : World} {g : Nat} {cs : Array Value} {t : TypeId} {L : List HP} (H : sat E w (blk g cs t :: L)) (i : Nat) : w.frozen? ⟨g, i, none⟩ = false := H.Blk.frozen i
theorem sat.blt {E w : World} {g : Nat} {cs : Array Value} {t : TypeId} {L : List HP} (H : sat E w (blk g cs t :: L)) : g < w.heap.size := H.Blk.lt
theorem sat.obj {E w : World} {g : Nat} {o : Obj} {L : List HP} (H : sat E w (objr g o :: L)) : w.heap[g]? = some o := H.look fun _ k h => k _ _ h
theorem sat.ne {E w : World} {g k : Nat} {cs ds : Array Value} {t u : TypeId} {L : List HP} (H : sat E w (blk g cs t :: blk k ds u :: L)) : g ≠ k := by
  obtain ⟨_, _, _, _, h1, h2, ha, w1, w2, hA, k1, k2, kb, v1, v2, hB, hL⟩ := H
  rintro rfl
  rcases ha g with h | h
  · rw [hA] at h; cases h
  · rw [v1 _ _ hB] at h; cases h

/-- The world turned: only the first resource's blocks, and new ones. -/
theorem sat.turn {E w w' : World} {A B : HP} {L : List HP} (H : sat E w (A :: L)) (ho : w'.os = w.os) (ht : w'.tape = w.tape) (hp : w'.output = w.output) (hs : w.heap.size ≤ w'.heap.size)
    (h : ∀ h1 : Hp, h1.within (hpOf w) → A h1 → ∃ k1 : Hp, k1.within (hpOf w') ∧ B k1 ∧ (∀ g o, g < w.heap.size → k1 g = some o → ∃ o', h1 g = some o') ∧ ∀ g, g < w.heap.size → h1 g = none → w'.heap[g]? = w.heap[g]?) : sat E w' (B :: L) := by
  obtain ⟨o, t, p, s, h1, h2, ha, w1, w2, hA, hL⟩ := H
  obtain ⟨k1, v1, hB, hold, hkeep⟩ := h h1 w1 hA
  have lt2 : ∀ g o, h2 g = some o → g < w.heap.size := fun g o e => (Array.getElem?_eq_some_iff.1 (w2 g o e)).1
  refine ⟨ho.trans o, ht.trans t, hp.trans p, Nat.le_trans s hs, k1, h2, fun g => ?_, v1, fun g o e => ?_, hB, hL⟩
  · cases e2 : h2 g with
    | none => exact .inr rfl
    | some o2 =>
      left
      cases e1 : k1 g with
      | none => rfl
      | some o1 =>
        obtain ⟨o', e'⟩ := hold g o1 (lt2 g o2 e2) e1
        rcases ha g with h | h
        · rw [e'] at h; cases h
        · rw [e2] at h; cases h
  · have := lt2 g o e
    refine (hkeep g this ?_).trans (w2 g o e)
    rcases ha g with h | h
    · exact h
    · rw [e] at h; cases h
theorem sat.setCell {E w : World} {g : Nat} {cs : Array Value} {t : TypeId} {L : List HP} (H : sat E w (blk g cs t :: L)) (i : Nat) (v : Value) : sat E (w.setCell ⟨g, i, none⟩ v) (blk g (cs.setIfInBounds i v) t :: L) := by
  have hb := H.Blk
  refine H.turn rfl rfl rfl (by simp [World.setCell]) fun h1 w1 hA => ⟨fun k => if k = g then some (.cells (cs.setIfInBounds i v) t (0, 0)) else none, ?_, ?_, ?_, ?_⟩
  · intro k o e
    dsimp only at e
    split at e
    · subst k
      cases e
      show Go.Proofs.Ytbkjkiaicaopoaa.obj _ _ = _
      rw [obj_setCell, if_pos rfl, hb.obj]
    · cases e
  · show (if g = g then _ else _) = _; rw [if_pos rfl]
  · intro k o hk e
    dsimp only at e
    split at e
    · subst k; exact ⟨_, hA⟩
    · cases e
  · intro k hk e
    refine Below.heap_setCell w _ v k ?_
    rintro rfl
    rw [hA] at e; cases e
theorem star_heap {w w' : World} {L : List HP} (hb : ∀ g, g < w.heap.size → w'.heap[g]? = w.heap[g]?) (H : star L (hpOf w)) : star L (hpOf w') :=
  star_mono (fun g _ e => (hb g (Array.getElem?_eq_some_iff.1 e).1).trans e) H
theorem sat.below {E w w' : World} {L : List HP} (H : sat E w L) (hb : Below w.heap.size w w') : sat E w' L :=
  ⟨hb.os.trans H.os, hb.tape.trans H.tape, hb.output.trans H.output, Nat.le_trans H.size hb.size, star_heap hb.block H.st⟩
theorem sat.drewN {E w : World} {L : List HP} (H : sat E w L) (n : Nat) : sat E (w.drewN n) L := ⟨H.os, H.tape, H.output, H.size, H.st⟩
theorem sat.drew {E w : World} {L : List HP} (H : sat E w L) : sat E w.drew L := ⟨H.os, H.tape, H.output, H.size, H.st⟩
/-- A new resource, all of it in new blocks. -/
theorem sat.new {E w w' : World} {L : List HP} {B : HP} (H : sat E w L) (hb : Below w.heap.size w w') (k1 : Hp) (hk : k1.within (hpOf w')) (hB : B k1) (hn : ∀ g, g < w.heap.size → k1 g = none) : sat E w' (B :: L) :=
  ⟨hb.os.trans H.os, hb.tape.trans H.tape, hb.output.trans H.output, Nat.le_trans H.size hb.size, k1, hpOf w, fun g => by
    rcases Nat.lt_or_ge g w.heap.size with h | h
    · exact .inl (hn g h)
    · exact .inr (Array.getElem?_eq_none h), hk, fun g _ e => (hb.block g (Array.getElem?_eq_some_iff.1 e).1).trans e, hB, H.st⟩
theorem sat.alloc {E w : World} {L : List HP} (H : sat E w L) (cs : Array Value) (t : TypeId) : sat E (w.alloc (.cells cs t (0, 0))) (blk w.heap.size cs t :: L) :=
  H.new ((Below.refl _ _).alloc (Nat.le_refl _) _) (fun k => if k = w.heap.size then some (.cells cs t (0, 0)) else none)
    (fun k o e => by
      dsimp only at e
      split at e
      · subst k; cases e; exact heap_alloc_new w _
      · cases e) (by show (if _ then _ else _) = _; rw [if_pos rfl]) (fun g hg => by show (if _ then _ else _) = _; rw [if_neg (by omega)])
theorem sat.allocObj {E w : World} {L : List HP} (H : sat E w L) (o : Obj) : sat E (w.alloc o) (objr w.heap.size o :: L) :=
  H.new ((Below.refl _ _).alloc (Nat.le_refl _) _) (fun k => if k = w.heap.size then some o else none)
    (fun k o e => by
      dsimp only at e
      split at e
      · subst k; cases e; exact heap_alloc_new w _
      · cases e) (by show (if _ then _ else _) = _; rw [if_pos rfl]) (fun g hg => by show (if _ then _ else _) = _; rw [if_neg (by omega)])

/-! What lay before, and what a call that leaves it gives. -/
theorem sat.start (w : World) : sat w w [oldH w] := ⟨rfl, rfl, rfl, Nat.le_refl _, hpOf w, fun _ => none, fun _ => .inr rfl, Hp.within_refl _, fun _ _ e => (by cases e), fun _ _ => rfl, trivial⟩
theorem sat.old {E w w0 : World} {L : List HP} (H : sat E w (oldH w0 :: L)) : ∀ g, g < w0.heap.size → w.heap[g]? = w0.heap[g]? := H.look fun h k hO g hg => by
  have h1 := hO g hg
  rw [Array.getElem?_eq_getElem hg] at h1 ⊢
  exact k _ _ h1
theorem sat.toBelow {w0 w : World} {L : List HP} (H : sat w0 w (oldH w0 :: L)) : Below w0.heap.size w0 w := ⟨H.os, H.tape, H.output, H.size, H.old⟩
/-- From a call that is known to leave all that lay: beside whatever resources. -/
theorem sat.framed {E w w' : World} {L : List HP} {X : HP} (H : sat E w L) (K : sat w w' (X :: oldH w :: [])) : sat E w' (X :: L) := by
  obtain ⟨o, t, p, s, h1, h2, ha, w1, w2, hX, k1, k2, kb, v1, v2, hO, _⟩ := K
  refine ⟨o.trans H.os, t.trans H.tape, p.trans H.output, Nat.le_trans H.size s, h1, k1, Hp.apart_sub ha (Hp.within_refl _) v1, w1, Hp.within_trans v1 w2, hX, star_mono (fun g o e => ?_) H.st⟩
  have hlt := (Array.getElem?_eq_some_iff.1 e).1
  exact (hO g hlt).trans e
theorem sat.ofBelow {E w w' : World} {L : List HP} (H : sat E w L) (hb : Below w.heap.size w w') : sat E w' L := H.below hb

theorem Sl.old {E w w0 : World} {α : Type} {enc : α → Value} {A : Option Addr} {xs : List α} {L : List HP} (h : Sl enc w0 A xs) (H : sat E w (oldH w0 :: L)) (hs : w0.heap.size ≤ w.heap.size) : Sl enc w A xs := fun h0 => by
  obtain ⟨b, o, rfl, hlt, hc⟩ := h h0
  exact ⟨b, o, rfl, Nat.lt_of_lt_of_le hlt hs, fun i x hi => (World.cell?_of_block (H.old b hlt)).trans (hc i x hi)⟩

/-! A row of the call's own: a slice, from its block's head on. -/
def row (e : TypeId) (size : Nat) (v : Value) (n : Nat) (xs : List Value) : HP := fun h =>
  xs.length = n * size ∧ ((v = .slice none 0 0 ∧ n = 0) ∨
    ∃ g cap cur, v = .slice (some ⟨g, 0, none⟩) n cap ∧ h g = some (.cells cur e (0, 0)) ∧ n ≤ cap ∧ cap ≤ maxLen ∧ cur.size = cap * size ∧ cur.toList.take (n * size) = xs)
theorem sat.own {E w : World} {e : TypeId} {size n : Nat} {v : Value} {xs : List Value} {L : List HP} (H : sat E w (row e size v n xs :: L)) : w.ownsRow 0 e size v n xs := H.look fun h k hr => by
  obtain ⟨hl, hr⟩ := hr
  refine ⟨hl, hr.imp id fun ⟨g, cap, cur, hv, hg, r⟩ => ⟨g, cap, cur, hv, Nat.zero_le _, k _ _ hg, r⟩⟩
theorem row_of_own {w : World} {base : Nat} {e : TypeId} {size n : Nat} {v : Value} {xs : List Value} (h : w.ownsRow base e size v n xs) : row e size v n xs (fun g => if v.ownBlock = some g then w.heap[g]? else none) := by
  obtain ⟨hl, h⟩ := h
  refine ⟨hl, h.imp id fun ⟨g, cap, cur, hv, _, hg, r⟩ => ⟨g, cap, cur, hv, ?_, r⟩⟩
  subst hv
  show (if some g = some g then _ else _) = _
  rw [if_pos rfl]; exact hg
/-- Behind an append to the first resource's row. -/
theorem sat.grown {E w w' : World} {e : TypeId} {size n n' : Nat} {v v' : Value} {xs xs' : List Value} {L : List HP} (H : sat E w (row e size v n xs :: L)) {base : Nat} (hown : w'.ownsRow base e size v' n' xs') (hg : w.grownBy w' v.ownBlock)
    (hv : v'.ownBlock = v.ownBlock ∨ ∃ g, v'.ownBlock = some g ∧ w.heap.size ≤ g) : sat E w' (row e size v' n' xs' :: L) := by
  refine H.turn hg.os hg.tape hg.output hg.size fun h1 w1 hr => ⟨_, ?_, row_of_own hown, ?_, ?_⟩
  · intro g o e
    dsimp only at e
    split at e
    · exact e
    · cases e
  · intro g o hlt e
    split at e
    · rename_i hb
      rcases hv with hv | ⟨g', hv, hle⟩
      · rw [hv] at hb
        obtain ⟨_, hr | ⟨g2, cap, cur, hv2, hg2, _⟩⟩ := hr
        · rw [hr.1] at hb; cases hb
        · rw [hv2] at hb; cases hb; exact ⟨_, hg2⟩
      · rw [hv] at hb; cases hb; omega
    · cases e
  · intro g hlt e
    refine hg.block g hlt fun hb => ?_
    obtain ⟨_, hr | ⟨g2, cap, cur, hv2, hg2, _⟩⟩ := hr
    · rw [hr.1] at hb; cases hb
    · rw [hv2] at hb; cases hb; rw [hg2] at e; cases e
theorem sat.nilRow {E w : World} {L : List HP} (H : sat E w L) (e : TypeId) (size : Nat) : sat E w (row e size (.slice none 0 0) 0 [] :: L) :=
  ⟨H.os, H.tape, H.output, H.size, fun _ => none, hpOf w, fun _ => .inl rfl, fun _ _ e => (by cases e), Hp.within_refl _, ⟨by simp, .inl ⟨rfl, rfl⟩⟩, H.st⟩
/-- A fresh row of a call that leaves all that lay. -/
theorem sat.newRow {E w w' : World} {e : TypeId} {size n : Nat} {v : Value} {xs : List Value} {L : List HP} (H : sat E w L) (hb : Below w.heap.size w w') (hown : w'.ownsRow w.heap.size e size v n xs) : sat E w' (row e size v n xs :: L) := by
  refine H.new hb _ ?_ (row_of_own hown) ?_
  · intro g o e
    dsimp only at e
    split at e
    · exact e
    · cases e
  · intro g hlt
    rw [if_neg]
    intro hb
    have := (hown.lt g hb).1
    omega
/-- A block known whole, as a row. -/
theorem sat.toRow {E w : World} {g : Nat} {cs : Array Value} {t : TypeId} {L : List HP} (H : sat E w (blk g cs t :: L)) {size n cap : Nat} (hn : n ≤ cap) (hm : cap ≤ maxLen) (hs : cs.size = cap * size) : sat E w (row t size (.slice (some ⟨g, 0, none⟩) n cap) n (cs.toList.take (n * size)) :: L) :=
  H.map fun h hb => ⟨by rw [List.length_take, Array.length_toList, hs, Nat.min_eq_left (Nat.mul_le_mul_right _ hn)], .inr ⟨g, cap, cs, rfl, hb, hn, hm, hs, rfl⟩⟩
theorem row_form {e : TypeId} {size n : Nat} {v : Value} {xs : List Value} {h : Hp} (hr : row e size v n xs h) : ∃ A c, v = .slice A n c := by
  obtain ⟨_, ⟨rfl, rfl⟩ | ⟨g, cap, cur, rfl, _⟩⟩ := hr
  · exact ⟨none, 0, rfl⟩
  · exact ⟨some ⟨g, 0, none⟩, cap, rfl⟩
theorem sat.form {E w : World} {e : TypeId} {size n : Nat} {v : Value} {xs : List Value} {L : List HP} (H : sat E w (row e size v n xs :: L)) : ∃ A c, v = .slice A n c := H.look fun _ _ hr => row_form hr
/-- A row cut short. -/
theorem sat.short {E w : World} {e : TypeId} {n c k : Nat} {A : Option Addr} {xs : List Value} {L : List HP} (H : sat E w (row e 1 (.slice A n c) n xs :: L)) (hk : k ≤ n) : sat E w (row e 1 (.slice A k c) k (xs.take k) :: L) := H.map fun h hr => by
  obtain ⟨hl, hr⟩ := hr
  refine ⟨by rw [List.length_take]; omega, ?_⟩
  rcases hr with ⟨hv, hn⟩ | ⟨g, cap, cur, hv, hg, hc, hm, hs, ht⟩
  · left
    simp only [Value.slice.injEq] at hv
    obtain ⟨rfl, rfl, rfl⟩ := hv
    obtain rfl : k = 0 := by omega
    exact ⟨rfl, rfl⟩
  · right
    simp only [Value.slice.injEq] at hv
    obtain ⟨rfl, _, rfl⟩ := hv
    refine ⟨g, c, cur, rfl, hg, by omega, hm, hs, ?_⟩
    rw [← ht, List.take_take]
    congr 1; omega

/-! A slice of the call's own that reads as a list of one-cell elements. -/
def vec {α : Type} (e : TypeId) (enc : α → Value) (A : Option Addr) (n c : Nat) (l : List α) : HP := row e 1 (.slice A n c) n (l.map enc)
theorem sat.len {E w : World} {α : Type} {e : TypeId} {enc : α → Value} {A : Option Addr} {n c : Nat} {l : List α} {L : List HP} (H : sat E w (vec e enc A n c l :: L)) : l.length = n := by
  have := H.own.1
  simpa using this
theorem sat.cap {E w : World} {α : Type} {e : TypeId} {enc : α → Value} {A : Option Addr} {n c : Nat} {l : List α} {L : List HP} (H : sat E w (vec e enc A n c l :: L)) : n ≤ c := own_cap H.own
theorem sat.nilVec {E w : World} {L : List HP} (H : sat E w L) {α : Type} (e : TypeId) (enc : α → Value) : sat E w (vec e enc none 0 0 [] :: L) := H.nilRow e 1
theorem sat.Sl {E w : World} {α : Type} {e : TypeId} {enc : α → Value} {A : Option Addr} {n c : Nat} {l : List α} {L : List HP} (H : sat E w (vec e enc A n c l :: L)) : Sl enc w A l := Sl.of_own H.own
theorem sat.vecShort {E w : World} {α : Type} {e : TypeId} {enc : α → Value} {A : Option Addr} {n c k : Nat} {l : List α} {L : List HP} (H : sat E w (vec e enc A n c l :: L)) (hk : k ≤ n) : sat E w (vec e enc A k c (l.take k) :: L) := by
  have := sat.short H hk
  rwa [← List.map_take] at this
theorem sat.litVec {E w : World} {L : List HP} (H : sat E w L) {α : Type} (enc : α → Value) (cs : Array Value) (t : TypeId) (l : List α) (hl : cs.toList = l.map enc) (hm : cs.size ≤ maxLen) : sat E (w.alloc (.cells cs t (0, 0))) (vec t enc (some ⟨w.heap.size, 0, none⟩) cs.size cs.size l :: L) := by
  have := (H.alloc cs t).toRow (size := 1) (n := cs.size) (cap := cs.size) (Nat.le_refl _) hm (by simp)
  rw [Nat.mul_one, show List.take cs.size cs.toList = cs.toList from by rw [← Array.length_toList, List.take_length], hl] at this
  exact this

theorem sat.emptyLit {E w : World} {L : List HP} (H : sat E w L) {α : Type} (enc : α → Value) (t : TypeId) : sat E (w.alloc (.cells #[] t (0, 0))) (vec t enc (some ⟨w.heap.size, 0, none⟩) 0 0 [] :: L) := H.litVec enc #[] t [] rfl (by decide)
theorem sat.vcell {E w : World} {α : Type} {e : TypeId} {enc : α → Value} {b o n c i : Nat} {l : List α} {x : α} {L : List HP} (H : sat E w (vec e enc (some ⟨b, o, none⟩) n c l :: L)) (hi : l[i]? = some x) : w.cell? ⟨b, o + i, none⟩ = some (enc x) := by
  obtain ⟨b', o', he, _, hc⟩ := H.Sl.cell hi
  injection he with he
  injection he with h1 h2
  subst h1 h2
  exact hc
theorem sat.vnil {E w : World} {α : Type} {e : TypeId} {enc : α → Value} {n c : Nat} {l : List α} {L : List HP} (H : sat E w (vec e enc none n c l :: L)) : n = 0 ∧ c = 0 := by
  rcases H.own.2 with ⟨h, _⟩ | ⟨_, _, _, h, _⟩
  · simp only [Value.slice.injEq] at h; omega
  · cases h
/-- 's[k:]' of a vec: the address, under one name. -/
theorem cut_name (A : Option Addr) (k c : Nat) : ∃ A', (if c = k then A else A.map (fun x => x.add k)) = A' := ⟨_, rfl⟩
theorem sat.cutSl {E w : World} {α : Type} {e : TypeId} {enc : α → Value} {A A' : Option Addr} {n c k : Nat} {l : List α} {L : List HP} (H : sat E w (vec e enc A n c l :: L)) (hk : k ≤ n) (hA : (if c = k then A else A.map (fun x => x.add k)) = A') : Go.Proofs.Ytbkjkiaicaopoaa.Sl enc w A' (l.drop k) := by
  obtain ⟨A'', e, h⟩ := H.Sl.cut k c (by rw [H.len]; exact hk) (by rw [H.len]; exact H.cap)
  rw [hA] at e
  subst e
  exact h
theorem sat.cutNil {E w : World} {α : Type} {e : TypeId} {enc : α → Value} {A A' : Option Addr} {n c k : Nat} {l : List α} {L : List HP} (H : sat E w (vec e enc A n c l :: L)) (hk : k ≤ n) (hA : (if c = k then A else A.map (fun x => x.add k)) = A') : A' = none → n - k = 0 ∧ c - k = 0 := by
  rintro rfl
  have hc := H.cap
  cases A with
  | none => have := H.vnil; omega
  | some x =>
    split at hA
    · cases hA
    · cases hA
section laws
variable {P : Program} {ops : Array Oper} {rest : List Oper} {o : Oper} {a : Act} {Q : Exit → Act → World → Prop}
theorem wpList_w {w : World} (hw : Region.wanted o (yielded ops a.tmps) = true) (h : ∀ K : Act → World → Prop, (∀ a w, wpList P ops Q rest a w → K a w) → o.wp P a w K Q) : wpList P ops Q (o :: rest) a w :=
  wpList_step fun K hK => by rw [if_pos hw]; exact h K hK
theorem wp_run {K : Act → World → Prop} {v : Value} {w w' : World} (h : (execOp a.eval o).run P w = .ok (.value v) w') (hK : K (a.put o.dst v) w') : o.wp P a w K Q := by
  unfold Oper.wp; rw [h]; exact hK
theorem step_run {K : Act → World → Prop} {F : Prop} (hgd : o.guard = none) {w : World} (h : o.wp P a w K Q) : if Region.wanted o (yielded ops a.tmps) = true then Oper.wp P o a w K Q else F := by
  have hw : Region.wanted o (yielded ops a.tmps) = true := by simp [Region.wanted, hgd]
  rw [if_pos hw]; exact h
/-- 'append(s, u)' of one element that was laid in a block of its own just before. -/
theorem run_app1 (s x : Operand) (t : TypeId) (ho : o.op = .call { callee := .builtin .append, args := #[s, x], argTypes := #[t, t] })
    {e : TypeId} {z : Value} {bytes : Nat} (hinf : (P.info? e).map (fun i => (i.zero, i.size, i.bytes)) = some (some z, 1, bytes)) (ht : P.underlying t = some (.slice e)) (hzs : z.cells.size = 1) (hby : bytes ≤ 64)
    {α : Type} {enc : α → Value} {E W : World} {A : Option Addr} {n c : Nat} {l : List α} {L : List HP} (H : sat E W (vec e enc A n c l :: L)) (y : α) {u : Value} (hu : u = enc y) (hs : a.eval s = .slice A n c) {B : Nat} (hx : a.eval x = .slice (some ⟨B, 0, none⟩) 1 1) (hB : B = W.heap.size)
    (h1 : (enc y).oneCell' = true) (hl : n < 1099511627776) :
    ∃ A' c' w', (execOp a.eval o).run P (W.alloc (.cells #[u] e)) = .ok (.value (.slice A' (n + 1) c')) w' ∧ sat E w' (vec e enc A' (n + 1) c' (l ++ [y]) :: L) := by
  subst hB hu
  obtain ⟨i0, hi, hz0, hz1, hz2⟩ := info_parts hinf
  have hnb : (n + 1) * bytes ≤ 140737488355328 := Nat.le_trans (Nat.mul_le_mul_left _ hby) (by omega)
  have hown : W.ownsRow 0 e 1 (.slice A n c) n (l.map enc) := H.own
  obtain ⟨v', w', hr, h2, h3, _, h5⟩ := run_append_own_at (P := P) (W.alloc (.cells #[enc y] e)) 0 t o.type e i0 z 1 bytes ht hi hz0 hz1 hz2 hzs (by decide) _ _ _ (hown.alloc _) ⟨W.heap.size, 0, none⟩ 1 1 [enc y] rfl (cell_one_new _ _ _)
    (by simpa using h1) (by unfold maxLen; omega) hnb (Nat.zero_le _)
  have hg : W.grownBy w' (Value.slice A n c).ownBlock := (World.grownBy_alloc W _ _).trans h3
  have H2 := sat.grown H h2 hg (h5.imp id fun h5 => ⟨_, h5, by simp⟩)
  have e1 : l.map enc ++ [enc y] = (l ++ [y]).map enc := by simp
  rw [e1] at H2
  obtain ⟨A', c', rfl⟩ := H2.form
  refine ⟨A', c', w', ?_, H2⟩
  unfold execOp
  simp only [ho, resolve, invoke, builtin, Sem.run_bind, Sem.run_pure, Result.andThen_ok, List.map_toArray, List.map_cons, List.map_nil, hs, hx, hr]
/-- 'append(s, l...)' of a slice that reads as a list, nil and empty ones too. -/
theorem run_appS (s x : Operand) (t : TypeId) (ho : o.op = .call { callee := .builtin .append, args := #[s, x], argTypes := #[t, t] })
    {e : TypeId} {z : Value} {bytes : Nat} (hinf : (P.info? e).map (fun i => (i.zero, i.size, i.bytes)) = some (some z, 1, bytes)) (ht : P.underlying t = some (.slice e)) (hzs : z.cells.size = 1) (hby : bytes ≤ 64)
    {α : Type} {enc : α → Value} {E W : World} {A : Option Addr} {n c : Nat} {l : List α} {L : List HP} (H : sat E W (vec e enc A n c l :: L)) (hs : a.eval s = .slice A n c) {B : Option Addr} {m d : Nat} {ys : List α} (hx : a.eval x = .slice B m d) (hm : ys.length = m) (hy : Sl enc W B ys)
    (h1 : ∀ y, (enc y).oneCell' = true) (hl : n + m ≤ 1099511627776) :
    ∃ A' c' w', (execOp a.eval o).run P W = .ok (.value (.slice A' (n + m) c')) w' ∧ sat E w' (vec e enc A' (n + m) c' (l ++ ys) :: L) := by
  obtain ⟨i0, hi, hz0, hz1, hz2⟩ := info_parts hinf
  have hown : W.ownsRow 0 e 1 (.slice A n c) n (l.map enc) := H.own
  subst hm
  cases B with
  | none =>
    have hl0 : ys = [] := by
      cases ys with
      | nil => rfl
      | cons y l => obtain ⟨b, o, e, _⟩ := hy (by simp); cases e
    subst hl0
    have hrun := run_append_nil (P := P) W 0 t o.type e i0 ht hi _ _ _ hown d
    refine ⟨A, c, W, ?_, by rw [List.append_nil]; exact H⟩
    simp only [execOp, ho, resolve, invoke, builtin, Sem.run_bind, Sem.run_pure, Result.andThen_ok, List.map_toArray, List.map_cons, List.map_nil, hs, hx, List.length_nil, hrun]
    rfl
  | some ad =>
    have hnb : (n + ys.length) * bytes ≤ 140737488355328 := Nat.le_trans (Nat.mul_le_mul_left _ hby) (by omega)
    obtain ⟨v', w', hr, h2, h3, _, h5⟩ := run_append_own_at (P := P) W 0 t o.type e i0 z 1 bytes ht hi hz0 hz1 hz2 hzs (by decide) _ _ _ hown ad ys.length d (ys.map enc) (by simp) (by
        intro j u hj
        rw [List.getElem?_map] at hj
        cases ey : ys[j]? with
        | none => rw [ey] at hj; simp at hj
        | some y =>
          rw [ey] at hj
          simp only [Option.map_some, Option.some.injEq] at hj
          obtain ⟨b, o, e, _, hc⟩ := hy.cell ey
          injection e with e
          subst e hj
          rw [add_off]; exact hc) (by simp only [List.mem_map]; rintro u ⟨y, _, rfl⟩; exact h1 y) (by unfold maxLen; omega) hnb (Nat.zero_le _)
    have H2 := sat.grown H h2 h3 (h5.imp id fun h5 => ⟨_, h5, Nat.le_refl _⟩)
    rw [← List.map_append] at H2
    obtain ⟨A', c', rfl⟩ := H2.form
    refine ⟨A', c', w', ?_, H2⟩
    unfold execOp
    simp only [ho, resolve, invoke, builtin, Sem.run_bind, Sem.run_pure, Result.andThen_ok, List.map_toArray, List.map_cons, List.map_nil, hs, hx, hr]

theorem wp_app1 {K : Act → World → Prop} (s x : Operand) (t : TypeId) (ho : o.op = .call { callee := .builtin .append, args := #[s, x], argTypes := #[t, t] })
    {e : TypeId} {z : Value} {bytes : Nat} (hinf : (P.info? e).map (fun i => (i.zero, i.size, i.bytes)) = some (some z, 1, bytes)) (ht : P.underlying t = some (.slice e)) (hzs : z.cells.size = 1) (hby : bytes ≤ 64)
    {α : Type} {enc : α → Value} {E W : World} {A : Option Addr} {n c : Nat} {l : List α} {L : List HP} (H : sat E W (vec e enc A n c l :: L)) (y : α) {u : Value} (hu : u = enc y) (hs : a.eval s = .slice A n c) {B : Nat} (hx : a.eval x = .slice (some ⟨B, 0, none⟩) 1 1) (hB : B = W.heap.size)
    (h1 : (enc y).oneCell' = true) (hl : n < 1099511627776)
    (h : ∀ A' c' w', sat E w' (vec e enc A' (n + 1) c' (l ++ [y]) :: L) → K (a.put o.dst (.slice A' (n + 1) c')) w') : o.wp P a (W.alloc (.cells #[u] e)) K Q := by
  obtain ⟨A', c', w', hr, h2⟩ := run_app1 s x t ho hinf ht hzs hby H y hu hs hx hB h1 hl
  exact wp_run hr (h A' c' w' h2)
theorem wpList_app1 (hw : Region.wanted o (yielded ops a.tmps) = true) (s x : Operand) (t : TypeId) (ho : o.op = .call { callee := .builtin .append, args := #[s, x], argTypes := #[t, t] })
    {e : TypeId} {z : Value} {bytes : Nat} (hinf : (P.info? e).map (fun i => (i.zero, i.size, i.bytes)) = some (some z, 1, bytes)) (ht : P.underlying t = some (.slice e)) (hzs : z.cells.size = 1) (hby : bytes ≤ 64)
    {α : Type} {enc : α → Value} {E W : World} {A : Option Addr} {n c : Nat} {l : List α} {L : List HP} (H : sat E W (vec e enc A n c l :: L)) (y : α) {u : Value} (hu : u = enc y) (hs : a.eval s = .slice A n c) {B : Nat} (hx : a.eval x = .slice (some ⟨B, 0, none⟩) 1 1) (hB : B = W.heap.size)
    (h1 : (enc y).oneCell' = true) (hl : n < 1099511627776)
    (h : ∀ A' c' w', sat E w' (vec e enc A' (n + 1) c' (l ++ [y]) :: L) → wpList P ops Q rest (a.put o.dst (.slice A' (n + 1) c')) w') : wpList P ops Q (o :: rest) a (W.alloc (.cells #[u] e)) :=
  wpList_w hw fun _ hK => wp_app1 s x t ho hinf ht hzs hby H y hu hs hx hB h1 hl fun A' c' w' h2 => hK _ _ (h A' c' w' h2)
theorem wp_appS {K : Act → World → Prop} (s x : Operand) (t : TypeId) (ho : o.op = .call { callee := .builtin .append, args := #[s, x], argTypes := #[t, t] })
    {e : TypeId} {z : Value} {bytes : Nat} (hinf : (P.info? e).map (fun i => (i.zero, i.size, i.bytes)) = some (some z, 1, bytes)) (ht : P.underlying t = some (.slice e)) (hzs : z.cells.size = 1) (hby : bytes ≤ 64)
    {α : Type} {enc : α → Value} {E W : World} {A : Option Addr} {n c : Nat} {l : List α} {L : List HP} (H : sat E W (vec e enc A n c l :: L)) (hs : a.eval s = .slice A n c) {B : Option Addr} {m d : Nat} {ys : List α} (hx : a.eval x = .slice B m d) (hm : ys.length = m) (hy : Sl enc W B ys)
    (h1 : ∀ y, (enc y).oneCell' = true) (hl : n + m ≤ 1099511627776)
    (h : ∀ A' c' w', sat E w' (vec e enc A' (n + m) c' (l ++ ys) :: L) → K (a.put o.dst (.slice A' (n + m) c')) w') : o.wp P a W K Q := by
  obtain ⟨A', c', w', hr, h2⟩ := run_appS s x t ho hinf ht hzs hby H hs hx hm hy h1 hl
  exact wp_run hr (h A' c' w' h2)
theorem wpList_appS (hw : Region.wanted o (yielded ops a.tmps) = true) (s x : Operand) (t : TypeId) (ho : o.op = .call { callee := .builtin .append, args := #[s, x], argTypes := #[t, t] })
    {e : TypeId} {z : Value} {bytes : Nat} (hinf : (P.info? e).map (fun i => (i.zero, i.size, i.bytes)) = some (some z, 1, bytes)) (ht : P.underlying t = some (.slice e)) (hzs : z.cells.size = 1) (hby : bytes ≤ 64)
    {α : Type} {enc : α → Value} {E W : World} {A : Option Addr} {n c : Nat} {l : List α} {L : List HP} (H : sat E W (vec e enc A n c l :: L)) (hs : a.eval s = .slice A n c) {B : Option Addr} {m d : Nat} {ys : List α} (hx : a.eval x = .slice B m d) (hm : ys.length = m) (hy : Sl enc W B ys)
    (h1 : ∀ y, (enc y).oneCell' = true) (hl : n + m ≤ 1099511627776)
    (h : ∀ A' c' w', sat E w' (vec e enc A' (n + m) c' (l ++ ys) :: L) → wpList P ops Q rest (a.put o.dst (.slice A' (n + m) c')) w') : wpList P ops Q (o :: rest) a W :=
  wpList_w hw fun _ hK => wp_appS s x t ho hinf ht hzs hby H hs hx hm hy h1 hl fun A' c' w' h2 => hK _ _ (h A' c' w' h2)
end laws
end Go.Proofs.Ytbkjkiaicaopoaa
