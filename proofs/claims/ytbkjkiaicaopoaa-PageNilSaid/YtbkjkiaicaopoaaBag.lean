/-
  Slices of bytes, each owned, that a row of the call's own holds: a bag of them.
-/
import Derived.Test.YtbkjkiaicaopoaaRws
namespace Go.Proofs.Ytbkjkiaicaopoaa
open Go.RowKit

/-- A slice of bytes: its cell, and what it reads. -/
structure Sec where
  A : Option Addr
  n : Nat
  c : Nat
  l : List UInt8
def Sec.v (s : Sec) : Value := .slice s.A s.n s.c
def Sec.hp (t : TypeId) (s : Sec) : HP := vec t B8 s.A s.n s.c s.l
theorem Sec.v_one (s : Sec) : s.v.oneCell' = true := rfl
def bag (t : TypeId) (ss : List Sec) : HP := star (ss.map (Sec.hp t))
section
variable {E w : World} {t : TypeId} {ss : List Sec} {s s' : Sec} {L : List HP} {i : Nat}
theorem sat.bagNil (H : sat E w L) (t : TypeId) : sat E w (bag t [] :: L) := sat.fold (L := []) H
theorem split_at {α : Type} {l : List α} {i : Nat} {x : α} (h : l[i]? = some x) : l = l.take i ++ x :: l.drop (i + 1) := by
  have hl := (List.getElem?_eq_some_iff.1 h).1
  have e : l.drop i = x :: l.drop (i + 1) := by
    rw [List.drop_eq_getElem_cons hl]
    congr 1
    rw [List.getElem?_eq_getElem hl] at h
    exact Option.some.inj h
  rw [← e, List.take_append_drop]
theorem sat.bagOut (H : sat E w (bag t ss :: L)) (hi : ss[i]? = some s) : sat E w (s.hp t :: bag t (ss.take i ++ ss.drop (i + 1)) :: L) := by
  have H1 := sat.flat H
  rw [split_at hi, List.map_append, List.map_cons] at H1
  have H2 : sat E w (s.hp t :: (((ss.take i ++ ss.drop (i + 1)).map (Sec.hp t)) ++ L)) := by
    refine H1.perm ?_
    rw [List.map_append, List.append_assoc, List.append_assoc, List.cons_append]
    exact (List.perm_middle)
  have H3 : sat E w (s.hp t :: bag t (ss.take i ++ ss.drop (i + 1)) :: L) := by
    refine (H2.perm (perm_front (((ss.take i ++ ss.drop (i + 1)).map (Sec.hp t))) (s.hp t) L).symm).fold.perm ?_
    exact List.Perm.swap _ _ _
  exact H3
theorem sat.bagGet (H : sat E w (bag t ss :: L)) (hi : ss[i]? = some s) : sat E w (s.hp t :: L) := by
  have := H.bagOut hi
  exact this.pull1.tail
theorem sat.bagIn (H : sat E w (s.hp t :: bag t ss :: L)) (i : Nat) (hi : i ≤ ss.length) : sat E w (bag t (ss.take i ++ s :: ss.drop i) :: L) := by
  have H1 := sat.flat H.pull1
  refine sat.fold (L := (ss.take i ++ s :: ss.drop i).map (Sec.hp t)) ?_
  refine H1.perm ?_
  rw [List.map_append, List.map_cons, List.append_assoc, List.cons_append]
  have e : ss.map (Sec.hp t) = (ss.take i).map (Sec.hp t) ++ (ss.drop i).map (Sec.hp t) := by rw [← List.map_append, List.take_append_drop]
  rw [e, List.append_assoc]
  exact List.Perm.append_left _ List.perm_middle
theorem sat.bagUncons (H : sat E w (bag t (s :: ss) :: L)) : sat E w (s.hp t :: bag t ss :: L) := H.bagOut (i := 0) rfl
theorem sat.bagPush (H : sat E w (s.hp t :: bag t ss :: L)) : sat E w (bag t (ss ++ [s]) :: L) := by
  have := H.bagIn ss.length (Nat.le_refl _)
  rw [List.take_length, List.drop_length] at this
  exact this
theorem sat.bagSet (H : sat E w (s.hp t :: bag t ss :: L)) (hi : i < ss.length) : sat E w (bag t (ss.set i s) :: L) := by
  obtain ⟨x, ex⟩ : ∃ x, ss[i]? = some x := ⟨_, List.getElem?_eq_getElem hi⟩
  have H1 := H.pull1.bagOut ex
  have H2 := H1.tail.pull1
  have H3 := H2.bagIn i (by rw [List.length_append, List.length_take]; omega)
  have e : (ss.take i ++ ss.drop (i + 1)).take i ++ s :: (ss.take i ++ ss.drop (i + 1)).drop i = ss.set i s := by
    have hl : (ss.take i).length = i := by rw [List.length_take]; omega
    rw [List.take_left' hl, List.drop_left' hl, List.set_eq_take_append_cons_drop, if_pos hi]
  rw [e] at H3
  exact H3
theorem sat.bagTake (H : sat E w (bag t ss :: L)) (k : Nat) : sat E w (bag t (ss.take k) :: L) := by
  have H1 := sat.flat H
  rw [← List.take_append_drop k ss, List.map_append] at H1
  refine sat.fold (L := (ss.take k).map (Sec.hp t)) (sat.dropFront (B := (ss.drop k).map (Sec.hp t)) (H1.perm ?_))
  rw [List.append_assoc]
  exact (List.perm_append_comm_assoc _ _ _)
end
end Go.Proofs.Ytbkjkiaicaopoaa
