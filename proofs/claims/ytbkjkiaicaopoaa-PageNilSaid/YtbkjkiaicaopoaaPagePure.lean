/-
  A page's bytes, in plain lists: what stands where; and what is read of bytes.
-/
import Derived.Test.YtbkjkiaicaopoaaBytesStr
namespace Go.Proofs.Ytbkjkiaicaopoaa.Pg
open Go.RowKit Go.Proofs.Ytbkjkiaicaopoaa

structure PageSt where
  size : Nat
  l : List (List UInt8)
/-- Bytes of pieces. -/
def used (l : List (List UInt8)) : Nat := (l.map List.length).sum
def PageSt.room (s : PageSt) : Int := s.size - 1 - 4 * s.l.length - used s.l
theorem used_nil : used [] = 0 := rfl
theorem used_cons (x : List UInt8) (l : List (List UInt8)) : used (x :: l) = x.length + used l := by simp [used]
theorem used_app (a b : List (List UInt8)) : used (a ++ b) = used a + used b := by simp [used]
theorem take_succ {α : Type} {l : List α} {k : Nat} {x : α} (h : l[k]? = some x) : l.take (k + 1) = l.take k ++ [x] := by rw [List.take_add_one, h]; rfl
theorem used_take {l : List (List UInt8)} {k : Nat} {x : List UInt8} (h : l[k]? = some x) : used (l.take (k + 1)) = used (l.take k) + x.length := by
  rw [take_succ h, used_app, used_cons, used_nil, Nat.add_zero]
theorem used_take_le (l : List (List UInt8)) (k : Nat) : used (l.take k) ≤ used l := by
  conv => rhs; rw [← List.take_append_drop k l, used_app]
  omega
theorem used_bound {l : List (List UInt8)} {m : Nat} (h : ∀ x ∈ l, x.length ≤ m) : used l ≤ l.length * m := by
  induction l with
  | nil => simp [used]
  | cons x l ih =>
    rw [used_cons, List.length_cons, Nat.add_mul, Nat.one_mul]
    have := ih (fun y hy => h y (List.mem_cons_of_mem _ hy))
    have := h x (by simp)
    omega
def lo (n : Nat) : UInt8 := UInt8.ofNat (n % 256)
def hi (n : Nat) : UInt8 := UInt8.ofNat (n / 256 % 256)
/-- A slot's four bytes. -/
def slotB (a n : Nat) : List UInt8 := [lo a, hi a, lo n, hi n]
/-- All slots, the first piece ending at e. -/
def slots : Nat → List (List UInt8) → List UInt8
  | _, [] => []
  | e, x :: l => slotB (if x.length = 0 then 0 else e - x.length) x.length ++ slots (e - x.length) l
/-- Pieces, the last one first. -/
def body (l : List (List UInt8)) : List UInt8 := l.reverse.flatten
/-- Behind the first k pieces. -/
def layK (size : Nat) (h : UInt8) (l : List (List UInt8)) (k : Nat) : List UInt8 :=
  (h :: slots size (l.take k)) ++ List.replicate (size - 1 - 4 * k - used (l.take k)) 0 ++ body (l.take k)
def PageSt.bytes (s : PageSt) : List UInt8 := layK s.size (lo s.l.length) s.l s.l.length
theorem slots_len : ∀ (l : List (List UInt8)) (e : Nat), (slots e l).length = 4 * l.length
  | [], _ => rfl
  | x :: l, e => by
    show (slotB _ _ ++ slots _ l).length = _
    rw [List.length_append, slots_len l, List.length_cons]
    simp [slotB]; omega
theorem slots_snoc (x : List UInt8) : ∀ (l : List (List UInt8)) (e : Nat), slots e (l ++ [x]) = slots e l ++ slotB (if x.length = 0 then 0 else e - used l - x.length) x.length
  | [], e => by simp [slots, used]
  | y :: l, e => by
    show slotB _ _ ++ slots _ (l ++ [x]) = (slotB _ _ ++ slots _ l) ++ _
    rw [slots_snoc x l, used_cons, List.append_assoc, show e - (y.length + used l) = e - y.length - used l by omega]
theorem body_snoc (x : List UInt8) (l : List (List UInt8)) : body (l ++ [x]) = x ++ body l := by simp [body]
theorem body_len (l : List (List UInt8)) : (body l).length = used l := by
  induction l with
  | nil => rfl
  | cons x l ih =>
    rw [used_cons, ← ih]
    simp [body]; omega
theorem layK_len {size : Nat} {h : UInt8} {l : List (List UInt8)} {k : Nat} (hk : k ≤ l.length) (hr : 1 + 4 * k + used (l.take k) ≤ size) : (layK size h l k).length = size := by
  unfold layK
  simp [slots_len, body_len, List.length_take]
  omega
/-- Four bytes into zeros. -/
theorem set4 {P T : List UInt8} {Z : Nat} (hz : 4 ≤ Z) (a b c d : UInt8) :
    ((((P ++ List.replicate Z 0 ++ T).set P.length a).set (P.length + 1) b).set (P.length + 2) c).set (P.length + 3) d = P ++ [a, b, c, d] ++ List.replicate (Z - 4) 0 ++ T := by
  obtain ⟨z, rfl⟩ : ∃ z, Z = z + 4 := ⟨Z - 4, by omega⟩
  have e : List.replicate (z + 4) (0 : UInt8) = 0 :: 0 :: 0 :: 0 :: List.replicate z 0 := by simp [List.replicate_succ]
  rw [e, Nat.add_sub_cancel]
  simp only [List.append_assoc, List.cons_append]
  have s1 : ∀ (Q R : List UInt8) (n : Nat) (x : UInt8), (Q ++ R).set (Q.length + n) x = Q ++ R.set n x := fun Q R n x => by
    rw [List.set_append_right _ _ (by omega)]; congr 1; congr 1; omega
  have s0 := s1 P (0 :: 0 :: 0 :: 0 :: (List.replicate z 0 ++ T)) 0 a
  rw [Nat.add_zero] at s0
  rw [s0, s1, s1, s1]
  rfl
/-- A piece at the zeros' end. -/
theorem putAt {P T x : List UInt8} {Z : Nat} (hz : x.length ≤ Z) :
    (P ++ List.replicate Z 0 ++ T).take (P.length + (Z - x.length)) ++ x ++ (P ++ List.replicate Z 0 ++ T).drop (P.length + (Z - x.length) + x.length) = P ++ List.replicate (Z - x.length) 0 ++ (x ++ T) := by
  have e : P ++ List.replicate Z 0 ++ T = (P ++ List.replicate (Z - x.length) 0) ++ (List.replicate x.length 0 ++ T) := by
    have e0 : List.replicate Z (0 : UInt8) = List.replicate (Z - x.length) 0 ++ List.replicate x.length 0 := by
      rw [List.replicate_append_replicate]; congr 1; omega
    rw [e0, List.append_assoc, List.append_assoc, List.append_assoc]
  have l1 : (P ++ List.replicate (Z - x.length) (0 : UInt8)).length = P.length + (Z - x.length) := by simp
  rw [e, ← l1, List.take_left, ← List.drop_drop, List.drop_left]
  rw [show List.drop x.length (List.replicate x.length (0 : UInt8) ++ T) = T from by
    have : x.length = (List.replicate x.length (0 : UInt8)).length := by simp
    conv => lhs; arg 1; rw [this]
    rw [List.drop_left]]
  simp [List.append_assoc]
/-- One more piece. -/
theorem layK_succ {size : Nat} {h : UInt8} {l : List (List UInt8)} {k : Nat} {x : List UInt8} (hx : l[k]? = some x) (hr : 1 + 4 * (k + 1) + used (l.take (k + 1)) ≤ size) :
    let s4 := ((((layK size h l k).set (1 + 4 * k) (lo (if x.length = 0 then 0 else size - used (l.take (k + 1))))).set (1 + 4 * k + 1) (hi (if x.length = 0 then 0 else size - used (l.take (k + 1))))).set (1 + 4 * k + 2) (lo x.length)).set (1 + 4 * k + 3) (hi x.length)
    s4.length = size ∧ (x.length = 0 → s4 = layK size h l (k + 1)) ∧ s4.take (size - used (l.take (k + 1))) ++ x ++ s4.drop (size - used (l.take (k + 1)) + x.length) = layK size h l (k + 1) := by
  have hut := used_take hx
  have hkl : k < l.length := (List.getElem?_eq_some_iff.1 hx).1
  obtain ⟨P, eP⟩ : ∃ P, P = h :: slots size (l.take k) := ⟨_, rfl⟩
  have lP : P.length = 1 + 4 * k := by rw [eP, List.length_cons, slots_len, List.length_take]; omega
  obtain ⟨Z, eZ⟩ : ∃ Z, Z = size - 1 - 4 * k - used (l.take k) := ⟨_, rfl⟩
  obtain ⟨a, ea⟩ : ∃ a, a = if x.length = 0 then 0 else size - used (l.take (k + 1)) := ⟨_, rfl⟩
  have ea2 : a = if x.length = 0 then 0 else size - used (l.take k) - x.length := by rw [ea, hut]; congr 1; omega
  intro s4
  have e4 : s4 = P ++ slotB a x.length ++ List.replicate (Z - 4) 0 ++ body (l.take k) := by
    have := set4 (P := P) (T := body (l.take k)) (Z := Z) (by omega) (lo a) (hi a) (lo x.length) (hi x.length)
    rw [lP, eP, eZ] at this
    show ((((layK size h l k).set (1 + 4 * k) (lo _)).set (1 + 4 * k + 1) (hi _)).set (1 + 4 * k + 2) (lo x.length)).set (1 + 4 * k + 3) (hi x.length) = _
    rw [← ea, eP, eZ]
    exact this
  have e5 : layK size h l (k + 1) = P ++ slotB a x.length ++ List.replicate (Z - 4 - x.length) 0 ++ (x ++ body (l.take k)) := by
    unfold layK
    rw [take_succ hx, slots_snoc, body_snoc, ← ea2, eP, used_app, used_cons, used_nil, eZ]
    rw [show size - 1 - 4 * (k + 1) - (used (l.take k) + (x.length + 0)) = size - 1 - 4 * k - used (l.take k) - 4 - x.length by omega]
    simp
  have e6 : (P ++ slotB a x.length).length = 1 + 4 * k + 4 := by rw [List.length_append, lP]; simp [slotB]
  refine ⟨?_, ?_, ?_⟩
  · rw [e4, List.length_append, List.length_append, e6, List.length_replicate, body_len]
    omega
  · intro h0
    have hx0 : x = [] := List.length_eq_zero_iff.1 h0
    rw [e4, e5, h0, hx0]; simp
  · have := putAt (P := P ++ slotB a x.length) (T := body (l.take k)) (x := x) (Z := Z - 4) (by omega)
    rw [e6, ← e4, ← e5] at this
    rw [← this]
    rw [show size - used (l.take (k + 1)) = 1 + 4 * k + 4 + (Z - 4 - x.length) by omega]
end Go.Proofs.Ytbkjkiaicaopoaa.Pg
