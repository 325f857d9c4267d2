/-
  Small laws on worlds: a block known whole; naming a world by what is known of it.
-/
import Derived.Below
import Derived.Deep.Draws
import Derived.OwnWalk
import Derived.WalkKit
import Derived.WalkSmall
import Derived.Laws.Rows
import Derived.Lib.Hide
namespace Go.Proofs.Ytbkjkiaicaopoaa
open Go.RowKit

/-- Block g holds just these cells. -/
def Blk (w : World) (g : Nat) (cs : Array Value) (t : TypeId) : Prop := w.heap[g]? = some (.cells cs t (0, 0))

theorem heap_setCell_at (w : World) (b i : Nat) (v : Value) (g : Nat) :
    (w.setCell ⟨b, i, none⟩ v).heap[g]? = if g = b then (match w.heap[b]? with | some (.cells c t z) => some (.cells (c.setIfInBounds i v) t z) | o => o) else w.heap[g]? := by
  simp only [World.setCell, Array.getElem?_modify]
  by_cases h : g = b
  · subst h
    rw [if_pos rfl, if_pos rfl]
    cases e : w.heap[g]? with
    | none => rfl
    | some o => cases o <;> rfl
  · rw [if_neg h, if_neg (fun e => h e.symm)]

theorem heap_alloc_at (w : World) (o : Obj) (g : Nat) : (w.alloc o).heap[g]? = if g = w.heap.size then some o else w.heap[g]? := by
  show (w.heap.push o)[g]? = _
  rw [Array.getElem?_push]

theorem Blk.cell {w : World} {g : Nat} {t : TypeId} {cs : Array Value} (h : Blk w g cs t) (i : Nat) : w.cell? ⟨g, i, none⟩ = cs[i]? := cell_of_row w g i cs t (0, 0) h
theorem Blk.frozen {w : World} {g : Nat} {t : TypeId} {cs : Array Value} (h : Blk w g cs t) (i : Nat) : w.frozen? ⟨g, i, none⟩ = false := by
  unfold Blk at h; simp [World.frozen?, h]
theorem Blk.lt {w : World} {g : Nat} {t : TypeId} {cs : Array Value} (h : Blk w g cs t) : g < w.heap.size := (Array.getElem?_eq_some_iff.1 h).1
theorem Blk.below {w w1 : World} {g : Nat} {t : TypeId} {cs : Array Value} (h : Blk w g cs t) (hb : Below w.heap.size w w1) : Blk w1 g cs t := (hb.block g h.lt).trans h
theorem Blk.below' {w w1 : World} {B g : Nat} {t : TypeId} {cs : Array Value} (h : Blk w g cs t) (hg : g < B) (hb : Below B w w1) : Blk w1 g cs t := (hb.block g hg).trans h

/-- Block g, kept from simp's own rules on arrays. -/
def obj (w : World) (g : Nat) : Option Obj := w.heap[g]?
theorem obj_setCell (w : World) (b i : Nat) (v : Value) (g : Nat) :
    obj (w.setCell ⟨b, i, none⟩ v) g = if g = b then (match obj w b with | some (.cells c t z) => some (.cells (c.setIfInBounds i v) t z) | o => o) else obj w g := heap_setCell_at w b i v g
theorem obj_alloc (w : World) (o : Obj) (g : Nat) : obj (w.alloc o) g = if g = w.heap.size then some o else obj w g := heap_alloc_at w o g
theorem obj_drewN (w : World) (n g : Nat) : obj (w.drewN n) g = obj w g := rfl
theorem obj_drew (w : World) (g : Nat) : obj w.drew g = obj w g := rfl
theorem Blk.of_obj {w : World} {g : Nat} {t : TypeId} {cs : Array Value} (h : obj w g = some (.cells cs t (0, 0))) : Blk w g cs t := h
theorem Blk.obj {w : World} {g : Nat} {t : TypeId} {cs : Array Value} (h : Blk w g cs t) : Go.Proofs.Ytbkjkiaicaopoaa.obj w g = some (.cells cs t (0, 0)) := h

theorem name_world {P : Program} {c : Code} {Q : Exit → Act → World → Prop} {a : Act} {W : World} (F : World → Prop) (hF : F W) (h : ∀ W', F W' → Code.wp P c Q a W') : Code.wp P c Q a W := h W hF
theorem name_rounds {P : Program} {c : Code} {Q : Exit → Act → World → Prop} {n : Nat} {a : Act} {W : World} (F : World → Prop) (hF : F W) (h : ∀ W', F W' → Code.rounds P c Q n a W') : Code.rounds P c Q n a W := h W hF
theorem bcell {W w1 : World} (hb : Below W.heap.size W w1) : (∀ b o, b < W.heap.size → w1.cell? ⟨b, o, none⟩ = W.cell? ⟨b, o, none⟩) ∧ (∀ b o, b < W.heap.size → w1.frozen? ⟨b, o, none⟩ = W.frozen? ⟨b, o, none⟩) :=
  ⟨fun b o h => hb.cell (p := ⟨b, o, none⟩) h, fun b o h => hb.frozen (p := ⟨b, o, none⟩) h⟩
end Go.Proofs.Ytbkjkiaicaopoaa
