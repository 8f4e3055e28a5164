/- A block that is known whole. No program in sight. -/
import Derived.Test.YtljmhenhibhbfaaMem
import Derived.Lib.SmallJoins
namespace Go.Proofs.Ytljmhenhibhbfaa
open Go.RowKit

/-- Block g is just these cells of type t, none of them frozen. -/
def Blk (w : World) (g : Nat) (t : TypeId) (cs : Array Value) : Prop := w.heap[g]? = some (.cells cs t (0, 0))

section
variable {w w' : World} {g : Nat} {t : TypeId} {cs : Array Value}
theorem Blk.lt (h : Blk w g t cs) : g < w.heap.size := by
  rcases Nat.lt_or_ge g w.heap.size with k | k
  · exact k
  · unfold Blk at h; rw [Array.getElem?_eq_none k] at h; cases h
theorem Blk.cell (h : Blk w g t cs) (i : Nat) : w.cell? ⟨g, i, none⟩ = cs[i]? := Go.Joins.cell_of_block h i
theorem Blk.unfrozen (h : Blk w g t cs) (i : Nat) : w.frozen? ⟨g, i, none⟩ = false := Go.Joins.unfrozen_of_block h i
theorem Blk.new (w : World) (t : TypeId) (cs : Array Value) : Blk (w.alloc (.cells cs t)) w.heap.size t cs := by
  show (w.heap.push _)[w.heap.size]? = _
  simp
theorem Blk.below {B : Nat} (h : Blk w g t cs) (hb : Below B w w') (hg : g < B) : Blk w' g t cs := (hb.block g hg).trans h
theorem Blk.grow (h : Blk w g t cs) (hb : Below w.heap.size w w') : Blk w' g t cs := h.below hb h.lt
theorem Blk.alloc (h : Blk w g t cs) (o : Obj) : Blk (w.alloc o) g t cs := h.grow ((Below.refl _ _).alloc (Nat.le_refl _) o)
theorem Blk.set (h : Blk w g t cs) (i : Nat) (v : Value) : Blk (w.setCell ⟨g, i, none⟩ v) g t (cs.setIfInBounds i v) := Go.Joins.block_setCell h v
theorem Blk.far (h : Blk w g t cs) {b i : Nat} (hb : b ≠ g) (v : Value) : Blk (w.setCell ⟨b, i, none⟩ v) g t cs := by
  rcases Nat.lt_or_gt_of_ne hb with k | k
  · unfold Blk at *
    simp only [World.setCell]
    rw [Array.getElem?_modify, if_neg hb]
    exact h
  · exact h.below ((Below.refl (g + 1) w).setCell (p := ⟨b, i, none⟩) k v) (Nat.lt_succ_self g)
end
end Go.Proofs.Ytljmhenhibhbfaa
