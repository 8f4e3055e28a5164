/- Slices that read as lists: of ints, of points. No program in sight. -/
import Derived.Test.YtljmhenhibhbfaaReg
namespace Go.Proofs.Ytljmhenhibhbfaa
open Go.RowKit

theorem ret_bool {a b : Bool} (h : a = b) : Ending.returned (.bool a) = .returned (.bool b) := by rw [h]
theorem ret_int {k : IntKind} {a b : Int} (h : a = b) : Ending.returned (.int k a) = .returned (.int k b) := by rw [h]
theorem bcell {W w1 : World} {B : Nat} (hb : Below B W w1) : (∀ b o, b < B → w1.cell? ⟨b, o, none⟩ = W.cell? ⟨b, o, none⟩) ∧ (∀ b o, b < B → w1.frozen? ⟨b, o, none⟩ = W.frozen? ⟨b, o, none⟩) := Reg.bcell hb

/-- A callee's world, told from an earlier one. -/
theorem calls_from {P : Program} {f : FuncId} {args : Array Value} {W0 w : World} {p : Ending → Prop} (hb : Below W0.heap.size W0 w)
    (h : Calls P f args w fun e w' => p e ∧ Below w.heap.size w w') : Calls P f args w fun e w' => p e ∧ Below W0.heap.size W0 w' :=
  h.mono fun _ _ ⟨he, hw⟩ => ⟨he, hb.trans (hw.mono hb.size)⟩

/-- A slice of ints, read as a list, below block B. -/
def RInts (w : World) (B : Nat) (a : Option Addr) (n : Nat) (l : List Int) : Prop :=
  l.length = n ∧ ∀ k v, l[k]? = some v → ∃ b off, a = some ⟨b, off, none⟩ ∧ b < B ∧ w.cell? ⟨b, off + k, none⟩ = some (.int .i64 v)
/-- A slice of points, read as a list of pairs, below block B. -/
def RPts (w : World) (B : Nat) (a : Option Addr) (n : Nat) (l : List (Int × Int)) : Prop :=
  l.length = n ∧ ∀ k p, l[k]? = some p → ∃ b off, a = some ⟨b, off, none⟩ ∧ b < B ∧
    w.cell? ⟨b, off + k * 2, none⟩ = some (.int .i64 p.1) ∧ w.cell? ⟨b, off + k * 2 + 1, none⟩ = some (.int .i64 p.2)

theorem RInts.below {w w' : World} {B : Nat} {a : Option Addr} {n : Nat} {l : List Int} (h : RInts w B a n l) (hb : Below B w w') : RInts w' B a n l :=
  ⟨h.1, fun k v hk => by
    obtain ⟨b, off, h1, h2, h3⟩ := h.2 k v hk
    exact ⟨b, off, h1, h2, (hb.cell (p := ⟨b, off + k, none⟩) h2).trans h3⟩⟩
theorem RInts.more {w : World} {B B' : Nat} {a : Option Addr} {n : Nat} {l : List Int} (h : RInts w B a n l) (hB : B ≤ B') : RInts w B' a n l :=
  ⟨h.1, fun k v hk => by
    obtain ⟨b, off, h1, h2, h3⟩ := h.2 k v hk
    exact ⟨b, off, h1, by omega, h3⟩⟩
theorem RPts.below {w w' : World} {B : Nat} {a : Option Addr} {n : Nat} {l : List (Int × Int)} (h : RPts w B a n l) (hb : Below B w w') : RPts w' B a n l :=
  ⟨h.1, fun k v hk => by
    obtain ⟨b, off, h1, h2, h3, h4⟩ := h.2 k v hk
    exact ⟨b, off, h1, h2, (hb.cell (p := ⟨b, off + k * 2, none⟩) h2).trans h3, (hb.cell (p := ⟨b, off + k * 2 + 1, none⟩) h2).trans h4⟩⟩
theorem RPts.more {w : World} {B B' : Nat} {a : Option Addr} {n : Nat} {l : List (Int × Int)} (h : RPts w B a n l) (hB : B ≤ B') : RPts w B' a n l :=
  ⟨h.1, fun k v hk => by
    obtain ⟨b, off, h1, h2, h3, h4⟩ := h.2 k v hk
    exact ⟨b, off, h1, by omega, h3, h4⟩⟩
/-- Into a world that has grown. -/
theorem RInts.grow {w w' : World} {a : Option Addr} {n : Nat} {l : List Int} (h : RInts w w.heap.size a n l) (hb : Below w.heap.size w w') : RInts w' w'.heap.size a n l := (h.below hb).more hb.size
theorem RPts.grow {w w' : World} {a : Option Addr} {n : Nat} {l : List (Int × Int)} (h : RPts w w.heap.size a n l) (hb : Below w.heap.size w w') : RPts w' w'.heap.size a n l := (h.below hb).more hb.size
/-- A row of ints in a block of the call's own. -/
theorem RInts.new {w : World} {g : Nat} {l : List Int} (hg : g < w.heap.size) (h : ∀ k v, l[k]? = some v → w.cell? ⟨g, k, none⟩ = some (.int .i64 v)) : RInts w w.heap.size (some ⟨g, 0, none⟩) l.length l :=
  ⟨rfl, fun k v hk => ⟨g, 0, rfl, hg, by rw [Nat.zero_add]; exact h k v hk⟩⟩
theorem RPts.new {w : World} {g : Nat} {l : List (Int × Int)} (hg : g < w.heap.size)
    (h : ∀ k p, l[k]? = some p → w.cell? ⟨g, k * 2, none⟩ = some (.int .i64 p.1) ∧ w.cell? ⟨g, k * 2 + 1, none⟩ = some (.int .i64 p.2)) : RPts w w.heap.size (some ⟨g, 0, none⟩) l.length l :=
  ⟨rfl, fun k p hk => ⟨g, 0, rfl, hg, by rw [Nat.zero_add]; exact h k p hk⟩⟩

theorem take_snoc {α : Type} (l : List α) (k : Nat) (h : k < l.length) : l.take (k + 1) = l.take k ++ [l[k]] := List.take_succ_eq_append_getElem h
theorem drop_cons {α : Type} (l : List α) (k : Nat) (h : k < l.length) : l.drop k = l[k] :: l.drop (k + 1) := List.drop_eq_getElem_cons h
end Go.Proofs.Ytljmhenhibhbfaa
