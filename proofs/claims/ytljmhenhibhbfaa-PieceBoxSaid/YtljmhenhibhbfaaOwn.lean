/- Rows of the call's own, grown by append: small laws. No program in sight. -/
import Derived.Test.YtljmhenhibhbfaaBlk
import Derived.OwnWalk
import Derived.Laws.AppendOwn
namespace Go.Proofs.Ytljmhenhibhbfaa
open Go.RowKit

section
variable {w w' : World} {base : Nat} {e : TypeId} {size n : Nat} {v : Value} {xs : List Value}
theorem own_grow (h : w.ownsRow base e size v n xs) (hb : Below w.heap.size w w') : w'.ownsRow base e size v n xs := by
  refine ⟨h.1, ?_⟩
  rcases h.2 with k | ⟨g, cap, cur, rfl, hg, hh, rest⟩
  · exact .inl k
  · exact .inr ⟨g, cap, cur, rfl, hg, (hb.block g (Array.getElem?_eq_some_iff.1 hh).1).trans hh, rest⟩
/-- An owned row is a slice of its length. -/
theorem own_slice (h : w.ownsRow base e size v n xs) : ∃ a c, v = .slice a n c ∧ n ≤ c := by
  rcases h.2 with ⟨rfl, rfl⟩ | ⟨g, cap, cur, rfl, _, _, hc, _⟩
  · exact ⟨none, 0, rfl, Nat.le_refl _⟩
  · exact ⟨some ⟨g, 0, none⟩, cap, rfl, hc⟩
theorem own_ints {l : List Int} {a : Option Addr} {c : Nat} (h : w.ownsRow base e 1 (.slice a n c) n (l.map (Value.int .i64))) : RInts w w.heap.size a n l := by
  have hl : l.length = n := by have := h.1; simpa using this
  refine ⟨hl, fun k u hk => ?_⟩
  rcases h.2 with ⟨h1, rfl⟩ | ⟨g, cap, cur, h1, _, hh, hc, _⟩
  · rw [List.length_eq_zero_iff.1 hl] at hk; simp at hk
  · injection h1 with h1
    subst h1
    have hc := h.cells (g := g) rfl k (.int .i64 u) (by simp [hk])
    have hadd : (⟨g, 0, none⟩ : Addr).add k = ⟨g, 0 + k, none⟩ := by unfold Addr.add; split <;> simp_all
    rw [hadd] at hc
    exact ⟨g, 0, rfl, (Array.getElem?_eq_some_iff.1 hh).1, hc⟩
theorem Blk.grown {g : Nat} {t : TypeId} {cs : Array Value} {row : Option Nat} (h : Blk w g t cs) (hg : w.grownBy w' row) (hr : ∀ k, row = some k → k ≠ g) : Blk w' g t cs :=
  (hg.block g h.lt (fun he => hr g he.symm rfl)).trans h
end
end Go.Proofs.Ytljmhenhibhbfaa
