/- Arguments opened to cells: slices of ints, paths. -/
import Derived.Test.YtljmhenhibhbfaaOpenb
namespace Go.Proofs.Ytljmhenhibhbfaa
open Go.ChangeShapes Go.WideShapes Go.ChangeAt Go.RowKit

section
variable {H : Type} {enc : TypeId × Value → H} {W : World} {base : Nat} {spare : Nat → Bool} {held : Bool} {fuel : Nat}
theorem open_pts' {cs : List Value} {x : DataW H × List MemPlace} (h : DataW.trod enc Try.prog W base spare held fuel 25 cs = some x) :
    ∃ (a : Option Addr) (n c : Nat) (l : List (Int × Int)), cs = [.slice a n c] ∧ n ≤ c ∧ c ≤ maxLen ∧ RPts W W.heap.size a n l ∧ (a = none → n = 0 ∧ c = 0) := by
  obtain ⟨a, n, c, l, h1, h2, h3, h4⟩ := open_pts h
  refine ⟨a, n, c, l, h1, h2, h3, h4, fun ha => ?_⟩
  subst ha
  rcases Go.Deep.open_slice Try.underlying25 h with ⟨e, _⟩ | ⟨a', len, cap, m', n', D, Pl, e, _⟩
  · rw [e] at h1
    simp at h1
    exact ⟨h1.1.symm, h1.2.symm⟩
  · rw [e] at h1
    simp at h1
end
end Go.Proofs.Ytljmhenhibhbfaa
