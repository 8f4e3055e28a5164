/- Arguments opened to cells: slices of ints, paths. -/
import Derived.Test.YtjkpbkcbimojoaaOpenb
namespace Go.Proofs.Ytjkpbkcbimojoaa
open Go.ChangeShapes Go.WideShapes Go.ChangeAt Go.RowKit

section
variable {H : Type} {enc : TypeId × Value → H} {W : World} {base : Nat} {spare : Nat → Bool} {held : Bool} {fuel : Nat}
theorem open_intsl {cs : List Value} {x : DataW H × List MemPlace} (h : DataW.trod enc Try.prog W base spare held fuel 22 cs = some x) :
    ∃ (a : Option Addr) (n c : Nat) (l : List Int), cs = [.slice a n c] ∧ n ≤ c ∧ c ≤ maxLen ∧ RInts W W.heap.size a n l ∧ (a = none → n = 0 ∧ c = 0) := by
  rcases Go.Deep.open_slice Try.underlying22 h with ⟨rfl, _⟩ | ⟨a, len, cap, m, n, D, Pl, rfl, _, hl, hm, hmm, _, hi⟩
  · exact ⟨none, 0, 0, [], rfl, Nat.le_refl _, by unfold maxLen; omega, ⟨rfl, fun k p hk => by simp at hk⟩, fun _ => ⟨rfl, rfl⟩⟩
  · have hlm : len ≤ m := by rw [hmm]; split <;> omega
    have each : ∀ i, i < len → ∃ p : Int, W.cell? (a.add (i * 1)) = some (.int .i64 p) := by
      intro i hil
      obtain ⟨cs', hc, ht⟩ := hi i (by omega)
      rw [show Try.prog.cellsOf 3 = 1 by kernel_rfl] at hc
      obtain ⟨u, e0, _, _⟩ := DataW.trod_int Try.underlying3 ht
      subst e0
      obtain ⟨_, _, hat⟩ := World.cells?_some hc
      exact ⟨u, by simpa [Addr.add] using hat 0 (by omega)⟩
    obtain ⟨l, hll, hp⟩ := list_of _ len each
    refine ⟨some a, len, cap, l, rfl, hl, hm, ⟨hll, fun k p hk => ?_⟩, fun h => by cases h⟩
    have hk' : k < len := by
      rw [← hll]
      exact (List.getElem?_eq_some_iff.1 hk).1
    obtain ⟨p0, c0⟩ := each 0 (by omega)
    have c1 := hp k p hk
    obtain ⟨b, off, sp⟩ := a
    have hs : sp = none := by
      have := cell_spot c0
      simpa [Addr.add] using this
    subst hs
    simp only [add_spot, Nat.mul_one] at c1
    exact ⟨b, off, rfl, World.block_lt_of_cell? _ _ c1, c1⟩
theorem open_pts' {cs : List Value} {x : DataW H × List MemPlace} (h : DataW.trod enc Try.prog W base spare held fuel 23 cs = some x) :
    ∃ (a : Option Addr) (n c : Nat) (l : List (Int × Int)), cs = [.slice a n c] ∧ n ≤ c ∧ c ≤ maxLen ∧ RPts W W.heap.size a n l ∧ (a = none → n = 0 ∧ c = 0) := by
  obtain ⟨a, n, c, l, h1, h2, h3, h4⟩ := open_pts h
  refine ⟨a, n, c, l, h1, h2, h3, h4, fun ha => ?_⟩
  subst ha
  rcases Go.Deep.open_slice Try.underlying23 h with ⟨e, _⟩ | ⟨a', len, cap, m', n', D, Pl, e, _⟩
  · rw [e] at h1
    simp at h1
    exact ⟨h1.1.symm, h1.2.symm⟩
  · rw [e] at h1
    simp at h1
theorem open_path {v : Value} {d : DataW H} {p : List MemPlace} (hv : Value.okWide Try.checked.prog W .any base 25 v) (h : DataW.Trod enc Try.checked.prog W 0 spare held 25 v d p) :
    ∃ (a b : Option Addr) (n m c e : Nat) (vs : List Int) (ps : List (Int × Int)), v = .agg #[.slice a n c, .slice b m e] ∧ n ≤ c ∧ c ≤ maxLen ∧ m ≤ e ∧ e ≤ maxLen ∧ RInts W W.heap.size a n vs ∧ RPts W W.heap.size b m ps ∧ (a = none → n = 0 ∧ c = 0) ∧ (b = none → m = 0 ∧ e = 0) := by
  obtain ⟨cs, rfl, _⟩ := okWide_struct Try.underlying25 hv
  obtain ⟨fuel, hf⟩ := h
  obtain ⟨xs, n, _, _, hlen, hl, hf⟩ := DataW.trod_struct Try.underlying25 hf
  have hc : Try.prog.cellsOf 25 = 2 := by kernel_rfl
  rw [hc] at hlen
  obtain ⟨cs⟩ := cs
  simp only [Value.cells] at hlen hf
  match cs, hlen with
  | [c0, c1], _ =>
    match xs, hl with
    | [y0, y1], _ =>
      have h0 := hf 0 _ rfl
      have h1 := hf 1 _ rfl
      have hc4 : Try.prog.cellsOf 22 = 1 := by kernel_rfl
      have hc1 : Try.prog.cellsOf 23 = 1 := by kernel_rfl
      simp only [List.getElem_toArray, List.getElem_cons_zero, List.getElem_cons_succ, hc4, hc1] at h0 h1
      obtain ⟨a, m, c, l, e0, h1', h2', h3', h4'⟩ := open_intsl (x := y0) h0
      obtain ⟨a', m', c', l', e1, k1', k2', k3', k4'⟩ := open_pts' (x := y1) h1
      simp at e0 e1
      subst e0 e1
      exact ⟨_, _, _, _, _, _, _, _, rfl, h1', h2', k1', k2', h3', k3', h4', k4'⟩
end
end Go.Proofs.Ytjkpbkcbimojoaa
