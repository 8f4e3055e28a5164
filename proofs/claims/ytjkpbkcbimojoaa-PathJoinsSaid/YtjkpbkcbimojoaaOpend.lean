/- Arguments opened to cells: slices of segments, slices of subpaths. -/
import Derived.Test.YtjkpbkcbimojoaaOpenc
import Derived.Test.YtjkpbkcbimojoaaPf
namespace Go.Proofs.Ytjkpbkcbimojoaa
open Go.ChangeShapes Go.WideShapes Go.ChangeAt Go.RowKit

section
variable {H : Type} {enc : TypeId × Value → H} {W : World} {base : Nat} {spare : Nat → Bool} {held : Bool} {fuel : Nat}
theorem trod_segc {cs : List Value} {x : DataW H × List MemPlace} (h : DataW.trod enc Try.prog W base spare held fuel 50 cs = some x) : ∃ s : SegS, cs = segV s := by
  obtain ⟨xs, n, _, _, hlen, hl, hf⟩ := DataW.trod_struct Try.underlying50 h
  have hc : Try.prog.cellsOf 50 = 9 := by kernel_rfl
  rw [hc] at hlen
  match cs, hlen with
  | [c0, c1, c2, c3, c4, c5, c6, c7, c8], _ =>
    match xs, hl with
    | [y0, y1], _ =>
      have h0 := hf 0 _ rfl
      have h1 := hf 1 _ rfl
      have hc4 : Try.prog.cellsOf 48 = 8 := by kernel_rfl
      have hc1 : Try.prog.cellsOf 3 = 1 := by kernel_rfl
      simp only [List.getElem_toArray, List.getElem_cons_zero, List.getElem_cons_succ, hc4, hc1] at h0 h1
      obtain ⟨a0, b0, a1, b1, a2, b2, a3, b3, e0⟩ := trod_pts4 (x := y0) h0
      obtain ⟨m, e1, _, wm⟩ := DataW.trod_int Try.underlying3 (x := y1) h1
      simp at e0 e1
      obtain ⟨rfl, rfl, rfl, rfl, rfl, rfl, rfl, rfl⟩ := e0
      subst e1
      exact ⟨⟨(a0, b0), (a1, b1), (a2, b2), (a3, b3), m⟩, rfl⟩
theorem open_segsl {cs : List Value} {x : DataW H × List MemPlace} (h : DataW.trod enc Try.prog W base spare held fuel 45 cs = some x) :
    ∃ (a : Option Addr) (n c : Nat) (l : List SegS), cs = [.slice a n c] ∧ n ≤ c ∧ c ≤ maxLen ∧ RSegs W W.heap.size a n l := by
  rcases Go.Deep.open_slice Try.underlying45 h with ⟨rfl, _⟩ | ⟨a, len, cap, m, n, D, Pl, rfl, _, hl, hm, hmm, _, hi⟩
  · exact ⟨none, 0, 0, [], rfl, Nat.le_refl _, by unfold maxLen; omega, rfl, fun k p hk => by simp at hk⟩
  · have hlm : len ≤ m := by rw [hmm]; split <;> omega
    have each : ∀ i, i < len → ∃ s : SegS, ∀ j v, (segV s)[j]? = some v → W.cell? ((a.add (i * 9)).add j) = some v := by
      intro i hil
      obtain ⟨cs', hc, ht⟩ := hi i (by omega)
      rw [show Try.prog.cellsOf 50 = 9 by kernel_rfl] at hc
      obtain ⟨s, rfl⟩ := trod_segc ht
      obtain ⟨_, _, hat⟩ := World.cells?_some hc
      refine ⟨s, fun j v hv => ?_⟩
      have hj : j < 9 := by
        have := (List.getElem?_eq_some_iff.1 hv).1
        rwa [segV_length] at this
      have h1 := hat j (by simpa [segV_length] using hj)
      rw [h1]
      simpa using hv
    obtain ⟨l, hll, hp⟩ := list_of _ len each
    refine ⟨some a, len, cap, l, rfl, hl, hm, hll, fun k p hk => ?_⟩
    have c1 := hp k p hk
    have c0 := c1 0 _ rfl
    obtain ⟨b, off, sp⟩ := a
    obtain ⟨s0, hs0⟩ : ∃ s0, l[0]? = some s0 := ⟨_, List.getElem?_eq_getElem (by have := (List.getElem?_eq_some_iff.1 hk).1; omega)⟩
    have c00 := hp 0 s0 hs0 0 _ rfl
    have hs : sp = none := by
      have := cell_spot c00
      simpa [Addr.add] using this
    subst hs
    simp only [add_spot] at c1 c0
    exact ⟨b, off, rfl, World.block_lt_of_cell? _ _ c0, c1⟩
theorem trod_subc {cs : List Value} {x : DataW H × List MemPlace} (h : DataW.trod enc Try.prog W base spare held fuel 47 cs = some x) :
    ∃ (s : SubS) (sa : Option Addr) (sc : Nat), cs = [.int .i64 s.start.1, .int .i64 s.start.2, .slice sa s.segs.length sc, .bool s.closed] ∧ s.segs.length ≤ sc ∧ RSegs W W.heap.size sa s.segs.length s.segs := by
  obtain ⟨xs, n, _, _, hlen, hl, hf⟩ := DataW.trod_struct Try.underlying47 h
  have hc : Try.prog.cellsOf 47 = 4 := by kernel_rfl
  rw [hc] at hlen
  match cs, hlen with
  | [c0, c1, c2, c3], _ =>
    match xs, hl with
    | [y0, y1, y2], _ =>
      have h0 := hf 0 _ rfl
      have h1 := hf 1 _ rfl
      have h2 := hf 2 _ rfl
      have hcP : Try.prog.cellsOf 44 = 2 := by kernel_rfl
      have hcS : Try.prog.cellsOf 45 = 1 := by kernel_rfl
      have hcB : Try.prog.cellsOf 4 = 1 := by kernel_rfl
      simp only [List.getElem_toArray, List.getElem_cons_zero, List.getElem_cons_succ, hcP, hcS, hcB] at h0 h1 h2
      obtain ⟨sx, sy, e0⟩ := trod_pt (x := y0) h0
      obtain ⟨a, m, c, l, e1, k1, k2, k3⟩ := open_segsl (x := y1) h1
      obtain ⟨b, e2, _⟩ := DataW.trod_bool Try.underlying4 (x := y2) h2
      simp at e0 e1 e2
      obtain ⟨rfl, rfl⟩ := e0
      subst e1 e2
      have hm := k3.1
      subst hm
      exact ⟨⟨(sx, sy), l, b⟩, a, c, rfl, k1, k3⟩
theorem open_subsl {cs : List Value} {x : DataW H × List MemPlace} (h : DataW.trod enc Try.prog W base spare held fuel 28 cs = some x) :
    ∃ (a : Option Addr) (n c : Nat) (l : List SubS), cs = [.slice a n c] ∧ n ≤ c ∧ c ≤ maxLen ∧ RSubs W W.heap.size a n l := by
  rcases Go.Deep.open_slice Try.underlying28 h with ⟨rfl, _⟩ | ⟨a, len, cap, m, n, D, Pl, rfl, _, hl, hm, hmm, _, hi⟩
  · exact ⟨none, 0, 0, [], rfl, Nat.le_refl _, by unfold maxLen; omega, RSubs.nil _ _ _⟩
  · have hlm : len ≤ m := by rw [hmm]; split <;> omega
    have each : ∀ i, i < len → ∃ s : SubS, ∃ (sa : Option Addr) (sc : Nat), W.cell? ((a.add (i * 4)).add 0) = some (.int .i64 s.start.1) ∧ W.cell? ((a.add (i * 4)).add 1) = some (.int .i64 s.start.2) ∧
        W.cell? ((a.add (i * 4)).add 2) = some (.slice sa s.segs.length sc) ∧ W.cell? ((a.add (i * 4)).add 3) = some (.bool s.closed) ∧ s.segs.length ≤ sc ∧ RSegs W W.heap.size sa s.segs.length s.segs := by
      intro i hil
      obtain ⟨cs', hc, ht⟩ := hi i (by omega)
      rw [show Try.prog.cellsOf 47 = 4 by kernel_rfl] at hc
      obtain ⟨s, sa, sc, rfl, k1, k2⟩ := trod_subc ht
      obtain ⟨_, _, hat⟩ := World.cells?_some hc
      exact ⟨s, sa, sc, by simpa using hat 0 (by simp), by simpa using hat 1 (by simp), by simpa using hat 2 (by simp), by simpa using hat 3 (by simp), k1, k2⟩
    obtain ⟨l, hll, hp⟩ := list_of _ len each
    refine ⟨some a, len, cap, l, rfl, hl, hm, hll, fun k p hk => ?_⟩
    obtain ⟨sa, sc, c0, c1, c2, c3, k1, k2⟩ := hp k p hk
    obtain ⟨b, off, sp⟩ := a
    obtain ⟨s0, hs0⟩ : ∃ s0, l[0]? = some s0 := ⟨_, List.getElem?_eq_getElem (by have := (List.getElem?_eq_some_iff.1 hk).1; omega)⟩
    obtain ⟨_, _, c00, _⟩ := hp 0 s0 hs0
    have hs : sp = none := by
      have := cell_spot c00
      simpa [Addr.add] using this
    subst hs
    simp only [add_spot, Nat.add_zero] at c0 c1 c2 c3
    exact ⟨b, off, sa, sc, rfl, World.block_lt_of_cell? _ _ c0, c0, c1, c2, c3, k1, k2⟩
theorem open_subs {v : Value} {d : DataW H} {p : List MemPlace} (h : DataW.Trod enc Try.checked.prog W 0 spare held 28 v d p) (hc : v.cells.toList = [v]) :
    ∃ (a : Option Addr) (n c : Nat) (l : List SubS), v = .slice a n c ∧ n ≤ c ∧ c ≤ maxLen ∧ RSubs W W.heap.size a n l := by
  obtain ⟨fuel, hf⟩ := h
  obtain ⟨a, n, c, l, e, k⟩ := open_subsl hf
  rw [hc] at e
  simp at e
  exact ⟨a, n, c, l, e, k⟩
end
end Go.Proofs.Ytjkpbkcbimojoaa
