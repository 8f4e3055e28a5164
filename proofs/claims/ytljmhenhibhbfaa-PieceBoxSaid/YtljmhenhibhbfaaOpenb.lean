/- Arguments opened to cells: points, segments, slices of points, chains. -/
import Derived.Test.YtljmhenhibhbfaaOpen
import Derived.Test.YtljmhenhibhbfaaBlk
import Derived.Deep.Slices
import Derived.OpenShut
namespace Go.Proofs.Ytljmhenhibhbfaa
open Go.ChangeShapes Go.WideShapes Go.ChangeAt Go.RowKit

section
variable {H : Type} {enc : TypeId × Value → H} {W : World} {base : Nat} {spare : Nat → Bool} {held : Bool} {fuel : Nat}
theorem trod_pt {cs : List Value} {x : DataW H × List MemPlace} (h : DataW.trod enc Try.prog W base spare held fuel 23 cs = some x) : ∃ a b : Int, cs = [.int .i64 a, .int .i64 b] := by
  obtain ⟨xs, n, _, _, hlen, hl, hf⟩ := DataW.trod_struct Try.underlying23 h
  rw [show Try.prog.cellsOf 23 = 2 by kernel_rfl] at hlen
  match cs, hlen with
  | [c0, c1], _ =>
    match xs, hl with
    | [y0, y1], _ =>
      have h0 := hf 0 _ rfl
      have h1 := hf 1 _ rfl
      have hc1 : Try.prog.cellsOf 3 = 1 := by kernel_rfl
      simp only [List.getElem_toArray, List.getElem_cons_zero, List.getElem_cons_succ, hc1] at h0 h1
      obtain ⟨a, e0, _, _⟩ := DataW.trod_int Try.underlying3 (x := y0) h0
      obtain ⟨b, e1, _, _⟩ := DataW.trod_int Try.underlying3 (x := y1) h1
      simp at e0 e1
      exact ⟨a, b, by rw [e0, e1]⟩
/-- A list out of a function, place by place. -/
theorem list_of {α : Type} (p : Nat → α → Prop) : ∀ n, (∀ i, i < n → ∃ x, p i x) → ∃ l : List α, l.length = n ∧ ∀ k x, l[k]? = some x → p k x
  | 0, _ => ⟨[], rfl, fun k x h => by simp at h⟩
  | n + 1, h => by
    obtain ⟨l, hl, hp⟩ := list_of p n fun i hi => h i (by omega)
    obtain ⟨x, hx⟩ := h n (by omega)
    refine ⟨l ++ [x], by simp [hl], fun k y hk => ?_⟩
    rcases Nat.lt_or_ge k l.length with hlt | hge
    · rw [List.getElem?_append_left hlt] at hk
      exact hp k y hk
    · rw [List.getElem?_append_right hge] at hk
      have hk0 : k - l.length = 0 := by
        rcases Nat.eq_zero_or_pos (k - l.length) with h0 | h0
        · exact h0
        · rw [List.getElem?_eq_none (by simp; omega)] at hk; cases hk
      rw [hk0] at hk
      simp at hk
      subst hk
      rw [show k = n by omega]
      exact hx
theorem cell_spot {W : World} {a : Addr} {v : Value} (h : W.cell? a = some v) : a.spot = none := by
  unfold World.cell? at h
  split at h
  · split at h
    · cases h
    · rename_i hs
      cases hx : a.spot with
      | none => rfl
      | some => rw [hx] at hs; exact absurd rfl hs
  · cases h
theorem add_spot (b off i : Nat) : (⟨b, off, none⟩ : Addr).add i = ⟨b, off + i, none⟩ := by unfold Addr.add; split <;> simp_all
theorem open_pts {cs : List Value} {x : DataW H × List MemPlace} (h : DataW.trod enc Try.prog W base spare held fuel 25 cs = some x) :
    ∃ (a : Option Addr) (n c : Nat) (l : List (Int × Int)), cs = [.slice a n c] ∧ n ≤ c ∧ c ≤ maxLen ∧ RPts W W.heap.size a n l := by
  rcases Go.Deep.open_slice Try.underlying25 h with ⟨rfl, _⟩ | ⟨a, len, cap, m, n, D, Pl, rfl, _, hl, hm, hmm, _, hi⟩
  · exact ⟨none, 0, 0, [], rfl, Nat.le_refl _, by unfold maxLen; omega, rfl, fun k p hk => by simp at hk⟩
  · have hlm : len ≤ m := by rw [hmm]; split <;> omega
    have each : ∀ i, i < len → ∃ p : Int × Int, W.cell? (a.add (i * 2)) = some (.int .i64 p.1) ∧ W.cell? ((a.add (i * 2)).add 1) = some (.int .i64 p.2) := by
      intro i hil
      obtain ⟨cs', hc, ht⟩ := hi i (by omega)
      rw [show Try.prog.cellsOf 23 = 2 by kernel_rfl] at hc
      obtain ⟨u, v, rfl⟩ := trod_pt ht
      obtain ⟨_, _, hat⟩ := World.cells?_some hc
      exact ⟨(u, v), by simpa [Addr.add] using hat 0 (by omega), hat 1 (by omega)⟩
    obtain ⟨l, hll, hp⟩ := list_of _ len each
    refine ⟨some a, len, cap, l, rfl, hl, hm, hll, fun k p hk => ?_⟩
    have hk' : k < len := by
      rw [← hll]
      exact (List.getElem?_eq_some_iff.1 hk).1
    obtain ⟨p0, c0, _⟩ := each 0 (by omega)
    obtain ⟨c1, c2⟩ := hp k p hk
    obtain ⟨b, off, sp⟩ := a
    have hs : sp = none := by
      have := cell_spot c0
      simpa [Addr.add] using this
    subst hs
    simp only [add_spot] at c1 c2
    exact ⟨b, off, rfl, World.block_lt_of_cell? _ _ c1, c1, c2⟩
end
end Go.Proofs.Ytljmhenhibhbfaa
