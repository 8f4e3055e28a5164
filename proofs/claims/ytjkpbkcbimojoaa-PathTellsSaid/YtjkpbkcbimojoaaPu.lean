/- Contract of the reference's Split. -/
import Derived.Test.YtjkpbkcbimojoaaPs
namespace Go.Proofs.Ytjkpbkcbimojoaa
open Go.RowKit

theorem rtakes_at {v k : Int} (h : takesS v = k) (W : World) : Calls Try.prog 15 #[.int .i64 v] W fun e w' => e = .returned (.int .i64 k) ∧ W = w' := h ▸ rtakes_any v W

/-- How many points are taken ahead of verb number k. -/
def posN (vs : List Int) (k : Nat) : Nat := (totalS (vs.take k)).toNat
theorem posN_succ {vs : List Int} (h : ∀ v ∈ vs, 0 ≤ takesS v) (k : Nat) (hk : k < vs.length) : posN vs (k + 1) = posN vs k + (takesS vs[k]).toNat := by
  have h1 := totalS_nonneg fun v hv => h v (List.mem_of_mem_take (i := k) hv)
  have h2 := h vs[k] (List.getElem_mem hk)
  unfold posN
  rw [take_snoc vs k hk, totalS_snoc]
  omega
theorem rest_posN {vs : List Int} {ps : List (Int × Int)} (h : ∀ v ∈ vs, 0 ≤ takesS v) (k : Nat) (hk : k ≤ vs.length) : (stateS vs ps k).rest = ps.drop (posN vs k) := stateS_rest vs ps h k hk
theorem posN_le {vs : List Int} {ps : List (Int × Int)} (h : checkS vs ps = 0) (k : Nat) : posN vs k ≤ ps.length := by
  obtain ⟨_, hcv, hto, _⟩ := check_ok h
  have hall := checkV_all hcv
  have e : totalS vs = totalS (vs.take k) + totalS (vs.drop k) := by rw [← totalS_append, List.take_append_drop]
  have h1 := totalS_nonneg fun v hv => hall v (List.mem_of_mem_take (i := k) hv)
  have h2 := totalS_nonneg fun v hv => hall v (List.mem_of_mem_drop (i := k) hv)
  unfold posN
  omega
theorem pos_pos {vs : List Int} {ps : List (Int × Int)} (h : checkS vs ps = 0) (h0 : 0 < vs.length) : 0 < ps.length := by
  obtain ⟨a1, a2, a3, a4⟩ := ahead_ok h 0 h0
  rw [a2 rfl] at a3
  have : (stateS vs ps 0).rest = ps := rfl
  rw [this] at a3
  have : (takesS 1).toNat = 1 := rfl
  omega

/-- All four cells of the last one are stored. -/
theorem OwnF.put4 {w : World} {base B : Nat} {tS tG : TypeId} {lv lv' : Value} {front : List SubS} {fv : List Value} {last : SubS} {g cap : Nat} (h : OwnF w base B tS tG (.slice (some ⟨g, 0, none⟩) (front.length + 1) cap) front fv last lv) (ht : tS ≠ tG) (last' : SubS)
    (hl : w.ownsRow B tG 9 lv' last'.segs.length (segsV last'.segs)) :
    OwnF ((((w.setCell ⟨g, front.length * 4, none⟩ (.int .i64 last'.start.1)).setCell ⟨g, front.length * 4 + 1, none⟩ (.int .i64 last'.start.2)).setCell ⟨g, front.length * 4 + 2, none⟩ lv').setCell ⟨g, front.length * 4 + 3, none⟩ (.bool last'.closed))
      base B tS tG (.slice (some ⟨g, 0, none⟩) (front.length + 1) cap) front fv last' lv' := by
  have far : ∀ {w : World} {b' n n' : Nat} {x : Value} {xs ys : List Value} (j : Nat) (u : Value), w.ownsRow base tS 4 (.slice (some ⟨g, 0, none⟩) (front.length + 1) cap) n' ys → w.ownsRow b' tG 9 x n xs → (w.setCell ⟨g, j, none⟩ u).ownsRow b' tG 9 x n xs := fun j u hrow hx => by
    refine ownsRow_setCell_other hx ?_ u
    rcases own_apart hx hrow (Ne.symm ht) with h3 | h3
    · rw [h3]; simp
    · exact h3
  have r0 := h.hrow
  have r1 := (r0.stored (front.length * 4) (.int .i64 last'.start.1)).1
  have r2 := (r1.stored (front.length * 4 + 1) (.int .i64 last'.start.2)).1
  have r3 := (r2.stored (front.length * 4 + 2) lv').1
  have r4 := (r3.stored (front.length * 4 + 3) (.bool last'.closed)).1
  refine ⟨h.hlen, h.hbase, by simpa using h.hsize, ?_, fun k s u hs hu => ?_, ?_⟩
  · have e : subRow (front ++ [last']) (fv ++ [lv']) = ((((subRow (front ++ [last]) (fv ++ [lv])).set (front.length * 4) (.int .i64 last'.start.1)).set (front.length * 4 + 1) (.int .i64 last'.start.2)).set (front.length * 4 + 2) lv').set (front.length * 4 + 3) (.bool last'.closed) := by
      have hL := subRow_length front fv h.hlen
      rw [subRow_snoc _ _ _ _ h.hlen, subRow_snoc _ _ _ _ h.hlen]
      rw [List.set_append_right _ _ (by omega), List.set_append_right _ _ (by omega), List.set_append_right _ _ (by omega), List.set_append_right _ _ (by omega), hL]
      rw [show front.length * 4 - front.length * 4 = 0 by omega, show front.length * 4 + 1 - front.length * 4 = 1 by omega, show front.length * 4 + 2 - front.length * 4 = 2 by omega, show front.length * 4 + 3 - front.length * 4 = 3 by omega]
      rfl
    rw [e]
    exact r4
  · obtain ⟨h1, h2⟩ := h.hfront k s u hs hu
    exact ⟨far _ _ r3 (far _ _ r2 (far _ _ r1 (far _ _ r0 h1))), h2⟩
  · exact far _ _ r3 (far _ _ r2 (far _ _ r1 (far _ _ r0 hl)))

theorem below_set {B : Nat} {w x : World} (h : Below B w x) (p : Addr) (u : Value) : Below B (w.setCell p u) (x.setCell p u) :=
  ⟨h.os, h.tape, h.output, by simpa [World.setCell] using h.size, fun k hk => by
    simp only [World.setCell, Array.getElem?_modify, h.block k hk]⟩
/-- A store into another block of the subpaths' type. -/
theorem OwnF.far2 {w : World} {base B : Nat} {tS tG : TypeId} {lv : Value} {front : List SubS} {fv : List Value} {last : SubS} {g cap b i : Nat} {cs : Array Value} (h : OwnF w base B tS tG (.slice (some ⟨g, 0, none⟩) (front.length + 1) cap) front fv last lv)
    (hB : Blk w b tS cs) (hgb : g ≠ b) (ht : tS ≠ tG) (u : Value) : OwnF (w.setCell ⟨b, i, none⟩ u) base B tS tG (.slice (some ⟨g, 0, none⟩) (front.length + 1) cap) front fv last lv :=
  ⟨h.hlen, h.hbase, by simpa using h.hsize, ownsRow_setCell_other h.hrow (by simpa [Value.ownBlock] using hgb) u, fun k s x hs hx => ⟨own_far (h.hfront k s x hs hx).1 hB ht u, (h.hfront k s x hs hx).2⟩, own_far h.hlast hB ht u⟩
/-- A row of one's own as the source of an append. -/
theorem own_news {w : World} {base n c size : Nat} {e : TypeId} {a : Option Addr} {xs : List Value} (h : w.ownsRow base e size (.slice a n c) n xs) :
    (∀ j u, xs[j]? = some u → ∃ ad, a = some ad ∧ w.cell? (ad.add j) = some u) ∧ (a = none → n = 0 ∧ c = 0) := by
  rcases h.2 with ⟨h1, h2⟩ | ⟨g, cap, cur, h1, h2⟩
  · injection h1 with e1 e2 e3
    subst e1 e2 e3
    refine ⟨fun j u hj => ?_, fun _ => ⟨rfl, rfl⟩⟩
    have := h.1
    have hx : xs = [] := List.eq_nil_of_length_eq_zero (by simpa using this)
    rw [hx] at hj
    simp at hj
  · injection h1 with e1 e2 e3
    subst e1
    exact ⟨fun j u hj => ⟨_, rfl, h.cells (g := g) rfl j u hj⟩, fun h => by cases h⟩
theorem segsV_one (l : List SegS) : ∀ u ∈ segsV l, u.oneCell' = true := by
  intro u hu
  obtain ⟨s, _, hs⟩ := List.mem_flatMap.1 hu
  exact segV_one s u hs
/-- What the loop over the verbs keeps. -/
def RsInv (w : World) (A : Nat) (a b : Option Addr) (n m c d : Nat) (vs : List Int) (ps : List (Int × Int)) (out : Value) (wr : World) (k : Nat) : Prop :=
  OwnE wr w.heap.size 71 59 out (stateS vs ps k).subs ∧ Blk wr A 44 #[.int .i64 (stateS vs ps k).pos.1, .int .i64 (stateS vs ps k).pos.2] ∧ Blk wr w.heap.size 35 #[.slice a n c, .slice b m d] ∧ Below w.heap.size w wr
end Go.Proofs.Ytjkpbkcbimojoaa
