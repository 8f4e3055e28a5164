/- Subpaths that are made one by one, from an empty row on. No program in sight. -/
import Derived.Test.YtjkpbkcbimojoaaPf
import Derived.Test.YtjkpbkcbimojoaaApp
namespace Go.Proofs.Ytjkpbkcbimojoaa
open Go.RowKit

/-- Subpaths of one's own: none yet, or some. -/
def OwnE (w : World) (B0 : Nat) (tS tG : TypeId) (sv : Value) (subs : List SubS) : Prop :=
  (subs = [] ∧ w.ownsRow B0 tS 4 sv 0 []) ∨ ∃ front last fv lv B, subs = front ++ [last] ∧ OwnF w B0 B tS tG sv front fv last lv

section
variable {w w' : World} {B0 : Nat} {tS tG : TypeId} {sv : Value} {subs : List SubS}
theorem OwnE.grow (h : OwnE w B0 tS tG sv subs) (hb : Below w.heap.size w w') : OwnE w' B0 tS tG sv subs :=
  h.imp (fun ⟨h1, h2⟩ => ⟨h1, own_grow h2 hb⟩) fun ⟨front, last, fv, lv, B, e, hO⟩ => ⟨front, last, fv, lv, B, e, hO.grow hb⟩
theorem OwnE.far {t : TypeId} {b i : Nat} {cs : Array Value} (h : OwnE w B0 tS tG sv subs) (hB : Blk w b t cs) (h1 : t ≠ tS) (h2 : t ≠ tG) (u : Value) : OwnE (w.setCell ⟨b, i, none⟩ u) B0 tS tG sv subs :=
  h.imp (fun ⟨e, hr⟩ => ⟨e, own_far hr hB h1 u⟩) fun ⟨front, last, fv, lv, B, e, hO⟩ => ⟨front, last, fv, lv, B, e, hO.far hB h1 h2 u⟩
theorem OwnE.slice (h : OwnE w B0 tS tG sv subs) : ∃ a c, sv = .slice a subs.length c ∧ subs.length ≤ c := by
  rcases h with ⟨rfl, hr⟩ | ⟨front, last, fv, lv, B, rfl, hO⟩
  · obtain ⟨a, c, rfl, hc⟩ := own_slice hr
    exact ⟨a, c, rfl, hc⟩
  · obtain ⟨a, c, rfl, hc⟩ := own_slice hO.hrow
    exact ⟨a, c, by simp, by simpa using hc⟩
theorem OwnE.read (h : OwnE w B0 tS tG sv subs) : ∃ a c, sv = .slice a subs.length c ∧ subs.length ≤ c ∧ RSubs w w.heap.size a subs.length subs := by
  rcases h with ⟨rfl, hr⟩ | ⟨front, last, fv, lv, B, rfl, hO⟩
  · obtain ⟨a, c, rfl, hc⟩ := own_slice hr
    exact ⟨a, c, rfl, hc, RSubs.nil _ _ _⟩
  · obtain ⟨a, c, rfl, hc, hr⟩ := hO.read
    exact ⟨a, c, by simp, by simpa using hc, by simpa using hr⟩
/-- The row of subpaths; and what a further one makes of it, whose segments were made since. -/
theorem OwnE.row (h : OwnE w B0 tS tG sv subs) (hb : B0 ≤ w.heap.size) (ht : tS ≠ tG) : ∃ xs, w.ownsRow B0 tS 4 sv subs.length xs ∧
    ∀ (w2 w' : World) (v' lv : Value) (s : SubS), Below w.heap.size w w2 → w2.ownsRow w.heap.size tG 9 lv s.segs.length (segsV s.segs) →
      w'.ownsRow B0 tS 4 v' (subs.length + 1) (xs ++ [.int .i64 s.start.1, .int .i64 s.start.2, lv, .bool s.closed]) → w2.grownBy w' sv.ownBlock → OwnE w' B0 tS tG v' (subs ++ [s]) := by
  have keep : ∀ {w2 w' : World} {b' : Nat} {u : Value} {n n' : Nat} {xs ys : List Value}, w2.ownsRow B0 tS 4 sv n' ys → w2.grownBy w' sv.ownBlock → w2.ownsRow b' tG 9 u n xs → w'.ownsRow b' tG 9 u n xs :=
    fun hrow hg hu => hu.kept hg (own_apart hu hrow (Ne.symm ht))
  rcases h with ⟨rfl, hr0⟩ | ⟨front, last, fv, lv0, B, rfl, hO⟩
  · refine ⟨[], hr0, fun w2 w' v' lv s h2 hlv hr hg => .inr ⟨[], s, [], lv, w.heap.size, rfl, ⟨rfl, hb, Nat.le_trans h2.size hg.size, ?_, fun k s u hs => by simp at hs, ?_⟩⟩⟩
    · exact hr
    · exact keep (own_grow hr0 h2) hg hlv
  · refine ⟨subRow (front ++ [last]) (fv ++ [lv0]), by simpa using hO.hrow, fun w2 w' v' lv s h2 hlv hr hg => .inr ⟨front ++ [last], s, fv ++ [lv0], lv, w.heap.size, rfl, ?_⟩⟩
    have hrow2 := own_grow hO.hrow h2
    refine ⟨by simp [hO.hlen], hb, Nat.le_trans h2.size hg.size, ?_, ?_, keep hrow2 hg hlv⟩
    · rw [subRow_snoc _ _ _ _ (by simp [hO.hlen])]
      simpa using hr
    · intro k x u hs hu
      rcases Nat.lt_or_ge k front.length with hk | hk
      · rw [List.getElem?_append_left hk] at hs
        rw [List.getElem?_append_left (by rw [hO.hlen]; exact hk)] at hu
        obtain ⟨h3, h4⟩ := hO.hfront k x u hs hu
        exact ⟨keep hrow2 hg (own_grow h3 h2), fun g hg' => Nat.lt_of_lt_of_le (h4 g hg') hO.hsize⟩
      · have hk0 : k = front.length := by
          have := (List.getElem?_eq_some_iff.1 hs).1
          simp at this
          omega
        subst hk0
        rw [List.getElem?_append_right (Nat.le_refl _), Nat.sub_self] at hs
        rw [← hO.hlen, List.getElem?_append_right (Nat.le_refl _), Nat.sub_self] at hu
        simp at hs hu
        subst hs hu
        exact ⟨keep hrow2 hg (own_grow (own_base hO.hlast hO.hbase) h2), fun g hg' => (hO.hlast.lt g hg').2⟩
end
end Go.Proofs.Ytjkpbkcbimojoaa
