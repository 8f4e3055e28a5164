/- How subpaths lie in memory: read, and owned while they are made. No program in sight. -/
import Derived.Test.YtjkpbkcbimojoaaPe
import Derived.Test.YtjkpbkcbimojoaaOwn
import Derived.Laws.OwnMore
namespace Go.Proofs.Ytjkpbkcbimojoaa
open Go.RowKit

/-- A slice of segments, read as a list, below block B. -/
def RSegs (w : World) (B : Nat) (a : Option Addr) (n : Nat) (l : List SegS) : Prop :=
  l.length = n ∧ ∀ k s, l[k]? = some s → ∃ b off, a = some ⟨b, off, none⟩ ∧ b < B ∧ ∀ j v, (segV s)[j]? = some v → w.cell? ⟨b, off + k * 9 + j, none⟩ = some v
/-- A slice of subpaths, read as a list, below block B. -/
def RSubs (w : World) (B : Nat) (a : Option Addr) (n : Nat) (l : List SubS) : Prop :=
  l.length = n ∧ ∀ k s, l[k]? = some s → ∃ b off sa sc, a = some ⟨b, off, none⟩ ∧ b < B ∧ w.cell? ⟨b, off + k * 4, none⟩ = some (.int .i64 s.start.1) ∧ w.cell? ⟨b, off + k * 4 + 1, none⟩ = some (.int .i64 s.start.2) ∧
    w.cell? ⟨b, off + k * 4 + 2, none⟩ = some (.slice sa s.segs.length sc) ∧ w.cell? ⟨b, off + k * 4 + 3, none⟩ = some (.bool s.closed) ∧ s.segs.length ≤ sc ∧ RSegs w B sa s.segs.length s.segs

theorem RSegs.below {w w' : World} {B : Nat} {a : Option Addr} {n : Nat} {l : List SegS} (h : RSegs w B a n l) (hb : Below B w w') : RSegs w' B a n l :=
  ⟨h.1, fun k s hk => by
    obtain ⟨b, off, h1, h2, h3⟩ := h.2 k s hk
    exact ⟨b, off, h1, h2, fun j v hv => (hb.cell (p := ⟨b, off + k * 9 + j, none⟩) h2).trans (h3 j v hv)⟩⟩
theorem RSegs.more {w : World} {B B' : Nat} {a : Option Addr} {n : Nat} {l : List SegS} (h : RSegs w B a n l) (hB : B ≤ B') : RSegs w B' a n l :=
  ⟨h.1, fun k s hk => by
    obtain ⟨b, off, h1, h2, h3⟩ := h.2 k s hk
    exact ⟨b, off, h1, by omega, h3⟩⟩
theorem RSubs.below {w w' : World} {B : Nat} {a : Option Addr} {n : Nat} {l : List SubS} (h : RSubs w B a n l) (hb : Below B w w') : RSubs w' B a n l :=
  ⟨h.1, fun k s hk => by
    obtain ⟨b, off, sa, sc, h1, h2, h3, h4, h5, h6, h7, h8⟩ := h.2 k s hk
    exact ⟨b, off, sa, sc, h1, h2, (hb.cell (p := ⟨b, off + k * 4, none⟩) h2).trans h3, (hb.cell (p := ⟨b, off + k * 4 + 1, none⟩) h2).trans h4, (hb.cell (p := ⟨b, off + k * 4 + 2, none⟩) h2).trans h5,
      (hb.cell (p := ⟨b, off + k * 4 + 3, none⟩) h2).trans h6, h7, h8.below hb⟩⟩
theorem RSubs.more {w : World} {B B' : Nat} {a : Option Addr} {n : Nat} {l : List SubS} (h : RSubs w B a n l) (hB : B ≤ B') : RSubs w B' a n l :=
  ⟨h.1, fun k s hk => by
    obtain ⟨b, off, sa, sc, h1, h2, h3, h4, h5, h6, h7, h8⟩ := h.2 k s hk
    exact ⟨b, off, sa, sc, h1, by omega, h3, h4, h5, h6, h7, h8.more hB⟩⟩
theorem RSegs.grow {w w' : World} {a : Option Addr} {n : Nat} {l : List SegS} (h : RSegs w w.heap.size a n l) (hb : Below w.heap.size w w') : RSegs w' w'.heap.size a n l := (h.below hb).more hb.size
theorem RSubs.grow {w w' : World} {a : Option Addr} {n : Nat} {l : List SubS} (h : RSubs w w.heap.size a n l) (hb : Below w.heap.size w w') : RSubs w' w'.heap.size a n l := (h.below hb).more hb.size
theorem RSubs.nil (w : World) (B : Nat) (a : Option Addr) : RSubs w B a 0 [] := ⟨rfl, fun k s h => by simp at h⟩

theorem segV_length (s : SegS) : (segV s).length = 9 := rfl
theorem segsV_length (l : List SegS) : (segsV l).length = l.length * 9 := by
  induction l with
  | nil => rfl
  | cons s l ih => simp only [segsV, List.flatMap_cons, List.length_append, segV_length, List.length_cons] at ih ⊢; omega
theorem segsV_snoc (l : List SegS) (s : SegS) : segsV (l ++ [s]) = segsV l ++ segV s := by simp [segsV]
theorem segsV_at (l : List SegS) : ∀ (k : Nat) (s : SegS), l[k]? = some s → ∀ j v, (segV s)[j]? = some v → (segsV l)[k * 9 + j]? = some v := by
  induction l with
  | nil => intro k s h; simp at h
  | cons a l ih =>
    intro k s h j v hv
    have hj : j < 9 := by
      have := (List.getElem?_eq_some_iff.1 hv).1
      rwa [segV_length] at this
    cases k with
    | zero =>
      simp at h; subst h
      simp only [segsV, List.flatMap_cons, Nat.zero_mul, Nat.zero_add]
      rw [List.getElem?_append_left (by rw [segV_length]; exact hj)]
      exact hv
    | succ k =>
      have e := ih k s (by simpa using h) j v hv
      simp only [segsV, List.flatMap_cons] at e ⊢
      rw [List.getElem?_append_right (by rw [segV_length]; omega), segV_length]
      rw [show (k + 1) * 9 + j - 9 = k * 9 + j by omega]
      exact e

/-- The cells of subpaths, with the values of their segments. -/
def subRow : List SubS → List Value → List Value
  | s :: l, u :: m => .int .i64 s.start.1 :: .int .i64 s.start.2 :: u :: .bool s.closed :: subRow l m
  | _, _ => []
theorem subRow_length : ∀ (l : List SubS) (m : List Value), m.length = l.length → (subRow l m).length = l.length * 4
  | [], [], _ => rfl
  | s :: l, u :: m, h => by
    have := subRow_length l m (by simpa using h)
    simp only [subRow, List.length_cons]
    omega
theorem subRow_snoc : ∀ (l : List SubS) (m : List Value) (s : SubS) (u : Value), m.length = l.length → subRow (l ++ [s]) (m ++ [u]) = subRow l m ++ [.int .i64 s.start.1, .int .i64 s.start.2, u, .bool s.closed]
  | [], [], _, _, _ => rfl
  | a :: l, b :: m, s, u, h => by
    have := subRow_snoc l m s u (by simpa using h)
    simp only [List.cons_append, subRow, this]
theorem subRow_at : ∀ (l : List SubS) (m : List Value) (k : Nat) (s : SubS) (u : Value), l[k]? = some s → m[k]? = some u →
    (subRow l m)[k * 4]? = some (.int .i64 s.start.1) ∧ (subRow l m)[k * 4 + 1]? = some (.int .i64 s.start.2) ∧ (subRow l m)[k * 4 + 2]? = some u ∧ (subRow l m)[k * 4 + 3]? = some (.bool s.closed)
  | [], _, k, s, u, h, _ => by simp at h
  | a :: l, [], k, s, u, _, h => by simp at h
  | a :: l, b :: m, 0, s, u, h, h' => by
    simp at h h'
    subst h h'
    exact ⟨rfl, rfl, rfl, rfl⟩
  | a :: l, b :: m, k + 1, s, u, h, h' => by
    obtain ⟨h1, h2, h3, h4⟩ := subRow_at l m k s u (by simpa using h) (by simpa using h')
    simp only [subRow]
    rw [show (k + 1) * 4 = k * 4 + 1 + 1 + 1 + 1 by omega, show k * 4 + 1 + 1 + 1 + 1 + 1 = (k * 4 + 1) + 1 + 1 + 1 + 1 by omega, show k * 4 + 1 + 1 + 1 + 1 + 2 = (k * 4 + 2) + 1 + 1 + 1 + 1 by omega, show k * 4 + 1 + 1 + 1 + 1 + 3 = (k * 4 + 3) + 1 + 1 + 1 + 1 by omega]
    simp only [List.getElem?_cons_succ]
    exact ⟨h1, h2, h3, h4⟩

theorem add_spot' (b off i : Nat) : (⟨b, off, none⟩ : Addr).add i = ⟨b, off + i, none⟩ := by unfold Addr.add; split <;> simp_all
/-- An owned row of segments reads as a list. -/
theorem own_segs {w : World} {base : Nat} {t : TypeId} {u : Value} {l : List SegS} (h : w.ownsRow base t 9 u l.length (segsV l)) :
    ∃ a c, u = .slice a l.length c ∧ l.length ≤ c ∧ RSegs w w.heap.size a l.length l := by
  rcases h.2 with ⟨rfl, h1⟩ | ⟨g, cap, cur, rfl, _, hh, hc, _⟩
  · rw [h1]
    refine ⟨none, 0, rfl, Nat.le_refl _, h1, fun k s hk => ?_⟩
    rw [List.length_eq_zero_iff.1 h1] at hk
    simp at hk
  · refine ⟨some ⟨g, 0, none⟩, cap, rfl, hc, rfl, fun k s hk => ⟨g, 0, rfl, (Array.getElem?_eq_some_iff.1 hh).1, fun j v hv => ?_⟩⟩
    have hc := h.cells (g := g) rfl (k * 9 + j) v (segsV_at l k s hk j v hv)
    rw [add_spot'] at hc
    rw [Nat.zero_add] at hc ⊢
    exact hc

/-- Subpaths while they are made: those in front are done with, the last one still grows; its segments lie in a block from B on, theirs below B. -/
structure OwnF (w : World) (base B : Nat) (tS tG : TypeId) (v : Value) (front : List SubS) (fv : List Value) (last : SubS) (lv : Value) : Prop where
  hlen : fv.length = front.length
  hbase : base ≤ B
  hsize : B ≤ w.heap.size
  hrow : w.ownsRow base tS 4 v (front.length + 1) (subRow (front ++ [last]) (fv ++ [lv]))
  hfront : ∀ (k : Nat) (s : SubS) (u : Value), front[k]? = some s → fv[k]? = some u → w.ownsRow base tG 9 u s.segs.length (segsV s.segs) ∧ ∀ g, u.ownBlock = some g → g < B
  hlast : w.ownsRow B tG 9 lv last.segs.length (segsV last.segs)

section
variable {w w' : World} {base B : Nat} {tS tG : TypeId} {v lv : Value} {front : List SubS} {fv : List Value} {last : SubS}
theorem own_base {base' : Nat} {e : TypeId} {size n : Nat} {xs : List Value} (h : w.ownsRow base e size v n xs) (hb : base' ≤ base) : w.ownsRow base' e size v n xs :=
  ⟨h.1, h.2.imp id fun ⟨g, cap, cur, h1, h2, h3⟩ => ⟨g, cap, cur, h1, Nat.le_trans hb h2, h3⟩⟩
/-- Rows of two types share no block. -/
theorem own_apart {base' : Nat} {e e' : TypeId} {size size' n n' : Nat} {u : Value} {xs ys : List Value} (h : w.ownsRow base e size v n xs) (k : w.ownsRow base' e' size' u n' ys) (he : e ≠ e') : v.ownBlock = none ∨ v.ownBlock ≠ u.ownBlock := by
  rcases h.2 with ⟨rfl, _⟩ | ⟨g, cap, cur, rfl, _, hg, _⟩
  · exact .inl rfl
  · right
    rcases k.2 with ⟨rfl, _⟩ | ⟨g', cap', cur', rfl, _, hg', _⟩
    · simp [Value.ownBlock]
    · simp only [Value.ownBlock, ne_eq, Option.some.injEq]
      rintro rfl
      rw [hg] at hg'
      simp at hg'
      exact he hg'.2
theorem OwnF.grow (h : OwnF w base B tS tG v front fv last lv) (hb : Below w.heap.size w w') : OwnF w' base B tS tG v front fv last lv :=
  ⟨h.hlen, h.hbase, Nat.le_trans h.hsize hb.size, own_grow h.hrow hb, fun k s u hs hu => ⟨own_grow (h.hfront k s u hs hu).1 hb, (h.hfront k s u hs hu).2⟩, own_grow h.hlast hb⟩
theorem own_far {e t : TypeId} {size n b i : Nat} {cs : Array Value} {xs : List Value} (h : w.ownsRow base e size v n xs) (hB : Blk w b t cs) (ht : t ≠ e) (u : Value) : (w.setCell ⟨b, i, none⟩ u).ownsRow base e size v n xs := by
  refine ownsRow_setCell_other h ?_ u
  rcases h.2 with ⟨rfl, _⟩ | ⟨g, cap, cur, rfl, _, hg, _⟩
  · simp [Value.ownBlock]
  · simp only [Value.ownBlock, ne_eq, Option.some.injEq]
    rintro rfl
    unfold Blk at hB
    rw [hg] at hB
    simp at hB
    exact ht hB.2.symm
/-- A store into a block of another type. -/
theorem OwnF.far {t : TypeId} {b i : Nat} {cs : Array Value} (h : OwnF w base B tS tG v front fv last lv) (hB : Blk w b t cs) (h1 : t ≠ tS) (h2 : t ≠ tG) (u : Value) : OwnF (w.setCell ⟨b, i, none⟩ u) base B tS tG v front fv last lv :=
  ⟨h.hlen, h.hbase, by simpa using h.hsize, own_far h.hrow hB h1 u, fun k s x hs hx => ⟨own_far (h.hfront k s x hs hx).1 hB h2 u, (h.hfront k s x hs hx).2⟩, own_far h.hlast hB h2 u⟩
theorem OwnF.drew (h : OwnF w base B tS tG v front fv last lv) : OwnF w.drew base B tS tG v front fv last lv := h.grow (Below.drew (Below.refl _ _))
/-- The row of subpaths is no block of another type. -/
theorem OwnF.apart {t : TypeId} {b g cap : Nat} {cs : Array Value} (h : OwnF w base B tS tG (.slice (some ⟨g, 0, none⟩) (front.length + 1) cap) front fv last lv) (hB : Blk w b t cs) (h1 : t ≠ tS) : g ≠ b := by
  rintro rfl
  rcases h.hrow.2 with ⟨h2, _⟩ | ⟨g', cap', cur, h2, _, hg, _⟩
  · cases h2
  · injection h2 with h2
    injection h2 with h2
    injection h2 with h2
    subst h2
    unfold Blk at hB
    rw [hg] at hB
    simp at hB
    exact h1 hB.2.symm
/-- The first subpath is begun. -/
theorem OwnF.begin {p : Int × Int} (hbase : base ≤ w'.heap.size) (hr : w'.ownsRow base tS 4 v 1 [.int .i64 p.1, .int .i64 p.2, .slice none 0 0, .bool false]) : OwnF w' base w'.heap.size tS tG v [] [] ⟨p, [], false⟩ (.slice none 0 0) :=
  ⟨rfl, hbase, Nat.le_refl _, hr, fun k s u hs => by simp at hs, World.ownsRow_nil _ _ _ _⟩
/-- A further one is begun. -/
theorem OwnF.next {p : Int × Int} {v' : Value} (h : OwnF w base B tS tG v front fv last lv) (ht : tS ≠ tG)
    (hr : w'.ownsRow base tS 4 v' (front.length + 1 + 1) (subRow (front ++ [last]) (fv ++ [lv]) ++ [.int .i64 p.1, .int .i64 p.2, .slice none 0 0, .bool false])) (hg : w.grownBy w' v.ownBlock) :
    OwnF w' base w'.heap.size tS tG v' (front ++ [last]) (fv ++ [lv]) ⟨p, [], false⟩ (.slice none 0 0) := by
  have keep : ∀ {b' : Nat} {u : Value} {n : Nat} {xs : List Value}, w.ownsRow b' tG 9 u n xs → w'.ownsRow b' tG 9 u n xs := fun hu => hu.kept hg (own_apart hu h.hrow (Ne.symm ht))
  refine ⟨by simp [h.hlen], Nat.le_trans h.hbase (Nat.le_trans h.hsize hg.size), Nat.le_refl _, ?_, ?_, World.ownsRow_nil _ _ _ _⟩
  · rw [subRow_snoc _ _ _ _ (by simp [h.hlen])]
    simpa using hr
  · intro k s u hs hu
    rcases Nat.lt_or_ge k front.length with hk | hk
    · rw [List.getElem?_append_left hk] at hs
      rw [List.getElem?_append_left (by rw [h.hlen]; exact hk)] at hu
      obtain ⟨h1, h2⟩ := h.hfront k s u hs hu
      exact ⟨keep h1, fun g hg' => Nat.lt_of_lt_of_le (h2 g hg') (Nat.le_trans h.hsize hg.size)⟩
    · have hk0 : k = front.length := by
        have := (List.getElem?_eq_some_iff.1 hs).1
        simp at this
        omega
      subst hk0
      rw [List.getElem?_append_right (Nat.le_refl _), Nat.sub_self] at hs
      rw [← h.hlen, List.getElem?_append_right (Nat.le_refl _), Nat.sub_self] at hu
      simp at hs hu
      subst hs hu
      exact ⟨keep (own_base h.hlast h.hbase), fun g hg' => Nat.lt_of_lt_of_le (h.hlast.lt g hg').2 hg.size⟩
/-- Where the last one lies. -/
theorem OwnF.where_ (h : OwnF w base B tS tG v front fv last lv) : ∃ g cap, v = .slice (some ⟨g, 0, none⟩) (front.length + 1) cap ∧ base ≤ g ∧ g < w.heap.size ∧ front.length + 1 ≤ cap ∧ cap ≤ maxLen ∧
    w.cell? ⟨g, front.length * 4, none⟩ = some (.int .i64 last.start.1) ∧ w.cell? ⟨g, front.length * 4 + 1, none⟩ = some (.int .i64 last.start.2) ∧ w.cell? ⟨g, front.length * 4 + 2, none⟩ = some lv ∧ w.cell? ⟨g, front.length * 4 + 3, none⟩ = some (.bool last.closed) ∧
    (∀ j, w.frozen? ⟨g, j, none⟩ = false) := by
  have hr := h.hrow
  rcases hr.2 with ⟨_, h1⟩ | ⟨g, cap, cur, rfl, hg, hh, hc, hm, _⟩
  · omega
  · have hat := fun j u hj => hr.cells (g := g) rfl j u hj
    obtain ⟨c0, c1, c2, c3⟩ := subRow_at (front ++ [last]) (fv ++ [lv]) front.length last lv (by simp) (by rw [← h.hlen]; simp)
    have c0 := hat _ _ c0
    have c1 := hat _ _ c1
    have c2 := hat _ _ c2
    have c3 := hat _ _ c3
    rw [add_spot', Nat.zero_add] at c0 c1 c2 c3
    exact ⟨g, cap, rfl, hg, (Array.getElem?_eq_some_iff.1 hh).1, hc, hm, c0, c1, c2, c3, fun j => hr.frozenAt j⟩
/-- The last one is closed; its segments' value is another one. -/
theorem OwnF.store {g cap j : Nat} {u : Value} (h : OwnF w base B tS tG (.slice (some ⟨g, 0, none⟩) (front.length + 1) cap) front fv last lv) (ht : tS ≠ tG) (last' : SubS) (lv' : Value)
    (hxs : (subRow (front ++ [last]) (fv ++ [lv])).set j u = subRow (front ++ [last']) (fv ++ [lv'])) (hl : (w.setCell ⟨g, j, none⟩ u).ownsRow B tG 9 lv' last'.segs.length (segsV last'.segs)) :
    OwnF (w.setCell ⟨g, j, none⟩ u) base B tS tG (.slice (some ⟨g, 0, none⟩) (front.length + 1) cap) front fv last' lv' := by
  refine ⟨h.hlen, h.hbase, by simpa using h.hsize, ?_, ?_, hl⟩
  · rw [← hxs]
    exact (h.hrow.stored j u).1
  · intro k s x hs hx
    obtain ⟨h1, h2⟩ := h.hfront k s x hs hx
    refine ⟨ownsRow_setCell_other h1 ?_ u, h2⟩
    rcases own_apart h1 h.hrow (Ne.symm ht) with h3 | h3
    · rw [h3]; simp
    · exact h3
/-- What the last one holds is kept by a store into the row of subpaths. -/
theorem OwnF.seg_store {g cap j : Nat} {u : Value} {b' : Nat} {x : Value} {n : Nat} {xs : List Value} (h : OwnF w base B tS tG (.slice (some ⟨g, 0, none⟩) (front.length + 1) cap) front fv last lv) (ht : tS ≠ tG)
    (hx : w.ownsRow b' tG 9 x n xs) : (w.setCell ⟨g, j, none⟩ u).ownsRow b' tG 9 x n xs := by
  refine ownsRow_setCell_other hx ?_ u
  rcases own_apart hx h.hrow (Ne.symm ht) with h3 | h3
  · rw [h3]; simp
  · exact h3
/-- The row of the last one's segments grows: all else is kept, but its value is stored nowhere yet. -/
theorem OwnF.grown (h : OwnF w base B tS tG v front fv last lv) (ht : tS ≠ tG) (hg : w.grownBy w' lv.ownBlock) :
    B ≤ w'.heap.size ∧ w'.ownsRow base tS 4 v (front.length + 1) (subRow (front ++ [last]) (fv ++ [lv])) ∧
    (∀ (k : Nat) (s : SubS) (u : Value), front[k]? = some s → fv[k]? = some u → w'.ownsRow base tG 9 u s.segs.length (segsV s.segs) ∧ ∀ g, u.ownBlock = some g → g < B) := by
  refine ⟨Nat.le_trans h.hsize hg.size, h.hrow.kept hg (own_apart h.hrow h.hlast ht), fun k s u hs hu => ?_⟩
  obtain ⟨h1, h2⟩ := h.hfront k s u hs hu
  refine ⟨h1.kept hg ?_, h2⟩
  cases hu' : u.ownBlock with
  | none => exact .inl rfl
  | some g =>
    right
    intro he
    have := h2 g hu'
    have := (h.hlast.lt g he.symm).1
    omega
/-- A segment is put to the last one, and the row's new value is stored. -/
theorem OwnF.put {g cap : Nat} {lv' : Value} {s : SegS} (h : OwnF w base B tS tG (.slice (some ⟨g, 0, none⟩) (front.length + 1) cap) front fv last lv) (ht : tS ≠ tG)
    (hr : w'.ownsRow B tG 9 lv' (last.segs.length + 1) (segsV last.segs ++ segV s)) (hg : w.grownBy w' lv.ownBlock) :
    OwnF (w'.setCell ⟨g, front.length * 4 + 2, none⟩ lv') base B tS tG (.slice (some ⟨g, 0, none⟩) (front.length + 1) cap) front fv (addS s last) lv' := by
  obtain ⟨h1, h2, h3⟩ := h.grown ht hg
  have far : ∀ {b' : Nat} {x : Value} {n : Nat} {xs : List Value}, w'.ownsRow b' tG 9 x n xs → (w'.setCell ⟨g, front.length * 4 + 2, none⟩ lv').ownsRow b' tG 9 x n xs := fun hx => by
    refine ownsRow_setCell_other hx ?_ _
    rcases own_apart hx h2 (Ne.symm ht) with h4 | h4
    · rw [h4]; simp
    · exact h4
  refine ⟨h.hlen, h.hbase, by simpa using h1, ?_, fun k s u hs hu => ⟨far (h3 k s u hs hu).1, (h3 k s u hs hu).2⟩, ?_⟩
  · have e : subRow (front ++ [addS s last]) (fv ++ [lv']) = (subRow (front ++ [last]) (fv ++ [lv])).set (front.length * 4 + 2) lv' := by
      rw [subRow_snoc _ _ _ _ h.hlen, subRow_snoc _ _ _ _ h.hlen, List.set_append_right _ _ (by rw [subRow_length _ _ h.hlen]; omega), subRow_length _ _ h.hlen, show front.length * 4 + 2 - front.length * 4 = 2 by omega]
      rfl
    rw [e]
    exact (h2.stored _ _).1
  · have e : segsV (addS s last).segs = segsV last.segs ++ segV s := by simp [addS, segsV_snoc]
    rw [e]
    have e2 : (addS s last).segs.length = last.segs.length + 1 := by simp [addS]
    rw [e2]
    exact far hr
theorem OwnF.grown_cell {g cap : Nat} (h : OwnF w base B tS tG (.slice (some ⟨g, 0, none⟩) (front.length + 1) cap) front fv last lv) (ht : tS ≠ tG) (hg : w.grownBy w' lv.ownBlock) :
    w'.cell? ⟨g, front.length * 4 + 2, none⟩ = some lv ∧ (∀ j, w'.frozen? ⟨g, j, none⟩ = false) ∧ g < w'.heap.size ∧ base ≤ g := by
  obtain ⟨h1, h2, h3⟩ := h.grown ht hg
  obtain ⟨_, _, c2, _⟩ := subRow_at (front ++ [last]) (fv ++ [lv]) front.length last lv (by simp) (by rw [← h.hlen]; simp)
  have c2 := h2.cells (g := g) rfl _ _ c2
  rw [add_spot', Nat.zero_add] at c2
  obtain ⟨h4, h5⟩ := h2.lt g rfl
  exact ⟨c2, fun j => h2.frozenAt j, h5, h4⟩
theorem own_apart_blk {e t : TypeId} {size n b : Nat} {cs : Array Value} {xs : List Value} (h : w.ownsRow base e size v n xs) (hB : Blk w b t cs) (ht : t ≠ e) : ∀ k, v.ownBlock = some k → k ≠ b := by
  intro k hk
  rcases h.2 with ⟨rfl, _⟩ | ⟨g, cap, cur, rfl, _, hg, _⟩
  · simp [Value.ownBlock] at hk
  · simp only [Value.ownBlock, Option.some.injEq] at hk
    subst hk
    rintro rfl
    unfold Blk at hB
    rw [hg] at hB
    simp at hB
    exact ht hB.2.symm
theorem Blk.news {g : Nat} {t : TypeId} {l : List Value} (h : Blk w g t l.toArray) : ∀ j u, l[j]? = some u → w.cell? ((⟨g, 0, none⟩ : Addr).add j) = some u := by
  intro j u hj
  rw [add_spot', Nat.zero_add, h.cell j, List.getElem?_toArray]
  exact hj
theorem segV_one (s : SegS) : ∀ u ∈ segV s, u.oneCell' = true := by simp [segV, Value.oneCell']
/-- The last one is marked as closed. -/
theorem OwnF.mark {g cap : Nat} (h : OwnF w base B tS tG (.slice (some ⟨g, 0, none⟩) (front.length + 1) cap) front fv last lv) (ht : tS ≠ tG) :
    OwnF (w.setCell ⟨g, front.length * 4 + 3, none⟩ (.bool true)) base B tS tG (.slice (some ⟨g, 0, none⟩) (front.length + 1) cap) front fv ⟨last.start, last.segs, true⟩ lv := by
  refine h.store ht _ _ ?_ (h.seg_store ht h.hlast)
  rw [subRow_snoc _ _ _ _ h.hlen, subRow_snoc _ _ _ _ h.hlen, List.set_append_right _ _ (by rw [subRow_length _ _ h.hlen]; omega), subRow_length _ _ h.hlen, show front.length * 4 + 3 - front.length * 4 = 3 by omega]
  rfl
/-- At the end they are read. -/
theorem OwnF.read (h : OwnF w base B tS tG v front fv last lv) : ∃ a c, v = .slice a (front.length + 1) c ∧ front.length + 1 ≤ c ∧ RSubs w w.heap.size a (front.length + 1) (front ++ [last]) := by
  have hr := h.hrow
  rcases hr.2 with ⟨_, h1⟩ | ⟨g, cap, cur, rfl, hg, hh, hc, hm, _⟩
  · omega
  · refine ⟨some ⟨g, 0, none⟩, cap, rfl, hc, by simp, fun k s hk => ?_⟩
    have hkl : k < front.length + 1 := by
      have := (List.getElem?_eq_some_iff.1 hk).1
      simpa using this
    have hlen : (fv ++ [lv]).length = front.length + 1 := by simp [h.hlen]
    have hu : (fv ++ [lv])[k]? = some ((fv ++ [lv])[k]'(by omega)) := List.getElem?_eq_getElem _
    generalize (fv ++ [lv])[k]'(by omega) = u at hu
    obtain ⟨c0, c1, c2, c3⟩ := subRow_at _ _ k s u hk hu
    have hat := fun j x hj => hr.cells (g := g) rfl j x hj
    have c0 := hat _ _ c0
    have c1 := hat _ _ c1
    have c2 := hat _ _ c2
    have c3 := hat _ _ c3
    rw [add_spot', Nat.zero_add] at c0 c1 c2 c3
    have hseg : ∃ b', w.ownsRow b' tG 9 u s.segs.length (segsV s.segs) := by
      rcases Nat.lt_or_ge k front.length with hlt | hge
      · rw [List.getElem?_append_left hlt] at hk
        rw [List.getElem?_append_left (by rw [h.hlen]; exact hlt)] at hu
        exact ⟨_, (h.hfront k s u hk hu).1⟩
      · have hk0 : k = front.length := by omega
        subst hk0
        rw [List.getElem?_append_right (Nat.le_refl _), Nat.sub_self] at hk
        rw [← h.hlen, List.getElem?_append_right (Nat.le_refl _), Nat.sub_self] at hu
        simp at hk hu
        subst hk hu
        exact ⟨_, h.hlast⟩
    obtain ⟨b', hseg⟩ := hseg
    obtain ⟨sa, sc, rfl, hsc, hrs⟩ := own_segs hseg
    refine ⟨g, 0, sa, sc, rfl, (Array.getElem?_eq_some_iff.1 hh).1, ?_, ?_, ?_, ?_, hsc, hrs⟩
    · rw [Nat.zero_add]; exact c0
    · rw [Nat.zero_add]; exact c1
    · rw [Nat.zero_add]; exact c2
    · rw [Nat.zero_add]; exact c3
end
end Go.Proofs.Ytjkpbkcbimojoaa
