/- Appends of a slice that may be nil to a row of one's own; rows of points. No program in sight. -/
import Derived.Test.YtljmhenhibhbfaaOwn
import Derived.Laws.AppendOwnNone
namespace Go.Proofs.Ytljmhenhibhbfaa
open Go.RowKit

theorem wpList_append_src {P : Program} {w : World} {ops : Array Oper} {rest : List Oper} {o : Oper} {a : Act} {Q : Exit → Act → World → Prop} (hgd : o.guard = none) (s x : Operand) (t : TypeId)
    (ho : o.op = .call { callee := .builtin .append, args := #[s, x], argTypes := #[t, t] })
    (base : Nat) (e : TypeId) (i : TypeInfo) (z : Value) (size bytes : Nat) (ht : P.underlying t = some (.slice e)) (hi : P.info? e = some i) (hz : i.zero = some z)
    (hsize : i.size = size) (hby : i.bytes = bytes) (hzs : z.cells.size = size) (hsz : 0 < size)
    (v : Value) (n : Nat) (xs : List Value) (hs : a.eval s = v) (hown : w.ownsRow base e size v n xs)
    (src : Option Addr) (m c : Nat) (news : List Value) (hx : a.eval x = .slice src m c) (hnil : src = none → m = 0 ∧ c = 0) (hl : news.length = m * size) (hnews : ∀ j u, news[j]? = some u → ∃ ad, src = some ad ∧ w.cell? (ad.add j) = some u) (h1 : ∀ u ∈ news, u.oneCell' = true)
    (h63 : n + m ≤ maxLen) (hbytes : (n + m) * bytes ≤ 140737488355328) (hbase : base ≤ w.heap.size)
    (h : ∀ v' w', w'.ownsRow base e size v' (n + m) (xs ++ news) → w.grownBy w' v.ownBlock → wpList P ops Q rest (a.put o.dst v') w') : wpList P ops Q (o :: rest) a w := by
  cases src with
  | none =>
    obtain ⟨rfl, rfl⟩ := hnil rfl
    have hn0 : news = [] := List.eq_nil_of_length_eq_zero (by simpa using hl)
    subst hn0
    refine wpList_append_own_none hgd s x t ho base e i size ht hi v n xs hs hown hx ?_
    have := h v w (by simpa using hown) ⟨rfl, rfl, rfl, Nat.le_refl _, fun _ _ _ => rfl⟩
    exact this
  | some ad =>
    refine wpList_append_own w hgd s x t ho base e i z size bytes ht hi hz hsize hby hzs hsz v n xs hs hown ad m c news hx hl (fun j u hj => ?_) h1 h63 hbytes hbase (fun v' w' h2 h3 _ => h v' w' h2 h3)
    obtain ⟨ad', e1, h2⟩ := hnews j u hj
    injection e1 with e1
    rw [e1]
    exact h2

def ptsV (l : List (Int × Int)) : List Value := l.flatMap fun p => [.int .i64 p.1, .int .i64 p.2]
def intsV (l : List Int) : List Value := l.map (Value.int .i64)
theorem ptsV_length (l : List (Int × Int)) : (ptsV l).length = l.length * 2 := by
  induction l with
  | nil => rfl
  | cons s l ih => simp only [ptsV, List.flatMap_cons, List.length_append, List.length_cons, List.length_nil] at ih ⊢; omega
theorem ptsV_append (l l' : List (Int × Int)) : ptsV (l ++ l') = ptsV l ++ ptsV l' := by simp [ptsV]
theorem ptsV_at : ∀ (l : List (Int × Int)) (k : Nat) (p : Int × Int), l[k]? = some p → (ptsV l)[k * 2]? = some (.int .i64 p.1) ∧ (ptsV l)[k * 2 + 1]? = some (.int .i64 p.2)
  | [], k, p, h => by simp at h
  | a :: l, 0, p, h => by simp at h; subst h; exact ⟨rfl, rfl⟩
  | a :: l, k + 1, p, h => by
    obtain ⟨h1, h2⟩ := ptsV_at l k p (by simpa using h)
    rw [show (k + 1) * 2 = k * 2 + 1 + 1 by omega]
    exact ⟨h1, h2⟩
theorem ptsV_from (l : List (Int × Int)) (j : Nat) (u : Value) (h : (ptsV l)[j]? = some u) : ∃ k p, l[k]? = some p ∧ ((j = k * 2 ∧ u = .int .i64 p.1) ∨ (j = k * 2 + 1 ∧ u = .int .i64 p.2)) := by
  have hj := (List.getElem?_eq_some_iff.1 h).1
  rw [ptsV_length] at hj
  have hk : j / 2 < l.length := by omega
  obtain ⟨h1, h2⟩ := ptsV_at l (j / 2) l[j / 2] (List.getElem?_eq_getElem hk)
  refine ⟨j / 2, l[j / 2], List.getElem?_eq_getElem hk, ?_⟩
  rcases Nat.mod_two_eq_zero_or_one j with hm | hm
  · left
    have e : j / 2 * 2 = j := by omega
    rw [e, h] at h1
    exact ⟨e.symm, Option.some.inj h1⟩
  · right
    have e : j / 2 * 2 + 1 = j := by omega
    rw [e, h] at h2
    exact ⟨e.symm, Option.some.inj h2⟩
theorem ptsV_one (l : List (Int × Int)) : ∀ u ∈ ptsV l, u.oneCell' = true := by
  intro u hu
  obtain ⟨j, hj⟩ := List.getElem?_of_mem hu
  obtain ⟨k, p, _, ⟨_, rfl⟩ | ⟨_, rfl⟩⟩ := ptsV_from l j u hj <;> rfl
theorem intsV_one (l : List Int) : ∀ u ∈ intsV l, u.oneCell' = true := by
  intro u hu
  obtain ⟨j, _, rfl⟩ := List.mem_map.1 hu
  rfl
theorem RPts.news {w : World} {B n : Nat} {a : Option Addr} {l : List (Int × Int)} (h : RPts w B a n l) : ∀ j u, (ptsV l)[j]? = some u → ∃ ad, a = some ad ∧ w.cell? (ad.add j) = some u := by
  intro j u hj
  obtain ⟨k, p, hk, hu⟩ := ptsV_from l j u hj
  obtain ⟨b, off, rfl, _, h1, h2⟩ := h.2 k p hk
  refine ⟨_, rfl, ?_⟩
  have hadd : (⟨b, off, none⟩ : Addr).add j = ⟨b, off + j, none⟩ := by unfold Addr.add; split <;> simp_all
  rw [hadd]
  rcases hu with ⟨rfl, rfl⟩ | ⟨rfl, rfl⟩
  · exact h1
  · exact h2
theorem RInts.news {w : World} {B n : Nat} {a : Option Addr} {l : List Int} (h : RInts w B a n l) : ∀ j u, (intsV l)[j]? = some u → ∃ ad, a = some ad ∧ w.cell? (ad.add j) = some u := by
  intro j u hj
  unfold intsV at hj
  rw [List.getElem?_map] at hj
  cases hk : l[j]? with
  | none => rw [hk] at hj; cases hj
  | some x =>
    rw [hk] at hj
    injection hj with hj
    obtain ⟨b, off, rfl, _, h1⟩ := h.2 j x hk
    refine ⟨_, rfl, ?_⟩
    have hadd : (⟨b, off, none⟩ : Addr).add j = ⟨b, off + j, none⟩ := by unfold Addr.add; split <;> simp_all
    rw [hadd, ← hj]
    exact h1
theorem own_pts {w : World} {base n c : Nat} {e : TypeId} {l : List (Int × Int)} {a : Option Addr} (h : w.ownsRow base e 2 (.slice a n c) n (ptsV l)) : RPts w w.heap.size a n l := by
  have hl : l.length = n := by have := h.1; rw [ptsV_length] at this; omega
  refine ⟨hl, fun k p hk => ?_⟩
  rcases h.2 with ⟨h1, rfl⟩ | ⟨g, cap, cur, h1, _, hh, hc, _⟩
  · rw [List.length_eq_zero_iff.1 hl] at hk; simp at hk
  · injection h1 with h1
    subst h1
    obtain ⟨h2, h3⟩ := ptsV_at l k p hk
    have hadd : ∀ j, (⟨g, 0, none⟩ : Addr).add j = ⟨g, 0 + j, none⟩ := fun j => by unfold Addr.add; split <;> simp_all
    have h2 := h.cells (g := g) rfl _ _ h2
    have h3 := h.cells (g := g) rfl _ _ h3
    rw [hadd] at h2 h3
    exact ⟨g, 0, rfl, (Array.getElem?_eq_some_iff.1 hh).1, h2, by rw [show 0 + k * 2 + 1 = 0 + (k * 2 + 1) by omega]; exact h3⟩
/-- An empty row of one's own, just made. -/
theorem own_empty (w : World) (base : Nat) (e : TypeId) (size : Nat) (hb : base ≤ w.heap.size) : (w.alloc (.cells #[] e)).ownsRow base e size (.slice (some ⟨w.heap.size, 0, none⟩) 0 0) 0 [] :=
  World.ownsRow_made w #[] 0 hb (Nat.zero_le _) (by simp)
end Go.Proofs.Ytljmhenhibhbfaa
