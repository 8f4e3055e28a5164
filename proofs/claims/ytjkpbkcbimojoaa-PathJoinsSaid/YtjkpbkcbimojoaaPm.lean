/- The subpaths of a path that may be: each segment begins where the one ahead of it ends. No program in sight. -/
import Derived.Test.YtjkpbkcbimojoaaPk
namespace Go.Proofs.Ytjkpbkcbimojoaa
open Go.RowKit

def ChainP : (Int × Int) → List SegS → Prop
  | _, [] => True
  | a, g :: l => 2 ≤ g.n ∧ g.n ≤ 4 ∧ g.p0 = a ∧ ChainP (endS g) l
def endP : (Int × Int) → List SegS → Int × Int
  | a, [] => a
  | _, g :: l => endP (endS g) l
/-- Points that do not count are nought. -/
def NormS (g : SegS) : Prop := (g.n = 2 ∧ g.p2 = (0, 0) ∧ g.p3 = (0, 0)) ∨ (g.n = 3 ∧ g.p3 = (0, 0)) ∨ g.n = 4
def GoodSub (s : SubS) : Prop := ChainP s.start s.segs ∧ (∀ g ∈ s.segs, NormS g) ∧ (s.closed = true → endP s.start s.segs = s.start)

theorem endP_snoc (g : SegS) : ∀ (l : List SegS) (a : Int × Int), endP a (l ++ [g]) = endS g
  | [], _ => rfl
  | _ :: l, _ => endP_snoc g l _
theorem ChainP_snoc (g : SegS) : ∀ (l : List SegS) (a : Int × Int), ChainP a l → 2 ≤ g.n → g.n ≤ 4 → g.p0 = endP a l → ChainP a (l ++ [g])
  | [], _, _, h1, h2, h3 => ⟨h1, h2, h3, trivial⟩
  | _ :: l, _, h, h1, h2, h3 => ⟨h.1, h.2.1, h.2.2.1, ChainP_snoc g l _ h.2.2.2 h1 h2 h3⟩
theorem NormS_curve (a : Int × Int) (ps : List (Int × Int)) (k : Nat) (h1 : 1 ≤ k) (h3 : k ≤ 3) : NormS (curveS a ps k) ∧ 2 ≤ (curveS a ps k).n ∧ (curveS a ps k).n ≤ 4 ∧ (curveS a ps k).p0 = a ∧ endS (curveS a ps k) = ptAt ps (k - 1) := by
  rcases (by omega : k = 1 ∨ k = 2 ∨ k = 3) with rfl | rfl | rfl
  · exact ⟨.inl ⟨rfl, rfl, rfl⟩, by simp [curveS], by simp [curveS], rfl, rfl⟩
  · exact ⟨.inr (.inl ⟨rfl, rfl⟩), by simp [curveS], by simp [curveS], rfl, rfl⟩
  · exact ⟨.inr (.inr rfl), by simp [curveS], by simp [curveS], rfl, rfl⟩

/-- What is true between two verbs. -/
def MidP (t : TakeS) (before : Int) : Prop := (∀ s ∈ t.subs, GoodSub s) ∧ (before ≠ 5 → ∃ front last, t.subs = front ++ [last] ∧ last.closed = false ∧ endP last.start last.segs = t.pos)

theorem good_snoc {front : List SubS} {last : SubS} (h : ∀ s ∈ front ++ [last], GoodSub s) {last' : SubS} (h' : GoodSub last') : ∀ s ∈ front ++ [last'], GoodSub s := by
  intro s hs
  rcases List.mem_append.1 hs with hs | hs
  · exact h s (List.mem_append_left _ hs)
  · rw [List.mem_singleton.1 hs]; exact h'
theorem mid_move {t : TakeS} {b : Int} (h : MidP t b) : MidP (takeS t 1) 1 := by
  rw [takeS_move]
  refine ⟨fun s hs => ?_, fun _ => ⟨t.subs, _, rfl, rfl, rfl⟩⟩
  rcases List.mem_append.1 hs with hs | hs
  · exact h.1 s hs
  · rw [List.mem_singleton.1 hs]
    exact ⟨trivial, fun g hg => by simp at hg, fun hc => by cases hc⟩
theorem mid_add {t : TakeS} {b : Int} (h : MidP t b) (hb : b ≠ 5) (k : Nat) (h1 : 1 ≤ k) (h3 : k ≤ 3) (v : Int) :
    MidP ⟨modLast (addS (curveS t.pos t.rest k)) t.subs, ptAt t.rest (k - 1), t.rest.drop k⟩ v := by
  obtain ⟨front, last, e, hc, he⟩ := h.2 hb
  obtain ⟨c1, c2, c3, c4, c5⟩ := NormS_curve t.pos t.rest k h1 h3
  have hg := h.1
  rw [e] at hg
  have hl := hg last (List.mem_append_right _ List.mem_cons_self)
  have hl' : GoodSub (addS (curveS t.pos t.rest k) last) :=
    ⟨ChainP_snoc _ _ _ hl.1 c2 c3 (c4.trans he.symm), fun g hg => by
      rcases List.mem_append.1 hg with hg | hg
      · exact hl.2.1 g hg
      · rw [List.mem_singleton.1 hg]; exact c1, fun hcl => by
      have : last.closed = true := hcl
      rw [hc] at this; cases this⟩
  refine ⟨?_, fun _ => ⟨front, addS (curveS t.pos t.rest k) last, ?_, hc, ?_⟩⟩
  · rw [e]
    simp only [modLast_snoc]
    exact good_snoc hg hl'
  · simp only [e, modLast_snoc]
  · simp only [addS, endP_snoc, c5]
theorem mid_close {t : TakeS} {b : Int} (h : MidP t b) (hb : b ≠ 5) : MidP (takeS t 5) 5 := by
  obtain ⟨front, last, e, hc, he⟩ := h.2 hb
  have hg := h.1
  rw [e] at hg
  have hl := hg last (List.mem_append_right _ List.mem_cons_self)
  rw [takeS_close]
  refine ⟨?_, fun h => absurd rfl h⟩
  simp only [e, modLast_snoc]
  refine good_snoc hg ?_
  unfold closeS
  split
  · rename_i hp
    exact ⟨hl.1, hl.2.1, fun _ => by simp only; rw [he, hp]⟩
  · refine ⟨ChainP_snoc _ _ _ hl.1 (by simp [lineS]) (by simp [lineS]) he.symm, fun g hg => ?_, fun _ => ?_⟩
    · rcases List.mem_append.1 hg with hg | hg
      · exact hl.2.1 g hg
      · rw [List.mem_singleton.1 hg]; exact .inl ⟨rfl, rfl, rfl⟩
    · simp only [endP_snoc]
      rfl
theorem mid_step {t : TakeS} {b v : Int} (h : MidP t b) (hv : 0 ≤ takesS v) (hb : b = 5 → v = 1) : MidP (takeS t v) v := by
  rcases takesS_ok hv with rfl | rfl | rfl | rfl | rfl
  · exact mid_move h
  · exact mid_add h (fun e => by have := hb e; omega) 1 (by omega) (by omega) 2
  · exact mid_add h (fun e => by have := hb e; omega) 2 (by omega) (by omega) 3
  · exact mid_add h (fun e => by have := hb e; omega) 3 (by omega) (by omega) 4
  · exact mid_close h (fun e => by have := hb e; omega)

theorem checkV_mid : ∀ (vs : List Int) (b : Int), checkV b vs = 0 → ∀ (t : TakeS), MidP t b → ∃ b', MidP (vs.foldl takeS t) b'
  | [], b, _, t, h => ⟨b, h⟩
  | v :: vs, b, hc, t, h => by
    simp only [checkV] at hc
    by_cases h1 : takesS v < 0
    · rw [if_pos h1] at hc; omega
    rw [if_neg h1] at hc
    by_cases h2 : b = 5 ∧ v ≠ 1
    · rw [if_pos h2] at hc; omega
    rw [if_neg h2] at hc
    exact checkV_mid vs v hc _ (mid_step h (by omega) (fun e => by
      by_cases hv : v = 1
      · exact hv
      · exact absurd ⟨e, hv⟩ h2))
/-- THE LAW. -/
theorem split_good (vs : List Int) (ps : List (Int × Int)) : ∀ s ∈ splitS vs ps, GoodSub s := by
  unfold splitS
  by_cases h : checkS vs ps = 0
  · rw [if_pos h]
    obtain ⟨_, hc, _, _⟩ := check_ok h
    obtain ⟨b, hm⟩ := checkV_mid vs 5 hc (startS ps) ⟨fun s hs => by simp [startS] at hs, fun h => absurd rfl h⟩
    unfold stateS
    rw [List.take_of_length_le (Nat.le_refl _)]
    exact hm.1
  · rw [if_neg h]; simp
/-- There are as many subpaths as moves. -/
theorem split_moves {vs : List Int} {ps : List (Int × Int)} (h : checkS vs ps = 0) : (splitS vs ps).length = vs.count 1 := by
  have hall := checkV_all (check_ok h).2.1
  have key : ∀ k, k ≤ vs.length → (stateS vs ps k).subs.length = (vs.take k).count 1 := by
    intro k
    induction k with
    | zero => intro _; simp [stateS_zero, startS]
    | succ k ih =>
      intro hk
      rw [stateS_succ vs ps k hk, takeS_length _ _ (hall _ (List.getElem_mem hk)), ih (by omega), take_snoc vs k hk, List.count_append]
      congr 1
      by_cases h1 : vs[k] = 1
      · rw [if_pos h1, h1]; rfl
      · rw [if_neg h1, List.count_singleton, if_neg (by simpa using h1)]
  unfold splitS
  rw [if_pos h, key _ (Nat.le_refl _), List.take_of_length_le (Nat.le_refl _)]
theorem split_small (vs : List Int) (ps : List (Int × Int)) : (splitS vs ps).length ≤ 512 ∧ ∀ s ∈ splitS vs ps, s.segs.length ≤ 512 := by
  unfold splitS
  by_cases h : checkS vs ps = 0
  · rw [if_pos h]
    obtain ⟨h1, hc, _, _⟩ := check_ok h
    have hall := checkV_all hc
    have h2 := state_count vs ps hall vs.length (Nat.le_refl _)
    have h3 := state_segs vs ps hall vs.length (Nat.le_refl _)
    exact ⟨by omega, fun s hs => by have := h3 s hs; omega⟩
  · rw [if_neg h]; simp
end Go.Proofs.Ytjkpbkcbimojoaa
