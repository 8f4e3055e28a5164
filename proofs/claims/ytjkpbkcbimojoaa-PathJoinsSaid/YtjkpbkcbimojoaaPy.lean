/- Subpaths that were split are split again, when they were joined, into the same ones. No program in sight. -/
import Derived.Test.YtjkpbkcbimojoaaPm
namespace Go.Proofs.Ytjkpbkcbimojoaa
open Go.RowKit

def segPs (g : SegS) : List (Int × Int) := if g.n = 2 then [g.p1] else if g.n = 3 then [g.p1, g.p2] else if g.n = 4 then [g.p1, g.p2, g.p3] else []
def segVs (g : SegS) : List Int := if 2 ≤ g.n ∧ g.n ≤ 4 then [g.n] else []
def segsVs (l : List SegS) : List Int := l.flatMap segVs
def segsPs (l : List SegS) : List (Int × Int) := l.flatMap segPs
def endVs (c : Bool) : List Int := if c then [5] else []
def subVs (s : SubS) : List Int := 1 :: (segsVs s.segs ++ endVs s.closed)
def subPs (s : SubS) : List (Int × Int) := s.start :: segsPs s.segs
def joinVs (l : List SubS) : List Int := l.flatMap subVs
def joinPs (l : List SubS) : List (Int × Int) := l.flatMap subPs

theorem seg_back {g : SegS} {a : Int × Int} (hn : NormS g) (ha : g.p0 = a) (S : List SubS) (s : SubS) (r : List (Int × Int)) :
    (segVs g).foldl takeS ⟨S ++ [s], a, segPs g ++ r⟩ = ⟨S ++ [addS g s], endS g, r⟩ := by
  obtain ⟨p0, p1, p2, p3, n⟩ := g
  simp only at ha
  subst ha
  rcases hn with ⟨h1, h2, h3⟩ | ⟨h1, h3⟩ | h1
  · simp only at h1 h2 h3
    subst h1 h2 h3
    show takeS ⟨S ++ [s], p0, p1 :: r⟩ 2 = _
    rw [takeS_line, modLast_snoc]
    rfl
  · simp only at h1 h3
    subst h1 h3
    show takeS ⟨S ++ [s], p0, p1 :: p2 :: r⟩ 3 = _
    rw [takeS_quad, modLast_snoc]
    rfl
  · simp only at h1
    subst h1
    show takeS ⟨S ++ [s], p0, p1 :: p2 :: p3 :: r⟩ 4 = _
    rw [takeS_cubic, modLast_snoc]
    rfl
theorem segs_back : ∀ (gs : List SegS) (a : Int × Int), ChainP a gs → (∀ g ∈ gs, NormS g) → ∀ (S : List SubS) (st : Int × Int) (done : List SegS) (c : Bool) (r : List (Int × Int)),
    (segsVs gs).foldl takeS ⟨S ++ [⟨st, done, c⟩], a, segsPs gs ++ r⟩ = ⟨S ++ [⟨st, done ++ gs, c⟩], endP a gs, r⟩
  | [], a, _, _, S, st, done, c, r => by simp [segsVs, segsPs, endP]
  | g :: gs, a, h, hn, S, st, done, c, r => by
    have h1 := seg_back (hn g List.mem_cons_self) h.2.2.1 S ⟨st, done, c⟩ (segsPs gs ++ r)
    have h2 := segs_back gs (endS g) h.2.2.2 (fun q hq => hn q (List.mem_cons_of_mem _ hq)) S st (done ++ [g]) c r
    simp only [segsVs, segsPs, List.flatMap_cons, List.foldl_append, List.append_assoc] at h1 h2 ⊢
    rw [h1]
    simp only [addS]
    rw [h2]
    simp [endP]
theorem sub_back {s : SubS} (h : GoodSub s) (S : List SubS) (a : Int × Int) (r : List (Int × Int)) : ∃ p, (subVs s).foldl takeS ⟨S, a, subPs s ++ r⟩ = ⟨S ++ [s], p, r⟩ := by
  obtain ⟨st, gs, c⟩ := s
  obtain ⟨h1, h2, h3⟩ := h
  simp only at h1 h2 h3
  have e := segs_back gs st h1 h2 S st [] false r
  simp only [subVs, subPs, List.foldl_cons, List.foldl_append, List.cons_append]
  rw [takeS_move]
  simp only [ptAt, List.getD_cons_zero, List.drop_succ_cons, List.drop_zero]
  rw [e]
  cases c with
  | false => exact ⟨endP st gs, by simp [endVs]⟩
  | true =>
    have h4 := h3 rfl
    refine ⟨endP st gs, ?_⟩
    show takeS _ 5 = _
    rw [takeS_close, modLast_snoc]
    simp only [closeS]
    rw [if_pos h4]
    simp
theorem join_back : ∀ (l : List SubS), (∀ s ∈ l, GoodSub s) → ∀ (S : List SubS) (a : Int × Int) (r : List (Int × Int)), ∃ p, (joinVs l).foldl takeS ⟨S, a, joinPs l ++ r⟩ = ⟨S ++ l, p, r⟩
  | [], _, S, a, r => ⟨a, by simp [joinVs, joinPs]⟩
  | s :: l, h, S, a, r => by
    obtain ⟨p, h1⟩ := sub_back (h s List.mem_cons_self) S a (joinPs l ++ r)
    obtain ⟨q, h2⟩ := join_back l (fun u hu => h u (List.mem_cons_of_mem _ hu)) (S ++ [s]) p r
    refine ⟨q, ?_⟩
    simp only [joinVs, joinPs, List.flatMap_cons, List.foldl_append, List.append_assoc] at h1 h2 ⊢
    rw [h1, h2]
    simp

theorem checkV_segs (X : List Int) (hX : ∀ b, b ≠ 5 → checkV b X = 0) : ∀ (gs : List SegS) (b : Int), b ≠ 5 → checkV b (segsVs gs ++ X) = 0
  | [], b, hb => hX b hb
  | g :: gs, b, hb => by
    simp only [segsVs, List.flatMap_cons, List.append_assoc]
    unfold segVs
    split
    · rename_i hg
      have ht : 0 ≤ takesS g.n := by
        rcases (by omega : g.n = 2 ∨ g.n = 3 ∨ g.n = 4) with e | e | e <;> rw [e] <;> decide
      show checkV b (g.n :: (segsVs gs ++ X)) = 0
      rw [checkV_next ht (.inl hb)]
      exact checkV_segs X hX gs g.n (by omega)
    · exact checkV_segs X hX gs b hb
theorem checkV_join : ∀ (l : List SubS) (b : Int), checkV b (joinVs l) = 0
  | [], b => rfl
  | s :: l, b => by
    simp only [joinVs, List.flatMap_cons]
    show checkV b (1 :: ((segsVs s.segs ++ endVs s.closed) ++ joinVs l)) = 0
    rw [checkV_next (by decide) (.inr rfl), List.append_assoc]
    refine checkV_segs _ (fun b hb => ?_) s.segs 1 (by decide)
    unfold endVs
    split
    · show checkV b (5 :: joinVs l) = 0
      rw [checkV_next (by decide) (.inl hb)]
      exact checkV_join l 5
    · exact checkV_join l b
theorem totalS_segs : ∀ gs : List SegS, totalS (segsVs gs) = (segsPs gs).length
  | [] => rfl
  | g :: gs => by
    have ih := totalS_segs gs
    simp only [segsVs, segsPs, List.flatMap_cons, totalS_append, List.length_append] at ih ⊢
    rw [ih]
    have e : totalS (segVs g) = (segPs g).length := by
      unfold segVs segPs
      by_cases h : 2 ≤ g.n ∧ g.n ≤ 4
      · rw [if_pos h]
        rcases (by omega : g.n = 2 ∨ g.n = 3 ∨ g.n = 4) with e | e | e <;> rw [e] <;> rfl
      · rw [if_neg h, if_neg (by omega), if_neg (by omega), if_neg (by omega)]
        rfl
    rw [e]
    omega
theorem totalS_join : ∀ l : List SubS, totalS (joinVs l) = (joinPs l).length
  | [] => rfl
  | s :: l => by
    have ih := totalS_join l
    have h1 := totalS_segs s.segs
    have h2 : totalS (endVs s.closed) = 0 := by unfold endVs; split <;> rfl
    have h3 : takesS 1 = 1 := rfl
    simp only [joinVs, joinPs, List.flatMap_cons, totalS_append, List.length_append, subVs, subPs, totalS_cons, List.length_cons] at ih ⊢
    omega

/-- No point of a subpath is far. -/
def okS (s : SubS) : Prop := farP s.start = false ∧ ∀ g ∈ s.segs, ∀ q ∈ segPs g, farP q = false
theorem ptAt_ok {ps : List (Int × Int)} (h : ∀ q ∈ ps, farP q = false) (k : Nat) : farP (ptAt ps k) = false := by
  unfold ptAt
  rw [List.getD_eq_getElem?_getD]
  rcases Nat.lt_or_ge k ps.length with hk | hk
  · rw [List.getElem?_eq_getElem hk]; exact h _ (List.getElem_mem hk)
  · rw [List.getElem?_eq_none hk]; rfl
theorem ok_add {s : SubS} {g : SegS} (h : okS s) (hg : ∀ q ∈ segPs g, farP q = false) : okS (addS g s) :=
  ⟨h.1, fun x hx => by
    rcases List.mem_append.1 hx with hx | hx
    · exact h.2 x hx
    · rw [List.mem_singleton.1 hx]; exact hg⟩
theorem ok_close {s : SubS} (a : Int × Int) (h : okS s) : okS (closeS a s) := by
  unfold closeS
  split
  · exact h
  · refine ⟨h.1, fun x hx => ?_⟩
    rcases List.mem_append.1 hx with hx | hx
    · exact h.2 x hx
    · rw [List.mem_singleton.1 hx]
      intro q hq
      simp [segPs, lineS] at hq
      rw [hq]
      exact h.1
theorem ok_curve {ps : List (Int × Int)} (h : ∀ q ∈ ps, farP q = false) (a : Int × Int) (k : Nat) : ∀ q ∈ segPs (curveS a ps k), farP q = false := by
  intro q hq
  have p0 := ptAt_ok h 0
  have p1 := ptAt_ok h 1
  have p2 := ptAt_ok h 2
  have pz : farP (0, 0) = false := rfl
  unfold segPs curveS at hq
  simp only at hq
  repeat' split at hq
  all_goals simp at hq
  all_goals (try rcases hq with rfl | rfl | rfl) <;> (try rcases hq with rfl | rfl) <;> (try subst hq) <;> assumption
theorem ok_step {t : TakeS} {v : Int} (h : (∀ s ∈ t.subs, okS s) ∧ ∀ q ∈ t.rest, farP q = false) : (∀ s ∈ (takeS t v).subs, okS s) ∧ ∀ q ∈ (takeS t v).rest, farP q = false := by
  unfold takeS
  split
  · refine ⟨fun s hs => ?_, fun q hq => h.2 q (List.mem_of_mem_drop hq)⟩
    rcases List.mem_append.1 hs with hs | hs
    · exact h.1 s hs
    · rw [List.mem_singleton.1 hs]
      exact ⟨ptAt_ok h.2 0, fun g hg => by simp at hg⟩
  · split
    · exact ⟨modLast_mem (P := okS) (fun s hs => ok_close _ hs) (fun s hs => hs) h.1, h.2⟩
    · exact ⟨modLast_mem (P := okS) (fun s hs => ok_add hs (ok_curve h.2 _ _)) (fun s hs => hs) h.1, fun q hq => h.2 q (List.mem_of_mem_drop hq)⟩
theorem ok_fold : ∀ (vs : List Int) (t : TakeS), ((∀ s ∈ t.subs, okS s) ∧ ∀ q ∈ t.rest, farP q = false) → (∀ s ∈ (vs.foldl takeS t).subs, okS s)
  | [], _, h => h.1
  | _ :: vs, _, h => ok_fold vs _ (ok_step h)
theorem split_ok (vs : List Int) (ps : List (Int × Int)) : ∀ s ∈ splitS vs ps, okS s := by
  unfold splitS
  by_cases h : checkS vs ps = 0
  · rw [if_pos h]
    obtain ⟨_, _, _, hf⟩ := check_ok h
    refine ok_fold _ _ ⟨fun s hs => by simp [startS] at hs, fun q hq => ?_⟩
    have := List.any_eq_false.1 hf q hq
    simpa using this
  · rw [if_neg h]; simp
theorem join_far {l : List SubS} (h : ∀ s ∈ l, okS s) : (joinPs l).any farP = false := by
  rw [List.any_eq_false]
  intro q hq
  obtain ⟨s, hs, hq⟩ := List.mem_flatMap.1 hq
  rcases List.mem_cons.1 hq with rfl | hq
  · simp [(h s hs).1]
  · obtain ⟨g, hg, hq⟩ := List.mem_flatMap.1 hq
    simp [(h s hs).2 g hg q hq]

theorem segVs_len (g : SegS) : (segVs g).length ≤ 1 := by unfold segVs; split <;> simp
theorem joinVs_append (a b : List SubS) : joinVs (a ++ b) = joinVs a ++ joinVs b := by simp [joinVs]
theorem joinVs_mod (f : SubS → SubS) (c : Nat) (h : ∀ s, (subVs (f s)).length ≤ (subVs s).length + c) : ∀ l : List SubS, (joinVs (modLast f l)).length ≤ (joinVs l).length + c
  | [] => by simp [modLast]
  | [s] => by have := h s; simpa [modLast, joinVs] using this
  | s :: t :: l => by
    have ih := joinVs_mod f c h (t :: l)
    simp only [modLast, joinVs, List.flatMap_cons, List.length_append] at ih ⊢
    omega
theorem subVs_add (g : SegS) (s : SubS) : (subVs (addS g s)).length ≤ (subVs s).length + 1 := by
  have := segVs_len g
  simp only [subVs, addS, segsVs, List.flatMap_append, List.length_cons, List.length_append, List.flatMap_cons, List.flatMap_nil, List.append_nil]
  omega
theorem subVs_close (a : Int × Int) (s : SubS) : (subVs (closeS a s)).length ≤ (subVs s).length + 2 := by
  have h1 := segVs_len (lineS a s.start)
  have h2 : (endVs s.closed).length ≤ 1 := by unfold endVs; split <;> simp
  have h3 : (endVs true).length = 1 := rfl
  unfold closeS
  split
  · simp only [subVs, List.length_cons, List.length_append]; omega
  · simp only [subVs, segsVs, List.flatMap_append, List.length_cons, List.length_append, List.flatMap_cons, List.flatMap_nil, List.append_nil]; omega
theorem joinVs_step (t : TakeS) (v : Int) : (joinVs (takeS t v).subs).length ≤ (joinVs t.subs).length + 2 := by
  unfold takeS
  split
  · simp [joinVs, subVs, segsVs, endVs]
  · split
    · exact joinVs_mod _ 2 (subVs_close _) _
    · have := joinVs_mod (addS (curveS t.pos t.rest (takesS v).toNat)) 1 (subVs_add _) t.subs
      simp only
      omega
theorem joinVs_fold : ∀ (vs : List Int) (t : TakeS), (joinVs (vs.foldl takeS t).subs).length ≤ (joinVs t.subs).length + 2 * vs.length
  | [], t => by simp
  | v :: vs, t => by
    have h1 := joinVs_fold vs (takeS t v)
    have h2 := joinVs_step t v
    simp only [List.foldl_cons, List.length_cons]
    omega
/-- THE LAW. -/
theorem split_join {vs : List Int} {ps : List (Int × Int)} (h : vs.length ≤ 250) : checkS (joinVs (splitS vs ps)) (joinPs (splitS vs ps)) = 0 ∧ splitS (joinVs (splitS vs ps)) (joinPs (splitS vs ps)) = splitS vs ps := by
  have hlen : (joinVs (splitS vs ps)).length ≤ 500 := by
    unfold splitS
    by_cases hc : checkS vs ps = 0
    · rw [if_pos hc]
      have := joinVs_fold (vs.take vs.length) (startS ps)
      have e : (joinVs (startS ps).subs).length = 0 := rfl
      unfold stateS
      have hl : (vs.take vs.length).length = vs.length := by simp
      omega
    · rw [if_neg hc]; simp [joinVs]
  have hck : checkS (joinVs (splitS vs ps)) (joinPs (splitS vs ps)) = 0 := by
    rw [checkS_pts (by omega) (checkV_join _ 5), if_neg (by simpa using totalS_join _), join_far (split_ok vs ps)]
    rfl
  refine ⟨hck, ?_⟩
  obtain ⟨p, hp⟩ := join_back (splitS vs ps) (split_good vs ps) [] (0, 0) []
  generalize splitS vs ps = l at *
  unfold splitS
  rw [if_pos hck]
  unfold stateS startS
  rw [List.take_of_length_le (Nat.le_refl _)]
  rw [List.append_nil] at hp
  rw [hp]
  simp
end Go.Proofs.Ytjkpbkcbimojoaa
