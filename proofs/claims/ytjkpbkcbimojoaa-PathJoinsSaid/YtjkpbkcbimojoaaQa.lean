/- A path whose points are shifted splits into shifted subpaths. No program in sight. -/
import Derived.Test.YtjkpbkcbimojoaaPm
namespace Go.Proofs.Ytjkpbkcbimojoaa
open Go.RowKit

def shP (b p : Int × Int) : Int × Int := (p.1 + b.1, p.2 + b.2)
def shG (b : Int × Int) (g : SegS) : SegS := ⟨shP b g.p0, shP b g.p1, if 3 ≤ g.n then shP b g.p2 else g.p2, if 4 ≤ g.n then shP b g.p3 else g.p3, g.n⟩
def shS (b : Int × Int) (s : SubS) : SubS := ⟨shP b s.start, s.segs.map (shG b), s.closed⟩

theorem shP_inj {b p q : Int × Int} : shP b p = shP b q ↔ p = q := by
  obtain ⟨p1, p2⟩ := p
  obtain ⟨q1, q2⟩ := q
  simp only [shP, Prod.mk.injEq]
  omega
theorem ptAt_sh {b : Int × Int} {ps : List (Int × Int)} {k : Nat} (h : k < ps.length) : ptAt (ps.map (shP b)) k = shP b (ptAt ps k) := by
  unfold ptAt
  rw [List.getD_eq_getElem?_getD, List.getD_eq_getElem?_getD, List.getElem?_map, List.getElem?_eq_getElem h]
  rfl
theorem modLast_sh {b : Int × Int} {f g : SubS → SubS} (h : ∀ s, g (shS b s) = shS b (f s)) : ∀ l : List SubS, modLast g (l.map (shS b)) = (modLast f l).map (shS b)
  | [] => rfl
  | [s] => by simp [modLast, h]
  | s :: t :: l => by
    have ih := modLast_sh h (t :: l)
    simp only [List.map_cons, modLast] at ih ⊢
    rw [ih]
theorem modLast_nil (f : SubS → SubS) : modLast f [] = [] := rfl

def RelT (b : Int × Int) (t u : TakeS) : Prop := u.subs = t.subs.map (shS b) ∧ u.rest = t.rest.map (shP b) ∧ (t.subs = [] ∨ u.pos = shP b t.pos)
theorem close_sh (b a : Int × Int) (s : SubS) : closeS (shP b a) (shS b s) = shS b (closeS a s) := by
  unfold closeS shS
  simp only [shP_inj]
  by_cases h : a = s.start
  · simp [h]
  · simp [h, lineS, shG]
theorem add_sh (b : Int × Int) {g g' : SegS} (h : g' = shG b g) (s : SubS) : addS g' (shS b s) = shS b (addS g s) := by
  subst h; simp [addS, shS]
theorem rel_curve {b : Int × Int} {t u : TakeS} (h : RelT b t u) (k : Nat) (hk : k = 1 ∨ k = 2 ∨ k = 3) (hl : k ≤ t.rest.length) :
    RelT b ⟨modLast (addS (curveS t.pos t.rest k)) t.subs, ptAt t.rest (k - 1), t.rest.drop k⟩ ⟨modLast (addS (curveS u.pos u.rest k)) u.subs, ptAt u.rest (k - 1), u.rest.drop k⟩ := by
  obtain ⟨ts, tp, tr⟩ := t
  obtain ⟨us, up, ur⟩ := u
  obtain ⟨h1, h2, h3⟩ := h
  simp only at h1 h2 h3 hl
  subst h1 h2
  refine ⟨?_, by simp [List.map_drop], .inr (ptAt_sh (by omega))⟩
  rcases h3 with rfl | rfl
  · rfl
  · refine modLast_sh (fun s => add_sh b ?_ s) ts
    rcases hk with rfl | rfl | rfl
    · simp [curveS, shG, ptAt_sh (show 0 < tr.length by omega)]
    · simp [curveS, shG, ptAt_sh (show 0 < tr.length by omega), ptAt_sh (show 1 < tr.length by omega)]
    · simp [curveS, shG, ptAt_sh (show 0 < tr.length by omega), ptAt_sh (show 1 < tr.length by omega), ptAt_sh (show 2 < tr.length by omega)]
theorem rel_step {b : Int × Int} {t u : TakeS} {v : Int} (h : RelT b t u) (hv : 0 ≤ takesS v) (hl : (takesS v).toNat ≤ t.rest.length) : RelT b (takeS t v) (takeS u v) := by
  rcases takesS_ok hv with rfl | rfl | rfl | rfl | rfl
  · have hl : 1 ≤ t.rest.length := hl
    rw [takeS_move, takeS_move]
    obtain ⟨h1, h2, _⟩ := h
    have hp : ptAt u.rest 0 = shP b (ptAt t.rest 0) := by rw [h2]; exact ptAt_sh (by omega)
    exact ⟨by simp [h1, hp, shS], by simp [h2], .inr hp⟩
  · rw [takeS_line, takeS_line]; exact rel_curve h 1 (by omega) hl
  · rw [takeS_quad, takeS_quad]; exact rel_curve h 2 (by omega) hl
  · rw [takeS_cubic, takeS_cubic]; exact rel_curve h 3 (by omega) hl
  · rw [takeS_close, takeS_close]
    obtain ⟨h1, h2, h3⟩ := h
    refine ⟨?_, h2, ?_⟩
    · simp only [h1]
      rcases h3 with h3 | h3
      · rw [h3]; rfl
      · rw [h3]; exact modLast_sh (close_sh b t.pos) t.subs
    · rcases h3 with h3 | h3
      · left; simp only [h3]; rfl
      · exact .inr h3
theorem rel_fold {b : Int × Int} : ∀ (vs : List Int) (t u : TakeS), RelT b t u → (∀ v ∈ vs, 0 ≤ takesS v) → totalS vs ≤ t.rest.length → RelT b (vs.foldl takeS t) (vs.foldl takeS u)
  | [], t, u, h, _, _ => h
  | v :: vs, t, u, h, hv, hl => by
    have h0 := hv v List.mem_cons_self
    have h1 := totalS_nonneg (fun x hx => hv x (List.mem_cons_of_mem v hx))
    rw [totalS_cons] at hl
    refine rel_fold vs _ _ (rel_step h h0 (by omega)) (fun x hx => hv x (List.mem_cons_of_mem _ hx)) ?_
    rw [takeS_rest t v h0, List.length_drop]
    omega
/-- THE LAW. -/
theorem split_shift {vs : List Int} {ps : List (Int × Int)} (b : Int × Int) (h0 : checkS vs ps = 0) :
    checkS vs (ps.map (shP b)) = (if (ps.map (shP b)).any farP then 72 else 0) ∧ (checkS vs (ps.map (shP b)) = 0 → splitS vs (ps.map (shP b)) = (splitS vs ps).map (shS b)) := by
  obtain ⟨h1, h2, h3, _⟩ := check_ok h0
  refine ⟨?_, fun hc => ?_⟩
  · rw [checkS_pts (by omega) h2, if_neg (by simpa using h3)]
  · have hr := rel_fold (b := b) (vs.take vs.length) (startS ps) (startS (ps.map (shP b))) ⟨rfl, rfl, .inl rfl⟩ (by rw [List.take_of_length_le (Nat.le_refl _)]; exact checkV_all h2) (by rw [List.take_of_length_le (Nat.le_refl _), h3]; exact Int.le_refl _)
    unfold splitS
    rw [if_pos hc, if_pos h0]
    exact hr.1
end Go.Proofs.Ytjkpbkcbimojoaa
