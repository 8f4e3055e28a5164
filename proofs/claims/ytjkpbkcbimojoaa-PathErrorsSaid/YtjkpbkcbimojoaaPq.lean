/- What a path's errors are, when it has a point less, a point more, a verb more. No program in sight. -/
import Derived.Test.YtjkpbkcbimojoaaPe
namespace Go.Proofs.Ytjkpbkcbimojoaa
open Go.RowKit

theorem err_pts {vs : List Int} {ps qs : List (Int × Int)} (h : checkS vs ps = 0) (hq : qs.length ≠ ps.length) : checkS vs qs = 71 := by
  obtain ⟨h1, h2, h3, _⟩ := check_ok h
  rw [checkS_pts (by omega) h2, if_pos (by omega)]
theorem err_more {vs : List Int} {ps : List (Int × Int)} (h : checkS vs ps = 0) : checkS vs (ps ++ [(0, 0)]) = 71 := err_pts h (by simp)
theorem err_line {vs : List Int} {ps : List (Int × Int)} (h : vs.length ≤ 500) : checkS (2 :: vs) ps = 70 := by
  refine checkS_verb (by simp; omega) ?_ (by omega)
  exact checkV_start (by decide) rfl (by decide)
theorem checkV_snoc : ∀ {b : Int} (vs : List Int), checkV b vs = 0 → ∃ b', ∀ l, checkV b (vs ++ l) = checkV b' l
  | b, [], _ => ⟨b, fun l => rfl⟩
  | b, v :: vs, h => by
    simp only [checkV] at h
    by_cases h1 : takesS v < 0
    · rw [if_pos h1] at h; omega
    rw [if_neg h1] at h
    by_cases h2 : b = 5 ∧ v ≠ 1
    · rw [if_pos h2] at h; omega
    rw [if_neg h2] at h
    obtain ⟨b', hb⟩ := checkV_snoc vs h
    refine ⟨b', fun l => ?_⟩
    simp only [List.cons_append, checkV]
    rw [if_neg h1, if_neg h2]
    exact hb l
theorem takesS_neg (v : Int) : takesS v < 0 ↔ v < 1 ∨ 5 < v := by
  unfold takesS
  repeat' split
  all_goals omega
def noneB (v : Int) : Bool := decide (v < 1) || decide (5 < v)
theorem err_bad {vs : List Int} {ps qs : List (Int × Int)} (h : checkS vs ps = 0) (hl : vs.length ≤ 500) (v : Int) : (checkS (vs ++ [v]) qs == 1) = noneB v := by
  obtain ⟨_, h2, _, _⟩ := check_ok h
  obtain ⟨b', hb⟩ := checkV_snoc vs h2
  have hv := hb [v]
  have h512 : ¬ 512 < (vs ++ [v]).length := by simp; omega
  simp only [checkV] at hv
  by_cases h1 : takesS v < 0
  · rw [if_pos h1] at hv
    rw [checkS_verb h512 hv (by omega)]
    have := (takesS_neg v).1 h1
    unfold noneB
    simp
    exact this
  · rw [if_neg h1] at hv
    have h3 : noneB v = false := by
      unfold noneB
      have : ¬ (v < 1 ∨ 5 < v) := fun h' => h1 ((takesS_neg v).2 h')
      simp
      omega
    rw [h3]
    by_cases h4 : b' = 5 ∧ v ≠ 1
    · rw [if_pos h4] at hv
      rw [checkS_verb h512 hv (by omega)]
      rfl
    · rw [if_neg h4] at hv
      rw [checkS_pts h512 hv]
      split
      · rfl
      · split <;> rfl
end Go.Proofs.Ytjkpbkcbimojoaa
