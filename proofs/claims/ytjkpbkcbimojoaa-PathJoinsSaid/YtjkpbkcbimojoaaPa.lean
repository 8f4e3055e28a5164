/- Contracts of the small functions of layer 7 (path): Takes, near, far and their kin, for every argument. -/
import Derived.Test.YtjkpbkcbimojoaaRows
import Derived.Test.YtjkpbkcbimojoaaMem
import Derived.WalkKit
import Derived.WalkSpells
import Derived.WalkLawsBesides
import Derived.Deep.QuietTactic
import Derived.BigQuiet
import Derived.Lib.Hide
namespace Go.Proofs.Ytjkpbkcbimojoaa
open Go.RowKit

def takesS (v : Int) : Int := if v = 1 ∨ v = 2 then 1 else if v = 3 then 2 else if v = 4 then 3 else if v = 5 then 0 else -1

theorem takes_ret {e : Ending} {a b : Int} (h : e = .returned (.int .i64 a)) (hab : a = b) : e = .returned (.int .i64 b) := by rw [h, hab]

set_option maxHeartbeats 400000 in
theorem takes_any (v : Int) (w : World) :
    Calls Try.prog 14 #[.int .i64 v] w fun e w' => e = .returned (.int .i64 (takesS v)) ∧ Below w.heap.size w w' := by
  by_cases h0 : v < 1
  · go_enter Try.func14, Try.ntmps14
    go_wp2
    go_ret
    exact ⟨takes_ret rfl (by unfold takesS; repeat (first | rw [if_neg (by omega)] | rfl)), (Below.refl _ _).alloc (Nat.le_refl _) _⟩
  by_cases h1 : 5 < v
  · go_enter Try.func14, Try.ntmps14
    go_wp2
    go_ret
    exact ⟨takes_ret rfl (by unfold takesS; repeat (first | rw [if_neg (by omega)] | rfl)), (Below.refl _ _).alloc (Nat.le_refl _) _⟩
  have h : v = 1 ∨ v = 2 ∨ v = 3 ∨ v = 4 ∨ v = 5 := by omega
  rcases h with rfl | rfl | rfl | rfl | rfl
  all_goals
    clear h0 h1
    go_enter Try.func14, Try.ntmps14
    go_wp2
    go_ret
    exact ⟨rfl, (Below.refl _ _).alloc (Nat.le_refl _) _⟩

set_option maxHeartbeats 400000 in
theorem rtakes_any (v : Int) (w : World) :
    Calls Try.prog 15 #[.int .i64 v] w fun e w' => e = .returned (.int .i64 (takesS v)) ∧ w = w' := by
  have h : v = 1 ∨ v = 2 ∨ v = 3 ∨ v = 4 ∨ v = 5 ∨ ((v == 1) = false ∧ (v == 2) = false ∧ (v == 3) = false ∧ (v == 4) = false ∧ (v == 5) = false) := by
    simp only [beq_eq_false_iff_ne, ne_eq]; omega
  rcases h with rfl | rfl | rfl | rfl | rfl | ⟨h1, h2, h3, h4, h5⟩
  any_goals
    go_enter Try.func15, Try.ntmps15
    go_wp2
    go_ret
  any_goals exact ⟨rfl, rfl⟩
  simp only [beq_eq_false_iff_ne, ne_eq] at h1 h2 h3 h4 h5
  exact ⟨takes_ret rfl (by unfold takesS; repeat (first | rw [if_neg (by omega)] | rfl)), rfl⟩

def nearC (n : Int) : Bool := decide (-268435456 ≤ n) && decide (n ≤ 268435456)

set_option maxHeartbeats 400000 in
theorem near_any (n : Int) (w : World) :
    Calls Try.prog 34 #[.int .i64 n] w fun e w' => e = .returned (.bool (nearC n)) ∧ w = w' := by
  go_enter Try.func34, Try.ntmps34
  go_wp2
  all_goals go_ret
  · exact ⟨ret_bool (by simp only [nearC]; rw [show decide (-268435456 ≤ n) = true from by simpa using ‹-268435456 ≤ n›]; rfl), rfl⟩
  · exact ⟨ret_bool (by simp only [nearC]; rw [show decide (-268435456 ≤ n) = false from by simp; omega]; rfl), rfl⟩

end Go.Proofs.Ytjkpbkcbimojoaa
