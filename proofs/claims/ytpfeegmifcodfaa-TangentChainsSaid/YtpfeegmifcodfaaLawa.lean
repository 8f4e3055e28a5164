/- Contracts of the laws' own tests of layer 11: half, near, good, bounded, its. -/
import Derived.Test.YtpfeegmifcodfaaTd
namespace Go.Proofs.Ytpfeegmifcodfaa
open Go.RowKit

def nearB (n : Int) : Bool := decide (-268435456 ≤ n) && decide (n ≤ 268435456)
def halfB (x y : Int) : Bool := decide (-536870912 ≤ x) && decide (x ≤ 536870912) && decide (-536870912 ≤ y) && decide (y ≤ 536870912)
theorem halfB_true {x y : Int} (h : halfB x y = true) : HalfP (x, y) := by
  simp [halfB] at h; unfold HalfP; simp only; omega
theorem halfB_iff (p : Int × Int) : halfB p.1 p.2 = true ↔ HalfP p := by
  simp [halfB, HalfP]; omega

set_option maxHeartbeats 400000 in
theorem lnear_any (n : Int) (w : World) :
    Calls Try.prog 28 #[.int .i64 n] w fun e w' => e = .returned (.bool (nearB n)) ∧ w = w' := by
  go_enter Try.func28, Try.ntmps28
  go_wp2
  all_goals
    go_ret
    exact ⟨ret_bool (by unfold nearB; rw [Bool.eq_iff_iff]; simp; try omega), rfl⟩

set_option maxHeartbeats 400000 in
theorem lhalf_any (x y : Int) (w : World) :
    Calls Try.prog 17 #[.agg #[.int .i64 x, .int .i64 y]] w fun e w' => e = .returned (.bool (halfB x y)) ∧ Below w.heap.size w w' := by
  go_enter Try.func17, Try.ntmps17
  go_wp2
  all_goals
    go_ret
    exact ⟨ret_bool (by unfold halfB; rw [Bool.eq_iff_iff]; simp; try omega), by (repeat (first | exact Below.refl _ _ | assumption | refine Below.drew ?_ | refine Below.setCell ?_ (by simp; try omega) _ | refine Below.alloc ?_ (by simp; try omega) _))⟩

end Go.Proofs.Ytpfeegmifcodfaa
