/- Contract of the reference's Near. -/
import Derived.Test.YtjkpbkcbimojoaaQd
namespace Go.Proofs.Ytjkpbkcbimojoaa
open Go.RowKit

def nearQ (x y : Int) : Bool := decide (-1073741824 ≤ x) && decide (x ≤ 1073741824) && decide (-1073741824 ≤ y) && decide (y ≤ 1073741824)
theorem retq_bool {a b : Bool} (h : b = a) : Ending.returned (.bool a) = .returned (.bool b) := by rw [h]
set_option maxHeartbeats 1000000 in
theorem rnear_any (x y : Int) (w : World) :
    Calls Try.prog 22 #[.agg #[.int .i64 x, .int .i64 y]] w fun e w' => e = .returned (.bool (nearQ x y)) ∧ Below w.heap.size w w' := by
  have HE : Hid (nearQ x y = (decide (-1073741824 ≤ x) && decide (x ≤ 1073741824) && decide (-1073741824 ≤ y) && decide (y ≤ 1073741824))) := Lib.hid rfl
  by_cases h1 : -1073741824 ≤ x
  · by_cases h2 : x ≤ 1073741824
    · by_cases h3 : -1073741824 ≤ y
      · go_enter Try.func22, Try.ntmps22
        go_wp2
        go_ret
        exact ⟨retq_bool (by rw [HE.out]; simp [h1, h2, h3]), by (repeat (first | exact Below.refl _ _ | assumption | refine Below.drew ?_ | refine Below.setCell ?_ (by simp; try omega) _ | refine Below.alloc ?_ (by simp; try omega) _))⟩
      · go_enter Try.func22, Try.ntmps22
        go_wp2
        go_ret
        exact ⟨retq_bool (by rw [HE.out, decide_eq_false (p := -1073741824 ≤ y) (by omega)]; simp), by (repeat (first | exact Below.refl _ _ | assumption | refine Below.drew ?_ | refine Below.setCell ?_ (by simp; try omega) _ | refine Below.alloc ?_ (by simp; try omega) _))⟩
    · go_enter Try.func22, Try.ntmps22
      go_wp2
      go_ret
      exact ⟨retq_bool (by rw [HE.out, decide_eq_false (p := x ≤ 1073741824) (by omega)]; simp), by (repeat (first | exact Below.refl _ _ | assumption | refine Below.drew ?_ | refine Below.setCell ?_ (by simp; try omega) _ | refine Below.alloc ?_ (by simp; try omega) _))⟩
  · go_enter Try.func22, Try.ntmps22
    go_wp2
    go_ret
    exact ⟨retq_bool (by rw [HE.out, decide_eq_false (p := -1073741824 ≤ x) (by omega)]; simp), by (repeat (first | exact Below.refl _ _ | assumption | refine Below.drew ?_ | refine Below.setCell ?_ (by simp; try omega) _ | refine Below.alloc ?_ (by simp; try omega) _))⟩
end Go.Proofs.Ytjkpbkcbimojoaa
