/- Contracts of the reference's layer 4: differences, products, and what is near. -/
import Derived.Test.YtljmhenhibhbfaaProd
namespace Go.Proofs.Ytljmhenhibhbfaa
open Go.RowKit




set_option maxHeartbeats 400000 in
theorem r4sub_any (x y x' y' : Int) (w : World) (h1 : -1073741824 ≤ x) (h2 : x ≤ 1073741824) (h3 : -1073741824 ≤ y) (h4 : y ≤ 1073741824)
    (k1 : -1073741824 ≤ x') (k2 : x' ≤ 1073741824) (k3 : -1073741824 ≤ y') (k4 : y' ≤ 1073741824) :
    Calls Try.prog 19 #[.agg #[.int .i64 x, .int .i64 y], .agg #[.int .i64 x', .int .i64 y']] w fun e w' => e = .returned (.agg #[.int .i64 (x - x'), .int .i64 (y - y')]) ∧ Below w.heap.size w w' := by
  go_enter Try.func19, Try.ntmps19
  go_wp2
  refine bodyPost_ret (v := .agg #[.int .i64 (x - x'), .int .i64 (y - y')]) (by simp [results, Try.results19, go_sem]) rfl ⟨rfl, by (repeat (first | exact Below.refl _ _ | assumption | refine Below.drew ?_ | refine Below.setCell ?_ (by simp; try omega) _ | refine Below.alloc ?_ (by simp; try omega) _))⟩



def nearP (x y : Int) : Bool := decide (-1073741824 ≤ x) && decide (x ≤ 1073741824) && decide (-1073741824 ≤ y) && decide (y ≤ 1073741824)
theorem nearP_true {x y : Int} (h : nearP x y = true) : -1073741824 ≤ x ∧ x ≤ 1073741824 ∧ -1073741824 ≤ y ∧ y ≤ 1073741824 := by
  simp only [nearP, Bool.and_eq_true, decide_eq_true_eq] at h
  omega

set_option maxHeartbeats 400000 in
theorem r4near_any (x y : Int) (w : World) :
    Calls Try.prog 15 #[.agg #[.int .i64 x, .int .i64 y]] w fun e w' => e = .returned (.bool (nearP x y)) ∧ Below w.heap.size w w' := by
  have HE : Hid (nearP x y = (decide (-1073741824 ≤ x) && decide (x ≤ 1073741824) && decide (-1073741824 ≤ y) && decide (y ≤ 1073741824))) := Lib.hid rfl
  by_cases h1 : -1073741824 ≤ x
  · by_cases h2 : x ≤ 1073741824
    · by_cases h3 : -1073741824 ≤ y
      · go_enter Try.func15, Try.ntmps15
        go_wp2
        go_ret
        exact ⟨ret_bool (by rw [HE.out]; simp [h1, h2, h3]), by (repeat (first | exact Below.refl _ _ | assumption | refine Below.drew ?_ | refine Below.setCell ?_ (by simp; try omega) _ | refine Below.alloc ?_ (by simp; try omega) _))⟩
      · go_enter Try.func15, Try.ntmps15
        go_wp2
        go_ret
        exact ⟨ret_bool (by rw [HE.out, decide_eq_false (p := -1073741824 ≤ y) (by omega)]; simp), by (repeat (first | exact Below.refl _ _ | assumption | refine Below.drew ?_ | refine Below.setCell ?_ (by simp; try omega) _ | refine Below.alloc ?_ (by simp; try omega) _))⟩
    · go_enter Try.func15, Try.ntmps15
      go_wp2
      go_ret
      exact ⟨ret_bool (by rw [HE.out, decide_eq_false (p := x ≤ 1073741824) (by omega)]; simp), by (repeat (first | exact Below.refl _ _ | assumption | refine Below.drew ?_ | refine Below.setCell ?_ (by simp; try omega) _ | refine Below.alloc ?_ (by simp; try omega) _))⟩
  · go_enter Try.func15, Try.ntmps15
    go_wp2
    go_ret
    exact ⟨ret_bool (by rw [HE.out, decide_eq_false (p := -1073741824 ≤ x) (by omega)]; simp), by (repeat (first | exact Below.refl _ _ | assumption | refine Below.drew ?_ | refine Below.setCell ?_ (by simp; try omega) _ | refine Below.alloc ?_ (by simp; try omega) _))⟩

end Go.Proofs.Ytljmhenhibhbfaa
