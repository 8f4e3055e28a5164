/- Contracts of the reference's layer 4: differences, products, and what is near. -/
import Derived.Test.YtklnedcakgfbmaaProd
namespace Go.Proofs.Ytklnedcakgfbmaa
open Go.RowKit

set_option maxHeartbeats 400000 in
theorem r4cross_any (x y x' y' : Int) (w : World) (h1 : -1073741824 ≤ x) (h2 : x ≤ 1073741824) (h3 : -1073741824 ≤ y) (h4 : y ≤ 1073741824)
    (k1 : -1073741824 ≤ x') (k2 : x' ≤ 1073741824) (k3 : -1073741824 ≤ y') (k4 : y' ≤ 1073741824) :
    Calls Try.prog 15 #[.agg #[.int .i64 x, .int .i64 y], .agg #[.int .i64 x', .int .i64 y']] w fun e w' => e = .returned (.int .i64 (x * y' - y * x')) ∧ Below w.heap.size w w' := by
  obtain ⟨p1, p2⟩ := prod_bd h1 h2 k3 k4
  obtain ⟨q1, q2⟩ := prod_bd h3 h4 k1 k2
  go_enter Try.func15, Try.ntmps15
  go_wp2
  go_ret
  exact ⟨rfl, by (repeat (first | exact Below.refl _ _ | assumption | refine Below.drew ?_ | refine Below.setCell ?_ (by simp; try omega) _ | refine Below.alloc ?_ (by simp; try omega) _))⟩

set_option maxHeartbeats 400000 in
theorem r4dot_any (x y x' y' : Int) (w : World) (h1 : -1073741824 ≤ x) (h2 : x ≤ 1073741824) (h3 : -1073741824 ≤ y) (h4 : y ≤ 1073741824)
    (k1 : -1073741824 ≤ x') (k2 : x' ≤ 1073741824) (k3 : -1073741824 ≤ y') (k4 : y' ≤ 1073741824) :
    Calls Try.prog 16 #[.agg #[.int .i64 x, .int .i64 y], .agg #[.int .i64 x', .int .i64 y']] w fun e w' => e = .returned (.int .i64 (x * x' + y * y')) ∧ Below w.heap.size w w' := by
  obtain ⟨p1, p2⟩ := prod_bd h1 h2 k1 k2
  obtain ⟨q1, q2⟩ := prod_bd h3 h4 k3 k4
  go_enter Try.func16, Try.ntmps16
  go_wp2
  go_ret
  exact ⟨rfl, by (repeat (first | exact Below.refl _ _ | assumption | refine Below.drew ?_ | refine Below.setCell ?_ (by simp; try omega) _ | refine Below.alloc ?_ (by simp; try omega) _))⟩

set_option maxHeartbeats 400000 in
theorem r4add_any (x y x' y' : Int) (w : World) (h1 : -1073741824 ≤ x) (h2 : x ≤ 1073741824) (h3 : -1073741824 ≤ y) (h4 : y ≤ 1073741824)
    (k1 : -1073741824 ≤ x') (k2 : x' ≤ 1073741824) (k3 : -1073741824 ≤ y') (k4 : y' ≤ 1073741824) :
    Calls Try.prog 19 #[.agg #[.int .i64 x, .int .i64 y], .agg #[.int .i64 x', .int .i64 y']] w fun e w' => e = .returned (.agg #[.int .i64 (x + x'), .int .i64 (y + y')]) ∧ Below w.heap.size w w' := by
  go_enter Try.func19, Try.ntmps19
  go_wp2
  refine bodyPost_ret (v := .agg #[.int .i64 (x + x'), .int .i64 (y + y')]) (by simp [results, Try.results19, go_sem]) rfl ⟨rfl, by (repeat (first | exact Below.refl _ _ | assumption | refine Below.drew ?_ | refine Below.setCell ?_ (by simp; try omega) _ | refine Below.alloc ?_ (by simp; try omega) _))⟩

set_option maxHeartbeats 400000 in
theorem r4sub_any (x y x' y' : Int) (w : World) (h1 : -1073741824 ≤ x) (h2 : x ≤ 1073741824) (h3 : -1073741824 ≤ y) (h4 : y ≤ 1073741824)
    (k1 : -1073741824 ≤ x') (k2 : x' ≤ 1073741824) (k3 : -1073741824 ≤ y') (k4 : y' ≤ 1073741824) :
    Calls Try.prog 41 #[.agg #[.int .i64 x, .int .i64 y], .agg #[.int .i64 x', .int .i64 y']] w fun e w' => e = .returned (.agg #[.int .i64 (x - x'), .int .i64 (y - y')]) ∧ Below w.heap.size w w' := by
  go_enter Try.func41, Try.ntmps41
  go_wp2
  refine bodyPost_ret (v := .agg #[.int .i64 (x - x'), .int .i64 (y - y')]) (by simp [results, Try.results41, go_sem]) rfl ⟨rfl, by (repeat (first | exact Below.refl _ _ | assumption | refine Below.drew ?_ | refine Below.setCell ?_ (by simp; try omega) _ | refine Below.alloc ?_ (by simp; try omega) _))⟩

set_option maxHeartbeats 400000 in
theorem r4left_any (x y : Int) (w : World) (h3 : -1073741824 ≤ y) (h4 : y ≤ 1073741824) :
    Calls Try.prog 29 #[.agg #[.int .i64 x, .int .i64 y]] w fun e w' => e = .returned (.agg #[.int .i64 (-y), .int .i64 (x)]) ∧ Below w.heap.size w w' := by
  go_enter Try.func29, Try.ntmps29
  go_wp2
  refine bodyPost_ret (v := .agg #[.int .i64 (-y), .int .i64 (x)]) (by simp [results, Try.results29, go_sem]) rfl ⟨rfl, by (repeat (first | exact Below.refl _ _ | assumption | refine Below.drew ?_ | refine Below.setCell ?_ (by simp; try omega) _ | refine Below.alloc ?_ (by simp; try omega) _))⟩

set_option maxHeartbeats 400000 in
theorem r4neg_any (x y : Int) (w : World) (h1 : -1073741824 ≤ x) (h2 : x ≤ 1073741824) (h3 : -1073741824 ≤ y) (h4 : y ≤ 1073741824) :
    Calls Try.prog 30 #[.agg #[.int .i64 x, .int .i64 y]] w fun e w' => e = .returned (.agg #[.int .i64 (-x), .int .i64 (-y)]) ∧ Below w.heap.size w w' := by
  go_enter Try.func30, Try.ntmps30
  go_wp2
  refine bodyPost_ret (v := .agg #[.int .i64 (-x), .int .i64 (-y)]) (by simp [results, Try.results30, go_sem]) rfl ⟨rfl, by (repeat (first | exact Below.refl _ _ | assumption | refine Below.drew ?_ | refine Below.setCell ?_ (by simp; try omega) _ | refine Below.alloc ?_ (by simp; try omega) _))⟩

def nearP (x y : Int) : Bool := decide (-1073741824 ≤ x) && decide (x ≤ 1073741824) && decide (-1073741824 ≤ y) && decide (y ≤ 1073741824)
theorem nearP_true {x y : Int} (h : nearP x y = true) : -1073741824 ≤ x ∧ x ≤ 1073741824 ∧ -1073741824 ≤ y ∧ y ≤ 1073741824 := by
  simp only [nearP, Bool.and_eq_true, decide_eq_true_eq] at h
  omega

set_option maxHeartbeats 400000 in
theorem r4near_any (x y : Int) (w : World) :
    Calls Try.prog 31 #[.agg #[.int .i64 x, .int .i64 y]] w fun e w' => e = .returned (.bool (nearP x y)) ∧ Below w.heap.size w w' := by
  have HE : Hid (nearP x y = (decide (-1073741824 ≤ x) && decide (x ≤ 1073741824) && decide (-1073741824 ≤ y) && decide (y ≤ 1073741824))) := Lib.hid rfl
  by_cases h1 : -1073741824 ≤ x
  · by_cases h2 : x ≤ 1073741824
    · by_cases h3 : -1073741824 ≤ y
      · go_enter Try.func31, Try.ntmps31
        go_wp2
        go_ret
        exact ⟨ret_bool (by rw [HE.out]; simp [h1, h2, h3]), by (repeat (first | exact Below.refl _ _ | assumption | refine Below.drew ?_ | refine Below.setCell ?_ (by simp; try omega) _ | refine Below.alloc ?_ (by simp; try omega) _))⟩
      · go_enter Try.func31, Try.ntmps31
        go_wp2
        go_ret
        exact ⟨ret_bool (by rw [HE.out, decide_eq_false (p := -1073741824 ≤ y) (by omega)]; simp), by (repeat (first | exact Below.refl _ _ | assumption | refine Below.drew ?_ | refine Below.setCell ?_ (by simp; try omega) _ | refine Below.alloc ?_ (by simp; try omega) _))⟩
    · go_enter Try.func31, Try.ntmps31
      go_wp2
      go_ret
      exact ⟨ret_bool (by rw [HE.out, decide_eq_false (p := x ≤ 1073741824) (by omega)]; simp), by (repeat (first | exact Below.refl _ _ | assumption | refine Below.drew ?_ | refine Below.setCell ?_ (by simp; try omega) _ | refine Below.alloc ?_ (by simp; try omega) _))⟩
  · go_enter Try.func31, Try.ntmps31
    go_wp2
    go_ret
    exact ⟨ret_bool (by rw [HE.out, decide_eq_false (p := -1073741824 ≤ x) (by omega)]; simp), by (repeat (first | exact Below.refl _ _ | assumption | refine Below.drew ?_ | refine Below.setCell ?_ (by simp; try omega) _ | refine Below.alloc ?_ (by simp; try omega) _))⟩

end Go.Proofs.Ytklnedcakgfbmaa
