/- Contracts of package vector's sums and differences, for coordinates of at most 2^40. -/
import Derived.Test.YtljmhenhibhbfaaRows
import Derived.Test.YtljmhenhibhbfaaMem
import Derived.WalkKit
import Derived.WalkSpells
import Derived.WalkLawsBesides
import Derived.Lib.Hide
namespace Go.Proofs.Ytljmhenhibhbfaa
open Go.RowKit

set_option maxHeartbeats 400000 in
theorem neg_any (x y : Int) (w : World) (h1 : -1099511627776 ≤ x) (h2 : x ≤ 1099511627776) (h3 : -1099511627776 ≤ y) (h4 : y ≤ 1099511627776) :
    Calls Try.prog 43 #[.agg #[.int .i64 x, .int .i64 y]] w fun e w' => e = .returned (.agg #[.int .i64 (-x), .int .i64 (-y)]) ∧ Below w.heap.size w w' := by
  go_enter Try.func43, Try.ntmps43
  go_wp2
  exact bodyPost_ret (v := .agg #[.int .i64 (-x), .int .i64 (-y)]) (by simp [results, Try.results43, go_sem]) rfl ⟨rfl, by (repeat (first | exact Below.refl _ _ | assumption | refine Below.drew ?_ | refine Below.setCell ?_ (by simp; try omega) _ | refine Below.alloc ?_ (by simp; try omega) _))⟩

set_option maxHeartbeats 400000 in
theorem add_any (x y x' y' : Int) (w : World) (h1 : -1099511627776 ≤ x) (h2 : x ≤ 1099511627776) (h3 : -1099511627776 ≤ y) (h4 : y ≤ 1099511627776)
    (k1 : -1099511627776 ≤ x') (k2 : x' ≤ 1099511627776) (k3 : -1099511627776 ≤ y') (k4 : y' ≤ 1099511627776) :
    Calls Try.prog 42 #[.agg #[.int .i64 x, .int .i64 y], .agg #[.int .i64 x', .int .i64 y']] w fun e w' => e = .returned (.agg #[.int .i64 (x + x'), .int .i64 (y + y')]) ∧ Below w.heap.size w w' := by
  go_enter Try.func42, Try.ntmps42
  go_wp2
  exact bodyPost_ret (v := .agg #[.int .i64 (x + x'), .int .i64 (y + y')]) (by simp [results, Try.results42, go_sem]) rfl ⟨rfl, by (repeat (first | exact Below.refl _ _ | assumption | refine Below.drew ?_ | refine Below.setCell ?_ (by simp; try omega) _ | refine Below.alloc ?_ (by simp; try omega) _))⟩

set_option maxHeartbeats 400000 in
theorem sub_any (x y x' y' : Int) (w : World) (h1 : -1099511627776 ≤ x) (h2 : x ≤ 1099511627776) (h3 : -1099511627776 ≤ y) (h4 : y ≤ 1099511627776)
    (k1 : -1099511627776 ≤ x') (k2 : x' ≤ 1099511627776) (k3 : -1099511627776 ≤ y') (k4 : y' ≤ 1099511627776) :
    Calls Try.prog 38 #[.agg #[.int .i64 x, .int .i64 y], .agg #[.int .i64 x', .int .i64 y']] w fun e w' => e = .returned (.agg #[.int .i64 (x - x'), .int .i64 (y - y')]) ∧ Below w.heap.size w w' := by
  go_enter Try.func38, Try.ntmps38
  go_wp2_with fail
  refine Reg.wp_region_soft 3 (by first | exact hb2 | exact Below.refl _ _) (by kernel_rfl) (by kernel_rfl) (fun u => ?_)
  simp only [List.take, List.drop]
  repeat (go_big_quiet_step ((first | (go_at_call 43; exact Reg.calls_aft (neg_any _ _ _ k1 k2 k3 k4)))))
  refine wpQuiet_nil ?_
  intro xs hxs
  have hbx := Reg.class_below hxs
  clear hxs
  go_wp2_with fail
  refine (add_any _ _ _ _ _ h1 h2 h3 h4 (by omega) (by omega) (by omega) (by omega)).mono ?_
  rintro e w2 ⟨rfl, hb2⟩
  go_wp2_with fail
  refine ⟨rfl, hb2, fun z hz => ?_⟩
  have hb3 := hbx.trans ((hb2.trans (hz.mono hb2.size)).mono hbx.size)
  clear hz hb2 hbx
  obtain ⟨hc, hf⟩ := Reg.bcell hb3
  have hsz := hb3.size
  try simp at hsz
  go_wp2
  have hbw : Below w.heap.size w z := Below.trans (by (repeat (first | exact Below.refl _ _ | assumption | refine Below.drew ?_ | refine Below.setCell ?_ (by simp; try omega) _ | refine Below.alloc ?_ (by simp; try omega) _))) (hb3.mono (by simp; omega))
  refine bodyPost_ret (v := .agg #[.int .i64 (x + -x'), .int .i64 (y + -y')]) (by simp [results, Try.results38, go_sem, hc]) rfl ⟨by rw [Int.sub_eq_add_neg, Int.sub_eq_add_neg], by (repeat (first | exact Below.refl _ _ | assumption | refine Below.drew ?_ | refine Below.setCell ?_ (by simp; try omega) _ | refine Below.alloc ?_ (by simp; try omega) _))⟩

end Go.Proofs.Ytljmhenhibhbfaa
