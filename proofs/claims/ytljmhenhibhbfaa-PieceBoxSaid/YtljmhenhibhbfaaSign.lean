/- Contracts of package sign: on which side a point lies, and how sharp two vectors meet. -/
import Derived.Test.YtljmhenhibhbfaaWide
namespace Go.Proofs.Ytljmhenhibhbfaa
open Go.RowKit

/-- The exact cross of differences. -/
def crossD (ax ay bx py qx qy : Int) : Int := (bx - ax) * (qy - ay) - (py - ay) * (qx - ax)
def sideS (ax ay bx py qx qy : Int) : Int := sgn (crossD ax ay bx py qx qy)
def orderedB (a p b : Int) : Bool := decide (min a b ≤ p) && decide (p ≤ max a b)
def betweenB (ax ay bx py qx qy : Int) : Bool := orderedB ax qx bx && orderedB ay qy py && (sideS ax ay bx py qx qy == 0)

theorem sgn_cases (x : Int) : (x < 0 ∧ sgn x = -1) ∨ (x = 0 ∧ sgn x = 0) ∨ (0 < x ∧ sgn x = 1) := by
  unfold sgn cmpS; split <;> (try split) <;> omega

set_option maxHeartbeats 400000 in
theorem scross_any (x y x' y' : Int) (w : World) (h1 : -2147483648 ≤ x) (h2 : x ≤ 2147483648) (h3 : -2147483648 ≤ y) (h4 : y ≤ 2147483648)
    (k1 : -2147483648 ≤ x') (k2 : x' ≤ 2147483648) (k3 : -2147483648 ≤ y') (k4 : y' ≤ 2147483648) :
    Calls Try.prog 37 #[.agg #[.int .i64 x, .int .i64 y], .agg #[.int .i64 x', .int .i64 y']] w fun e w' => e = .returned (.agg #[.int .i64 (hiW (x * y' - y * x')), .int .u64 (loW (x * y' - y * x'))]) ∧ Below w.heap.size w w' := by
  go_enter Try.func37, Try.ntmps37
  go_wp2_with fail
  refine Reg.wp_region_soft 10 (by first | exact hb2 | exact Below.refl _ _) (by kernel_rfl) (by kernel_rfl) (fun u => ?_)
  simp only [List.take, List.drop]
  repeat (go_big_quiet_step ((first | (go_at_call 41; exact Reg.calls_aft (wmul_any _ _ _ (by omega) (by omega) (by omega) (by omega))))))
  refine wpQuiet_nil ?_
  intro xs hxs
  have hbx := Reg.class_below hxs
  clear hxs
  go_wp2_with fail
  refine (wsub_any (x * y') (y * x') _ (wr_mul (by omega) (by omega) (by omega) (by omega)) (wr_mul (by omega) (by omega) (by omega) (by omega))).mono ?_
  rintro e w2 ⟨rfl, hb2⟩
  go_wp2_with fail
  refine ⟨rfl, hb2, fun z hz => ?_⟩
  have hb3 := hbx.trans ((hb2.trans (hz.mono hb2.size)).mono hbx.size)
  clear hz hb2 hbx
  obtain ⟨hc, hf⟩ := Reg.bcell hb3
  have hsz := hb3.size
  try simp at hsz
  go_wp2
  have hbw : Below w.heap.size w z := Below.trans (by (repeat (first | exact Below.refl _ _ | assumption | refine Below.drew ?_ | refine Below.setCell ?_ (by simp; try omega) _ | refine Below.alloc ?_ (by simp; try omega) _))) (hb3.mono (by simp; omega))
  refine bodyPost_ret (v := .agg #[.int .i64 (hiW (x * y' - y * x')), .int .u64 (loW (x * y' - y * x'))]) (by simp [results, Try.results37, go_sem, hc]) rfl ⟨rfl, by (repeat (first | exact Below.refl _ _ | assumption | refine Below.drew ?_ | refine Below.setCell ?_ (by simp; try omega) _ | refine Below.alloc ?_ (by simp; try omega) _))⟩

set_option maxHeartbeats 400000 in
theorem side_any (ax ay bx py qx qy : Int) (w : World) (h1 : -1073741824 ≤ ax) (h2 : ax ≤ 1073741824) (h3 : -1073741824 ≤ ay) (h4 : ay ≤ 1073741824)
    (k1 : -1073741824 ≤ bx) (k2 : bx ≤ 1073741824) (k3 : -1073741824 ≤ py) (k4 : py ≤ 1073741824) (g1 : -1073741824 ≤ qx) (g2 : qx ≤ 1073741824) (g3 : -1073741824 ≤ qy) (g4 : qy ≤ 1073741824) :
    Calls Try.prog 31 #[.agg #[.int .i64 ax, .int .i64 ay], .agg #[.int .i64 bx, .int .i64 py], .agg #[.int .i64 qx, .int .i64 qy]] w fun e w' => e = .returned (.int .i64 (sideS ax ay bx py qx qy)) ∧ Below w.heap.size w w' := by
  go_enter Try.func31, Try.ntmps31
  go_wp2_with fail
  refine Reg.wp_region_soft 7 (by first | exact hb2 | exact Below.refl _ _) (by kernel_rfl) (by kernel_rfl) (fun u => ?_)
  simp only [List.take, List.drop]
  repeat (go_big_quiet_step ((first | (go_at_call 38; exact Reg.calls_aft (sub_any _ _ _ _ _ (by omega) (by omega) (by omega) (by omega) (by omega) (by omega) (by omega) (by omega))) | (go_at_call 37; exact Reg.calls_aft (scross_any _ _ _ _ _ (by omega) (by omega) (by omega) (by omega) (by omega) (by omega) (by omega) (by omega))))))
  refine wpQuiet_nil ?_
  intro xs hxs
  have hbx := Reg.class_below hxs
  clear hxs
  go_wp2_with fail
  refine (wsign_any _ _).mono ?_
  rintro e w2 ⟨rfl, hb2⟩
  go_wp2_with fail
  refine ⟨rfl, hb2, fun z hz => ?_⟩
  have hb3 := hbx.trans ((hb2.trans (hz.mono hb2.size)).mono hbx.size)
  clear hz hb2 hbx
  obtain ⟨hc, hf⟩ := Reg.bcell hb3
  have hsz := hb3.size
  try simp at hsz
  go_wp2
  have hbw : Below w.heap.size w z := Below.trans (by (repeat (first | exact Below.refl _ _ | assumption | refine Below.drew ?_ | refine Below.setCell ?_ (by simp; try omega) _ | refine Below.alloc ?_ (by simp; try omega) _))) (hb3.mono (by simp; omega))
  go_ret
  exact ⟨rfl, hbw⟩

end Go.Proofs.Ytljmhenhibhbfaa
