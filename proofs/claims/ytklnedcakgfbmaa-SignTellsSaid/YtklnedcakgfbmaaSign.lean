/- Contracts of package sign: on which side a point lies, and how sharp two vectors meet. -/
import Derived.Test.YtklnedcakgfbmaaWide
namespace Go.Proofs.Ytklnedcakgfbmaa
open Go.RowKit

/-- The exact cross of differences. -/
def crossD (ax ay bx py qx qy : Int) : Int := (bx - ax) * (qy - ay) - (py - ay) * (qx - ax)
def sideS (ax ay bx py qx qy : Int) : Int := sgn (crossD ax ay bx py qx qy)
def orderedB (a p b : Int) : Bool := decide (min a b ≤ p) && decide (p ≤ max a b)
def betweenB (ax ay bx py qx qy : Int) : Bool := orderedB ax qx bx && orderedB ay qy py && (sideS ax ay bx py qx qy == 0)

theorem sgn_cases (x : Int) : (x < 0 ∧ sgn x = -1) ∨ (x = 0 ∧ sgn x = 0) ∨ (0 < x ∧ sgn x = 1) := by
  unfold sgn cmpS; split <;> (try split) <;> omega

set_option maxHeartbeats 400000 in
theorem scross_any (x y x' y' : Int) (w : World) (h1 : -2147483648 ≤ x) (h2 : x ≤ 2147483648) (h3 : -2147483648 ≤ y) (h4 : y ≤ 2147483648)
    (k1 : -2147483648 ≤ x') (k2 : x' ≤ 2147483648) (k3 : -2147483648 ≤ y') (k4 : y' ≤ 2147483648) :
    Calls Try.prog 33 #[.agg #[.int .i64 x, .int .i64 y], .agg #[.int .i64 x', .int .i64 y']] w fun e w' => e = .returned (.agg #[.int .i64 (hiW (x * y' - y * x')), .int .u64 (loW (x * y' - y * x'))]) ∧ Below w.heap.size w w' := by
  go_enter Try.func33, Try.ntmps33
  go_wp2_with fail
  refine Reg.wp_region_soft 10 (by first | exact hb2 | exact Below.refl _ _) (by kernel_rfl) (by kernel_rfl) (fun u => ?_)
  simp only [List.take, List.drop]
  repeat (go_big_quiet_step ((first | (go_at_call 39; exact Reg.calls_aft (wmul_any _ _ _ (by omega) (by omega) (by omega) (by omega))))))
  refine wpQuiet_nil ?_
  intro xs hxs
  have hbx := Reg.class_below hxs
  clear hxs
  go_wp2_with fail
  refine (wsub_any (x * y') (y * x') _ (wr_mul (by omega) (by omega) (by omega) (by omega)) (wr_mul (by omega) (by omega) (by omega) (by omega))).mono ?_
  rintro e w2 ⟨rfl, hb2⟩
  go_wp2_with fail
  refine ⟨rfl, hb2, fun z hz => ?_⟩
  have hb3 := hbx.trans ((hb2.trans (hz.mono hb2.size)).mono hbx.size)
  clear hz hb2 hbx
  obtain ⟨hc, hf⟩ := Reg.bcell hb3
  have hsz := hb3.size
  simp at hsz
  go_wp2
  have hbw : Below w.heap.size w z := Below.trans (by (repeat (first | exact Below.refl _ _ | assumption | refine Below.drew ?_ | refine Below.setCell ?_ (by simp; try omega) _ | refine Below.alloc ?_ (by simp; try omega) _))) (hb3.mono (by simp; omega))
  refine bodyPost_ret (v := .agg #[.int .i64 (hiW (x * y' - y * x')), .int .u64 (loW (x * y' - y * x'))]) (by simp [results, Try.results33, go_sem, hc]) rfl ⟨rfl, by (repeat (first | exact Below.refl _ _ | assumption | refine Below.drew ?_ | refine Below.setCell ?_ (by simp; try omega) _ | refine Below.alloc ?_ (by simp; try omega) _))⟩

set_option maxHeartbeats 400000 in
theorem side_any (ax ay bx py qx qy : Int) (w : World) (h1 : -1073741824 ≤ ax) (h2 : ax ≤ 1073741824) (h3 : -1073741824 ≤ ay) (h4 : ay ≤ 1073741824)
    (k1 : -1073741824 ≤ bx) (k2 : bx ≤ 1073741824) (k3 : -1073741824 ≤ py) (k4 : py ≤ 1073741824) (g1 : -1073741824 ≤ qx) (g2 : qx ≤ 1073741824) (g3 : -1073741824 ≤ qy) (g4 : qy ≤ 1073741824) :
    Calls Try.prog 12 #[.agg #[.int .i64 ax, .int .i64 ay], .agg #[.int .i64 bx, .int .i64 py], .agg #[.int .i64 qx, .int .i64 qy]] w fun e w' => e = .returned (.int .i64 (sideS ax ay bx py qx qy)) ∧ Below w.heap.size w w' := by
  go_enter Try.func12, Try.ntmps12
  go_wp2_with fail
  refine Reg.wp_region_soft 7 (by first | exact hb2 | exact Below.refl _ _) (by kernel_rfl) (by kernel_rfl) (fun u => ?_)
  simp only [List.take, List.drop]
  repeat (go_big_quiet_step ((first | (go_at_call 34; exact Reg.calls_aft (sub_any _ _ _ _ _ (by omega) (by omega) (by omega) (by omega) (by omega) (by omega) (by omega) (by omega))) | (go_at_call 33; exact Reg.calls_aft (scross_any _ _ _ _ _ (by omega) (by omega) (by omega) (by omega) (by omega) (by omega) (by omega) (by omega))))))
  refine wpQuiet_nil ?_
  intro xs hxs
  have hbx := Reg.class_below hxs
  clear hxs
  go_wp2_with fail
  refine (wsign_any _ _).mono ?_
  rintro e w2 ⟨rfl, hb2⟩
  go_wp2_with fail
  refine ⟨rfl, hb2, fun z hz => ?_⟩
  have hb3 := hbx.trans ((hb2.trans (hz.mono hb2.size)).mono hbx.size)
  clear hz hb2 hbx
  obtain ⟨hc, hf⟩ := Reg.bcell hb3
  have hsz := hb3.size
  simp at hsz
  go_wp2
  have hbw : Below w.heap.size w z := Below.trans (by (repeat (first | exact Below.refl _ _ | assumption | refine Below.drew ?_ | refine Below.setCell ?_ (by simp; try omega) _ | refine Below.alloc ?_ (by simp; try omega) _))) (hb3.mono (by simp; omega))
  go_ret
  exact ⟨rfl, hbw⟩

set_option maxHeartbeats 400000 in
theorem ordered_any (a p b : Int) (w : World) :
    Calls Try.prog 36 #[.int .i64 a, .int .i64 p, .int .i64 b] w fun e w' => e = .returned (.bool (orderedB a p b)) ∧ w = w' := by
  have hs : (a < b ∧ p < a) ∨ (a < b ∧ a ≤ p ∧ p ≤ b) ∨ (a < b ∧ b < p) ∨ (b < a ∧ p < b) ∨ (b < a ∧ b ≤ p ∧ p ≤ a) ∨ (b < a ∧ a < p) ∨ (a = b ∧ p < a) ∨ (a = b ∧ p = a) ∨ (a = b ∧ a < p) := by omega
  rcases hs with ⟨h1, h2⟩ | ⟨h1, h2, h3⟩ | ⟨h1, h2⟩ | ⟨h1, h2⟩ | ⟨h1, h2, h3⟩ | ⟨h1, h2⟩ | ⟨rfl, h2⟩ | ⟨rfl, rfl⟩ | ⟨rfl, h2⟩
  all_goals
    go_enter Try.func36, Try.ntmps36
    go_wp2
    go_ret
    exact ⟨ret_bool (by unfold orderedB; rw [Bool.eq_iff_iff]; simp; try omega), rfl⟩

set_option maxHeartbeats 800000 in
theorem between_any (ax ay bx py qx qy : Int) (w : World) (h1 : -1073741824 ≤ ax) (h2 : ax ≤ 1073741824) (h3 : -1073741824 ≤ ay) (h4 : ay ≤ 1073741824)
    (k1 : -1073741824 ≤ bx) (k2 : bx ≤ 1073741824) (k3 : -1073741824 ≤ py) (k4 : py ≤ 1073741824) (g1 : -1073741824 ≤ qx) (g2 : qx ≤ 1073741824) (g3 : -1073741824 ≤ qy) (g4 : qy ≤ 1073741824) :
    Calls Try.prog 14 #[.agg #[.int .i64 ax, .int .i64 ay], .agg #[.int .i64 bx, .int .i64 py], .agg #[.int .i64 qx, .int .i64 qy]] w fun e w' => e = .returned (.bool (betweenB ax ay bx py qx qy)) ∧ Below w.heap.size w w' := by
  cases e1 : orderedB ax qx bx <;> cases e2 : orderedB ay qy py
  all_goals
    have HE : Hid (betweenB ax ay bx py qx qy = (orderedB ax qx bx && orderedB ay qy py && (sideS ax ay bx py qx qy == 0))) := Lib.hid rfl
    go_enter Try.func14, Try.ntmps14
    go_wp2_with (first | (go_at_call 36; refine (ordered_any _ _ _ _).mono ?_; rintro e w2 ⟨rfl, rfl⟩) | (go_at_call 12; refine (side_any ax ay bx py qx qy _ h1 h2 h3 h4 k1 k2 k3 k4 g1 g2 g3 g4).mono ?_; rintro e w2 ⟨rfl, hb2⟩))
    go_ret
    exact ⟨ret_bool (by rw [HE.out, e1, e2]; rfl), by (first | ((repeat (first | exact Below.refl _ _ | assumption | refine Below.drew ?_ | refine Below.setCell ?_ (by simp; try omega) _ | refine Below.alloc ?_ (by simp; try omega) _)); done) | exact Below.trans (by (repeat (first | exact Below.refl _ _ | assumption | refine Below.drew ?_ | refine Below.setCell ?_ (by simp; try omega) _ | refine Below.alloc ?_ (by simp; try omega) _))) (hb2.mono (by simp; try omega)))⟩

end Go.Proofs.Ytklnedcakgfbmaa
