/- Contracts of the reference of layer 5 (sign): the same plain functions. -/
import Derived.Test.YtljmhenhibhbfaaRefc
import Derived.Test.YtljmhenhibhbfaaRefd
import Derived.Test.YtljmhenhibhbfaaSignc
namespace Go.Proofs.Ytljmhenhibhbfaa
open Go.RowKit

theorem cmpS_sub (x y : Int) : cmpS x y = sgn (x - y) := by
  unfold sgn cmpS
  repeat' split
  all_goals omega

set_option maxHeartbeats 800000 in
theorem r5side_any (ax ay bx py qx qy : Int) (w : World) (h1 : -1073741824 ≤ ax) (h2 : ax ≤ 1073741824) (h3 : -1073741824 ≤ ay) (h4 : ay ≤ 1073741824)
    (k1 : -1073741824 ≤ bx) (k2 : bx ≤ 1073741824) (k3 : -1073741824 ≤ py) (k4 : py ≤ 1073741824) (g1 : -1073741824 ≤ qx) (g2 : qx ≤ 1073741824) (g3 : -1073741824 ≤ qy) (g4 : qy ≤ 1073741824) :
    Calls Try.prog 9 #[.agg #[.int .i64 ax, .int .i64 ay], .agg #[.int .i64 bx, .int .i64 py], .agg #[.int .i64 qx, .int .i64 qy]] w fun e w' => e = .returned (.int .i64 (sideS ax ay bx py qx qy)) ∧ Below w.heap.size w w' := by
  have HE : Hid (cmpS ((bx - ax) * (qy - ay)) ((py - ay) * (qx - ax)) = sideS ax ay bx py qx qy) := Lib.hid (by rw [cmpS_sub]; rfl)
  go_enter Try.func9, Try.ntmps9
  go_wp2_with fail
  refine (r4sub_any _ _ _ _ _ (by omega) (by omega) (by omega) (by omega) (by omega) (by omega) (by omega) (by omega)).mono ?_
  rintro e w2 ⟨rfl, hb2⟩
  obtain ⟨hc2, hf2⟩ := bcell hb2
  have hz2 := hb2.size
  simp at hz2
  have l1 : w.heap.size + 1 + 1 < w2.heap.size := by omega
  have l2 : w.heap.size + 1 < w2.heap.size := by omega
  have l3 : w.heap.size < w2.heap.size := by omega
  go_wp2_with fail
  refine (r4sub_any _ _ _ _ _ (by omega) (by omega) (by omega) (by omega) (by omega) (by omega) (by omega) (by omega)).mono ?_
  rintro e w3 ⟨rfl, hb3⟩
  obtain ⟨hc3, hf3⟩ := bcell hb3
  have hz3 := hb3.size
  simp at hz3
  have m1 : w2.heap.size < w3.heap.size := by omega
  go_wp2_with fail
  refine Reg.wp_region_all (Below.refl _ _) (by kernel_rfl) (by kernel_rfl) ?_
  repeat (go_big_quiet_step ((first | (go_at_call 21; exact Reg.calls_aft (r1mul_any _ _ _ (by omega) (by omega) (by omega) (by omega))) | (go_at_call 20; exact Reg.calls_aft (r1cmp_any _ _ _)))))
  refine wpQuiet_nil ?_
  intro xs hxs
  have hbx := Reg.class_below hxs
  clear hxs
  go_wp2
  go_ret
  refine ⟨ret_int HE.out, ?_⟩
  have hx2 : Below w.heap.size w w2 := Below.trans (by (repeat (first | exact Below.refl _ _ | assumption | refine Below.drew ?_ | refine Below.setCell ?_ (by simp; try omega) _ | refine Below.alloc ?_ (by simp; try omega) _))) (hb2.mono (by simp; omega))
  have hx3 : Below w.heap.size w w3 := (hx2.alloc hx2.size _).trans (hb3.mono (by simp; omega))
  exact (hx3.alloc hx3.size _).trans (hbx.mono (by simp; omega))

theorem betweenB_ref (ax ay bx py qx qy : Int) : betweenB ax ay bx py qx qy =
    (sideS ax ay bx py qx qy == 0 && decide (min ax bx ≤ qx) && decide (qx ≤ max ax bx) && decide (min ay py ≤ qy) && decide (qy ≤ max ay py)) := by
  unfold betweenB orderedB
  cases (sideS ax ay bx py qx qy == 0) <;> simp [Bool.and_assoc]

set_option maxHeartbeats 800000 in
theorem r5between_any (ax ay bx py qx qy : Int) (w : World) (h1 : -1073741824 ≤ ax) (h2 : ax ≤ 1073741824) (h3 : -1073741824 ≤ ay) (h4 : ay ≤ 1073741824)
    (k1 : -1073741824 ≤ bx) (k2 : bx ≤ 1073741824) (k3 : -1073741824 ≤ py) (k4 : py ≤ 1073741824) (g1 : -1073741824 ≤ qx) (g2 : qx ≤ 1073741824) (g3 : -1073741824 ≤ qy) (g4 : qy ≤ 1073741824) :
    Calls Try.prog 23 #[.agg #[.int .i64 ax, .int .i64 ay], .agg #[.int .i64 bx, .int .i64 py], .agg #[.int .i64 qx, .int .i64 qy]] w fun e w' => e = .returned (.bool (betweenB ax ay bx py qx qy)) ∧ Below w.heap.size w w' := by
  have HE := Lib.hid (betweenB_ref ax ay bx py qx qy)
  cases hs : sideS ax ay bx py qx qy == 0
  · have HS := Lib.hid hs
    go_enter Try.func23, Try.ntmps23
    go_wp2_with (go_at_call 9; refine (calls_from (by first | assumption | exact Below.refl _ _) (r5side_any ax ay bx py qx qy _ h1 h2 h3 h4 k1 k2 k3 k4 g1 g2 g3 g4)).mono ?_; rintro e w2 ⟨rfl, hb2⟩; have hc2 := (bcell hb2).1; have hf2 := (bcell hb2).2)
    go_ret
    exact ⟨ret_bool (by rw [HE.out, HS.out]; rfl), by (first | ((repeat (first | exact Below.refl _ _ | assumption | refine Below.drew ?_ | refine Below.setCell ?_ (by simp; try omega) _ | refine Below.alloc ?_ (by simp; try omega) _)); done) | exact Below.trans (by (repeat (first | exact Below.refl _ _ | assumption | refine Below.drew ?_ | refine Below.setCell ?_ (by simp; try omega) _ | refine Below.alloc ?_ (by simp; try omega) _))) (hb2.mono (by simp; try omega)))⟩
  · have HS := Lib.hid hs
    go_enter Try.func23, Try.ntmps23
    go_wp2_with (go_at_call 9; refine (calls_from (by first | assumption | exact Below.refl _ _) (r5side_any ax ay bx py qx qy _ h1 h2 h3 h4 k1 k2 k3 k4 g1 g2 g3 g4)).mono ?_; rintro e w2 ⟨rfl, hb2⟩; have hc2 := (bcell hb2).1; have hf2 := (bcell hb2).2)
    all_goals
      go_ret
      exact ⟨ret_bool (by rw [HE.out, HS.out, Bool.eq_iff_iff]; simp; try omega), by (first | ((repeat (first | exact Below.refl _ _ | assumption | refine Below.drew ?_ | refine Below.setCell ?_ (by simp; try omega) _ | refine Below.alloc ?_ (by simp; try omega) _)); done) | exact Below.trans (by (repeat (first | exact Below.refl _ _ | assumption | refine Below.drew ?_ | refine Below.setCell ?_ (by simp; try omega) _ | refine Below.alloc ?_ (by simp; try omega) _))) (hb2.mono (by simp; try omega)))⟩

theorem within_ref (ax ay bx py cx cy qx qy : Int) : withinB ax ay bx py cx cy qx qy =
    if sideS ax ay bx py cx cy = 0 then betweenB ax ay bx py qx qy || betweenB bx py cx cy qx qy || betweenB cx cy ax ay qx qy
    else (decide (0 ≤ sideS ax ay bx py qx qy) && decide (0 ≤ sideS bx py cx cy qx qy) && decide (0 ≤ sideS cx cy ax ay qx qy)) ||
      (decide (sideS ax ay bx py qx qy ≤ 0) && decide (sideS bx py cx cy qx qy ≤ 0) && decide (sideS cx cy ax ay qx qy ≤ 0)) := by
  unfold withinB
  split
  · rfl
  · rw [Bool.eq_iff_iff]
    simp [anyPos, anyNeg]
    omega

set_option maxHeartbeats 1000000 in
theorem r5within_any (ax ay bx py cx cy qx qy : Int) (w : World) (h1 : -1073741824 ≤ ax) (h2 : ax ≤ 1073741824) (h3 : -1073741824 ≤ ay) (h4 : ay ≤ 1073741824)
    (k1 : -1073741824 ≤ bx) (k2 : bx ≤ 1073741824) (k3 : -1073741824 ≤ py) (k4 : py ≤ 1073741824) (j1 : -1073741824 ≤ cx) (j2 : cx ≤ 1073741824) (j3 : -1073741824 ≤ cy) (j4 : cy ≤ 1073741824)
    (g1 : -1073741824 ≤ qx) (g2 : qx ≤ 1073741824) (g3 : -1073741824 ≤ qy) (g4 : qy ≤ 1073741824) :
    Calls Try.prog 11 #[.agg #[.int .i64 ax, .int .i64 ay], .agg #[.int .i64 bx, .int .i64 py], .agg #[.int .i64 cx, .int .i64 cy], .agg #[.int .i64 qx, .int .i64 qy]] w
      fun e w' => e = .returned (.bool (withinB ax ay bx py cx cy qx qy)) ∧ Below w.heap.size w w' := by
  by_cases hz : sideS ax ay bx py cx cy = 0
  · have HE : Hid (withinB ax ay bx py cx cy qx qy = (betweenB ax ay bx py qx qy || betweenB bx py cx cy qx qy || betweenB cx cy ax ay qx qy)) := Lib.hid (by unfold withinB; rw [if_pos hz])
    cases e1 : betweenB ax ay bx py qx qy <;> cases e2 : betweenB bx py cx cy qx qy
    all_goals
      go_enter Try.func11, Try.ntmps11
      go_wp2_with (first | (go_at_call 9; refine (calls_from (by first | assumption | exact Below.refl _ _) (r5side_any _ _ _ _ _ _ _ (by omega) (by omega) (by omega) (by omega) (by omega) (by omega) (by omega) (by omega) (by omega) (by omega) (by omega) (by omega))).mono ?_; rintro e w2 ⟨rfl, hb2⟩; have hc2 := (bcell hb2).1; have hf2 := (bcell hb2).2) | (go_at_call 23; refine (calls_from (by first | assumption | exact Below.refl _ _) (r5between_any _ _ _ _ _ _ _ (by omega) (by omega) (by omega) (by omega) (by omega) (by omega) (by omega) (by omega) (by omega) (by omega) (by omega) (by omega))).mono ?_; rintro e w2 ⟨rfl, hb2⟩; have hc2 := (bcell hb2).1; have hf2 := (bcell hb2).2))
      go_ret
      exact ⟨ret_bool (by rw [HE.out, e1, e2]; rfl), by (first | ((repeat (first | exact Below.refl _ _ | assumption | refine Below.drew ?_ | refine Below.setCell ?_ (by simp; try omega) _ | refine Below.alloc ?_ (by simp; try omega) _)); done) | exact Below.trans (by (repeat (first | exact Below.refl _ _ | assumption | refine Below.drew ?_ | refine Below.setCell ?_ (by simp; try omega) _ | refine Below.alloc ?_ (by simp; try omega) _))) (hb2.mono (by simp; try omega)))⟩
  · have hz' : (sideS ax ay bx py cx cy == 0) = false := by simpa using hz
    have HE := Lib.hid ((within_ref ax ay bx py cx cy qx qy).trans (if_neg hz))
    clear hz
    go_enter Try.func11, Try.ntmps11
    go_wp2_with (first | (go_at_call 9; refine (calls_from (by first | assumption | exact Below.refl _ _) (r5side_any _ _ _ _ _ _ _ (by omega) (by omega) (by omega) (by omega) (by omega) (by omega) (by omega) (by omega) (by omega) (by omega) (by omega) (by omega))).mono ?_; rintro e w2 ⟨rfl, hb2⟩; have hc2 := (bcell hb2).1; have hf2 := (bcell hb2).2) | (go_at_call 23; refine (calls_from (by first | assumption | exact Below.refl _ _) (r5between_any _ _ _ _ _ _ _ (by omega) (by omega) (by omega) (by omega) (by omega) (by omega) (by omega) (by omega) (by omega) (by omega) (by omega) (by omega))).mono ?_; rintro e w2 ⟨rfl, hb2⟩; have hc2 := (bcell hb2).1; have hf2 := (bcell hb2).2))
    all_goals
      go_ret
      exact ⟨ret_bool (by rw [HE.out, Bool.eq_iff_iff]; simp; try omega), by (first | ((repeat (first | exact Below.refl _ _ | assumption | refine Below.drew ?_ | refine Below.setCell ?_ (by simp; try omega) _ | refine Below.alloc ?_ (by simp; try omega) _)); done) | exact Below.trans (by (repeat (first | exact Below.refl _ _ | assumption | refine Below.drew ?_ | refine Below.setCell ?_ (by simp; try omega) _ | refine Below.alloc ?_ (by simp; try omega) _))) (hb2.mono (by simp; try omega)))⟩

theorem cmpS_le (a b : Int) : decide (cmpS a b ≤ 0) = decide (a ≤ b) := by
  rw [decide_eq_decide]
  unfold cmpS
  repeat' split
  all_goals omega

end Go.Proofs.Ytljmhenhibhbfaa
