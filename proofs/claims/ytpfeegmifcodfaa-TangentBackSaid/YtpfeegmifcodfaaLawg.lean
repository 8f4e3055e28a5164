/- Contract of the law's test of a segment. -/
import Derived.Test.YtpfeegmifcodfaaLawk
import Derived.Handy
namespace Go.Proofs.Ytpfeegmifcodfaa
open Go.RowKit

def GoodP (n x0 y0 x1 y1 x2 y2 x3 y3 : Int) : Prop := (2 ≤ n ∧ n ≤ 4) ∧ C28P x0 y0 x1 y1 x2 y2 x3 y3 ∧ (n ≤ 2 → x2 = 0 ∧ y2 = 0) ∧ (n ≤ 3 → x3 = 0 ∧ y3 = 0)
theorem nearB_iff (n : Int) : nearB n = true ↔ C28 n := by simp [nearB, C28]
theorem nearB_no {n : Int} (h : nearB n = false) : ¬ C28 n := by rw [← nearB_iff]; simp [h]

set_option maxHeartbeats 1000000 in
theorem good2_yes (x0 y0 x1 y1 x2 y2 x3 y3 : Int) (w : World) (h : GoodP 2 x0 y0 x1 y1 x2 y2 x3 y3) :
    Calls Try.prog 9 #[.agg #[.int .i64 x0, .int .i64 y0, .int .i64 x1, .int .i64 y1, .int .i64 x2, .int .i64 y2, .int .i64 x3, .int .i64 y3, .int .i64 2]] w fun e w' => e = .returned (.bool true) ∧ Below w.heap.size w w' := by
  obtain ⟨_, ⟨h0, k0, h1, k1, h2, k2, h3, k3⟩, z2, z3⟩ := h
  have nx0 := (nearB_iff x0).2 h0
  have ny0 := (nearB_iff y0).2 k0
  have nx1 := (nearB_iff x1).2 h1
  have ny1 := (nearB_iff y1).2 k1
  have nx2 := (nearB_iff x2).2 h2
  have ny2 := (nearB_iff y2).2 k2
  have nx3 := (nearB_iff x3).2 h3
  have ny3 := (nearB_iff y3).2 k3
  obtain ⟨rfl, rfl⟩ := z2 (by omega)
  obtain ⟨rfl, rfl⟩ := z3 (by omega)
  clear h0 k0 h1 k1 h2 k2 h3 k3
  go_enter Try.func9, Try.ntmps9
  go_wp2_with fail
  refine wp_loop_rounds 5 ?_
  repeat any_goals (rw [rounds_succ]; go_wp2_with (go_at_call 28; refine (lnear_any _ _).mono ?_; rintro e w2 ⟨rfl, rfl⟩))
  go_ret
  exact ⟨rfl, by (repeat (first | exact Below.refl _ _ | assumption | refine Below.drew ?_ | refine Below.setCell ?_ (by simp; try omega) _ | refine Below.alloc ?_ (by simp; try omega) _))⟩

set_option maxHeartbeats 1000000 in
theorem good3_yes (x0 y0 x1 y1 x2 y2 x3 y3 : Int) (w : World) (h : GoodP 3 x0 y0 x1 y1 x2 y2 x3 y3) :
    Calls Try.prog 9 #[.agg #[.int .i64 x0, .int .i64 y0, .int .i64 x1, .int .i64 y1, .int .i64 x2, .int .i64 y2, .int .i64 x3, .int .i64 y3, .int .i64 3]] w fun e w' => e = .returned (.bool true) ∧ Below w.heap.size w w' := by
  obtain ⟨_, ⟨h0, k0, h1, k1, h2, k2, h3, k3⟩, z2, z3⟩ := h
  have nx0 := (nearB_iff x0).2 h0
  have ny0 := (nearB_iff y0).2 k0
  have nx1 := (nearB_iff x1).2 h1
  have ny1 := (nearB_iff y1).2 k1
  have nx2 := (nearB_iff x2).2 h2
  have ny2 := (nearB_iff y2).2 k2
  have nx3 := (nearB_iff x3).2 h3
  have ny3 := (nearB_iff y3).2 k3
  clear z2
  obtain ⟨rfl, rfl⟩ := z3 (by omega)
  clear h0 k0 h1 k1 h2 k2 h3 k3
  go_enter Try.func9, Try.ntmps9
  go_wp2_with fail
  refine wp_loop_rounds 5 ?_
  repeat any_goals (rw [rounds_succ]; go_wp2_with (go_at_call 28; refine (lnear_any _ _).mono ?_; rintro e w2 ⟨rfl, rfl⟩))
  go_ret
  exact ⟨rfl, by (repeat (first | exact Below.refl _ _ | assumption | refine Below.drew ?_ | refine Below.setCell ?_ (by simp; try omega) _ | refine Below.alloc ?_ (by simp; try omega) _))⟩

set_option maxHeartbeats 1000000 in
theorem good4_yes (x0 y0 x1 y1 x2 y2 x3 y3 : Int) (w : World) (h : GoodP 4 x0 y0 x1 y1 x2 y2 x3 y3) :
    Calls Try.prog 9 #[.agg #[.int .i64 x0, .int .i64 y0, .int .i64 x1, .int .i64 y1, .int .i64 x2, .int .i64 y2, .int .i64 x3, .int .i64 y3, .int .i64 4]] w fun e w' => e = .returned (.bool true) ∧ Below w.heap.size w w' := by
  obtain ⟨_, ⟨h0, k0, h1, k1, h2, k2, h3, k3⟩, z2, z3⟩ := h
  have nx0 := (nearB_iff x0).2 h0
  have ny0 := (nearB_iff y0).2 k0
  have nx1 := (nearB_iff x1).2 h1
  have ny1 := (nearB_iff y1).2 k1
  have nx2 := (nearB_iff x2).2 h2
  have ny2 := (nearB_iff y2).2 k2
  have nx3 := (nearB_iff x3).2 h3
  have ny3 := (nearB_iff y3).2 k3
  clear z2
  clear z3
  clear h0 k0 h1 k1 h2 k2 h3 k3
  go_enter Try.func9, Try.ntmps9
  go_wp2_with fail
  refine wp_loop_rounds 5 ?_
  repeat any_goals (rw [rounds_succ]; go_wp2_with (go_at_call 28; refine (lnear_any _ _).mono ?_; rintro e w2 ⟨rfl, rfl⟩))
  go_ret
  exact ⟨rfl, by (repeat (first | exact Below.refl _ _ | assumption | refine Below.drew ?_ | refine Below.setCell ?_ (by simp; try omega) _ | refine Below.alloc ?_ (by simp; try omega) _))⟩

set_option maxHeartbeats 2000000 in
theorem good2_no (x0 y0 x1 y1 x2 y2 x3 y3 : Int) (w : World) (h : ¬ GoodP 2 x0 y0 x1 y1 x2 y2 x3 y3) :
    Calls Try.prog 9 #[.agg #[.int .i64 x0, .int .i64 y0, .int .i64 x1, .int .i64 y1, .int .i64 x2, .int .i64 y2, .int .i64 x3, .int .i64 y3, .int .i64 2]] w fun e w' => e = .returned (.bool false) ∧ Below w.heap.size w w' := by
  have H := Lib.hid h
  clear h
  go_enter Try.func9, Try.ntmps9
  go_wp2_with fail
  refine wp_loop_rounds 5 ?_
  repeat any_goals (rw [rounds_succ]; go_wp2_with (go_at_call 28; refine (lnear_any _ _).mono ?_; rintro e w2 ⟨rfl, rfl⟩))
  · exact absurd ⟨⟨by omega, by omega⟩, ⟨(nearB_iff _).1 ‹nearB x0 = true›, (nearB_iff _).1 ‹nearB y0 = true›, (nearB_iff _).1 ‹nearB x1 = true›, (nearB_iff _).1 ‹nearB y1 = true›, (nearB_iff _).1 ‹nearB x2 = true›, (nearB_iff _).1 ‹nearB y2 = true›, (nearB_iff _).1 ‹nearB x3 = true›, (nearB_iff _).1 ‹nearB y3 = true›⟩, fun _ => ⟨‹x2 = 0›, ‹y2 = 0›⟩, fun _ => ⟨‹x3 = 0›, ‹y3 = 0›⟩⟩ H.out
  all_goals
    go_ret
    exact ⟨rfl, by (repeat (first | exact Below.refl _ _ | assumption | refine Below.drew ?_ | refine Below.setCell ?_ (by simp; try omega) _ | refine Below.alloc ?_ (by simp; try omega) _))⟩

set_option maxHeartbeats 2000000 in
theorem good3_no (x0 y0 x1 y1 x2 y2 x3 y3 : Int) (w : World) (h : ¬ GoodP 3 x0 y0 x1 y1 x2 y2 x3 y3) :
    Calls Try.prog 9 #[.agg #[.int .i64 x0, .int .i64 y0, .int .i64 x1, .int .i64 y1, .int .i64 x2, .int .i64 y2, .int .i64 x3, .int .i64 y3, .int .i64 3]] w fun e w' => e = .returned (.bool false) ∧ Below w.heap.size w w' := by
  have H := Lib.hid h
  clear h
  go_enter Try.func9, Try.ntmps9
  go_wp2_with fail
  refine wp_loop_rounds 5 ?_
  repeat any_goals (rw [rounds_succ]; go_wp2_with (go_at_call 28; refine (lnear_any _ _).mono ?_; rintro e w2 ⟨rfl, rfl⟩))
  · exact absurd ⟨⟨by omega, by omega⟩, ⟨(nearB_iff _).1 ‹nearB x0 = true›, (nearB_iff _).1 ‹nearB y0 = true›, (nearB_iff _).1 ‹nearB x1 = true›, (nearB_iff _).1 ‹nearB y1 = true›, (nearB_iff _).1 ‹nearB x2 = true›, (nearB_iff _).1 ‹nearB y2 = true›, (nearB_iff _).1 ‹nearB x3 = true›, (nearB_iff _).1 ‹nearB y3 = true›⟩, fun k => absurd k (by omega), fun _ => ⟨‹x3 = 0›, ‹y3 = 0›⟩⟩ H.out
  all_goals
    go_ret
    exact ⟨rfl, by (repeat (first | exact Below.refl _ _ | assumption | refine Below.drew ?_ | refine Below.setCell ?_ (by simp; try omega) _ | refine Below.alloc ?_ (by simp; try omega) _))⟩

set_option maxHeartbeats 2000000 in
theorem good4_no (x0 y0 x1 y1 x2 y2 x3 y3 : Int) (w : World) (h : ¬ GoodP 4 x0 y0 x1 y1 x2 y2 x3 y3) :
    Calls Try.prog 9 #[.agg #[.int .i64 x0, .int .i64 y0, .int .i64 x1, .int .i64 y1, .int .i64 x2, .int .i64 y2, .int .i64 x3, .int .i64 y3, .int .i64 4]] w fun e w' => e = .returned (.bool false) ∧ Below w.heap.size w w' := by
  have H := Lib.hid h
  clear h
  go_enter Try.func9, Try.ntmps9
  go_wp2_with fail
  refine wp_loop_rounds 5 ?_
  repeat any_goals (rw [rounds_succ]; go_wp2_with (go_at_call 28; refine (lnear_any _ _).mono ?_; rintro e w2 ⟨rfl, rfl⟩))
  · exact absurd ⟨⟨by omega, by omega⟩, ⟨(nearB_iff _).1 ‹nearB x0 = true›, (nearB_iff _).1 ‹nearB y0 = true›, (nearB_iff _).1 ‹nearB x1 = true›, (nearB_iff _).1 ‹nearB y1 = true›, (nearB_iff _).1 ‹nearB x2 = true›, (nearB_iff _).1 ‹nearB y2 = true›, (nearB_iff _).1 ‹nearB x3 = true›, (nearB_iff _).1 ‹nearB y3 = true›⟩, fun k => absurd k (by omega), fun k => absurd k (by omega)⟩ H.out
  all_goals
    go_ret
    exact ⟨rfl, by (repeat (first | exact Below.refl _ _ | assumption | refine Below.drew ?_ | refine Below.setCell ?_ (by simp; try omega) _ | refine Below.alloc ?_ (by simp; try omega) _))⟩

set_option maxHeartbeats 1000000 in
theorem good_out (n x0 y0 x1 y1 x2 y2 x3 y3 : Int) (w : World) (h : n < 2 ∨ 4 < n) :
    Calls Try.prog 9 #[.agg #[.int .i64 x0, .int .i64 y0, .int .i64 x1, .int .i64 y1, .int .i64 x2, .int .i64 y2, .int .i64 x3, .int .i64 y3, .int .i64 n]] w fun e w' => e = .returned (.bool false) ∧ Below w.heap.size w w' := by
  rcases (by omega : n < 2 ∨ (¬ n < 2 ∧ 4 < n)) with h | ⟨h, h'⟩
  all_goals
    go_enter Try.func9, Try.ntmps9
    go_wp2_with fail
    go_ret
    exact ⟨rfl, by (repeat (first | exact Below.refl _ _ | assumption | refine Below.drew ?_ | refine Below.setCell ?_ (by simp; try omega) _ | refine Below.alloc ?_ (by simp; try omega) _))⟩

open Classical in
theorem good_any (n x0 y0 x1 y1 x2 y2 x3 y3 : Int) (w : World) :
    Calls Try.prog 9 #[.agg #[.int .i64 x0, .int .i64 y0, .int .i64 x1, .int .i64 y1, .int .i64 x2, .int .i64 y2, .int .i64 x3, .int .i64 y3, .int .i64 n]] w fun e w' => e = .returned (.bool (decide (GoodP n x0 y0 x1 y1 x2 y2 x3 y3))) ∧ Below w.heap.size w w' := by
  by_cases hr : n < 2 ∨ 4 < n
  · rw [decide_eq_false (fun h => by have := h.1; omega)]
    exact good_out n x0 y0 x1 y1 x2 y2 x3 y3 w hr
  · by_cases hg : GoodP n x0 y0 x1 y1 x2 y2 x3 y3
    · rw [decide_eq_true hg]
      rcases (by omega : n = 2 ∨ n = 3 ∨ n = 4) with rfl | rfl | rfl
      · exact good2_yes _ _ _ _ _ _ _ _ w hg
      · exact good3_yes _ _ _ _ _ _ _ _ w hg
      · exact good4_yes _ _ _ _ _ _ _ _ w hg
    · rw [decide_eq_false hg]
      rcases (by omega : n = 2 ∨ n = 3 ∨ n = 4) with rfl | rfl | rfl
      · exact good2_no _ _ _ _ _ _ _ _ w hg
      · exact good3_no _ _ _ _ _ _ _ _ w hg
      · exact good4_no _ _ _ _ _ _ _ _ w hg
open Classical in
theorem good_yes {n x0 y0 x1 y1 x2 y2 x3 y3 : Int} (w : World) (h : GoodP n x0 y0 x1 y1 x2 y2 x3 y3) :
    Calls Try.prog 9 #[.agg #[.int .i64 x0, .int .i64 y0, .int .i64 x1, .int .i64 y1, .int .i64 x2, .int .i64 y2, .int .i64 x3, .int .i64 y3, .int .i64 n]] w fun e w' => e = .returned (.bool true) ∧ Below w.heap.size w w' := by
  have k := good_any n x0 y0 x1 y1 x2 y2 x3 y3 w
  rwa [decide_eq_true h] at k
open Classical in
theorem good_no {n x0 y0 x1 y1 x2 y2 x3 y3 : Int} (w : World) (h : ¬ GoodP n x0 y0 x1 y1 x2 y2 x3 y3) :
    Calls Try.prog 9 #[.agg #[.int .i64 x0, .int .i64 y0, .int .i64 x1, .int .i64 y1, .int .i64 x2, .int .i64 y2, .int .i64 x3, .int .i64 y3, .int .i64 n]] w fun e w' => e = .returned (.bool false) ∧ Below w.heap.size w w' := by
  have k := good_any n x0 y0 x1 y1 x2 y2 x3 y3 w
  rwa [decide_eq_false h] at k

end Go.Proofs.Ytpfeegmifcodfaa
