/- Contracts of package tangent, third part: how two vectors meet; the reference's too. -/
import Derived.Test.YtpfeegmifcodfaaRet
import Derived.Test.YtpfeegmifcodfaaProd
import Derived.Test.YtpfeegmifcodfaaRefd
namespace Go.Proofs.Ytpfeegmifcodfaa
open Go.RowKit

def meetS (x y x' y' : Int) : Int := if 0 < x * y' - y * x' then 1 else if x * y' - y * x' < 0 then 2 else if x * x' + y * y' < 0 then 3 else 0
theorem meet_cases (x y x' y' : Int) : (0 < x * y' - y * x' ∧ meetS x y x' y' = 1) ∨ (x * y' - y * x' < 0 ∧ meetS x y x' y' = 2) ∨
    (x * y' - y * x' = 0 ∧ x * x' + y * y' < 0 ∧ meetS x y x' y' = 3) ∨ (x * y' - y * x' = 0 ∧ 0 ≤ x * x' + y * y' ∧ meetS x y x' y' = 0) := by
  unfold meetS
  repeat' split
  all_goals omega
theorem meet_range (x y x' y' : Int) : 0 ≤ meetS x y x' y' ∧ meetS x y x' y' ≤ 3 := by
  rcases meet_cases x y x' y' with h | h | h | h <;> omega

set_option maxHeartbeats 1000000 in
theorem meet_any (x y x' y' : Int) (w : World) (h1 : -1073741824 ≤ x) (h2 : x ≤ 1073741824) (h3 : -1073741824 ≤ y) (h4 : y ≤ 1073741824)
    (k1 : -1073741824 ≤ x') (k2 : x' ≤ 1073741824) (k3 : -1073741824 ≤ y') (k4 : y' ≤ 1073741824) :
    Calls Try.prog 22 #[.agg #[.int .i64 x, .int .i64 y], .agg #[.int .i64 x', .int .i64 y']] w fun e w' => e = .returned (.int .i64 (meetS x y x' y')) ∧ Below w.heap.size w w' := by
  rcases meet_cases x y x' y' with ⟨h, hm⟩ | ⟨h, hm⟩ | ⟨h, k, hm⟩ | ⟨h, k, hm⟩
  all_goals
    have HM := Lib.hid hm
    clear hm
    first
    | (have hle := Int.le_of_eq h
       have hge := Int.le_of_eq h.symm
       clear h)
    | skip
    go_enter Try.func22, Try.ntmps22
    go_wp2_with (first | (go_at_call 33; refine (calls_from (by first | assumption | exact Below.refl _ _) (vcross_any _ _ _ _ _ h1 h2 h3 h4 k1 k2 k3 k4)).mono ?_; rintro e w2 ⟨rfl, hb2⟩; have hc2 := (bcell hb2).1; have hf2 := (bcell hb2).2) | (go_at_call 34; refine (calls_from (by first | assumption | exact Below.refl _ _) (vdot_any _ _ _ _ _ h1 h2 h3 h4 k1 k2 k3 k4)).mono ?_; rintro e w2 ⟨rfl, hb2⟩; have hc2 := (bcell hb2).1; have hf2 := (bcell hb2).2))
    go_ret
    exact ⟨ret_int HM.out.symm, by (first | ((repeat (first | exact Below.refl _ _ | assumption | refine Below.drew ?_ | refine Below.setCell ?_ (by simp; try omega) _ | refine Below.alloc ?_ (by simp; try omega) _)); done) | exact Below.trans (by (repeat (first | exact Below.refl _ _ | assumption | refine Below.drew ?_ | refine Below.setCell ?_ (by simp; try omega) _ | refine Below.alloc ?_ (by simp; try omega) _))) (hb2.mono (by simp; try omega)))⟩

set_option maxHeartbeats 1000000 in
theorem rmeet_any (x y x' y' : Int) (w : World) (h1 : -1073741824 ≤ x) (h2 : x ≤ 1073741824) (h3 : -1073741824 ≤ y) (h4 : y ≤ 1073741824)
    (k1 : -1073741824 ≤ x') (k2 : x' ≤ 1073741824) (k3 : -1073741824 ≤ y') (k4 : y' ≤ 1073741824) :
    Calls Try.prog 23 #[.agg #[.int .i64 x, .int .i64 y], .agg #[.int .i64 x', .int .i64 y']] w fun e w' => e = .returned (.int .i64 (meetS x y x' y')) ∧ Below w.heap.size w w' := by
  rcases meet_cases x y x' y' with ⟨h, hm⟩ | ⟨h, hm⟩ | ⟨h, k, hm⟩ | ⟨h, k, hm⟩
  all_goals
    have HM := Lib.hid hm
    clear hm
    first
    | (have hle := Int.le_of_eq h
       have hge := Int.le_of_eq h.symm
       clear h)
    | skip
    go_enter Try.func23, Try.ntmps23
    go_wp2_with (first | (go_at_call 35; refine (calls_from (by first | assumption | exact Below.refl _ _) (r4cross_any _ _ _ _ _ h1 h2 h3 h4 k1 k2 k3 k4)).mono ?_; rintro e w2 ⟨rfl, hb2⟩; have hc2 := (bcell hb2).1; have hf2 := (bcell hb2).2) | (go_at_call 36; refine (calls_from (by first | assumption | exact Below.refl _ _) (r4dot_any _ _ _ _ _ h1 h2 h3 h4 k1 k2 k3 k4)).mono ?_; rintro e w2 ⟨rfl, hb2⟩; have hc2 := (bcell hb2).1; have hf2 := (bcell hb2).2))
    go_ret
    exact ⟨ret_int HM.out.symm, by (first | ((repeat (first | exact Below.refl _ _ | assumption | refine Below.drew ?_ | refine Below.setCell ?_ (by simp; try omega) _ | refine Below.alloc ?_ (by simp; try omega) _)); done) | exact Below.trans (by (repeat (first | exact Below.refl _ _ | assumption | refine Below.drew ?_ | refine Below.setCell ?_ (by simp; try omega) _ | refine Below.alloc ?_ (by simp; try omega) _))) (hb2.mono (by simp; try omega)))⟩

end Go.Proofs.Ytpfeegmifcodfaa
