/- Products of coordinates: bounds; and the contracts of package vector's products. -/
import Derived.Test.YtljmhenhibhbfaaVec
namespace Go.Proofs.Ytljmhenhibhbfaa
open Go.RowKit

theorem natAbs_le {a A : Int} (h1 : -A ≤ a) (h2 : a ≤ A) : a.natAbs ≤ A.toNat := by omega
theorem mul_bd {a b A B : Int} (h1 : -A ≤ a) (h2 : a ≤ A) (k1 : -B ≤ b) (k2 : b ≤ B) : -(A * B) ≤ a * b ∧ a * b ≤ A * B := by
  have h := Nat.mul_le_mul (natAbs_le h1 h2) (natAbs_le k1 k2)
  rw [← Int.natAbs_mul] at h
  have hA : 0 ≤ A := by omega
  have hB : 0 ≤ B := by omega
  have e : ((A.toNat * B.toNat : Nat) : Int) = A * B := by rw [Int.natCast_mul, Int.toNat_of_nonneg hA, Int.toNat_of_nonneg hB]
  omega
theorem prod_bd {x y : Int} (h1 : -1073741824 ≤ x) (h2 : x ≤ 1073741824) (h3 : -1073741824 ≤ y) (h4 : y ≤ 1073741824) : -1152921504606846976 ≤ x * y ∧ x * y ≤ 1152921504606846976 := by
  have := mul_bd (A := 1073741824) (B := 1073741824) h1 h2 h3 h4
  omega

set_option maxHeartbeats 400000 in
theorem pcross_any (x y x' y' : Int) (w : World) (h1 : -1073741824 ≤ x) (h2 : x ≤ 1073741824) (h3 : -1073741824 ≤ y) (h4 : y ≤ 1073741824)
    (k1 : -1073741824 ≤ x') (k2 : x' ≤ 1073741824) (k3 : -1073741824 ≤ y') (k4 : y' ≤ 1073741824) :
    Calls Try.prog 33 #[.agg #[.int .i64 x, .int .i64 y, .int .i64 x', .int .i64 y']] w fun e w' => e = .returned (.int .i64 (x * y' - y * x')) ∧ Below w.heap.size w w' := by
  obtain ⟨p1, p2⟩ := prod_bd h1 h2 k3 k4
  obtain ⟨q1, q2⟩ := prod_bd h3 h4 k1 k2
  go_enter Try.func33, Try.ntmps33
  go_wp2
  go_ret
  exact ⟨rfl, by (repeat (first | exact Below.refl _ _ | assumption | refine Below.drew ?_ | refine Below.setCell ?_ (by simp; try omega) _ | refine Below.alloc ?_ (by simp; try omega) _))⟩


set_option maxHeartbeats 400000 in
theorem vcross_any (x y x' y' : Int) (w : World) (h1 : -1073741824 ≤ x) (h2 : x ≤ 1073741824) (h3 : -1073741824 ≤ y) (h4 : y ≤ 1073741824)
    (k1 : -1073741824 ≤ x') (k2 : x' ≤ 1073741824) (k3 : -1073741824 ≤ y') (k4 : y' ≤ 1073741824) :
    Calls Try.prog 25 #[.agg #[.int .i64 x, .int .i64 y], .agg #[.int .i64 x', .int .i64 y']] w fun e w' => e = .returned (.int .i64 (x * y' - y * x')) ∧ Below w.heap.size w w' := by
  go_enter Try.func25, Try.ntmps25
  go_wp2_with (go_at_call 33; refine (pcross_any _ _ _ _ _ h1 h2 h3 h4 k1 k2 k3 k4).mono ?_; rintro e w2 ⟨rfl, hb2⟩)
  go_ret
  exact ⟨rfl, by (first | ((repeat (first | exact Below.refl _ _ | assumption | refine Below.drew ?_ | refine Below.setCell ?_ (by simp; try omega) _ | refine Below.alloc ?_ (by simp; try omega) _)); done) | exact Below.trans (by (repeat (first | exact Below.refl _ _ | assumption | refine Below.drew ?_ | refine Below.setCell ?_ (by simp; try omega) _ | refine Below.alloc ?_ (by simp; try omega) _))) (hb2.mono (by simp; try omega)))⟩


end Go.Proofs.Ytljmhenhibhbfaa
