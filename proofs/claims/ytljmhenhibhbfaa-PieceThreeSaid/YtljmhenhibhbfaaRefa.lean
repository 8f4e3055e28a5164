/- Contracts of the reference of layer 1 (numbers of 128 bits): Of, Add, negated, raised, Mul, Cmp. -/
import Derived.Test.YtljmhenhibhbfaaWide
namespace Go.Proofs.Ytljmhenhibhbfaa
open Go.RowKit

theorem add_carry {A B : Int} (h : 18446744073709551616 ≤ loW A + loW B) : IntKind.u64.wrap (loW A + loW B) = loW (A + B) ∧ loW (A + B) < loW A := by
  rw [IntKind.wrap_u64]
  unfold loW at *
  omega
theorem add_plain {A B : Int} (h : loW A + loW B < 18446744073709551616) : IntKind.u64.wrap (loW A + loW B) = loW (A + B) ∧ loW A ≤ loW (A + B) := by
  rw [IntKind.wrap_u64]
  unfold loW at *
  omega
theorem add_hi1 {A B : Int} (hA : WR A) (hB : WR B) (h : 18446744073709551616 ≤ loW A + loW B) :
    IntKind.i64.wrap (IntKind.u64.wrap (IntKind.u64.wrap (IntKind.u64.wrap (hiW A) + IntKind.u64.wrap (hiW B)) + 1)) = hiW (A + B) := by
  unfold WR at hA hB
  simp only [IntKind.wrap_u64, IntKind.wrap_i64]
  unfold loW at h
  unfold hiW
  omega
theorem add_hi0 {A B : Int} (hA : WR A) (hB : WR B) (h : loW A + loW B < 18446744073709551616) :
    IntKind.i64.wrap (IntKind.u64.wrap (IntKind.u64.wrap (hiW A) + IntKind.u64.wrap (hiW B))) = hiW (A + B) := by
  unfold WR at hA hB
  simp only [IntKind.wrap_u64, IntKind.wrap_i64]
  unfold loW at h
  unfold hiW
  omega

set_option maxHeartbeats 800000 in
theorem r1add_any (A B : Int) (w : World) (hA : WR A) (hB : WR B) :
    Calls Try.prog 28 #[.agg #[.int .i64 (hiW A), .int .u64 (loW A)], .agg #[.int .i64 (hiW B), .int .u64 (loW B)]] w
      fun e w' => e = .returned (.agg #[.int .i64 (hiW (A + B)), .int .u64 (loW (A + B))]) ∧ Below w.heap.size w w' := by
  by_cases hc : 18446744073709551616 ≤ loW A + loW B
  · have HE := Lib.hid (add_hi1 hA hB hc)
    obtain ⟨hl, hlt⟩ := add_carry hc
    clear hc hA hB
    go_enter Try.func28, Try.ntmps28
    go_wp2
    refine bodyPost_ret (v := .agg #[.int .i64 (wrap64 (IntKind.u64.wrap (IntKind.u64.wrap (IntKind.u64.wrap (hiW A) + IntKind.u64.wrap (hiW B)) + 1))), .int .u64 (loW (A + B))])
      (by simp [results, Try.results28, go_sem]) rfl ⟨by rw [← IntWalk.i64_left, HE.out], by (repeat (first | exact Below.refl _ _ | assumption | refine Below.drew ?_ | refine Below.setCell ?_ (by simp; try omega) _ | refine Below.alloc ?_ (by simp; try omega) _))⟩
  · have hc : loW A + loW B < 18446744073709551616 := by omega
    have HE := Lib.hid (add_hi0 hA hB hc)
    obtain ⟨hl, hlt⟩ := add_plain hc
    clear hc hA hB
    go_enter Try.func28, Try.ntmps28
    go_wp2
    refine bodyPost_ret (v := .agg #[.int .i64 (wrap64 (IntKind.u64.wrap (IntKind.u64.wrap (hiW A) + IntKind.u64.wrap (hiW B)))), .int .u64 (loW (A + B))])
      (by simp [results, Try.results28, go_sem]) rfl ⟨by rw [← IntWalk.i64_left, HE.out], by (repeat (first | exact Below.refl _ _ | assumption | refine Below.drew ?_ | refine Below.setCell ?_ (by simp; try omega) _ | refine Below.alloc ?_ (by simp; try omega) _))⟩

set_option maxHeartbeats 800000 in
theorem r1raised_any (n : Int) (w : World) (h0 : 0 ≤ n) (h1 : n ≤ 18446744073709551615) :
    Calls Try.prog 29 #[.int .u64 n] w
      fun e w' => e = .returned (.agg #[.int .i64 (hiW (n * 4294967296)), .int .u64 (loW (n * 4294967296))]) ∧ Below w.heap.size w w' := by
  have HE : Hid (hiW (n * 4294967296) = n / 4294967296) := Lib.hid (by unfold hiW; omega)
  have HL : Hid (loW (n * 4294967296) = n % 4294967296 * 4294967296) := Lib.hid (by unfold loW; omega)
  go_enter Try.func29, Try.ntmps29
  go_wp2
  refine bodyPost_ret (v := .agg #[.int .i64 (n / 4294967296), .int .u64 (n % 4294967296 * 4294967296)])
    (by simp [results, Try.results29, go_sem]) rfl ⟨by rw [HE.out, HL.out], by (repeat (first | exact Below.refl _ _ | assumption | refine Below.drew ?_ | refine Below.setCell ?_ (by simp; try omega) _ | refine Below.alloc ?_ (by simp; try omega) _))⟩

set_option maxHeartbeats 400000 in
theorem r1one_any (w : World) : Calls Try.prog 35 #[.int .i64 1] w fun e w' => e = .returned (.agg #[.int .i64 0, .int .u64 1]) ∧ Below w.heap.size w w' := by
  go_enter Try.func35, Try.ntmps35
  go_wp2
  refine bodyPost_ret (v := .agg #[.int .i64 0, .int .u64 1]) (by simp [results, Try.results35, go_sem]) rfl ⟨rfl, by (repeat (first | exact Below.refl _ _ | assumption | refine Below.drew ?_ | refine Below.setCell ?_ (by simp; try omega) _ | refine Below.alloc ?_ (by simp; try omega) _))⟩

theorem neg_hi {A : Int} : -1 - hiW A = hiW (-1 - A) := by unfold hiW; omega
theorem neg_lo {A : Int} : 18446744073709551615 - loW A = loW (-1 - A) := by unfold loW; omega
theorem hiW_bd {A : Int} (h : WR A) : -2305843009213693952 ≤ hiW A ∧ hiW A ≤ 2305843009213693952 := by unfold WR at h; unfold hiW; omega

set_option maxHeartbeats 800000 in
theorem r1neg_any (A : Int) (w : World) (h : WR (-1 - A)) (h' : WR A) :
    Calls Try.prog 30 #[.agg #[.int .i64 (hiW A), .int .u64 (loW A)]] w
      fun e w' => e = .returned (.agg #[.int .i64 (hiW (-A)), .int .u64 (loW (-A))]) ∧ Below w.heap.size w w' := by
  have hadd : ∀ W, Calls Try.prog 28 #[.agg #[.int .i64 (hiW (-1 - A)), .int .u64 (loW (-1 - A))], .agg #[.int .i64 0, .int .u64 1]] W
      fun e w' => e = .returned (.agg #[.int .i64 (hiW (-A)), .int .u64 (loW (-A))]) ∧ Below W.heap.size W w' := fun W => by
    have h1 := r1add_any (-1 - A) 1 W h (by unfold WR; omega)
    rw [show -1 - A + 1 = -A by omega] at h1
    exact h1
  have Hadd := Lib.hid hadd
  clear hadd
  obtain ⟨b1, b2⟩ := hiW_bd h'
  obtain ⟨b3, b4⟩ := loW_U64 A
  have e1 := neg_hi (A := A)
  have e2 := neg_lo (A := A)
  clear h h'
  go_enter Try.func30, Try.ntmps30
  go_wp2_with fail
  refine Reg.wp_region_soft 8 (by first | exact hb2 | exact Below.refl _ _) (by kernel_rfl) (by kernel_rfl) (fun u => ?_)
  simp only [List.take, List.drop]
  repeat (go_big_quiet_step ((first | (go_at_call 35; exact Reg.calls_aft (r1one_any _)))))
  refine wpQuiet_nil ?_
  intro xs hxs
  have hbx := Reg.class_below hxs
  clear hxs
  go_wp2_with fail
  refine (Hadd.out _).mono ?_
  rintro e w2 ⟨rfl, hb2⟩
  go_wp2_with fail
  refine ⟨rfl, hb2, fun z hz => ?_⟩
  have hb3 := hbx.trans ((hb2.trans (hz.mono hb2.size)).mono hbx.size)
  clear hz hb2 hbx
  obtain ⟨hc, hf⟩ := Reg.bcell hb3
  have hsz := hb3.size
  try simp at hsz
  go_wp2
  have hbw : Below w.heap.size w z := Below.trans (by (repeat (first | exact Below.refl _ _ | assumption | refine Below.drew ?_ | refine Below.setCell ?_ (by simp; try omega) _ | refine Below.alloc ?_ (by simp; try omega) _))) (hb3.mono (by simp; omega))
  refine bodyPost_ret (v := .agg #[.int .i64 (hiW (-A)), .int .u64 (loW (-A))]) (by simp [results, Try.results30, go_sem, hc]) rfl ⟨rfl, by (repeat (first | exact Below.refl _ _ | assumption | refine Below.drew ?_ | refine Below.setCell ?_ (by simp; try omega) _ | refine Below.alloc ?_ (by simp; try omega) _))⟩

set_option maxHeartbeats 800000 in
theorem r1cmp_any (X Y : Int) (w : World) :
    Calls Try.prog 20 #[.agg #[.int .i64 (hiW X), .int .u64 (loW X)], .agg #[.int .i64 (hiW Y), .int .u64 (loW Y)]] w fun e w' => e = .returned (.int .i64 (cmpS X Y)) ∧ Below w.heap.size w w' := by
  rcases cmp_cases X Y with rfl | ⟨h, h1⟩ | ⟨h, h1, h2⟩ | ⟨h, h1⟩ | ⟨h, h1, h2⟩
  · have HE := Lib.hid (cmpS_eq X)
    go_enter Try.func20, Try.ntmps20
    go_wp2
    go_ret
    exact ⟨ret_int HE.out.symm, by (repeat (first | exact Below.refl _ _ | assumption | refine Below.drew ?_ | refine Below.setCell ?_ (by simp; try omega) _ | refine Below.alloc ?_ (by simp; try omega) _))⟩
  · have HE := Lib.hid (cmpS_lt h)
    have e1 : (hiW X == hiW Y) = false := by simp; omega
    clear h
    go_enter Try.func20, Try.ntmps20
    go_wp2
    go_ret
    exact ⟨ret_int HE.out.symm, by (repeat (first | exact Below.refl _ _ | assumption | refine Below.drew ?_ | refine Below.setCell ?_ (by simp; try omega) _ | refine Below.alloc ?_ (by simp; try omega) _))⟩
  · have HE := Lib.hid (cmpS_lt h)
    have e2 : (loW X == loW Y) = false := by simp; omega
    have e1 : (hiW X == hiW Y) = true := by simp [h1]
    have e3 : ¬ hiW X < hiW Y := by omega
    clear h h1
    go_enter Try.func20, Try.ntmps20
    go_wp2
    go_ret
    exact ⟨ret_int HE.out.symm, by (repeat (first | exact Below.refl _ _ | assumption | refine Below.drew ?_ | refine Below.setCell ?_ (by simp; try omega) _ | refine Below.alloc ?_ (by simp; try omega) _))⟩
  · have HE := Lib.hid (cmpS_gt h)
    have e1 : (hiW X == hiW Y) = false := by simp; omega
    have e3 : ¬ hiW X < hiW Y := by omega
    clear h
    go_enter Try.func20, Try.ntmps20
    go_wp2
    go_ret
    exact ⟨ret_int HE.out.symm, by (repeat (first | exact Below.refl _ _ | assumption | refine Below.drew ?_ | refine Below.setCell ?_ (by simp; try omega) _ | refine Below.alloc ?_ (by simp; try omega) _))⟩
  · have HE := Lib.hid (cmpS_gt h)
    have e2 : (loW X == loW Y) = false := by simp; omega
    have e1 : (hiW X == hiW Y) = true := by simp [h1]
    have e3 : ¬ hiW X < hiW Y := by omega
    have e4 : ¬ loW X < loW Y := by omega
    clear h h1
    go_enter Try.func20, Try.ntmps20
    go_wp2
    go_ret
    exact ⟨ret_int HE.out.symm, by (repeat (first | exact Below.refl _ _ | assumption | refine Below.drew ?_ | refine Below.setCell ?_ (by simp; try omega) _ | refine Below.alloc ?_ (by simp; try omega) _))⟩

end Go.Proofs.Ytljmhenhibhbfaa
