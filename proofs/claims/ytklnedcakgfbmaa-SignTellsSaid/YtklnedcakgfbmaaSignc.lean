/- Contracts of package vector's products and of sign's Sharp, Miter, Quarter, Before. -/
import Derived.Test.YtklnedcakgfbmaaSignb
import Derived.Test.YtklnedcakgfbmaaProd
namespace Go.Proofs.Ytklnedcakgfbmaa
open Go.RowKit

set_option maxHeartbeats 400000 in
theorem sharp_any (x y x' y' : Int) (w : World) (h1 : -1073741824 ≤ x) (h2 : x ≤ 1073741824) (h3 : -1073741824 ≤ y) (h4 : y ≤ 1073741824)
    (k1 : -1073741824 ≤ x') (k2 : x' ≤ 1073741824) (k3 : -1073741824 ≤ y') (k4 : y' ≤ 1073741824) :
    Calls Try.prog 23 #[.agg #[.int .i64 x, .int .i64 y], .agg #[.int .i64 x', .int .i64 y']] w fun e w' => e = .returned (.bool (decide (x * x' + y * y' < 0))) ∧ Below w.heap.size w w' := by
  go_enter Try.func23, Try.ntmps23
  go_wp2_with (go_at_call 38; refine (vdot_any _ _ _ _ _ h1 h2 h3 h4 k1 k2 k3 k4).mono ?_; rintro e w2 ⟨rfl, hb2⟩)
  go_ret
  exact ⟨rfl, by (first | ((repeat (first | exact Below.refl _ _ | assumption | refine Below.drew ?_ | refine Below.setCell ?_ (by simp; try omega) _ | refine Below.alloc ?_ (by simp; try omega) _)); done) | exact Below.trans (by (repeat (first | exact Below.refl _ _ | assumption | refine Below.drew ?_ | refine Below.setCell ?_ (by simp; try omega) _ | refine Below.alloc ?_ (by simp; try omega) _))) (hb2.mono (by simp; try omega)))⟩

def quarterS (x y : Int) : Int := if 0 < x ∧ 0 ≤ y then 0 else if 0 < y ∧ x ≤ 0 then 1 else if x < 0 ∧ y ≤ 0 then 2 else if y < 0 ∧ 0 ≤ x then 3 else 0

set_option maxHeartbeats 800000 in
theorem quarter_any (x y : Int) (w : World) :
    Calls Try.prog 26 #[.agg #[.int .i64 x, .int .i64 y]] w fun e w' => e = .returned (.int .i64 (quarterS x y)) ∧ Below w.heap.size w w' := by
  have hx : x < 0 ∨ x = 0 ∨ 0 < x := by omega
  have hy : y < 0 ∨ y = 0 ∨ 0 < y := by omega
  rcases hx with hx | rfl | hx <;> rcases hy with hy | rfl | hy
  all_goals
    go_enter Try.func26, Try.ntmps26
    go_wp2
    go_ret
    exact ⟨ret_int (by unfold quarterS; repeat' split
                       all_goals omega), by (repeat (first | exact Below.refl _ _ | assumption | refine Below.drew ?_ | refine Below.setCell ?_ (by simp; try omega) _ | refine Below.alloc ?_ (by simp; try omega) _))⟩

theorem quarterS_range (x y : Int) : 0 ≤ quarterS x y ∧ quarterS x y ≤ 3 := by
  unfold quarterS; repeat' split
  all_goals omega
def beforeB (x y x' y' : Int) : Bool := decide (quarterS x y < quarterS x' y') || (quarterS x y == quarterS x' y' && decide (0 < x * y' - y * x'))

set_option maxHeartbeats 800000 in
theorem before_any (x y x' y' : Int) (w : World) (h1 : -1073741824 ≤ x) (h2 : x ≤ 1073741824) (h3 : -1073741824 ≤ y) (h4 : y ≤ 1073741824)
    (k1 : -1073741824 ≤ x') (k2 : x' ≤ 1073741824) (k3 : -1073741824 ≤ y') (k4 : y' ≤ 1073741824) :
    Calls Try.prog 17 #[.agg #[.int .i64 x, .int .i64 y], .agg #[.int .i64 x', .int .i64 y']] w fun e w' => e = .returned (.bool (beforeB x y x' y')) ∧ Below w.heap.size w w' := by
  have HE : Hid (beforeB x y x' y' = (decide (quarterS x y < quarterS x' y') || (quarterS x y == quarterS x' y' && decide (0 < x * y' - y * x')))) := Lib.hid rfl
  cases he : quarterS x y == quarterS x' y'
  · have he' : (quarterS x y != quarterS x' y') = true := by simpa [bne] using he
    go_enter Try.func17, Try.ntmps17
    go_wp2_with fail
    refine Reg.wp_region_all (by first | exact hb2 | exact Below.refl _ _) (by kernel_rfl) (by kernel_rfl) ?_
    repeat (go_big_quiet_step ((first | (go_at_call 26; exact Reg.calls_aft (quarter_any _ _ _)))))
    refine wpQuiet_nil ?_
    intro xs hxs
    have hbx := Reg.class_below hxs
    clear hxs
    go_wp2
    go_ret
    exact ⟨ret_bool (by rw [HE.out, he]; simp), Below.trans (by (repeat (first | exact Below.refl _ _ | assumption | refine Below.drew ?_ | refine Below.setCell ?_ (by simp; try omega) _ | refine Below.alloc ?_ (by simp; try omega) _))) (hbx.mono (by simp; try omega))⟩
  · have he' : (quarterS x y != quarterS x' y') = false := by simpa [bne] using he
    have hn : quarterS x' y' ≤ quarterS x y := by have := beq_iff_eq.1 he; omega
    have Hn := Lib.hid hn
    clear hn
    go_enter Try.func17, Try.ntmps17
    go_wp2_with fail
    refine Reg.wp_region_all (by first | exact hb2 | exact Below.refl _ _) (by kernel_rfl) (by kernel_rfl) ?_
    repeat (go_big_quiet_step ((first | (go_at_call 26; exact Reg.calls_aft (quarter_any _ _ _)))))
    refine wpQuiet_nil ?_
    intro xs hxs
    have hbx := Reg.class_below hxs
    clear hxs
    obtain ⟨hc, hf⟩ := bcell hbx
    go_wp2_with (go_at_call 37; refine (vcross_any _ _ _ _ _ h1 h2 h3 h4 k1 k2 k3 k4).mono ?_; rintro e w2 ⟨rfl, hb2⟩)
    go_ret
    have hx : Below w.heap.size w xs := Below.trans (by (repeat (first | exact Below.refl _ _ | assumption | refine Below.drew ?_ | refine Below.setCell ?_ (by simp; try omega) _ | refine Below.alloc ?_ (by simp; try omega) _))) (hbx.mono (by simp; try omega))
    exact ⟨ret_bool (by rw [HE.out, he, decide_eq_false (p := quarterS x y < quarterS x' y') (by have := Hn.out; omega), Bool.false_or, Bool.true_and, decide_eq_decide]; omega), hx.trans (hb2.mono hx.size)⟩

def miterB (x y x' y' limit : Int) : Bool :=
  if limit ≤ 0 then false else decide (2 * (x * x + y * y) ≤ (min limit 64 * min limit 64) * (x * x + y * y + (x * x' + y * y')))

theorem sgn_ge (a b : Int) : decide (0 ≤ sgn (a - b)) = decide (b ≤ a) := by
  rw [decide_eq_decide]
  have := sgn_cases (a - b)
  omega

set_option maxHeartbeats 1000000 in
theorem miter_any (x y x' y' limit : Int) (w : World) (h1 : -1073741824 ≤ x) (h2 : x ≤ 1073741824) (h3 : -1073741824 ≤ y) (h4 : y ≤ 1073741824)
    (k1 : -1073741824 ≤ x') (k2 : x' ≤ 1073741824) (k3 : -1073741824 ≤ y') (k4 : y' ≤ 1073741824) (l1 : -9223372036854775808 ≤ limit) (l2 : limit ≤ 9223372036854775807) :
    Calls Try.prog 18 #[.agg #[.int .i64 x, .int .i64 y], .agg #[.int .i64 x', .int .i64 y'], .int .i64 limit] w fun e w' => e = .returned (.bool (miterB x y x' y' limit)) ∧ Below w.heap.size w w' := by
  by_cases h0 : limit ≤ 0
  · have HE : Hid (miterB x y x' y' limit = false) := Lib.hid (by unfold miterB; rw [if_pos h0])
    go_enter Try.func18, Try.ntmps18
    go_wp2_with fail
    go_ret
    exact ⟨ret_bool HE.out.symm, by (repeat (first | exact Below.refl _ _ | assumption | refine Below.drew ?_ | refine Below.setCell ?_ (by simp; try omega) _ | refine Below.alloc ?_ (by simp; try omega) _))⟩
  · obtain ⟨a1, a2⟩ := prod_bd h1 h2 h1 h2
    obtain ⟨b1, b2⟩ := prod_bd h3 h4 h3 h4
    obtain ⟨c1, c2⟩ := prod_bd h1 h2 k1 k2
    obtain ⟨d1, d2⟩ := prod_bd h3 h4 k3 k4
    obtain ⟨k, hk1, hk2, hkm⟩ : ∃ k : Int, 1 ≤ k ∧ k ≤ 64 ∧ k = min limit 64 := ⟨min limit 64, by omega, by omega, rfl⟩
    have hkk := mul_bd (A := 64) (B := 64) (a := k) (b := k) (by omega) hk2 (by omega) hk2
    have HE : Hid (miterB x y x' y' limit = decide (0 ≤ sgn (k * k * (x * x + y * y + (x * x' + y * y')) - (x * x + y * y) * 2))) :=
      Lib.hid (by unfold miterB; rw [if_neg h0, sgn_ge, ← hkm, Int.mul_comm (x * x + y * y) 2])
    have hs : (limit < 64 ∧ limit = k) ∨ (limit = 64 ∧ k = 64) ∨ (64 < limit ∧ k = 64) := by omega
    clear hkm
    rcases hs with ⟨hs, rfl⟩ | ⟨rfl, rfl⟩ | ⟨hs, rfl⟩
    all_goals
      go_enter Try.func18, Try.ntmps18
      go_wp2_with (first | (go_at_call 38; refine (calls_from (by first | assumption | exact Below.refl _ _) (vdot_any _ _ _ _ _ h1 h2 h3 h4 (by omega) (by omega) (by omega) (by omega))).mono ?_; rintro e w2 ⟨rfl, hb2⟩; have hc2 := (bcell hb2).1; have hf2 := (bcell hb2).2) | (go_at_call 39; refine (calls_from (by first | assumption | exact Below.refl _ _) (wmul_any _ _ _ (by omega) (by omega) (by omega) (by omega))).mono ?_; rintro e w2 ⟨rfl, hb2⟩; have hc2 := (bcell hb2).1; have hf2 := (bcell hb2).2))
      refine Reg.wp_region_all (by first | exact hb2 | exact Below.refl _ _) (by kernel_rfl) (by kernel_rfl) ?_
      repeat (go_big_quiet_step ((first | (go_at_call 39; exact Reg.calls_aft (wmul_any _ _ _ (by omega) (by omega) (by omega) (by omega))) | (go_at_call 40; exact Reg.calls_aft (wsub_any _ _ _ (wr_mul (by omega) (by omega) (by omega) (by omega)) (wr_mul (by omega) (by omega) (by omega) (by omega)))) | (go_at_call 32; exact Reg.calls_aft (wsign_any _ _)))))
      refine wpQuiet_nil ?_
      intro xs hxs
      have hbx := Reg.class_below hxs
      clear hxs
      go_wp2
      go_ret
      have hx : Below w.heap.size w w2 := by (first | ((repeat (first | exact Below.refl _ _ | assumption | refine Below.drew ?_ | refine Below.setCell ?_ (by simp; try omega) _ | refine Below.alloc ?_ (by simp; try omega) _)); done) | exact Below.trans (by (repeat (first | exact Below.refl _ _ | assumption | refine Below.drew ?_ | refine Below.setCell ?_ (by simp; try omega) _ | refine Below.alloc ?_ (by simp; try omega) _))) (hb2.mono (by simp; try omega)))
      exact ⟨ret_bool HE.out.symm, (hx.alloc hx.size _).trans (hbx.mono (by have := hx.size; simp; omega))⟩

end Go.Proofs.Ytklnedcakgfbmaa
