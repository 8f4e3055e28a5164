/- SignMiter: a miter that a limit lets is let by a greater one; two that go on straight are let by any, two that go back by none. -/
import Derived.Test.YtklnedcakgfbmaaLaweb
import Derived.Test.YtklnedcakgfbmaaOpen
namespace Go.Proofs.Ytklnedcakgfbmaa
open Go.RowKit

theorem square_nonneg (x : Int) : 0 ≤ x * x := by
  have := mul_sign x x
  omega
theorem miterB_pos {x y x' y' n : Int} (h : 1 ≤ n) : miterB x y x' y' n = decide (2 * (x * x + y * y) ≤ (min n 64 * min n 64) * (x * x + y * y + (x * x' + y * y'))) := by
  unfold miterB; rw [if_neg (by omega)]
theorem miterB_none {x y x' y' n : Int} (h : n ≤ 0) : miterB x y x' y' n = false := by
  unfold miterB; rw [if_pos h]
/-- A greater limit lets what a smaller one does. -/
theorem miterB_more {x y x' y' n : Int} (h : 1 ≤ n) (hd : -(x * x' + y * y') ≤ x * x + y * y) (hm : miterB x y x' y' n = true) : miterB x y x' y' (n + 1) = true := by
  rw [miterB_pos h] at hm
  rw [miterB_pos (by omega)]
  simp only [decide_eq_true_eq] at *
  refine Int.le_trans hm (Int.mul_le_mul_of_nonneg_right ?_ (by omega))
  exact Int.mul_le_mul (by omega) (by omega) (by omega) (by omega)
theorem miterB_straight {x y n : Int} (h : 1 ≤ n) : miterB x y x y n = true := by
  rw [miterB_pos h]
  simp only [decide_eq_true_eq]
  have a := square_nonneg x
  have b := square_nonneg y
  have c : 1 * 1 ≤ min n 64 * min n 64 := Int.mul_le_mul (by omega) (by omega) (by omega) (by omega)
  have d := Int.mul_le_mul_of_nonneg_right c (c := x * x + y * y + (x * x + y * y)) (by omega)
  omega
theorem miterB_back {x y n : Int} (h : 1 ≤ n) (h0 : x ≠ 0 ∨ y ≠ 0) : miterB x y (-x) (-y) n = false := by
  rw [miterB_pos h]
  simp only [decide_eq_false_iff_not]
  have a := mul_sign x x
  have b := mul_sign y y
  have e : x * x + y * y + (x * -x + y * -y) = 0 := by rw [Int.mul_neg, Int.mul_neg]; omega
  rw [e, Int.mul_zero]
  omega

set_option maxHeartbeats 4000000 in
theorem lmiter_any (x y x' y' l : Int) (w : World) (hl0 : 0 ≤ l) (hl1 : l ≤ 255) :
    Calls Try.prog 6 #[.agg #[.int .i64 x, .int .i64 y], .agg #[.int .i64 x', .int .i64 y'], .int .u8 l] w fun e w' => e = .returned (.bool true) ∧ Below w.heap.size w w' := by
  cases hn : [(x, y), (x', y')].all fun q => nearP q.1 q.2
  · have Hn := Lib.hid hn
    clear hn
    go_enter Try.func6, Try.ntmps6
    go_wp2_with (first | (go_at_call 10; refine (calls_from (by first | assumption | exact Below.refl _ _) (lnear_any _ 2 2 [(x, y), (x', y')] _ (by omega) (by exact RPts.new (by simp) (fun k p hk => by match k, hk with | 0, hk => (simp at hk; subst hk; simp [go_sem]) | 1, hk => (simp at hk; subst hk; simp [go_sem]))))).mono ?_; rw [Hn.out]; rintro e w2 ⟨rfl, hb2⟩; have hc2 := (bcell hb2).1) | (go_at_call 11; refine (calls_from (by first | assumption | exact Below.refl _ _) (shown_any _)).mono ?_; rintro e w2 ⟨rfl, hb2⟩; have hc2 := (bcell hb2).1; have hf2 := (bcell hb2).2))
    go_ret
    exact ⟨rfl, by (first | ((repeat (first | exact Below.refl _ _ | assumption | refine Below.drew ?_ | refine Below.setCell ?_ (by simp; try omega) _ | refine Below.alloc ?_ (by simp; try omega) _)); done) | exact Below.trans (by (repeat (first | exact Below.refl _ _ | assumption | refine Below.drew ?_ | refine Below.setCell ?_ (by simp; try omega) _ | refine Below.alloc ?_ (by simp; try omega) _))) (hb2.mono (by simp; try omega)))⟩
  · have Hn := Lib.hid hn
    simp only [List.all_cons, List.all_nil, Bool.and_true, Bool.and_eq_true] at hn
    obtain ⟨ha, hb⟩ := hn
    obtain ⟨a1, a2, a3, a4⟩ := nearP_true ha
    obtain ⟨b1, b2, b3, b4⟩ := nearP_true hb
    clear ha hb
    have hz : ((x == 0) = true ∧ (y == 0) = true) ∨ (((x == 0) = false ∨ ((x == 0) = true ∧ (y == 0) = false)) ∧ (x ≠ 0 ∨ y ≠ 0)) := by
      by_cases hx : x = 0
      · by_cases hy : y = 0
        · exact Or.inl ⟨by simpa using hx, by simpa using hy⟩
        · exact Or.inr ⟨Or.inr ⟨by simpa using hx, by simpa using hy⟩, Or.inr hy⟩
      · exact Or.inr ⟨Or.inl (by simpa using hx), Or.inl hx⟩
    rcases hz with ⟨z1, z2⟩ | ⟨hz, h0⟩
    · go_enter Try.func6, Try.ntmps6
      go_wp2_with (first | (go_at_call 10; refine (calls_from (by first | assumption | exact Below.refl _ _) (lnear_any _ 2 2 [(x, y), (x', y')] _ (by omega) (by exact RPts.new (by simp) (fun k p hk => by match k, hk with | 0, hk => (simp at hk; subst hk; simp [go_sem]) | 1, hk => (simp at hk; subst hk; simp [go_sem]))))).mono ?_; rw [Hn.out]; rintro e w2 ⟨rfl, hb2⟩; have hc2 := (bcell hb2).1) | (go_at_call 11; refine (calls_from (by first | assumption | exact Below.refl _ _) (shown_any _)).mono ?_; rintro e w2 ⟨rfl, hb2⟩; have hc2 := (bcell hb2).1; have hf2 := (bcell hb2).2))
      go_ret
      exact ⟨rfl, by (first | ((repeat (first | exact Below.refl _ _ | assumption | refine Below.drew ?_ | refine Below.setCell ?_ (by simp; try omega) _ | refine Below.alloc ?_ (by simp; try omega) _)); done) | exact Below.trans (by (repeat (first | exact Below.refl _ _ | assumption | refine Below.drew ?_ | refine Below.setCell ?_ (by simp; try omega) _ | refine Below.alloc ?_ (by simp; try omega) _))) (hb2.mono (by simp; try omega)))⟩
    · obtain ⟨n, hn1, hn2, hnl⟩ : ∃ n : Int, 1 ≤ n ∧ n ≤ 70 ∧ 1 + l % 70 = n := ⟨1 + l % 70, by omega, by omega, rfl⟩
      have e1 : miterB x y x y n = true := miterB_straight hn1
      have e2 : miterB x y (-x) (-y) n = false := miterB_back hn1 h0
      have e3 : miterB x y x' y' 0 = false := miterB_none (by omega)
      have e4 : miterB x y x' y' (-n) = false := miterB_none (by omega)
      have e5 : miterB x y x' y' n = false ∨ (miterB x y x' y' n = true ∧ decide (-(x * x' + y * y') ≤ x * x + y * y) = false) ∨
          (miterB x y x' y' n = true ∧ decide (-(x * x' + y * y') ≤ x * x + y * y) = true ∧ miterB x y x' y' (n + 1) = true) := by
        cases hm : miterB x y x' y' n
        · exact Or.inl rfl
        · by_cases hd : -(x * x' + y * y') ≤ x * x + y * y
          · exact Or.inr (Or.inr ⟨rfl, decide_eq_true hd, miterB_more hn1 hd hm⟩)
          · exact Or.inr (Or.inl ⟨rfl, decide_eq_false hd⟩)
      obtain ⟨p1, p2⟩ := prod_bd a1 a2 a1 a2
      obtain ⟨p3, p4⟩ := prod_bd a3 a4 a3 a4
      obtain ⟨p5, p6⟩ := prod_bd a1 a2 b1 b2
      obtain ⟨p7, p8⟩ := prod_bd a3 a4 b3 b4
      clear h0
      have c1 := fun W => miter_any x y x' y' n W (by omega) (by omega) (by omega) (by omega) (by omega) (by omega) (by omega) (by omega) (by omega) (by omega)
      obtain ⟨m, hm⟩ : ∃ m : Int, n + 1 = m := ⟨_, rfl⟩
      obtain ⟨k, hk⟩ : ∃ k : Int, -n = k := ⟨_, rfl⟩
      rw [hm] at e5
      rw [hk] at e4
      have c2 := fun W => miter_any x y x' y' m W (by omega) (by omega) (by omega) (by omega) (by omega) (by omega) (by omega) (by omega) (by omega) (by omega)
      rcases hz with z | ⟨z, z'⟩ <;> rcases e5 with e5 | ⟨e5, e6⟩ | ⟨e5, e6, e7⟩
      all_goals
        simp only [e5] at c1
        try simp only [e7] at c2
        go_enter Try.func6, Try.ntmps6
        go_wp2_with (first | (go_at_call 10; refine (calls_from (by first | assumption | exact Below.refl _ _) (lnear_any _ 2 2 [(x, y), (x', y')] _ (by omega) (by exact RPts.new (by simp) (fun k p hk => by match k, hk with | 0, hk => (simp at hk; subst hk; simp [go_sem]) | 1, hk => (simp at hk; subst hk; simp [go_sem]))))).mono ?_; rw [Hn.out]; rintro e w2 ⟨rfl, hb2⟩; have hc2 := (bcell hb2).1) | (go_at_call 11; refine (calls_from (by first | assumption | exact Below.refl _ _) (shown_any _)).mono ?_; rintro e w2 ⟨rfl, hb2⟩; have hc2 := (bcell hb2).1; have hf2 := (bcell hb2).2))
        refine Reg.wp_region_all (by first | exact hb2 | exact Below.refl _ _) (by kernel_rfl) (by kernel_rfl) ?_
        repeat (go_big_quiet_step ((first | (go_at_call 18; with_reducible exact Reg.calls_aft (c1 _)) | (go_at_call 18; with_reducible exact Reg.calls_aft (c2 _)) | (go_at_call 16; exact Reg.calls_aft (r4dot_any _ _ _ _ _ (by omega) (by omega) (by omega) (by omega) (by omega) (by omega) (by omega) (by omega))))))
        refine wpQuiet_nil ?_
        intro xs hxs
        have hbx := Reg.class_below hxs
        clear hxs
        obtain ⟨hc, hf⟩ := bcell hbx
        go_wp2_with (go_at_call 18; refine (calls_from (by first | assumption | exact Below.refl _ _) (miter_any _ _ _ _ _ _ (by omega) (by omega) (by omega) (by omega) (by omega) (by omega) (by omega) (by omega) (by omega) (by omega))).mono ?_; rintro e w2 ⟨rfl, hb2⟩; have hc2 := (bcell hb2).1; have hf2 := (bcell hb2).2)
        go_ret
        exact ⟨rfl, by (first | ((repeat (first | exact Below.refl _ _ | assumption | refine Below.drew ?_ | refine Below.setCell ?_ (by simp; try omega) _ | refine Below.alloc ?_ (by simp; try omega) _)); done) | exact Below.trans (by (repeat (first | exact Below.refl _ _ | assumption | refine Below.drew ?_ | refine Below.setCell ?_ (by simp; try omega) _ | refine Below.alloc ?_ (by simp; try omega) _))) (hb2.mono (by simp; try omega)))⟩

namespace lmiter
open Go.ChangeShapes Go.WideShapes Go.ChangeAt

theorem contract {H : Type} (enc : TypeId × Value → H) (W : World) (base : Nat) (args : Array Value) (ds : List (DataW H)) (ps : List MemPlace)
    (hval : ∀ (j : Nat) t v, Try.f6.params[j]? = some t → args[j]? = some v → Value.okWide Try.checked.prog W .any base t v)
    (hA : DataW.TrodAll enc Try.checked.prog W 0 (fun _ => true) true Try.f6.params.toList args.toList ds ps) (hlt : ∀ x ∈ ps, x.block < W.heap.size) :
    Calls Try.checked.prog 6 args W fun e W' => e = .returned (.bool true) ∧ Below W.heap.size W W' := by
  rw [Try.params6] at hA hval
  obtain ⟨v0, v1, v2, d0, d1, d2, p0, p1, p2, rfl, rfl, rfl, h0, h1, h2⟩ := trodAll_three hA
  obtain ⟨ax, ay, rfl, _, _⟩ := open_pt (hval 0 _ _ rfl rfl) h0
  obtain ⟨bx, py, rfl, _, _⟩ := open_pt (hval 1 _ _ rfl rfl) h1
  obtain ⟨l, rfl, _, _, hw⟩ := Go.ChangeShapes.open_int Try.underlying5 (hval 2 _ _ rfl rfl) h2
  have hb : 0 ≤ l ∧ l ≤ 255 := by simpa [Lit.wf, IntKind.min, IntKind.max, IntKind.signed, IntKind.bits] using hw
  exact lmiter_any ax ay bx py l W hb.1 hb.2

set_option maxRecDepth 100000 in
theorem lifted (os : Os) (started : os.Started) (H : Type) (enc : TypeId × Value → H) :
    ReturnsInHanded {} Try.checked os 6 .any (Rows.signMiterSpec.pre6 enc Try.prog Try.f6 [] false) (Rows.signMiterSpec.post enc Try.prog Try.f6 false true false false) :=
  law_lift (bT := 4) started (by kernel_rfl) Try.func6 rfl (by kernel_rfl) (by kernel_rfl) (by kernel_rfl) (fun ds h => by match ds, h with | [_, _, _], _ => rfl)
    (ChangeSpec.witness6 (enc := enc) (C := Try.checked) false ⟨#[], #[.agg #[.int .i64 0, .int .i64 0], .agg #[.int .i64 0, .int .i64 0], .int .u8 0], []⟩ 8 (by kernel_rfl) (by kernel_rfl) (by kernel_rfl) (by kernel_rfl))
    (fun W base args ds ps hval hA hlt => contract enc W base args ds ps hval hA hlt)

theorem holds : Rows.SignMiterSaid :=
  OpenClaim.holds_of_wide 6 Try.f6 rfl rfl rfl rfl rfl rfl rfl ⟨rfl, rfl, rfl, rfl, rfl⟩ rfl rfl rfl rfl rfl (by kernel_rfl) Try.func6 (by kernel_rfl)
    (of_decide_eq_true (by kernel_rfl)) (by unfold Func.isWrapper; first | (rw [if_pos (by decide +kernel)]; kernel_rfl) | (rw [if_neg (by decide +kernel)]; exact ⟨rfl, rfl⟩))
    (fun os started H enc _ => lifted os started H enc)
end lmiter
end Go.Proofs.Ytklnedcakgfbmaa
