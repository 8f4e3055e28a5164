/- SignOrder: of two vectors that point elsewhere one is before the other one; none is before itself; the order is one of all. -/
import Derived.Test.YtklnedcakgfbmaaLaweb
import Derived.Test.YtklnedcakgfbmaaOpen
namespace Go.Proofs.Ytklnedcakgfbmaa
open Go.RowKit

/-- A vector that is none, cell by cell. -/
theorem none_cases (x y : Int) : ((x == 0) = true ∧ (y == 0) = true) ∨ ((x == 0) = false ∧ (x ≠ 0 ∨ y ≠ 0)) ∨ ((x == 0) = true ∧ (y == 0) = false ∧ (x ≠ 0 ∨ y ≠ 0)) := by
  by_cases hx : x = 0
  · by_cases hy : y = 0
    · exact Or.inl ⟨by simpa using hx, by simpa using hy⟩
    · exact Or.inr (Or.inr ⟨by simpa using hx, by simpa using hy, Or.inr hy⟩)
  · exact Or.inr (Or.inl ⟨by simpa using hx, Or.inl hx⟩)

def sameB (ux uy vx vy : Int) : Bool := (ux * vy - uy * vx == 0) && decide (0 < ux * vx + uy * vy)

theorem order_cases (s p q r t : Bool) (k1 : s = true → p = false ∧ q = false) (k2 : s = false → q = !p) (k3 : p = true → r = true → t = true) :
    (s = true ∧ p = false ∧ q = false) ∨ (s = false ∧ p = false ∧ q = true) ∨ (s = false ∧ p = true ∧ q = false ∧ r = false) ∨ (s = false ∧ p = true ∧ q = false ∧ r = true ∧ t = true) := by
  revert s p q r t; decide

set_option maxHeartbeats 8000000 in
theorem order_any (ux uy vx vy wx wy : Int) (w : World) :
    Calls Try.prog 5 #[.agg #[.int .i64 ux, .int .i64 uy], .agg #[.int .i64 vx, .int .i64 vy], .agg #[.int .i64 wx, .int .i64 wy]] w fun e w' => e = .returned (.bool true) ∧ Below w.heap.size w w' := by
  cases hn : [(ux, uy), (vx, vy), (wx, wy)].all fun q => nearP q.1 q.2
  · have Hn := Lib.hid hn
    clear hn
    go_enter Try.func5, Try.ntmps5
    go_wp2_with (first | (go_at_call 10; refine (calls_from (by first | assumption | exact Below.refl _ _) (lnear_any _ 3 3 [(ux, uy), (vx, vy), (wx, wy)] _ (by omega) (by exact RPts.new (by simp) (fun k p hk => by match k, hk with | 0, hk => (simp at hk; subst hk; simp [go_sem]) | 1, hk => (simp at hk; subst hk; simp [go_sem]) | 2, hk => (simp at hk; subst hk; simp [go_sem]))))).mono ?_; rw [Hn.out]; rintro e w2 ⟨rfl, hb2⟩; have hc2 := (bcell hb2).1) | (go_at_call 11; refine (calls_from (by first | assumption | exact Below.refl _ _) (shown_any _)).mono ?_; rintro e w2 ⟨rfl, hb2⟩; have hc2 := (bcell hb2).1; have hf2 := (bcell hb2).2))
    go_ret
    exact ⟨rfl, by (first | ((repeat (first | exact Below.refl _ _ | assumption | refine Below.drew ?_ | refine Below.setCell ?_ (by simp; try omega) _ | refine Below.alloc ?_ (by simp; try omega) _)); done) | exact Below.trans (by (repeat (first | exact Below.refl _ _ | assumption | refine Below.drew ?_ | refine Below.setCell ?_ (by simp; try omega) _ | refine Below.alloc ?_ (by simp; try omega) _))) (hb2.mono (by simp; try omega)))⟩
  · have Hn := Lib.hid hn
    simp only [List.all_cons, List.all_nil, Bool.and_true, Bool.and_eq_true] at hn
    obtain ⟨ha, hb, hc⟩ := hn
    obtain ⟨a1, a2, a3, a4⟩ := nearP_true ha
    obtain ⟨b1, b2, b3, b4⟩ := nearP_true hb
    obtain ⟨c1, c2, c3, c4⟩ := nearP_true hc
    clear ha hb hc
    rcases none_cases ux uy with ⟨u1, u2⟩ | hu
    · go_enter Try.func5, Try.ntmps5
      go_wp2_with (first | (go_at_call 10; refine (calls_from (by first | assumption | exact Below.refl _ _) (lnear_any _ 3 3 [(ux, uy), (vx, vy), (wx, wy)] _ (by omega) (by exact RPts.new (by simp) (fun k p hk => by match k, hk with | 0, hk => (simp at hk; subst hk; simp [go_sem]) | 1, hk => (simp at hk; subst hk; simp [go_sem]) | 2, hk => (simp at hk; subst hk; simp [go_sem]))))).mono ?_; rw [Hn.out]; rintro e w2 ⟨rfl, hb2⟩; have hc2 := (bcell hb2).1) | (go_at_call 11; refine (calls_from (by first | assumption | exact Below.refl _ _) (shown_any _)).mono ?_; rintro e w2 ⟨rfl, hb2⟩; have hc2 := (bcell hb2).1; have hf2 := (bcell hb2).2))
      go_ret
      exact ⟨rfl, by (first | ((repeat (first | exact Below.refl _ _ | assumption | refine Below.drew ?_ | refine Below.setCell ?_ (by simp; try omega) _ | refine Below.alloc ?_ (by simp; try omega) _)); done) | exact Below.trans (by (repeat (first | exact Below.refl _ _ | assumption | refine Below.drew ?_ | refine Below.setCell ?_ (by simp; try omega) _ | refine Below.alloc ?_ (by simp; try omega) _))) (hb2.mono (by simp; try omega)))⟩
    have hu' : ux ≠ 0 ∨ uy ≠ 0 := hu.elim (·.2) (·.2.2)
    rcases none_cases vx vy with ⟨v1, v2⟩ | hv
    · clear hu'
      rcases hu with ⟨u1, _⟩ | ⟨u1, u2, _⟩
      all_goals
        go_enter Try.func5, Try.ntmps5
        go_wp2_with (first | (go_at_call 10; refine (calls_from (by first | assumption | exact Below.refl _ _) (lnear_any _ 3 3 [(ux, uy), (vx, vy), (wx, wy)] _ (by omega) (by exact RPts.new (by simp) (fun k p hk => by match k, hk with | 0, hk => (simp at hk; subst hk; simp [go_sem]) | 1, hk => (simp at hk; subst hk; simp [go_sem]) | 2, hk => (simp at hk; subst hk; simp [go_sem]))))).mono ?_; rw [Hn.out]; rintro e w2 ⟨rfl, hb2⟩; have hc2 := (bcell hb2).1) | (go_at_call 11; refine (calls_from (by first | assumption | exact Below.refl _ _) (shown_any _)).mono ?_; rintro e w2 ⟨rfl, hb2⟩; have hc2 := (bcell hb2).1; have hf2 := (bcell hb2).2))
        go_ret
        exact ⟨rfl, by (first | ((repeat (first | exact Below.refl _ _ | assumption | refine Below.drew ?_ | refine Below.setCell ?_ (by simp; try omega) _ | refine Below.alloc ?_ (by simp; try omega) _)); done) | exact Below.trans (by (repeat (first | exact Below.refl _ _ | assumption | refine Below.drew ?_ | refine Below.setCell ?_ (by simp; try omega) _ | refine Below.alloc ?_ (by simp; try omega) _))) (hb2.mono (by simp; try omega)))⟩
    have hv' : vx ≠ 0 ∨ vy ≠ 0 := hv.elim (·.2) (·.2.2)
    rcases none_cases wx wy with ⟨w1, w2⟩ | hw
    · clear hu' hv'
      rcases hu with ⟨u1, _⟩ | ⟨u1, u2, _⟩ <;> rcases hv with ⟨v1, _⟩ | ⟨v1, v2, _⟩
      all_goals
        go_enter Try.func5, Try.ntmps5
        go_wp2_with (first | (go_at_call 10; refine (calls_from (by first | assumption | exact Below.refl _ _) (lnear_any _ 3 3 [(ux, uy), (vx, vy), (wx, wy)] _ (by omega) (by exact RPts.new (by simp) (fun k p hk => by match k, hk with | 0, hk => (simp at hk; subst hk; simp [go_sem]) | 1, hk => (simp at hk; subst hk; simp [go_sem]) | 2, hk => (simp at hk; subst hk; simp [go_sem]))))).mono ?_; rw [Hn.out]; rintro e w2 ⟨rfl, hb2⟩; have hc2 := (bcell hb2).1) | (go_at_call 11; refine (calls_from (by first | assumption | exact Below.refl _ _) (shown_any _)).mono ?_; rintro e w2 ⟨rfl, hb2⟩; have hc2 := (bcell hb2).1; have hf2 := (bcell hb2).2))
        go_ret
        exact ⟨rfl, by (first | ((repeat (first | exact Below.refl _ _ | assumption | refine Below.drew ?_ | refine Below.setCell ?_ (by simp; try omega) _ | refine Below.alloc ?_ (by simp; try omega) _)); done) | exact Below.trans (by (repeat (first | exact Below.refl _ _ | assumption | refine Below.drew ?_ | refine Below.setCell ?_ (by simp; try omega) _ | refine Below.alloc ?_ (by simp; try omega) _))) (hb2.mono (by simp; try omega)))⟩
    have hw' : wx ≠ 0 ∨ wy ≠ 0 := hw.elim (·.2) (·.2.2)
    have hself := beforeB_self ux uy
    have hsame : sameB ux uy vx vy = true → beforeB ux uy vx vy = false ∧ beforeB vx vy ux uy = false := fun h => by
      simp only [sameB, Bool.and_eq_true, beq_iff_eq, decide_eq_true_eq] at h
      exact beforeB_same hu' hv' h.1 h.2
    have hother : sameB ux uy vx vy = false → beforeB vx vy ux uy = !beforeB ux uy vx vy := fun h => beforeB_other hu' hv' (fun k => by
      rw [sameB, k.1, decide_eq_true k.2] at h
      cases h)
    have htrans : beforeB ux uy vx vy = true → beforeB vx vy wx wy = true → beforeB ux uy wx wy = true := beforeB_trans hu' hv' hw'
    have hsc : (ux * vy - uy * vx == 0) = false ∧ sameB ux uy vx vy = false ∨ (ux * vy - uy * vx == 0) = true ∧ sameB ux uy vx vy = decide (0 < ux * vx + uy * vy) := by
      unfold sameB
      cases (ux * vy - uy * vx == 0)
      · left; exact ⟨rfl, rfl⟩
      · right; exact ⟨rfl, rfl⟩
    clear hu' hv' hw'
    -- what the walk asks, as truths
    have key : ∃ s p q r t : Bool, beforeB ux uy vx vy = p ∧ beforeB vx vy ux uy = q ∧ beforeB vx vy wx wy = r ∧ beforeB ux uy wx wy = t ∧ sameB ux uy vx vy = s ∧ (s = true → p = false ∧ q = false) ∧ (s = false → q = !p) ∧ (p = true → r = true → t = true) :=
      ⟨_, _, _, _, _, rfl, rfl, rfl, rfl, rfl, hsame, hother, htrans⟩
    clear hsame hother htrans
    obtain ⟨s, p, q, r, t, hp, hq, hr, ht, hs, k1, k2, k3⟩ := key
    rw [hs] at hsc
    clear hs
    have hfin : (ux * vy - uy * vx == 0) = false ∧ s = false ∨ (ux * vy - uy * vx == 0) = true ∧ decide (0 < ux * vx + uy * vy) = s := by
      rcases hsc with ⟨h1, h2⟩ | ⟨h1, h2⟩
      · exact Or.inl ⟨h1, h2⟩
      · exact Or.inr ⟨h1, h2.symm⟩
    clear hsc
    have hcs := order_cases s p q r t k1 k2 k3
    clear k1 k2 k3
    have b0 := fun W => before_any ux uy ux uy W (by omega) (by omega) (by omega) (by omega) (by omega) (by omega) (by omega) (by omega)
    simp only [hself] at b0
    have b1 := fun W => before_any ux uy vx vy W (by omega) (by omega) (by omega) (by omega) (by omega) (by omega) (by omega) (by omega)
    simp only [hp] at b1
    have b2 := fun W => before_any vx vy ux uy W (by omega) (by omega) (by omega) (by omega) (by omega) (by omega) (by omega) (by omega)
    simp only [hq] at b2
    have b3 := fun W => before_any vx vy wx wy W (by omega) (by omega) (by omega) (by omega) (by omega) (by omega) (by omega) (by omega)
    simp only [hr] at b3
    have b4 := fun W => before_any ux uy wx wy W (by omega) (by omega) (by omega) (by omega) (by omega) (by omega) (by omega) (by omega)
    simp only [ht] at b4
    rcases hu with ⟨u1, _⟩ | ⟨u1, u2, _⟩ <;> rcases hv with ⟨v1, _⟩ | ⟨v1, v2, _⟩ <;> rcases hw with ⟨w1, _⟩ | ⟨w1, w2, _⟩ <;> rcases hfin with ⟨f1, f2⟩ | ⟨f1, f2⟩ <;>
      rcases hcs with ⟨rfl, rfl, rfl⟩ | ⟨rfl, rfl, rfl⟩ | ⟨rfl, rfl, rfl, rfl⟩ | ⟨rfl, rfl, rfl, rfl, rfl⟩
    all_goals first
      | (cases f2; done)
      | skip
    all_goals
      go_enter Try.func5, Try.ntmps5
      go_wp2_with (first | (go_at_call 10; refine (calls_from (by first | assumption | exact Below.refl _ _) (lnear_any _ 3 3 [(ux, uy), (vx, vy), (wx, wy)] _ (by omega) (by exact RPts.new (by simp) (fun k p hk => by match k, hk with | 0, hk => (simp at hk; subst hk; simp [go_sem]) | 1, hk => (simp at hk; subst hk; simp [go_sem]) | 2, hk => (simp at hk; subst hk; simp [go_sem]))))).mono ?_; rw [Hn.out]; rintro e w2 ⟨rfl, hb2⟩; have hc2 := (bcell hb2).1) | (go_at_call 11; refine (calls_from (by first | assumption | exact Below.refl _ _) (shown_any _)).mono ?_; rintro e w2 ⟨rfl, hb2⟩; have hc2 := (bcell hb2).1; have hf2 := (bcell hb2).2) | (go_at_call 15; refine (calls_from (by first | assumption | exact Below.refl _ _) (r4cross_any _ _ _ _ _ (by omega) (by omega) (by omega) (by omega) (by omega) (by omega) (by omega) (by omega))).mono ?_; rintro e w2 ⟨rfl, hb2⟩; have hc2 := (bcell hb2).1; have hf2 := (bcell hb2).2) | (go_at_call 16; refine (calls_from (by first | assumption | exact Below.refl _ _) (r4dot_any _ _ _ _ _ (by omega) (by omega) (by omega) (by omega) (by omega) (by omega) (by omega) (by omega))).mono ?_; rintro e w2 ⟨rfl, hb2⟩; have hc2 := (bcell hb2).1; have hf2 := (bcell hb2).2))
      refine Reg.wp_region_all (by first | exact hb2 | exact Below.refl _ _) (by kernel_rfl) (by kernel_rfl) ?_
      repeat (go_big_quiet_step ((first | (go_at_call 17; with_reducible exact Reg.calls_aft (b0 _)) | (go_at_call 17; with_reducible exact Reg.calls_aft (b1 _)) | (go_at_call 17; with_reducible exact Reg.calls_aft (b2 _)) | (go_at_call 17; with_reducible exact Reg.calls_aft (b3 _)) | (go_at_call 17; with_reducible exact Reg.calls_aft (b4 _)))))
      refine wpQuiet_nil ?_
      intro xs hxs
      have hbx := Reg.class_below hxs
      clear hxs
      obtain ⟨hc, hf⟩ := bcell hbx
      go_wp2_with (first | (go_at_call 17; with_reducible refine (calls_from (by first | assumption | exact Below.refl _ _) (b0 _)).mono ?_; rintro e w2 ⟨rfl, hb2⟩; have hc2 := (bcell hb2).1; have hf2 := (bcell hb2).2) | (go_at_call 17; with_reducible refine (calls_from (by first | assumption | exact Below.refl _ _) (b1 _)).mono ?_; rintro e w2 ⟨rfl, hb2⟩; have hc2 := (bcell hb2).1; have hf2 := (bcell hb2).2) | (go_at_call 17; with_reducible refine (calls_from (by first | assumption | exact Below.refl _ _) (b2 _)).mono ?_; rintro e w2 ⟨rfl, hb2⟩; have hc2 := (bcell hb2).1; have hf2 := (bcell hb2).2) | (go_at_call 17; with_reducible refine (calls_from (by first | assumption | exact Below.refl _ _) (b3 _)).mono ?_; rintro e w2 ⟨rfl, hb2⟩; have hc2 := (bcell hb2).1; have hf2 := (bcell hb2).2) | (go_at_call 17; with_reducible refine (calls_from (by first | assumption | exact Below.refl _ _) (b4 _)).mono ?_; rintro e w2 ⟨rfl, hb2⟩; have hc2 := (bcell hb2).1; have hf2 := (bcell hb2).2))
      go_ret
      exact ⟨rfl, by (first | ((repeat (first | exact Below.refl _ _ | assumption | refine Below.drew ?_ | refine Below.setCell ?_ (by simp; try omega) _ | refine Below.alloc ?_ (by simp; try omega) _)); done) | exact Below.trans (by (repeat (first | exact Below.refl _ _ | assumption | refine Below.drew ?_ | refine Below.setCell ?_ (by simp; try omega) _ | refine Below.alloc ?_ (by simp; try omega) _))) (hb2.mono (by simp; try omega)))⟩

namespace order
open Go.ChangeShapes Go.WideShapes Go.ChangeAt

theorem contract {H : Type} (enc : TypeId × Value → H) (W : World) (base : Nat) (args : Array Value) (ds : List (DataW H)) (ps : List MemPlace)
    (hval : ∀ (j : Nat) t v, Try.f5.params[j]? = some t → args[j]? = some v → Value.okWide Try.checked.prog W .any base t v)
    (hA : DataW.TrodAll enc Try.checked.prog W 0 (fun _ => true) true Try.f5.params.toList args.toList ds ps) (hlt : ∀ x ∈ ps, x.block < W.heap.size) :
    Calls Try.checked.prog 5 args W fun e W' => e = .returned (.bool true) ∧ Below W.heap.size W W' := by
  rw [Try.params5] at hA hval
  obtain ⟨v0, v1, v2, d0, d1, d2, p0, p1, p2, rfl, rfl, rfl, h0, h1, h2⟩ := trodAll_three hA
  obtain ⟨ax, ay, rfl, _, _⟩ := open_pt (hval 0 _ _ rfl rfl) h0
  obtain ⟨bx, py, rfl, _, _⟩ := open_pt (hval 1 _ _ rfl rfl) h1
  obtain ⟨cx, cy, rfl, _, _⟩ := open_pt (hval 2 _ _ rfl rfl) h2
  exact order_any ax ay bx py cx cy W

set_option maxRecDepth 100000 in
theorem lifted (os : Os) (started : os.Started) (H : Type) (enc : TypeId × Value → H) :
    ReturnsInHanded {} Try.checked os 5 .any (Rows.signOrderSpec.pre6 enc Try.prog Try.f5 [] false) (Rows.signOrderSpec.post enc Try.prog Try.f5 false true false false) :=
  law_lift (bT := 4) started (by kernel_rfl) Try.func5 rfl (by kernel_rfl) (by kernel_rfl) (by kernel_rfl) (fun ds h => by match ds, h with | [_, _, _], _ => rfl)
    (ChangeSpec.witness6 (enc := enc) (C := Try.checked) false ⟨#[], #[.agg #[.int .i64 0, .int .i64 0], .agg #[.int .i64 0, .int .i64 0], .agg #[.int .i64 0, .int .i64 0]], []⟩ 8 (by kernel_rfl) (by kernel_rfl) (by kernel_rfl) (by kernel_rfl))
    (fun W base args ds ps hval hA hlt => contract enc W base args ds ps hval hA hlt)

theorem holds : Rows.SignOrderSaid :=
  OpenClaim.holds_of_wide 5 Try.f5 rfl rfl rfl rfl rfl rfl rfl ⟨rfl, rfl, rfl, rfl, rfl⟩ rfl rfl rfl rfl rfl (by kernel_rfl) Try.func5 (by kernel_rfl)
    (of_decide_eq_true (by kernel_rfl)) (by unfold Func.isWrapper; first | (rw [if_pos (by decide +kernel)]; kernel_rfl) | (rw [if_neg (by decide +kernel)]; exact ⟨rfl, rfl⟩))
    (fun os started H enc _ => lifted os started H enc)
end order
end Go.Proofs.Ytklnedcakgfbmaa
