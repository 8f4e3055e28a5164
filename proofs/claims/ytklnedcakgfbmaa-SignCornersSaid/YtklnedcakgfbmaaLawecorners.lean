/- SignCorners: a triangle has its corners, and what is between any two of them, in whatever order they are told. -/
import Derived.Test.YtklnedcakgfbmaaLaweb
import Derived.Test.YtklnedcakgfbmaaOpen
namespace Go.Proofs.Ytklnedcakgfbmaa
open Go.RowKit

set_option maxHeartbeats 2000000 in
theorem corners_any (ax ay bx py cx cy qx qy : Int) (w : World) :
    Calls Try.prog 4 #[.agg #[.int .i64 ax, .int .i64 ay], .agg #[.int .i64 bx, .int .i64 py], .agg #[.int .i64 cx, .int .i64 cy], .agg #[.int .i64 qx, .int .i64 qy]] w fun e w' => e = .returned (.bool true) ∧ Below w.heap.size w w' := by
  cases hn : [(ax, ay), (bx, py), (cx, cy), (qx, qy)].all fun q => nearP q.1 q.2
  · have Hn := Lib.hid hn
    clear hn
    go_enter Try.func4, Try.ntmps4
    go_wp2_with (first | (go_at_call 10; refine (calls_from (by first | assumption | exact Below.refl _ _) (lnear_any _ 4 4 [(ax, ay), (bx, py), (cx, cy), (qx, qy)] _ (by omega) (by exact RPts.new (by simp) (fun k p hk => by match k, hk with | 0, hk => (simp at hk; subst hk; simp [go_sem]) | 1, hk => (simp at hk; subst hk; simp [go_sem]) | 2, hk => (simp at hk; subst hk; simp [go_sem]) | 3, hk => (simp at hk; subst hk; simp [go_sem]))))).mono ?_; rw [Hn.out]; rintro e w2 ⟨rfl, hb2⟩; have hc2 := (bcell hb2).1) | (go_at_call 11; refine (calls_from (by first | assumption | exact Below.refl _ _) (shown_any _)).mono ?_; rintro e w2 ⟨rfl, hb2⟩; have hc2 := (bcell hb2).1; have hf2 := (bcell hb2).2))
    go_ret
    exact ⟨rfl, by (first | ((repeat (first | exact Below.refl _ _ | assumption | refine Below.drew ?_ | refine Below.setCell ?_ (by simp; try omega) _ | refine Below.alloc ?_ (by simp; try omega) _)); done) | exact Below.trans (by (repeat (first | exact Below.refl _ _ | assumption | refine Below.drew ?_ | refine Below.setCell ?_ (by simp; try omega) _ | refine Below.alloc ?_ (by simp; try omega) _))) (hb2.mono (by simp; try omega)))⟩
  · have Hn := Lib.hid hn
    simp only [List.all_cons, List.all_nil, Bool.and_true, Bool.and_eq_true] at hn
    obtain ⟨ha, hb, hc, hd⟩ := hn
    obtain ⟨a1, a2, a3, a4⟩ := nearP_true ha
    obtain ⟨b1, b2, b3, b4⟩ := nearP_true hb
    obtain ⟨c1, c2, c3, c4⟩ := nearP_true hc
    obtain ⟨d1, d2, d3, d4⟩ := nearP_true hd
    clear ha hb hc hd
    have e1 := withinB_turn ax ay bx py cx cy qx qy
    have e2 := withinB_flip ax ay bx py cx cy qx qy
    have e3 := betweenB_comm ax ay bx py qx qy
    have e4 := withinB_corner ax ay bx py cx cy
    have e5 := withinB_corner2 ax ay bx py cx cy
    have e6 := withinB_corner3 ax ay bx py cx cy
    cases hw : withinB ax ay bx py cx cy qx qy
    · obtain ⟨f1, f2, f3⟩ := within_any3 _ _ _ _ _ _ _ _ hw
      rw [hw] at e1 e2
      go_enter Try.func4, Try.ntmps4
      go_wp2_with (first | (go_at_call 10; refine (calls_from (by first | assumption | exact Below.refl _ _) (lnear_any _ 4 4 [(ax, ay), (bx, py), (cx, cy), (qx, qy)] _ (by omega) (by exact RPts.new (by simp) (fun k p hk => by match k, hk with | 0, hk => (simp at hk; subst hk; simp [go_sem]) | 1, hk => (simp at hk; subst hk; simp [go_sem]) | 2, hk => (simp at hk; subst hk; simp [go_sem]) | 3, hk => (simp at hk; subst hk; simp [go_sem]))))).mono ?_; rw [Hn.out]; rintro e w2 ⟨rfl, hb2⟩; have hc2 := (bcell hb2).1) | (go_at_call 11; refine (calls_from (by first | assumption | exact Below.refl _ _) (shown_any _)).mono ?_; rintro e w2 ⟨rfl, hb2⟩; have hc2 := (bcell hb2).1; have hf2 := (bcell hb2).2) | (go_at_call 13; refine (calls_from (by first | assumption | exact Below.refl _ _) (within_any _ _ _ _ _ _ _ _ _ (by omega) (by omega) (by omega) (by omega) (by omega) (by omega) (by omega) (by omega) (by omega) (by omega) (by omega) (by omega) (by omega) (by omega) (by omega) (by omega))).mono ?_; rintro e w2 ⟨rfl, hb2⟩; have hc2 := (bcell hb2).1; have hf2 := (bcell hb2).2) | (go_at_call 14; refine (calls_from (by first | assumption | exact Below.refl _ _) (between_any _ _ _ _ _ _ _ (by omega) (by omega) (by omega) (by omega) (by omega) (by omega) (by omega) (by omega) (by omega) (by omega) (by omega) (by omega))).mono ?_; rintro e w2 ⟨rfl, hb2⟩; have hc2 := (bcell hb2).1; have hf2 := (bcell hb2).2))
      refine Reg.wp_region_all (by first | exact hb2 | exact Below.refl _ _) (by kernel_rfl) (by kernel_rfl) ?_
      repeat (go_big_quiet_step ((first | (go_at_call 13; exact Reg.calls_aft (within_any _ _ _ _ _ _ _ _ _ (by omega) (by omega) (by omega) (by omega) (by omega) (by omega) (by omega) (by omega) (by omega) (by omega) (by omega) (by omega) (by omega) (by omega) (by omega) (by omega))) | (go_at_call 14; exact Reg.calls_aft (between_any _ _ _ _ _ _ _ (by omega) (by omega) (by omega) (by omega) (by omega) (by omega) (by omega) (by omega) (by omega) (by omega) (by omega) (by omega))))))
      refine wpQuiet_nil ?_
      intro xs hxs
      have hbx := Reg.class_below hxs
      clear hxs
      obtain ⟨hc, hf⟩ := bcell hbx
      go_wp2_with (first | (go_at_call 13; refine (calls_from (by first | assumption | exact Below.refl _ _) (within_any _ _ _ _ _ _ _ _ _ (by omega) (by omega) (by omega) (by omega) (by omega) (by omega) (by omega) (by omega) (by omega) (by omega) (by omega) (by omega) (by omega) (by omega) (by omega) (by omega))).mono ?_; rintro e w2 ⟨rfl, hb2⟩; have hc2 := (bcell hb2).1; have hf2 := (bcell hb2).2) | (go_at_call 14; refine (calls_from (by first | assumption | exact Below.refl _ _) (between_any _ _ _ _ _ _ _ (by omega) (by omega) (by omega) (by omega) (by omega) (by omega) (by omega) (by omega) (by omega) (by omega) (by omega) (by omega))).mono ?_; rintro e w2 ⟨rfl, hb2⟩; have hc2 := (bcell hb2).1; have hf2 := (bcell hb2).2))
      go_ret
      exact ⟨rfl, by (first | ((repeat (first | exact Below.refl _ _ | assumption | refine Below.drew ?_ | refine Below.setCell ?_ (by simp; try omega) _ | refine Below.alloc ?_ (by simp; try omega) _)); done) | exact Below.trans (by (repeat (first | exact Below.refl _ _ | assumption | refine Below.drew ?_ | refine Below.setCell ?_ (by simp; try omega) _ | refine Below.alloc ?_ (by simp; try omega) _))) (hb2.mono (by simp; try omega)))⟩
    · rw [hw] at e1 e2
      go_enter Try.func4, Try.ntmps4
      go_wp2_with (first | (go_at_call 10; refine (calls_from (by first | assumption | exact Below.refl _ _) (lnear_any _ 4 4 [(ax, ay), (bx, py), (cx, cy), (qx, qy)] _ (by omega) (by exact RPts.new (by simp) (fun k p hk => by match k, hk with | 0, hk => (simp at hk; subst hk; simp [go_sem]) | 1, hk => (simp at hk; subst hk; simp [go_sem]) | 2, hk => (simp at hk; subst hk; simp [go_sem]) | 3, hk => (simp at hk; subst hk; simp [go_sem]))))).mono ?_; rw [Hn.out]; rintro e w2 ⟨rfl, hb2⟩; have hc2 := (bcell hb2).1) | (go_at_call 11; refine (calls_from (by first | assumption | exact Below.refl _ _) (shown_any _)).mono ?_; rintro e w2 ⟨rfl, hb2⟩; have hc2 := (bcell hb2).1; have hf2 := (bcell hb2).2) | (go_at_call 13; refine (calls_from (by first | assumption | exact Below.refl _ _) (within_any _ _ _ _ _ _ _ _ _ (by omega) (by omega) (by omega) (by omega) (by omega) (by omega) (by omega) (by omega) (by omega) (by omega) (by omega) (by omega) (by omega) (by omega) (by omega) (by omega))).mono ?_; rintro e w2 ⟨rfl, hb2⟩; have hc2 := (bcell hb2).1; have hf2 := (bcell hb2).2) | (go_at_call 14; refine (calls_from (by first | assumption | exact Below.refl _ _) (between_any _ _ _ _ _ _ _ (by omega) (by omega) (by omega) (by omega) (by omega) (by omega) (by omega) (by omega) (by omega) (by omega) (by omega) (by omega))).mono ?_; rintro e w2 ⟨rfl, hb2⟩; have hc2 := (bcell hb2).1; have hf2 := (bcell hb2).2))
      refine Reg.wp_region_all (by first | exact hb2 | exact Below.refl _ _) (by kernel_rfl) (by kernel_rfl) ?_
      repeat (go_big_quiet_step ((first | (go_at_call 13; exact Reg.calls_aft (within_any _ _ _ _ _ _ _ _ _ (by omega) (by omega) (by omega) (by omega) (by omega) (by omega) (by omega) (by omega) (by omega) (by omega) (by omega) (by omega) (by omega) (by omega) (by omega) (by omega))) | (go_at_call 14; exact Reg.calls_aft (between_any _ _ _ _ _ _ _ (by omega) (by omega) (by omega) (by omega) (by omega) (by omega) (by omega) (by omega) (by omega) (by omega) (by omega) (by omega))))))
      refine wpQuiet_nil ?_
      intro xs hxs
      have hbx := Reg.class_below hxs
      clear hxs
      obtain ⟨hc, hf⟩ := bcell hbx
      go_wp2_with (first | (go_at_call 13; refine (calls_from (by first | assumption | exact Below.refl _ _) (within_any _ _ _ _ _ _ _ _ _ (by omega) (by omega) (by omega) (by omega) (by omega) (by omega) (by omega) (by omega) (by omega) (by omega) (by omega) (by omega) (by omega) (by omega) (by omega) (by omega))).mono ?_; rintro e w2 ⟨rfl, hb2⟩; have hc2 := (bcell hb2).1; have hf2 := (bcell hb2).2) | (go_at_call 14; refine (calls_from (by first | assumption | exact Below.refl _ _) (between_any _ _ _ _ _ _ _ (by omega) (by omega) (by omega) (by omega) (by omega) (by omega) (by omega) (by omega) (by omega) (by omega) (by omega) (by omega))).mono ?_; rintro e w2 ⟨rfl, hb2⟩; have hc2 := (bcell hb2).1; have hf2 := (bcell hb2).2))
      go_ret
      exact ⟨rfl, by (first | ((repeat (first | exact Below.refl _ _ | assumption | refine Below.drew ?_ | refine Below.setCell ?_ (by simp; try omega) _ | refine Below.alloc ?_ (by simp; try omega) _)); done) | exact Below.trans (by (repeat (first | exact Below.refl _ _ | assumption | refine Below.drew ?_ | refine Below.setCell ?_ (by simp; try omega) _ | refine Below.alloc ?_ (by simp; try omega) _))) (hb2.mono (by simp; try omega)))⟩

namespace corners
open Go.ChangeShapes Go.WideShapes Go.ChangeAt

theorem contract {H : Type} (enc : TypeId × Value → H) (W : World) (base : Nat) (args : Array Value) (ds : List (DataW H)) (ps : List MemPlace)
    (hval : ∀ (j : Nat) t v, Try.f4.params[j]? = some t → args[j]? = some v → Value.okWide Try.checked.prog W .any base t v)
    (hA : DataW.TrodAll enc Try.checked.prog W 0 (fun _ => true) true Try.f4.params.toList args.toList ds ps) (hlt : ∀ x ∈ ps, x.block < W.heap.size) :
    Calls Try.checked.prog 4 args W fun e W' => e = .returned (.bool true) ∧ Below W.heap.size W W' := by
  rw [Try.params4] at hA hval
  obtain ⟨v0, v1, v2, v3, d0, d1, d2, d3, p0, p1, p2, p3, rfl, rfl, rfl, h0, h1, h2, h3⟩ := trodAll_four hA
  obtain ⟨ax, ay, rfl, _, _⟩ := open_pt (hval 0 _ _ rfl rfl) h0
  obtain ⟨bx, py, rfl, _, _⟩ := open_pt (hval 1 _ _ rfl rfl) h1
  obtain ⟨cx, cy, rfl, _, _⟩ := open_pt (hval 2 _ _ rfl rfl) h2
  obtain ⟨qx, qy, rfl, _, _⟩ := open_pt (hval 3 _ _ rfl rfl) h3
  exact corners_any ax ay bx py cx cy qx qy W

set_option maxRecDepth 100000 in
theorem lifted (os : Os) (started : os.Started) (H : Type) (enc : TypeId × Value → H) :
    ReturnsInHanded {} Try.checked os 4 .any (Rows.signCornersSpec.pre6 enc Try.prog Try.f4 [] false) (Rows.signCornersSpec.post enc Try.prog Try.f4 false true false false) :=
  law_lift (bT := 4) started (by kernel_rfl) Try.func4 rfl (by kernel_rfl) (by kernel_rfl) (by kernel_rfl) (fun ds h => by match ds, h with | [_, _, _, _], _ => rfl)
    (ChangeSpec.witness6 (enc := enc) (C := Try.checked) false ⟨#[], #[.agg #[.int .i64 0, .int .i64 0], .agg #[.int .i64 0, .int .i64 0], .agg #[.int .i64 0, .int .i64 0], .agg #[.int .i64 0, .int .i64 0]], []⟩ 8 (by kernel_rfl) (by kernel_rfl) (by kernel_rfl) (by kernel_rfl))
    (fun W base args ds ps hval hA hlt => contract enc W base args ds ps hval hA hlt)

theorem holds : Rows.SignCornersSaid :=
  OpenClaim.holds_of_wide 4 Try.f4 rfl rfl rfl rfl rfl rfl rfl ⟨rfl, rfl, rfl, rfl, rfl⟩ rfl rfl rfl rfl rfl (by kernel_rfl) Try.func4 (by kernel_rfl)
    (of_decide_eq_true (by kernel_rfl)) (by unfold Func.isWrapper; first | (rw [if_pos (by decide +kernel)]; kernel_rfl) | (rw [if_neg (by decide +kernel)]; exact ⟨rfl, rfl⟩))
    (fun os started H enc _ => lifted os started H enc)
end corners
end Go.Proofs.Ytklnedcakgfbmaa
