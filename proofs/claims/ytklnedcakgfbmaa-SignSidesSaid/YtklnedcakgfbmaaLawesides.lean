/- SignSides: a side is the same for its points in turn, and the other one with two of them changed; two points that are one have none. -/
import Derived.Test.YtklnedcakgfbmaaLawe
import Derived.Test.YtklnedcakgfbmaaOpen
namespace Go.Proofs.Ytklnedcakgfbmaa
open Go.RowKit

set_option maxHeartbeats 1000000 in
theorem sides_any (ax ay bx py cx cy : Int) (w : World) :
    Calls Try.prog 3 #[.agg #[.int .i64 ax, .int .i64 ay], .agg #[.int .i64 bx, .int .i64 py], .agg #[.int .i64 cx, .int .i64 cy]] w fun e w' => e = .returned (.bool true) ∧ Below w.heap.size w w' := by
  cases hn : [(ax, ay), (bx, py), (cx, cy)].all fun q => nearP q.1 q.2
  · have Hn := Lib.hid hn
    clear hn
    go_enter Try.func3, Try.ntmps3
    go_wp2_with (first | (go_at_call 10; refine (calls_from (Below.refl _ _) (lnear_any _ 3 3 [(ax, ay), (bx, py), (cx, cy)] _ (by omega) (by exact RPts.new (by simp) (fun k p hk => by match k, hk with | 0, hk => (simp at hk; subst hk; simp [go_sem]) | 1, hk => (simp at hk; subst hk; simp [go_sem]) | 2, hk => (simp at hk; subst hk; simp [go_sem]))))).mono ?_; rw [Hn.out]; rintro e w2 ⟨rfl, hb2⟩; have hc2 := (bcell hb2).1) | (go_at_call 11; refine (calls_from (by first | assumption | exact Below.refl _ _) (shown_any _)).mono ?_; rintro e w2 ⟨rfl, hb2⟩; have hc2 := (bcell hb2).1; have hf2 := (bcell hb2).2))
    go_ret
    exact ⟨rfl, by (first | ((repeat (first | exact Below.refl _ _ | assumption | refine Below.drew ?_ | refine Below.setCell ?_ (by simp; try omega) _ | refine Below.alloc ?_ (by simp; try omega) _)); done) | exact Below.trans (by (repeat (first | exact Below.refl _ _ | assumption | refine Below.drew ?_ | refine Below.setCell ?_ (by simp; try omega) _ | refine Below.alloc ?_ (by simp; try omega) _))) (hb2.mono (by simp; try omega)))⟩
  · have Hn := Lib.hid hn
    simp only [List.all_cons, List.all_nil, Bool.and_true, Bool.and_eq_true] at hn
    obtain ⟨ha, hb, hc⟩ := hn
    obtain ⟨a1, a2, a3, a4⟩ := nearP_true ha
    obtain ⟨b1, b2, b3, b4⟩ := nearP_true hb
    obtain ⟨c1, c2, c3, c4⟩ := nearP_true hc
    clear ha hb hc
    have e1 := sideS_turn ax ay bx py cx cy
    have e2 := sideS_turn2 ax ay bx py cx cy
    have e3 := sideS_swap ax ay bx py cx cy
    have e4 := sideS_swap2 ax ay bx py cx cy
    have e5 := sideS_same ax ay cx cy
    have e6 := sideS_back ax ay bx py
    obtain ⟨r1, r2⟩ := sideS_range ax ay bx py cx cy
    go_enter Try.func3, Try.ntmps3
    go_wp2_with (first | (go_at_call 10; refine (calls_from (Below.refl _ _) (lnear_any _ 3 3 [(ax, ay), (bx, py), (cx, cy)] _ (by omega) (by exact RPts.new (by simp) (fun k p hk => by match k, hk with | 0, hk => (simp at hk; subst hk; simp [go_sem]) | 1, hk => (simp at hk; subst hk; simp [go_sem]) | 2, hk => (simp at hk; subst hk; simp [go_sem]))))).mono ?_; rw [Hn.out]; rintro e w2 ⟨rfl, hb2⟩; have hc2 := (bcell hb2).1) | (go_at_call 11; refine (calls_from (by first | assumption | exact Below.refl _ _) (shown_any _)).mono ?_; rintro e w2 ⟨rfl, hb2⟩; have hc2 := (bcell hb2).1; have hf2 := (bcell hb2).2) | (go_at_call 12; refine (calls_from (by first | assumption | exact Below.refl _ _) (side_any _ _ _ _ _ _ _ (by omega) (by omega) (by omega) (by omega) (by omega) (by omega) (by omega) (by omega) (by omega) (by omega) (by omega) (by omega))).mono ?_; rintro e w2 ⟨rfl, hb2⟩; have hc2 := (bcell hb2).1; have hf2 := (bcell hb2).2))
    go_ret
    exact ⟨rfl, by (first | ((repeat (first | exact Below.refl _ _ | assumption | refine Below.drew ?_ | refine Below.setCell ?_ (by simp; try omega) _ | refine Below.alloc ?_ (by simp; try omega) _)); done) | exact Below.trans (by (repeat (first | exact Below.refl _ _ | assumption | refine Below.drew ?_ | refine Below.setCell ?_ (by simp; try omega) _ | refine Below.alloc ?_ (by simp; try omega) _))) (hb2.mono (by simp; try omega)))⟩

namespace sides
open Go.ChangeShapes Go.WideShapes Go.ChangeAt

theorem contract {H : Type} (enc : TypeId × Value → H) (W : World) (base : Nat) (args : Array Value) (ds : List (DataW H)) (ps : List MemPlace)
    (hval : ∀ (j : Nat) t v, Try.f3.params[j]? = some t → args[j]? = some v → Value.okWide Try.checked.prog W .any base t v)
    (hA : DataW.TrodAll enc Try.checked.prog W 0 (fun _ => true) true Try.f3.params.toList args.toList ds ps) (hlt : ∀ x ∈ ps, x.block < W.heap.size) :
    Calls Try.checked.prog 3 args W fun e W' => e = .returned (.bool true) ∧ Below W.heap.size W W' := by
  rw [Try.params3] at hA hval
  obtain ⟨v0, v1, v2, d0, d1, d2, p0, p1, p2, rfl, rfl, rfl, h0, h1, h2⟩ := trodAll_three hA
  obtain ⟨ax, ay, rfl, _, _⟩ := open_pt (hval 0 _ _ rfl rfl) h0
  obtain ⟨bx, py, rfl, _, _⟩ := open_pt (hval 1 _ _ rfl rfl) h1
  obtain ⟨cx, cy, rfl, _, _⟩ := open_pt (hval 2 _ _ rfl rfl) h2
  exact sides_any ax ay bx py cx cy W

set_option maxRecDepth 100000 in
theorem lifted (os : Os) (started : os.Started) (H : Type) (enc : TypeId × Value → H) :
    ReturnsInHanded {} Try.checked os 3 .any (Rows.signSidesSpec.pre6 enc Try.prog Try.f3 [] false) (Rows.signSidesSpec.post enc Try.prog Try.f3 false true false false) :=
  law_lift (bT := 4) started (by kernel_rfl) Try.func3 rfl (by kernel_rfl) (by kernel_rfl) (by kernel_rfl) (fun ds h => by match ds, h with | [_, _, _], _ => rfl)
    (ChangeSpec.witness6 (enc := enc) (C := Try.checked) false ⟨#[], #[.agg #[.int .i64 0, .int .i64 0], .agg #[.int .i64 0, .int .i64 0], .agg #[.int .i64 0, .int .i64 0]], []⟩ 8 (by kernel_rfl) (by kernel_rfl) (by kernel_rfl) (by kernel_rfl))
    (fun W base args ds ps hval hA hlt => contract enc W base args ds ps hval hA hlt)

theorem holds : Rows.SignSidesSaid :=
  OpenClaim.holds_of_wide 3 Try.f3 rfl rfl rfl rfl rfl rfl rfl ⟨rfl, rfl, rfl, rfl, rfl⟩ rfl rfl rfl rfl rfl (by kernel_rfl) Try.func3 (by kernel_rfl)
    (of_decide_eq_true (by kernel_rfl)) (by unfold Func.isWrapper; first | (rw [if_pos (by decide +kernel)]; kernel_rfl) | (rw [if_neg (by decide +kernel)]; exact ⟨rfl, rfl⟩))
    (fun os started H enc _ => lifted os started H enc)
end sides
end Go.Proofs.Ytklnedcakgfbmaa
