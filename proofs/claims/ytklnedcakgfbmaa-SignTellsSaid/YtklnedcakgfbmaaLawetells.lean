/- SignTells: on which side any point lies, whether it is between, or within, how sharp any two vectors meet, and which one is before, is the document's. -/
import Derived.Test.YtklnedcakgfbmaaLawe
import Derived.Test.YtklnedcakgfbmaaRefe
import Derived.Test.YtklnedcakgfbmaaOpen
namespace Go.Proofs.Ytklnedcakgfbmaa
open Go.RowKit

set_option maxRecDepth 100000 in
set_option maxHeartbeats 4000000 in
theorem tells_any (ax ay bx py cx cy qx qy limit : Int) (w : World) (l1 : -9223372036854775808 ≤ limit) (l2 : limit ≤ 9223372036854775807) :
    Calls Try.prog 8 #[.agg #[.int .i64 ax, .int .i64 ay], .agg #[.int .i64 bx, .int .i64 py], .agg #[.int .i64 cx, .int .i64 cy], .agg #[.int .i64 qx, .int .i64 qy], .int .i64 limit] w fun e w' => e = .returned (.bool true) ∧ Below w.heap.size w w' := by
  cases hn : [(ax, ay), (bx, py), (cx, cy), (qx, qy)].all fun q => nearP q.1 q.2
  · have Hn := Lib.hid hn
    clear hn
    go_enter Try.func8, Try.ntmps8
    go_wp2_with (first | (go_at_call 10; refine (calls_from (by first | assumption | exact Below.refl _ _) (lnear_any _ 4 4 [(ax, ay), (bx, py), (cx, cy), (qx, qy)] _ (by omega) (by exact RPts.new (by simp) (fun k p hk => by match k, hk with | 0, hk => (simp at hk; subst hk; simp [go_sem]) | 1, hk => (simp at hk; subst hk; simp [go_sem]) | 2, hk => (simp at hk; subst hk; simp [go_sem]) | 3, hk => (simp at hk; subst hk; simp [go_sem]))))).mono ?_; rw [Hn.out]; rintro e w2 ⟨rfl, hb2⟩; have hc2 := (bcell hb2).1) | (go_at_call 11; refine (calls_from (by first | assumption | exact Below.refl _ _) (shown_any _)).mono ?_; rintro e w2 ⟨rfl, hb2⟩; have hc2 := (bcell hb2).1; have hf2 := (bcell hb2).2))
    go_ret
    exact ⟨rfl, by (first | ((repeat (first | exact Below.refl _ _ | assumption | refine Below.drew ?_ | refine Below.setCell ?_ (by simp; try omega) _ | refine Below.alloc ?_ (by simp; try omega) _)); done) | exact Below.trans (by (repeat (first | exact Below.refl _ _ | assumption | refine Below.drew ?_ | refine Below.setCell ?_ (by simp; try omega) _ | refine Below.alloc ?_ (by simp; try omega) _))) (hb2.mono (by simp; try omega)))⟩
  · have Hn := Lib.hid hn
    simp only [List.all_cons, List.all_nil, Bool.and_true, Bool.and_eq_true] at hn
    obtain ⟨ha, hb, hc, hd⟩ := hn
    obtain ⟨a1, a2, a3, a4⟩ := nearP_true ha
    obtain ⟨b1, b2, b3, b4⟩ := nearP_true hb
    obtain ⟨c1, c2, c3, c4⟩ := nearP_true hc
    obtain ⟨d1, d2, d3, d4⟩ := nearP_true hd
    clear ha hb hc hd
    go_enter Try.func8, Try.ntmps8
    go_wp2_with (first | (go_at_call 10; refine (calls_from (by first | assumption | exact Below.refl _ _) (lnear_any _ 4 4 [(ax, ay), (bx, py), (cx, cy), (qx, qy)] _ (by omega) (by exact RPts.new (by simp) (fun k p hk => by match k, hk with | 0, hk => (simp at hk; subst hk; simp [go_sem]) | 1, hk => (simp at hk; subst hk; simp [go_sem]) | 2, hk => (simp at hk; subst hk; simp [go_sem]) | 3, hk => (simp at hk; subst hk; simp [go_sem]))))).mono ?_; rw [Hn.out]; rintro e w2 ⟨rfl, hb2⟩; have hc2 := (bcell hb2).1) | (go_at_call 11; refine (calls_from (by first | assumption | exact Below.refl _ _) (shown_any _)).mono ?_; rintro e w2 ⟨rfl, hb2⟩; have hc2 := (bcell hb2).1; have hf2 := (bcell hb2).2))
    simp only [List.append]
    refine Reg.wp_region_all (by first | exact hb2 | exact Below.refl _ _) (by kernel_rfl) (by kernel_rfl) ?_
    repeat (go_big_quiet_step ((first | (go_at_call 12; exact Reg.calls_aft (side_any _ _ _ _ _ _ _ (by omega) (by omega) (by omega) (by omega) (by omega) (by omega) (by omega) (by omega) (by omega) (by omega) (by omega) (by omega))) | (go_at_call 14; exact Reg.calls_aft (between_any _ _ _ _ _ _ _ (by omega) (by omega) (by omega) (by omega) (by omega) (by omega) (by omega) (by omega) (by omega) (by omega) (by omega) (by omega))) | (go_at_call 13; exact Reg.calls_aft (within_any _ _ _ _ _ _ _ _ _ (by omega) (by omega) (by omega) (by omega) (by omega) (by omega) (by omega) (by omega) (by omega) (by omega) (by omega) (by omega) (by omega) (by omega) (by omega) (by omega))) | (go_at_call 23; exact Reg.calls_aft (sharp_any _ _ _ _ _ (by omega) (by omega) (by omega) (by omega) (by omega) (by omega) (by omega) (by omega))) | (go_at_call 18; exact Reg.calls_aft (miter_any _ _ _ _ _ _ (by omega) (by omega) (by omega) (by omega) (by omega) (by omega) (by omega) (by omega) (by omega) (by omega))) | (go_at_call 26; exact Reg.calls_aft (quarter_any _ _ _)) | (go_at_call 17; exact Reg.calls_aft (before_any _ _ _ _ _ (by omega) (by omega) (by omega) (by omega) (by omega) (by omega) (by omega) (by omega))) | (go_at_call 20; exact Reg.calls_aft (r5side_any _ _ _ _ _ _ _ (by omega) (by omega) (by omega) (by omega) (by omega) (by omega) (by omega) (by omega) (by omega) (by omega) (by omega) (by omega))) | (go_at_call 21; exact Reg.calls_aft (r5between_any _ _ _ _ _ _ _ (by omega) (by omega) (by omega) (by omega) (by omega) (by omega) (by omega) (by omega) (by omega) (by omega) (by omega) (by omega))) | (go_at_call 22; exact Reg.calls_aft (r5within_any _ _ _ _ _ _ _ _ _ (by omega) (by omega) (by omega) (by omega) (by omega) (by omega) (by omega) (by omega) (by omega) (by omega) (by omega) (by omega) (by omega) (by omega) (by omega) (by omega))) | (go_at_call 24; exact Reg.calls_aft (r5sharp_any _ _ _ _ _ (by omega) (by omega) (by omega) (by omega) (by omega) (by omega) (by omega) (by omega))) | (go_at_call 25; exact Reg.calls_aft (r5miter_any _ _ _ _ _ _ (by omega) (by omega) (by omega) (by omega) (by omega) (by omega) (by omega) (by omega) (by omega) (by omega))) | (go_at_call 27; exact Reg.calls_aft (r5quarter_any _ _ _)) | (go_at_call 28; exact Reg.calls_aft (r5before_any _ _ _ _ _ (by omega) (by omega) (by omega) (by omega) (by omega) (by omega) (by omega) (by omega))))))
    refine wpQuiet_nil ?_
    intro xs hxs
    have hbx := Reg.class_below hxs
    clear hxs
    go_wp2_with fail
    go_ret
    exact ⟨rfl, Below.trans (by (repeat (first | exact Below.refl _ _ | assumption | refine Below.drew ?_ | refine Below.setCell ?_ (by simp; try omega) _ | refine Below.alloc ?_ (by simp; try omega) _))) (hbx.mono (by simp; try omega))⟩

namespace tells
open Go.ChangeShapes Go.WideShapes Go.ChangeAt

theorem contract {H : Type} (enc : TypeId × Value → H) (W : World) (base : Nat) (args : Array Value) (ds : List (DataW H)) (ps : List MemPlace)
    (hval : ∀ (j : Nat) t v, Try.f8.params[j]? = some t → args[j]? = some v → Value.okWide Try.checked.prog W .any base t v)
    (hA : DataW.TrodAll enc Try.checked.prog W 0 (fun _ => true) true Try.f8.params.toList args.toList ds ps) (hlt : ∀ x ∈ ps, x.block < W.heap.size) :
    Calls Try.checked.prog 8 args W fun e W' => e = .returned (.bool true) ∧ Below W.heap.size W W' := by
  rw [Try.params8] at hA hval
  obtain ⟨v0, vs0, d0, ds0, p0, q0, ea, rfl, rfl, h0, hA⟩ := trodAll_cons hA
  obtain ⟨v1, vs1, d1, ds1, p1, q1, rfl, rfl, rfl, h1, hA⟩ := trodAll_cons hA
  obtain ⟨v2, vs2, d2, ds2, p2, q2, rfl, rfl, rfl, h2, hA⟩ := trodAll_cons hA
  obtain ⟨v3, vs3, d3, ds3, p3, q3, rfl, rfl, rfl, h3, hA⟩ := trodAll_cons hA
  obtain ⟨v4, vs4, d4, ds4, p4, q4, rfl, rfl, rfl, h4, hA⟩ := trodAll_cons hA
  obtain ⟨rfl, rfl, rfl⟩ := trodAll_nil hA
  obtain rfl : args = #[v0, v1, v2, v3, v4] := by cases args; simp_all
  have _ := hlt
  obtain ⟨ax, ay, rfl, _, _⟩ := open_pt (hval 0 _ _ rfl rfl) h0
  obtain ⟨bx, py, rfl, _, _⟩ := open_pt (hval 1 _ _ rfl rfl) h1
  obtain ⟨cx, cy, rfl, _, _⟩ := open_pt (hval 2 _ _ rfl rfl) h2
  obtain ⟨qx, qy, rfl, _, _⟩ := open_pt (hval 3 _ _ rfl rfl) h3
  obtain ⟨limit, rfl, _, _, hw⟩ := Go.ChangeShapes.open_int Try.underlying3 (hval 4 _ _ rfl rfl) h4
  have hb : -9223372036854775808 ≤ limit ∧ limit ≤ 9223372036854775807 := by simpa [Lit.wf, IntKind.min, IntKind.max, IntKind.signed, IntKind.bits] using hw
  exact tells_any ax ay bx py cx cy qx qy limit W hb.1 hb.2

set_option maxRecDepth 100000 in
theorem lifted (os : Os) (started : os.Started) (H : Type) (enc : TypeId × Value → H) :
    ReturnsInHanded {} Try.checked os 8 .any (Rows.signTellsSpec.pre6 enc Try.prog Try.f8 [] false) (Rows.signTellsSpec.post enc Try.prog Try.f8 false true false false) :=
  law_lift (bT := 4) started (by kernel_rfl) Try.func8 rfl (by kernel_rfl) (by kernel_rfl) (by kernel_rfl) (fun ds h => by match ds, h with | [_, _, _, _, _], _ => rfl)
    (ChangeSpec.witness6 (enc := enc) (C := Try.checked) false ⟨#[], #[.agg #[.int .i64 0, .int .i64 0], .agg #[.int .i64 0, .int .i64 0], .agg #[.int .i64 0, .int .i64 0], .agg #[.int .i64 0, .int .i64 0], .int .i64 0], []⟩ 8 (by kernel_rfl) (by kernel_rfl) (by kernel_rfl) (by kernel_rfl))
    (fun W base args ds ps hval hA hlt => contract enc W base args ds ps hval hA hlt)

theorem holds : Rows.SignTellsSaid :=
  OpenClaim.holds_of_wide 8 Try.f8 rfl rfl rfl rfl rfl rfl rfl ⟨rfl, rfl, rfl, rfl, rfl⟩ rfl rfl rfl rfl rfl (by kernel_rfl) Try.func8 (by kernel_rfl)
    (of_decide_eq_true (by kernel_rfl)) (by unfold Func.isWrapper; first | (rw [if_pos (by decide +kernel)]; kernel_rfl) | (rw [if_neg (by decide +kernel)]; exact ⟨rfl, rfl⟩))
    (fun os started H enc _ => lifted os started H enc)
end tells
end Go.Proofs.Ytklnedcakgfbmaa
