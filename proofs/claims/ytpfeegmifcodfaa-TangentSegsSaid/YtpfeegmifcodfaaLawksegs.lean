/- TangentSegs: where any segment begins and finishes, and its class, is the document's. -/
import Derived.Test.YtpfeegmifcodfaaTl
import Derived.Test.YtpfeegmifcodfaaLawg
import Derived.Test.YtpfeegmifcodfaaOpenb
namespace Go.Proofs.Ytpfeegmifcodfaa
open Go.RowKit

theorem rbeginN_any (n : Nat) (hn2 : 2 ≤ n) (hn4 : n ≤ 4) (x0 y0 x1 y1 x2 y2 x3 y3 : Int) (w : World) (hC : C28P x0 y0 x1 y1 x2 y2 x3 y3) :
    Calls Try.prog 12 #[.agg (segC n x0 y0 x1 y1 x2 y2 x3 y3)] w
      fun e w' => e = .returned (.agg #[.int .i64 (beginP n x0 y0 x1 y1 x2 y2 x3 y3).1, .int .i64 (beginP n x0 y0 x1 y1 x2 y2 x3 y3).2]) ∧ Below w.heap.size w w' := by
  rcases (by omega : n = 2 ∨ n = 3 ∨ n = 4) with rfl | rfl | rfl
  · exact rbegin2_any _ _ _ _ _ _ _ _ w hC
  · exact rbegin3_any _ _ _ _ _ _ _ _ w hC
  · exact rbegin4_any _ _ _ _ _ _ _ _ w hC
theorem rfinishN_any (n : Nat) (hn2 : 2 ≤ n) (hn4 : n ≤ 4) (x0 y0 x1 y1 x2 y2 x3 y3 : Int) (w : World) (hC : C28P x0 y0 x1 y1 x2 y2 x3 y3) :
    Calls Try.prog 14 #[.agg (segC n x0 y0 x1 y1 x2 y2 x3 y3)] w
      fun e w' => e = .returned (.agg #[.int .i64 (finishP n x0 y0 x1 y1 x2 y2 x3 y3).1, .int .i64 (finishP n x0 y0 x1 y1 x2 y2 x3 y3).2]) ∧ Below w.heap.size w w' := by
  rcases (by omega : n = 2 ∨ n = 3 ∨ n = 4) with rfl | rfl | rfl
  · exact rfinish2_any _ _ _ _ _ _ _ _ w hC
  · exact rfinish3_any _ _ _ _ _ _ _ _ w hC
  · exact rfinish4_any _ _ _ _ _ _ _ _ w hC
theorem rclassN_any (n : Nat) (hn2 : 2 ≤ n) (hn4 : n ≤ 4) (x0 y0 x1 y1 x2 y2 x3 y3 : Int) (w : World) (hC : C28P x0 y0 x1 y1 x2 y2 x3 y3) :
    Calls Try.prog 16 #[.agg (segC n x0 y0 x1 y1 x2 y2 x3 y3)] w
      fun e w' => e = .returned (.int .i64 (classP n x0 y0 x1 y1 x2 y2 x3 y3)) ∧ Below w.heap.size w w' := by
  have h := rclass_any n hn2 hn4 (sel x0 x1 x2 x3) (sel y0 y1 y2 y3) (sel_C28 hC) (beginP n x0 y0 x1 y1 x2 y2 x3 y3) w (begin_bd hC) (fun W => rbeginN_any n hn2 hn4 x0 y0 x1 y1 x2 y2 x3 y3 W hC)
  have e : classS (bendsU (beginP n x0 y0 x1 y1 x2 y2 x3 y3) (sel x0 x1 x2 x3) (sel y0 y1 y2 y3) (n - 1)) (foldsU (beginP n x0 y0 x1 y1 x2 y2 x3 y3) (sel x0 x1 x2 x3) (sel y0 y1 y2 y3) (n - 1)) (beginP n x0 y0 x1 y1 x2 y2 x3 y3) = classP n x0 y0 x1 y1 x2 y2 x3 y3 := by
    rcases (by omega : n = 2 ∨ n = 3 ∨ n = 4) with rfl | rfl | rfl <;> rfl
  rw [← e]
  exact h

set_option maxRecDepth 100000 in
set_option maxHeartbeats 4000000 in
theorem segs_any (n x0 y0 x1 y1 x2 y2 x3 y3 : Int) (w : World) :
    Calls Try.prog 3 #[.agg #[.int .i64 x0, .int .i64 y0, .int .i64 x1, .int .i64 y1, .int .i64 x2, .int .i64 y2, .int .i64 x3, .int .i64 y3, .int .i64 n]] w fun e w' => e = .returned (.bool true) ∧ Below w.heap.size w w' := by
  by_cases hG : GoodP n x0 y0 x1 y1 x2 y2 x3 y3
  · have KG := Lib.hid (fun W => good_yes W hG)
    obtain ⟨⟨hn2, hn4⟩, hC, _⟩ := hG
    obtain ⟨m, rfl⟩ := Int.eq_ofNat_of_zero_le (show 0 ≤ n by omega)
    have k1 := fun W => beginN_any m (by omega) (by omega) x0 y0 x1 y1 x2 y2 x3 y3 W hC
    simp only [segC] at k1
    have K1 := Lib.hid k1
    clear k1
    have k2 := fun W => finishN_any m (by omega) (by omega) x0 y0 x1 y1 x2 y2 x3 y3 W hC
    simp only [segC] at k2
    have K2 := Lib.hid k2
    clear k2
    have k3 := fun W => classN_any m (by omega) (by omega) x0 y0 x1 y1 x2 y2 x3 y3 W hC
    simp only [segC] at k3
    have K3 := Lib.hid k3
    clear k3
    have r1 := fun W => rbeginN_any m (by omega) (by omega) x0 y0 x1 y1 x2 y2 x3 y3 W hC
    simp only [segC] at r1
    have R1 := Lib.hid r1
    clear r1
    have r2 := fun W => rfinishN_any m (by omega) (by omega) x0 y0 x1 y1 x2 y2 x3 y3 W hC
    simp only [segC] at r2
    have R2 := Lib.hid r2
    clear r2
    have r3 := fun W => rclassN_any m (by omega) (by omega) x0 y0 x1 y1 x2 y2 x3 y3 W hC
    simp only [segC] at r3
    have R3 := Lib.hid r3
    clear r3
    clear hC
    go_enter Try.func3, Try.ntmps3
    go_wp2_with (first | (go_at_call 9; refine (calls_from (by first | assumption | exact Below.refl _ _) (KG.out _)).mono ?_; rintro e w2 ⟨rfl, hb2⟩; have hc2 := (bcell hb2).1; have hf2 := (bcell hb2).2) | (go_at_call 10; refine (calls_from (by first | assumption | exact Below.refl _ _) (shown_any _)).mono ?_; rintro e w2 ⟨rfl, hb2⟩; have hc2 := (bcell hb2).1; have hf2 := (bcell hb2).2))
    have hz2 := hb2.size
    simp at hz2
    have l0 : w.heap.size < w2.heap.size := by omega
    have l1 : w.heap.size < w2.heap.size + 1 := by omega
    have hx2 : Below w.heap.size w w2 := by (first | ((repeat (first | exact Below.refl _ _ | assumption | refine Below.drew ?_ | refine Below.setCell ?_ (by simp; try omega) _ | refine Below.alloc ?_ (by simp; try omega) _)); done) | exact Below.trans (by (repeat (first | exact Below.refl _ _ | assumption | refine Below.drew ?_ | refine Below.setCell ?_ (by simp; try omega) _ | refine Below.alloc ?_ (by simp; try omega) _))) (hb2.mono (by simp; try omega)))
    refine Reg.wp_region_all (Below.refl _ _) (by kernel_rfl) (by kernel_rfl) ?_
    repeat (go_big_quiet_step ((first | (go_at_call 11; with_reducible exact Reg.calls_aft (K1.out _)) | (go_at_call 13; with_reducible exact Reg.calls_aft (K2.out _)) | (go_at_call 15; with_reducible exact Reg.calls_aft (K3.out _)) | (go_at_call 12; with_reducible exact Reg.calls_aft (R1.out _)) | (go_at_call 14; with_reducible exact Reg.calls_aft (R2.out _)) | (go_at_call 16; with_reducible exact Reg.calls_aft (R3.out _)))))
    refine wpQuiet_nil ?_
    intro xs hxs
    have hbx := Reg.class_below hxs
    clear hxs
    go_wp2_with fail
    go_ret
    exact ⟨rfl, (hx2.alloc hx2.size _).trans (hbx.mono (by simp; omega))⟩
  · have KG := Lib.hid (fun W => good_no W hG)
    clear hG
    go_enter Try.func3, Try.ntmps3
    go_wp2_with (first | (go_at_call 9; refine (calls_from (by first | assumption | exact Below.refl _ _) (KG.out _)).mono ?_; rintro e w2 ⟨rfl, hb2⟩; have hc2 := (bcell hb2).1; have hf2 := (bcell hb2).2) | (go_at_call 10; refine (calls_from (by first | assumption | exact Below.refl _ _) (shown_any _)).mono ?_; rintro e w2 ⟨rfl, hb2⟩; have hc2 := (bcell hb2).1; have hf2 := (bcell hb2).2))
    go_ret
    exact ⟨rfl, by (first | ((repeat (first | exact Below.refl _ _ | assumption | refine Below.drew ?_ | refine Below.setCell ?_ (by simp; try omega) _ | refine Below.alloc ?_ (by simp; try omega) _)); done) | exact Below.trans (by (repeat (first | exact Below.refl _ _ | assumption | refine Below.drew ?_ | refine Below.setCell ?_ (by simp; try omega) _ | refine Below.alloc ?_ (by simp; try omega) _))) (hb2.mono (by simp; try omega)))⟩

namespace segs
open Go.ChangeShapes Go.WideShapes Go.ChangeAt

theorem contract {H : Type} (enc : TypeId × Value → H) (W : World) (base : Nat) (args : Array Value) (ds : List (DataW H)) (ps : List MemPlace)
    (hval : ∀ (j : Nat) t v, Try.f3.params[j]? = some t → args[j]? = some v → Value.okWide Try.checked.prog W .any base t v)
    (hA : DataW.TrodAll enc Try.checked.prog W 0 (fun _ => true) true Try.f3.params.toList args.toList ds ps) (hlt : ∀ x ∈ ps, x.block < W.heap.size) :
    Calls Try.checked.prog 3 args W fun e W' => e = .returned (.bool true) ∧ Below W.heap.size W W' := by
  rw [Try.params3] at hA hval
  obtain ⟨v0, vs0, d0, ds0, p0, q0, ea, rfl, rfl, h0, hA⟩ := trodAll_cons hA
  obtain ⟨rfl, rfl, rfl⟩ := trodAll_nil hA
  obtain rfl : args = #[v0] := by cases args; simp_all
  have _ := hlt
  obtain ⟨x0, y0, x1, y1, x2, y2, x3, y3, n, rfl, _⟩ := open_seg (hval 0 _ _ rfl rfl) h0
  exact segs_any n x0 y0 x1 y1 x2 y2 x3 y3 W

set_option maxRecDepth 100000 in
theorem lifted (os : Os) (started : os.Started) (H : Type) (enc : TypeId × Value → H) :
    ReturnsInHanded {} Try.checked os 3 .any (Rows.tangentSegsSpec.pre6 enc Try.prog Try.f3 [] false) (Rows.tangentSegsSpec.post enc Try.prog Try.f3 false true false false) :=
  law_lift (bT := 4) started (by kernel_rfl) Try.func3 rfl (by kernel_rfl) (by kernel_rfl) (by kernel_rfl) (fun ds h => by match ds, h with | [_], _ => rfl)
    (ChangeSpec.witness6 (enc := enc) (C := Try.checked) false ⟨#[], #[.agg #[.int .i64 0, .int .i64 0, .int .i64 0, .int .i64 0, .int .i64 0, .int .i64 0, .int .i64 0, .int .i64 0, .int .i64 0]], []⟩ 8 (by kernel_rfl) (by kernel_rfl) (by kernel_rfl) (by kernel_rfl))
    (fun W base args ds ps hval hA hlt => contract enc W base args ds ps hval hA hlt)

theorem holds : Rows.TangentSegsSaid :=
  OpenClaim.holds_of_wide 3 Try.f3 rfl rfl rfl rfl rfl rfl rfl ⟨rfl, rfl, rfl, rfl, rfl⟩ rfl rfl rfl rfl rfl (by kernel_rfl) Try.func3 (by kernel_rfl)
    (of_decide_eq_true (by kernel_rfl)) (by unfold Func.isWrapper; first | (rw [if_pos (by decide +kernel)]; kernel_rfl) | (rw [if_neg (by decide +kernel)]; exact ⟨rfl, rfl⟩))
    (fun os started H enc _ => lifted os started H enc)
end segs
end Go.Proofs.Ytpfeegmifcodfaa
