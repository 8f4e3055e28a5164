/- Contracts of package tangent, second part: a segment turned back, where it finishes. -/
import Derived.Test.YtpfeegmifcodfaaTa
namespace Go.Proofs.Ytpfeegmifcodfaa
open Go.RowKit

set_option maxHeartbeats 1000000 in
theorem back2_any (x0 y0 x1 y1 x2 y2 x3 y3 : Int) (w : World) :
    Calls Try.prog 27 #[.agg #[.int .i64 x0, .int .i64 y0, .int .i64 x1, .int .i64 y1, .int .i64 x2, .int .i64 y2, .int .i64 x3, .int .i64 y3, .int .i64 2]] w
      fun e w' => e = .returned (.agg #[.int .i64 x1, .int .i64 y1, .int .i64 x0, .int .i64 y0, .int .i64 0, .int .i64 0, .int .i64 0, .int .i64 0, .int .i64 2]) ∧ Below w.heap.size w w' := by
  go_enter Try.func27, Try.ntmps27
  go_wp2_with fail
  refine wp_loop_rounds 3 ?_
  repeat any_goals (rw [rounds_succ]; go_wp2_with fail)
  exact bodyPost_ret (v := .agg #[.int .i64 x1, .int .i64 y1, .int .i64 x0, .int .i64 y0, .int .i64 0, .int .i64 0, .int .i64 0, .int .i64 0, .int .i64 2]) (by simp [results, Try.results27, go_sem]) rfl ⟨rfl, by (repeat (first | exact Below.refl _ _ | assumption | refine Below.drew ?_ | refine Below.setCell ?_ (by simp; try omega) _ | refine Below.alloc ?_ (by simp; try omega) _))⟩

set_option maxHeartbeats 1000000 in
theorem back3_any (x0 y0 x1 y1 x2 y2 x3 y3 : Int) (w : World) :
    Calls Try.prog 27 #[.agg #[.int .i64 x0, .int .i64 y0, .int .i64 x1, .int .i64 y1, .int .i64 x2, .int .i64 y2, .int .i64 x3, .int .i64 y3, .int .i64 3]] w
      fun e w' => e = .returned (.agg #[.int .i64 x2, .int .i64 y2, .int .i64 x1, .int .i64 y1, .int .i64 x0, .int .i64 y0, .int .i64 0, .int .i64 0, .int .i64 3]) ∧ Below w.heap.size w w' := by
  go_enter Try.func27, Try.ntmps27
  go_wp2_with fail
  refine wp_loop_rounds 4 ?_
  repeat any_goals (rw [rounds_succ]; go_wp2_with fail)
  exact bodyPost_ret (v := .agg #[.int .i64 x2, .int .i64 y2, .int .i64 x1, .int .i64 y1, .int .i64 x0, .int .i64 y0, .int .i64 0, .int .i64 0, .int .i64 3]) (by simp [results, Try.results27, go_sem]) rfl ⟨rfl, by (repeat (first | exact Below.refl _ _ | assumption | refine Below.drew ?_ | refine Below.setCell ?_ (by simp; try omega) _ | refine Below.alloc ?_ (by simp; try omega) _))⟩

set_option maxHeartbeats 1000000 in
theorem back4_any (x0 y0 x1 y1 x2 y2 x3 y3 : Int) (w : World) :
    Calls Try.prog 27 #[.agg #[.int .i64 x0, .int .i64 y0, .int .i64 x1, .int .i64 y1, .int .i64 x2, .int .i64 y2, .int .i64 x3, .int .i64 y3, .int .i64 4]] w
      fun e w' => e = .returned (.agg #[.int .i64 x3, .int .i64 y3, .int .i64 x2, .int .i64 y2, .int .i64 x1, .int .i64 y1, .int .i64 x0, .int .i64 y0, .int .i64 4]) ∧ Below w.heap.size w w' := by
  go_enter Try.func27, Try.ntmps27
  go_wp2_with fail
  refine wp_loop_rounds 5 ?_
  repeat any_goals (rw [rounds_succ]; go_wp2_with fail)
  exact bodyPost_ret (v := .agg #[.int .i64 x3, .int .i64 y3, .int .i64 x2, .int .i64 y2, .int .i64 x1, .int .i64 y1, .int .i64 x0, .int .i64 y0, .int .i64 4]) (by simp [results, Try.results27, go_sem]) rfl ⟨rfl, by (repeat (first | exact Below.refl _ _ | assumption | refine Below.drew ?_ | refine Below.setCell ?_ (by simp; try omega) _ | refine Below.alloc ?_ (by simp; try omega) _))⟩

theorem first_bd {B : Int} (hB : 0 ≤ B) : ∀ (l : List (Int × Int)), (∀ p ∈ l, (-B ≤ p.1 ∧ p.1 ≤ B) ∧ (-B ≤ p.2 ∧ p.2 ≤ B)) → (-B ≤ (firstS l).1 ∧ (firstS l).1 ≤ B) ∧ (-B ≤ (firstS l).2 ∧ (firstS l).2 ≤ B)
  | [], _ => by simp [firstS]; omega
  | p :: l, h => by
    unfold firstS
    split
    · exact first_bd hB l fun q hq => h q (List.mem_cons_of_mem _ hq)
    · exact h p List.mem_cons_self
theorem diffs_bd {n x0 y0 x1 y1 x2 y2 x3 y3 : Int} (hC : C28P x0 y0 x1 y1 x2 y2 x3 y3) :
    (-536870912 ≤ (firstS (diffs n x0 y0 x1 y1 x2 y2 x3 y3)).1 ∧ (firstS (diffs n x0 y0 x1 y1 x2 y2 x3 y3)).1 ≤ 536870912) ∧
    (-536870912 ≤ (firstS (diffs n x0 y0 x1 y1 x2 y2 x3 y3)).2 ∧ (firstS (diffs n x0 y0 x1 y1 x2 y2 x3 y3)).2 ≤ 536870912) := by
  refine first_bd (by omega) _ fun p hp => ?_
  have hp := List.mem_of_mem_take hp
  obtain ⟨⟨a0, a0'⟩, ⟨b0, b0'⟩, ⟨a1, a1'⟩, ⟨b1, b1'⟩, ⟨a2, a2'⟩, ⟨b2, b2'⟩, ⟨a3, a3'⟩, ⟨b3, b3'⟩⟩ := hC
  simp only [List.mem_cons, List.not_mem_nil, or_false] at hp
  rcases hp with rfl | rfl | rfl <;> simp only <;> omega

theorem revC2 {x0 y0 x1 y1 x2 y2 x3 y3 : Int} (hC : C28P x0 y0 x1 y1 x2 y2 x3 y3) : C28P x1 y1 x0 y0 0 0 0 0 := by
  unfold C28P C28 at *
  omega
set_option maxHeartbeats 1000000 in
theorem finish2_any (x0 y0 x1 y1 x2 y2 x3 y3 : Int) (w : World) (hC : C28P x0 y0 x1 y1 x2 y2 x3 y3) :
    Calls Try.prog 13 #[.agg #[.int .i64 x0, .int .i64 y0, .int .i64 x1, .int .i64 y1, .int .i64 x2, .int .i64 y2, .int .i64 x3, .int .i64 y3, .int .i64 2]] w
      fun e w' => e = .returned (.agg #[.int .i64 (-(firstS (diffs 2 x1 y1 x0 y0 0 0 0 0)).1), .int .i64 (-(firstS (diffs 2 x1 y1 x0 y0 0 0 0 0)).2)]) ∧ Below w.heap.size w w' := by
  obtain ⟨⟨d1, d2⟩, ⟨d3, d4⟩⟩ := diffs_bd (n := 2) (revC2 hC)
  have HB := Lib.hid (fun W => begin2_any x1 y1 x0 y0 0 0 0 0 W (revC2 hC))
  go_enter Try.func13, Try.ntmps13
  go_wp2_with (first | (go_at_call 27; refine (calls_from (by first | assumption | exact Below.refl _ _) (back2_any _ _ _ _ _ _ _ _ _)).mono ?_; rintro e w2 ⟨rfl, hb2⟩; have hc2 := (bcell hb2).1; have hf2 := (bcell hb2).2) | (go_at_call 11; refine (calls_from (by first | assumption | exact Below.refl _ _) (HB.out _)).mono ?_; rintro e w2 ⟨rfl, hb2⟩; have hc2 := (bcell hb2).1; have hf2 := (bcell hb2).2) | (go_at_call 31; refine (calls_from (by first | assumption | exact Below.refl _ _) (neg_any _ _ _ (by omega) (by omega) (by omega) (by omega))).mono ?_; rintro e w2 ⟨rfl, hb2⟩; have hc2 := (bcell hb2).1; have hf2 := (bcell hb2).2))
  have hz2 := hb2.size
  simp at hz2
  have l1 : w.heap.size + 1 < w2.heap.size := by omega
  have hV : Blk (w.alloc (.cells (segC 2 x0 y0 x1 y1 x2 y2 x3 y3) 26) |>.alloc (.cells #[.int .i64 0, .int .i64 0] 23)) (w.heap.size + 1) 23 #[.int .i64 0, .int .i64 0] := by
    have h := Blk.new (w.alloc (.cells (segC 2 x0 y0 x1 y1 x2 y2 x3 y3) 26)) 23 #[.int .i64 0, .int .i64 0]
    simpa only [World.size_alloc] using h
  have hV2 : Blk w2 (w.heap.size + 1) 23 #[.int .i64 0, .int .i64 0] := hV.grow hb2
  refine bodyPost_ret (res_pt ((hV2.set 0 _).set 1 _) rfl rfl rfl rfl) rfl ⟨rfl, ?_⟩
  have hx2 : Below w.heap.size w w2 := by (first | ((repeat (first | exact Below.refl _ _ | assumption | refine Below.drew ?_ | refine Below.setCell ?_ (by simp; try omega) _ | refine Below.alloc ?_ (by simp; try omega) _)); done) | exact Below.trans (by (repeat (first | exact Below.refl _ _ | assumption | refine Below.drew ?_ | refine Below.setCell ?_ (by simp; try omega) _ | refine Below.alloc ?_ (by simp; try omega) _))) (hb2.mono (by simp; try omega)))
  exact (hx2.setCell (by simp) _).setCell (by simp) _

theorem revC3 {x0 y0 x1 y1 x2 y2 x3 y3 : Int} (hC : C28P x0 y0 x1 y1 x2 y2 x3 y3) : C28P x2 y2 x1 y1 x0 y0 0 0 := by
  unfold C28P C28 at *
  omega
set_option maxHeartbeats 1000000 in
theorem finish3_any (x0 y0 x1 y1 x2 y2 x3 y3 : Int) (w : World) (hC : C28P x0 y0 x1 y1 x2 y2 x3 y3) :
    Calls Try.prog 13 #[.agg #[.int .i64 x0, .int .i64 y0, .int .i64 x1, .int .i64 y1, .int .i64 x2, .int .i64 y2, .int .i64 x3, .int .i64 y3, .int .i64 3]] w
      fun e w' => e = .returned (.agg #[.int .i64 (-(firstS (diffs 3 x2 y2 x1 y1 x0 y0 0 0)).1), .int .i64 (-(firstS (diffs 3 x2 y2 x1 y1 x0 y0 0 0)).2)]) ∧ Below w.heap.size w w' := by
  obtain ⟨⟨d1, d2⟩, ⟨d3, d4⟩⟩ := diffs_bd (n := 3) (revC3 hC)
  have HB := Lib.hid (fun W => begin3_any x2 y2 x1 y1 x0 y0 0 0 W (revC3 hC))
  go_enter Try.func13, Try.ntmps13
  go_wp2_with (first | (go_at_call 27; refine (calls_from (by first | assumption | exact Below.refl _ _) (back3_any _ _ _ _ _ _ _ _ _)).mono ?_; rintro e w2 ⟨rfl, hb2⟩; have hc2 := (bcell hb2).1; have hf2 := (bcell hb2).2) | (go_at_call 11; refine (calls_from (by first | assumption | exact Below.refl _ _) (HB.out _)).mono ?_; rintro e w2 ⟨rfl, hb2⟩; have hc2 := (bcell hb2).1; have hf2 := (bcell hb2).2) | (go_at_call 31; refine (calls_from (by first | assumption | exact Below.refl _ _) (neg_any _ _ _ (by omega) (by omega) (by omega) (by omega))).mono ?_; rintro e w2 ⟨rfl, hb2⟩; have hc2 := (bcell hb2).1; have hf2 := (bcell hb2).2))
  have hz2 := hb2.size
  simp at hz2
  have l1 : w.heap.size + 1 < w2.heap.size := by omega
  have hV : Blk (w.alloc (.cells (segC 3 x0 y0 x1 y1 x2 y2 x3 y3) 26) |>.alloc (.cells #[.int .i64 0, .int .i64 0] 23)) (w.heap.size + 1) 23 #[.int .i64 0, .int .i64 0] := by
    have h := Blk.new (w.alloc (.cells (segC 3 x0 y0 x1 y1 x2 y2 x3 y3) 26)) 23 #[.int .i64 0, .int .i64 0]
    simpa only [World.size_alloc] using h
  have hV2 : Blk w2 (w.heap.size + 1) 23 #[.int .i64 0, .int .i64 0] := hV.grow hb2
  refine bodyPost_ret (res_pt ((hV2.set 0 _).set 1 _) rfl rfl rfl rfl) rfl ⟨rfl, ?_⟩
  have hx2 : Below w.heap.size w w2 := by (first | ((repeat (first | exact Below.refl _ _ | assumption | refine Below.drew ?_ | refine Below.setCell ?_ (by simp; try omega) _ | refine Below.alloc ?_ (by simp; try omega) _)); done) | exact Below.trans (by (repeat (first | exact Below.refl _ _ | assumption | refine Below.drew ?_ | refine Below.setCell ?_ (by simp; try omega) _ | refine Below.alloc ?_ (by simp; try omega) _))) (hb2.mono (by simp; try omega)))
  exact (hx2.setCell (by simp) _).setCell (by simp) _

theorem revC4 {x0 y0 x1 y1 x2 y2 x3 y3 : Int} (hC : C28P x0 y0 x1 y1 x2 y2 x3 y3) : C28P x3 y3 x2 y2 x1 y1 x0 y0 := by
  unfold C28P C28 at *
  omega
set_option maxHeartbeats 1000000 in
theorem finish4_any (x0 y0 x1 y1 x2 y2 x3 y3 : Int) (w : World) (hC : C28P x0 y0 x1 y1 x2 y2 x3 y3) :
    Calls Try.prog 13 #[.agg #[.int .i64 x0, .int .i64 y0, .int .i64 x1, .int .i64 y1, .int .i64 x2, .int .i64 y2, .int .i64 x3, .int .i64 y3, .int .i64 4]] w
      fun e w' => e = .returned (.agg #[.int .i64 (-(firstS (diffs 4 x3 y3 x2 y2 x1 y1 x0 y0)).1), .int .i64 (-(firstS (diffs 4 x3 y3 x2 y2 x1 y1 x0 y0)).2)]) ∧ Below w.heap.size w w' := by
  obtain ⟨⟨d1, d2⟩, ⟨d3, d4⟩⟩ := diffs_bd (n := 4) (revC4 hC)
  have HB := Lib.hid (fun W => begin4_any x3 y3 x2 y2 x1 y1 x0 y0 W (revC4 hC))
  go_enter Try.func13, Try.ntmps13
  go_wp2_with (first | (go_at_call 27; refine (calls_from (by first | assumption | exact Below.refl _ _) (back4_any _ _ _ _ _ _ _ _ _)).mono ?_; rintro e w2 ⟨rfl, hb2⟩; have hc2 := (bcell hb2).1; have hf2 := (bcell hb2).2) | (go_at_call 11; refine (calls_from (by first | assumption | exact Below.refl _ _) (HB.out _)).mono ?_; rintro e w2 ⟨rfl, hb2⟩; have hc2 := (bcell hb2).1; have hf2 := (bcell hb2).2) | (go_at_call 31; refine (calls_from (by first | assumption | exact Below.refl _ _) (neg_any _ _ _ (by omega) (by omega) (by omega) (by omega))).mono ?_; rintro e w2 ⟨rfl, hb2⟩; have hc2 := (bcell hb2).1; have hf2 := (bcell hb2).2))
  have hz2 := hb2.size
  simp at hz2
  have l1 : w.heap.size + 1 < w2.heap.size := by omega
  have hV : Blk (w.alloc (.cells (segC 4 x0 y0 x1 y1 x2 y2 x3 y3) 26) |>.alloc (.cells #[.int .i64 0, .int .i64 0] 23)) (w.heap.size + 1) 23 #[.int .i64 0, .int .i64 0] := by
    have h := Blk.new (w.alloc (.cells (segC 4 x0 y0 x1 y1 x2 y2 x3 y3) 26)) 23 #[.int .i64 0, .int .i64 0]
    simpa only [World.size_alloc] using h
  have hV2 : Blk w2 (w.heap.size + 1) 23 #[.int .i64 0, .int .i64 0] := hV.grow hb2
  refine bodyPost_ret (res_pt ((hV2.set 0 _).set 1 _) rfl rfl rfl rfl) rfl ⟨rfl, ?_⟩
  have hx2 : Below w.heap.size w w2 := by (first | ((repeat (first | exact Below.refl _ _ | assumption | refine Below.drew ?_ | refine Below.setCell ?_ (by simp; try omega) _ | refine Below.alloc ?_ (by simp; try omega) _)); done) | exact Below.trans (by (repeat (first | exact Below.refl _ _ | assumption | refine Below.drew ?_ | refine Below.setCell ?_ (by simp; try omega) _ | refine Below.alloc ?_ (by simp; try omega) _))) (hb2.mono (by simp; try omega)))
  exact (hx2.setCell (by simp) _).setCell (by simp) _

end Go.Proofs.Ytpfeegmifcodfaa
