/- Contracts of package tangent: where a segment begins. -/
import Derived.Test.YtpfeegmifcodfaaVec
import Derived.Test.YtpfeegmifcodfaaProd
import Derived.Test.YtpfeegmifcodfaaRet
import Derived.Handy
namespace Go.Proofs.Ytpfeegmifcodfaa
open Go.RowKit

/-- The first vector of a list that is none of zero; or zero. -/
def firstS : List (Int × Int) → Int × Int
  | [] => (0, 0)
  | p :: l => if p.1 = 0 ∧ p.2 = 0 then firstS l else p
def beginS (n x0 y0 x1 y1 x2 y2 x3 y3 : Int) : Int × Int :=
  firstS ([(x1 - x0, y1 - y0), (x2 - x0, y2 - y0), (x3 - x0, y3 - y0)].take (n.toNat - 1))
def C28 (n : Int) : Prop := -268435456 ≤ n ∧ n ≤ 268435456

theorem first_yes {p : Int × Int} {l : List (Int × Int)} (h : p.1 ≠ 0 ∨ p.2 ≠ 0) : firstS (p :: l) = p := by
  unfold firstS; rw [if_neg (by omega)]
theorem first_no {p : Int × Int} {l : List (Int × Int)} (h : p.1 = 0) (k : p.2 = 0) : firstS (p :: l) = firstS l := by
  rw [firstS]; rw [if_pos ⟨h, k⟩]
theorem zero_cases (x y : Int) : ((x == 0) = false) ∨ ((x == 0) = true ∧ (y == 0) = false) ∨ ((x == 0) = true ∧ (y == 0) = true) := by
  cases x == 0 <;> cases y == 0 <;> simp

def C28P (x0 y0 x1 y1 x2 y2 x3 y3 : Int) : Prop := C28 x0 ∧ C28 y0 ∧ C28 x1 ∧ C28 y1 ∧ C28 x2 ∧ C28 y2 ∧ C28 x3 ∧ C28 y3
/-- The cells of a segment. -/
def segC (n x0 y0 x1 y1 x2 y2 x3 y3 : Int) : Array Value := #[.int .i64 x0, .int .i64 y0, .int .i64 x1, .int .i64 y1, .int .i64 x2, .int .i64 y2, .int .i64 x3, .int .i64 y3, .int .i64 n]
def diffs (n x0 y0 x1 y1 x2 y2 x3 y3 : Int) : List (Int × Int) := [(x1 - x0, y1 - y0), (x2 - x0, y2 - y0), (x3 - x0, y3 - y0)].take (n.toNat - 1)
theorem pt_agg {e : Ending} {p q : Int × Int} (h : e = .returned (.agg #[.int .i64 p.1, .int .i64 p.2])) (hp : p = q) : e = .returned (.agg #[.int .i64 q.1, .int .i64 q.2]) := by rw [h, hp]

set_option maxHeartbeats 1000000 in
theorem begin2_any (x0 y0 x1 y1 x2 y2 x3 y3 : Int) (w : World) (hC : C28P x0 y0 x1 y1 x2 y2 x3 y3) :
    Calls Try.prog 11 #[.agg #[.int .i64 x0, .int .i64 y0, .int .i64 x1, .int .i64 y1, .int .i64 x2, .int .i64 y2, .int .i64 x3, .int .i64 y3, .int .i64 2]] w
      fun e w' => e = .returned (.agg #[.int .i64 (firstS (diffs 2 x0 y0 x1 y1 x2 y2 x3 y3)).1, .int .i64 (firstS (diffs 2 x0 y0 x1 y1 x2 y2 x3 y3)).2]) ∧ Below w.heap.size w w' := by
  obtain ⟨⟨a0, a0'⟩, ⟨b0, b0'⟩, ⟨a1, a1'⟩, ⟨b1, b1'⟩, ⟨a2, a2'⟩, ⟨b2, b2'⟩, ⟨a3, a3'⟩, ⟨b3, b3'⟩⟩ := hC
  have s1 := Blk.new w 26 (segC 2 x0 y0 x1 y1 x2 y2 x3 y3)
  have s2 : Blk ((w.alloc (.cells (segC 2 x0 y0 x1 y1 x2 y2 x3 y3) 26)).alloc (.cells #[.int .i64 0, .int .i64 0] 23)) (w.heap.size + 1) 23 #[.int .i64 0, .int .i64 0] := by have h := Blk.new (w.alloc (.cells (segC 2 x0 y0 x1 y1 x2 y2 x3 y3) 26)) 23 #[.int .i64 0, .int .i64 0]; simpa only [World.size_alloc] using h
  go_enter Try.func11, Try.ntmps11
  go_wp2_with fail
  go_loopw [10] (fun i wr => ∃ k : Nat, k ≤ 1 ∧ i = .int .i64 k ∧ Blk wr w.heap.size 26 (segC 2 x0 y0 x1 y1 x2 y2 x3 y3) ∧ Blk wr (w.heap.size + 1) 23 #[.int .i64 0, .int .i64 0] ∧
      firstS (diffs 2 x0 y0 x1 y1 x2 y2 x3 y3) = firstS ((diffs 2 x0 y0 x1 y1 x2 y2 x3 y3).drop k) ∧ Below w.heap.size w wr) (fun i _ => 1 - (intOf i).toNat)
  case atStart => exact ⟨0, Nat.zero_le _, rfl, s1.alloc _, s2, rfl, by (repeat (first | exact Below.refl _ _ | assumption | refine Below.drew ?_ | refine Below.setCell ?_ (by simp; try omega) _ | refine Below.alloc ?_ (by simp; try omega) _))⟩
  case round =>
    clear s1 s2
    obtain ⟨k, hk, rfl, hS, hV, hF, hb⟩ := hrel
    have HF := Lib.hid hF
    clear hF
    have hlS := hS.lt
    have hlV := hV.lt
    have gx0 : wr.cell? ⟨w.heap.size, 0, none⟩ = some (.int .i64 x0) := hS.cell 0
    have gy0 : wr.cell? ⟨w.heap.size, 1, none⟩ = some (.int .i64 y0) := hS.cell 1
    have gv0 : wr.cell? ⟨w.heap.size + 1, 0, none⟩ = some (.int .i64 0) := hV.cell 0
    have gv1 : wr.cell? ⟨w.heap.size + 1, 1, none⟩ = some (.int .i64 0) := hV.cell 1
    have fv := hV.unfrozen
    rcases (by omega : k = 0 ∨ k = 1) with rfl | rfl
    · have gx : wr.cell? ⟨w.heap.size, 2, none⟩ = some (.int .i64 x1) := hS.cell 2
      have gy : wr.cell? ⟨w.heap.size, 3, none⟩ = some (.int .i64 y1) := hS.cell 3
      rcases zero_cases (x1 - x0) (y1 - y0) with h | ⟨h, h'⟩ | ⟨h, h'⟩
      all_goals
        go_wp2_with fail
        refine (sub_any _ _ _ _ _ (by omega) (by omega) (by omega) (by omega) (by omega) (by omega) (by omega) (by omega)).mono ?_
        rintro e w2 ⟨rfl, hb2⟩
        obtain ⟨hc2, hf2⟩ := bcell hb2
        have hz2 := hb2.size
        simp at hz2
        have hx2 := (hb.alloc hb.size _).trans (hb2.mono (by simp; omega))
        have hS2 := (hS.alloc _).grow hb2
        have hV2 := (hV.alloc _).grow hb2
        have hlS2 : w.heap.size < wr.heap.size + 1 := by omega
        have hlV2 : w.heap.size + 1 < wr.heap.size + 1 := by omega
        go_wp2_with fail
        first
        | (refine bodyPost_ret (res_pt ((((hV2.set 0 _).set 1 _).set 0 _).set 1 _) rfl rfl rfl rfl) rfl ⟨?_, ?_⟩
           · refine pt_agg (p := (x1 - x0, y1 - y0)) rfl ?_
             rw [HF.out]
             exact (first_yes (by first | (left; simpa using h) | (right; simpa using h'))).symm
           · exact ((((hx2.setCell (by simp) _).setCell (by simp) _).setCell (by simp) _).setCell (by simp) _))
        | (refine ⟨⟨1, by omega, rfl, ?_, ?_, ?_, ?_⟩, by simp [intOf]⟩
           · exact (hS2.far (by omega) _).far (by omega) _
           · have h0 := (hV2.set 0 (.int .i64 (x1 - x0))).set 1 (.int .i64 (y1 - y0))
             rw [show x1 - x0 = 0 by simpa using h, show y1 - y0 = 0 by simpa using h'] at h0 ⊢
             simpa using h0
           · rw [HF.out]
             exact first_no (by simpa using h) (by simpa using h')
           · exact (hx2.setCell (by simp) _).setCell (by simp) _)
    · go_wp2_with fail
      refine bodyPost_ret (res_pt ((hV.set 0 _).set 1 _) rfl rfl rfl rfl) rfl ⟨?_, ?_⟩
      · refine pt_agg (p := (0, 0)) rfl ?_
        rw [HF.out]
        rfl
      · exact (hb.setCell (by simp) _).setCell (by simp) _

set_option maxHeartbeats 1000000 in
theorem begin3_any (x0 y0 x1 y1 x2 y2 x3 y3 : Int) (w : World) (hC : C28P x0 y0 x1 y1 x2 y2 x3 y3) :
    Calls Try.prog 11 #[.agg #[.int .i64 x0, .int .i64 y0, .int .i64 x1, .int .i64 y1, .int .i64 x2, .int .i64 y2, .int .i64 x3, .int .i64 y3, .int .i64 3]] w
      fun e w' => e = .returned (.agg #[.int .i64 (firstS (diffs 3 x0 y0 x1 y1 x2 y2 x3 y3)).1, .int .i64 (firstS (diffs 3 x0 y0 x1 y1 x2 y2 x3 y3)).2]) ∧ Below w.heap.size w w' := by
  obtain ⟨⟨a0, a0'⟩, ⟨b0, b0'⟩, ⟨a1, a1'⟩, ⟨b1, b1'⟩, ⟨a2, a2'⟩, ⟨b2, b2'⟩, ⟨a3, a3'⟩, ⟨b3, b3'⟩⟩ := hC
  have s1 := Blk.new w 26 (segC 3 x0 y0 x1 y1 x2 y2 x3 y3)
  have s2 : Blk ((w.alloc (.cells (segC 3 x0 y0 x1 y1 x2 y2 x3 y3) 26)).alloc (.cells #[.int .i64 0, .int .i64 0] 23)) (w.heap.size + 1) 23 #[.int .i64 0, .int .i64 0] := by have h := Blk.new (w.alloc (.cells (segC 3 x0 y0 x1 y1 x2 y2 x3 y3) 26)) 23 #[.int .i64 0, .int .i64 0]; simpa only [World.size_alloc] using h
  go_enter Try.func11, Try.ntmps11
  go_wp2_with fail
  go_loopw [10] (fun i wr => ∃ k : Nat, k ≤ 2 ∧ i = .int .i64 k ∧ Blk wr w.heap.size 26 (segC 3 x0 y0 x1 y1 x2 y2 x3 y3) ∧ Blk wr (w.heap.size + 1) 23 #[.int .i64 0, .int .i64 0] ∧
      firstS (diffs 3 x0 y0 x1 y1 x2 y2 x3 y3) = firstS ((diffs 3 x0 y0 x1 y1 x2 y2 x3 y3).drop k) ∧ Below w.heap.size w wr) (fun i _ => 2 - (intOf i).toNat)
  case atStart => exact ⟨0, Nat.zero_le _, rfl, s1.alloc _, s2, rfl, by (repeat (first | exact Below.refl _ _ | assumption | refine Below.drew ?_ | refine Below.setCell ?_ (by simp; try omega) _ | refine Below.alloc ?_ (by simp; try omega) _))⟩
  case round =>
    clear s1 s2
    obtain ⟨k, hk, rfl, hS, hV, hF, hb⟩ := hrel
    have HF := Lib.hid hF
    clear hF
    have hlS := hS.lt
    have hlV := hV.lt
    have gx0 : wr.cell? ⟨w.heap.size, 0, none⟩ = some (.int .i64 x0) := hS.cell 0
    have gy0 : wr.cell? ⟨w.heap.size, 1, none⟩ = some (.int .i64 y0) := hS.cell 1
    have gv0 : wr.cell? ⟨w.heap.size + 1, 0, none⟩ = some (.int .i64 0) := hV.cell 0
    have gv1 : wr.cell? ⟨w.heap.size + 1, 1, none⟩ = some (.int .i64 0) := hV.cell 1
    have fv := hV.unfrozen
    rcases (by omega : k = 0 ∨ k = 1 ∨ k = 2) with rfl | rfl | rfl
    · have gx : wr.cell? ⟨w.heap.size, 2, none⟩ = some (.int .i64 x1) := hS.cell 2
      have gy : wr.cell? ⟨w.heap.size, 3, none⟩ = some (.int .i64 y1) := hS.cell 3
      rcases zero_cases (x1 - x0) (y1 - y0) with h | ⟨h, h'⟩ | ⟨h, h'⟩
      all_goals
        go_wp2_with fail
        refine (sub_any _ _ _ _ _ (by omega) (by omega) (by omega) (by omega) (by omega) (by omega) (by omega) (by omega)).mono ?_
        rintro e w2 ⟨rfl, hb2⟩
        obtain ⟨hc2, hf2⟩ := bcell hb2
        have hz2 := hb2.size
        simp at hz2
        have hx2 := (hb.alloc hb.size _).trans (hb2.mono (by simp; omega))
        have hS2 := (hS.alloc _).grow hb2
        have hV2 := (hV.alloc _).grow hb2
        have hlS2 : w.heap.size < wr.heap.size + 1 := by omega
        have hlV2 : w.heap.size + 1 < wr.heap.size + 1 := by omega
        go_wp2_with fail
        first
        | (refine bodyPost_ret (res_pt ((((hV2.set 0 _).set 1 _).set 0 _).set 1 _) rfl rfl rfl rfl) rfl ⟨?_, ?_⟩
           · refine pt_agg (p := (x1 - x0, y1 - y0)) rfl ?_
             rw [HF.out]
             exact (first_yes (by first | (left; simpa using h) | (right; simpa using h'))).symm
           · exact ((((hx2.setCell (by simp) _).setCell (by simp) _).setCell (by simp) _).setCell (by simp) _))
        | (refine ⟨⟨1, by omega, rfl, ?_, ?_, ?_, ?_⟩, by simp [intOf]⟩
           · exact (hS2.far (by omega) _).far (by omega) _
           · have h0 := (hV2.set 0 (.int .i64 (x1 - x0))).set 1 (.int .i64 (y1 - y0))
             rw [show x1 - x0 = 0 by simpa using h, show y1 - y0 = 0 by simpa using h'] at h0 ⊢
             simpa using h0
           · rw [HF.out]
             exact first_no (by simpa using h) (by simpa using h')
           · exact (hx2.setCell (by simp) _).setCell (by simp) _)
    · have gx : wr.cell? ⟨w.heap.size, 4, none⟩ = some (.int .i64 x2) := hS.cell 4
      have gy : wr.cell? ⟨w.heap.size, 5, none⟩ = some (.int .i64 y2) := hS.cell 5
      rcases zero_cases (x2 - x0) (y2 - y0) with h | ⟨h, h'⟩ | ⟨h, h'⟩
      all_goals
        go_wp2_with fail
        refine (sub_any _ _ _ _ _ (by omega) (by omega) (by omega) (by omega) (by omega) (by omega) (by omega) (by omega)).mono ?_
        rintro e w2 ⟨rfl, hb2⟩
        obtain ⟨hc2, hf2⟩ := bcell hb2
        have hz2 := hb2.size
        simp at hz2
        have hx2 := (hb.alloc hb.size _).trans (hb2.mono (by simp; omega))
        have hS2 := (hS.alloc _).grow hb2
        have hV2 := (hV.alloc _).grow hb2
        have hlS2 : w.heap.size < wr.heap.size + 1 := by omega
        have hlV2 : w.heap.size + 1 < wr.heap.size + 1 := by omega
        go_wp2_with fail
        first
        | (refine bodyPost_ret (res_pt ((((hV2.set 0 _).set 1 _).set 0 _).set 1 _) rfl rfl rfl rfl) rfl ⟨?_, ?_⟩
           · refine pt_agg (p := (x2 - x0, y2 - y0)) rfl ?_
             rw [HF.out]
             exact (first_yes (by first | (left; simpa using h) | (right; simpa using h'))).symm
           · exact ((((hx2.setCell (by simp) _).setCell (by simp) _).setCell (by simp) _).setCell (by simp) _))
        | (refine ⟨⟨2, by omega, rfl, ?_, ?_, ?_, ?_⟩, by simp [intOf]⟩
           · exact (hS2.far (by omega) _).far (by omega) _
           · have h0 := (hV2.set 0 (.int .i64 (x2 - x0))).set 1 (.int .i64 (y2 - y0))
             rw [show x2 - x0 = 0 by simpa using h, show y2 - y0 = 0 by simpa using h'] at h0 ⊢
             simpa using h0
           · rw [HF.out]
             exact first_no (by simpa using h) (by simpa using h')
           · exact (hx2.setCell (by simp) _).setCell (by simp) _)
    · go_wp2_with fail
      refine bodyPost_ret (res_pt ((hV.set 0 _).set 1 _) rfl rfl rfl rfl) rfl ⟨?_, ?_⟩
      · refine pt_agg (p := (0, 0)) rfl ?_
        rw [HF.out]
        rfl
      · exact (hb.setCell (by simp) _).setCell (by simp) _

set_option maxHeartbeats 1000000 in
theorem begin4_any (x0 y0 x1 y1 x2 y2 x3 y3 : Int) (w : World) (hC : C28P x0 y0 x1 y1 x2 y2 x3 y3) :
    Calls Try.prog 11 #[.agg #[.int .i64 x0, .int .i64 y0, .int .i64 x1, .int .i64 y1, .int .i64 x2, .int .i64 y2, .int .i64 x3, .int .i64 y3, .int .i64 4]] w
      fun e w' => e = .returned (.agg #[.int .i64 (firstS (diffs 4 x0 y0 x1 y1 x2 y2 x3 y3)).1, .int .i64 (firstS (diffs 4 x0 y0 x1 y1 x2 y2 x3 y3)).2]) ∧ Below w.heap.size w w' := by
  obtain ⟨⟨a0, a0'⟩, ⟨b0, b0'⟩, ⟨a1, a1'⟩, ⟨b1, b1'⟩, ⟨a2, a2'⟩, ⟨b2, b2'⟩, ⟨a3, a3'⟩, ⟨b3, b3'⟩⟩ := hC
  have s1 := Blk.new w 26 (segC 4 x0 y0 x1 y1 x2 y2 x3 y3)
  have s2 : Blk ((w.alloc (.cells (segC 4 x0 y0 x1 y1 x2 y2 x3 y3) 26)).alloc (.cells #[.int .i64 0, .int .i64 0] 23)) (w.heap.size + 1) 23 #[.int .i64 0, .int .i64 0] := by have h := Blk.new (w.alloc (.cells (segC 4 x0 y0 x1 y1 x2 y2 x3 y3) 26)) 23 #[.int .i64 0, .int .i64 0]; simpa only [World.size_alloc] using h
  go_enter Try.func11, Try.ntmps11
  go_wp2_with fail
  go_loopw [10] (fun i wr => ∃ k : Nat, k ≤ 3 ∧ i = .int .i64 k ∧ Blk wr w.heap.size 26 (segC 4 x0 y0 x1 y1 x2 y2 x3 y3) ∧ Blk wr (w.heap.size + 1) 23 #[.int .i64 0, .int .i64 0] ∧
      firstS (diffs 4 x0 y0 x1 y1 x2 y2 x3 y3) = firstS ((diffs 4 x0 y0 x1 y1 x2 y2 x3 y3).drop k) ∧ Below w.heap.size w wr) (fun i _ => 3 - (intOf i).toNat)
  case atStart => exact ⟨0, Nat.zero_le _, rfl, s1.alloc _, s2, rfl, by (repeat (first | exact Below.refl _ _ | assumption | refine Below.drew ?_ | refine Below.setCell ?_ (by simp; try omega) _ | refine Below.alloc ?_ (by simp; try omega) _))⟩
  case round =>
    clear s1 s2
    obtain ⟨k, hk, rfl, hS, hV, hF, hb⟩ := hrel
    have HF := Lib.hid hF
    clear hF
    have hlS := hS.lt
    have hlV := hV.lt
    have gx0 : wr.cell? ⟨w.heap.size, 0, none⟩ = some (.int .i64 x0) := hS.cell 0
    have gy0 : wr.cell? ⟨w.heap.size, 1, none⟩ = some (.int .i64 y0) := hS.cell 1
    have gv0 : wr.cell? ⟨w.heap.size + 1, 0, none⟩ = some (.int .i64 0) := hV.cell 0
    have gv1 : wr.cell? ⟨w.heap.size + 1, 1, none⟩ = some (.int .i64 0) := hV.cell 1
    have fv := hV.unfrozen
    rcases (by omega : k = 0 ∨ k = 1 ∨ k = 2 ∨ k = 3) with rfl | rfl | rfl | rfl
    · have gx : wr.cell? ⟨w.heap.size, 2, none⟩ = some (.int .i64 x1) := hS.cell 2
      have gy : wr.cell? ⟨w.heap.size, 3, none⟩ = some (.int .i64 y1) := hS.cell 3
      rcases zero_cases (x1 - x0) (y1 - y0) with h | ⟨h, h'⟩ | ⟨h, h'⟩
      all_goals
        go_wp2_with fail
        refine (sub_any _ _ _ _ _ (by omega) (by omega) (by omega) (by omega) (by omega) (by omega) (by omega) (by omega)).mono ?_
        rintro e w2 ⟨rfl, hb2⟩
        obtain ⟨hc2, hf2⟩ := bcell hb2
        have hz2 := hb2.size
        simp at hz2
        have hx2 := (hb.alloc hb.size _).trans (hb2.mono (by simp; omega))
        have hS2 := (hS.alloc _).grow hb2
        have hV2 := (hV.alloc _).grow hb2
        have hlS2 : w.heap.size < wr.heap.size + 1 := by omega
        have hlV2 : w.heap.size + 1 < wr.heap.size + 1 := by omega
        go_wp2_with fail
        first
        | (refine bodyPost_ret (res_pt ((((hV2.set 0 _).set 1 _).set 0 _).set 1 _) rfl rfl rfl rfl) rfl ⟨?_, ?_⟩
           · refine pt_agg (p := (x1 - x0, y1 - y0)) rfl ?_
             rw [HF.out]
             exact (first_yes (by first | (left; simpa using h) | (right; simpa using h'))).symm
           · exact ((((hx2.setCell (by simp) _).setCell (by simp) _).setCell (by simp) _).setCell (by simp) _))
        | (refine ⟨⟨1, by omega, rfl, ?_, ?_, ?_, ?_⟩, by simp [intOf]⟩
           · exact (hS2.far (by omega) _).far (by omega) _
           · have h0 := (hV2.set 0 (.int .i64 (x1 - x0))).set 1 (.int .i64 (y1 - y0))
             rw [show x1 - x0 = 0 by simpa using h, show y1 - y0 = 0 by simpa using h'] at h0 ⊢
             simpa using h0
           · rw [HF.out]
             exact first_no (by simpa using h) (by simpa using h')
           · exact (hx2.setCell (by simp) _).setCell (by simp) _)
    · have gx : wr.cell? ⟨w.heap.size, 4, none⟩ = some (.int .i64 x2) := hS.cell 4
      have gy : wr.cell? ⟨w.heap.size, 5, none⟩ = some (.int .i64 y2) := hS.cell 5
      rcases zero_cases (x2 - x0) (y2 - y0) with h | ⟨h, h'⟩ | ⟨h, h'⟩
      all_goals
        go_wp2_with fail
        refine (sub_any _ _ _ _ _ (by omega) (by omega) (by omega) (by omega) (by omega) (by omega) (by omega) (by omega)).mono ?_
        rintro e w2 ⟨rfl, hb2⟩
        obtain ⟨hc2, hf2⟩ := bcell hb2
        have hz2 := hb2.size
        simp at hz2
        have hx2 := (hb.alloc hb.size _).trans (hb2.mono (by simp; omega))
        have hS2 := (hS.alloc _).grow hb2
        have hV2 := (hV.alloc _).grow hb2
        have hlS2 : w.heap.size < wr.heap.size + 1 := by omega
        have hlV2 : w.heap.size + 1 < wr.heap.size + 1 := by omega
        go_wp2_with fail
        first
        | (refine bodyPost_ret (res_pt ((((hV2.set 0 _).set 1 _).set 0 _).set 1 _) rfl rfl rfl rfl) rfl ⟨?_, ?_⟩
           · refine pt_agg (p := (x2 - x0, y2 - y0)) rfl ?_
             rw [HF.out]
             exact (first_yes (by first | (left; simpa using h) | (right; simpa using h'))).symm
           · exact ((((hx2.setCell (by simp) _).setCell (by simp) _).setCell (by simp) _).setCell (by simp) _))
        | (refine ⟨⟨2, by omega, rfl, ?_, ?_, ?_, ?_⟩, by simp [intOf]⟩
           · exact (hS2.far (by omega) _).far (by omega) _
           · have h0 := (hV2.set 0 (.int .i64 (x2 - x0))).set 1 (.int .i64 (y2 - y0))
             rw [show x2 - x0 = 0 by simpa using h, show y2 - y0 = 0 by simpa using h'] at h0 ⊢
             simpa using h0
           · rw [HF.out]
             exact first_no (by simpa using h) (by simpa using h')
           · exact (hx2.setCell (by simp) _).setCell (by simp) _)
    · have gx : wr.cell? ⟨w.heap.size, 6, none⟩ = some (.int .i64 x3) := hS.cell 6
      have gy : wr.cell? ⟨w.heap.size, 7, none⟩ = some (.int .i64 y3) := hS.cell 7
      rcases zero_cases (x3 - x0) (y3 - y0) with h | ⟨h, h'⟩ | ⟨h, h'⟩
      all_goals
        go_wp2_with fail
        refine (sub_any _ _ _ _ _ (by omega) (by omega) (by omega) (by omega) (by omega) (by omega) (by omega) (by omega)).mono ?_
        rintro e w2 ⟨rfl, hb2⟩
        obtain ⟨hc2, hf2⟩ := bcell hb2
        have hz2 := hb2.size
        simp at hz2
        have hx2 := (hb.alloc hb.size _).trans (hb2.mono (by simp; omega))
        have hS2 := (hS.alloc _).grow hb2
        have hV2 := (hV.alloc _).grow hb2
        have hlS2 : w.heap.size < wr.heap.size + 1 := by omega
        have hlV2 : w.heap.size + 1 < wr.heap.size + 1 := by omega
        go_wp2_with fail
        first
        | (refine bodyPost_ret (res_pt ((((hV2.set 0 _).set 1 _).set 0 _).set 1 _) rfl rfl rfl rfl) rfl ⟨?_, ?_⟩
           · refine pt_agg (p := (x3 - x0, y3 - y0)) rfl ?_
             rw [HF.out]
             exact (first_yes (by first | (left; simpa using h) | (right; simpa using h'))).symm
           · exact ((((hx2.setCell (by simp) _).setCell (by simp) _).setCell (by simp) _).setCell (by simp) _))
        | (refine ⟨⟨3, by omega, rfl, ?_, ?_, ?_, ?_⟩, by simp [intOf]⟩
           · exact (hS2.far (by omega) _).far (by omega) _
           · have h0 := (hV2.set 0 (.int .i64 (x3 - x0))).set 1 (.int .i64 (y3 - y0))
             rw [show x3 - x0 = 0 by simpa using h, show y3 - y0 = 0 by simpa using h'] at h0 ⊢
             simpa using h0
           · rw [HF.out]
             exact first_no (by simpa using h) (by simpa using h')
           · exact (hx2.setCell (by simp) _).setCell (by simp) _)
    · go_wp2_with fail
      refine bodyPost_ret (res_pt ((hV.set 0 _).set 1 _) rfl rfl rfl rfl) rfl ⟨?_, ?_⟩
      · refine pt_agg (p := (0, 0)) rfl ?_
        rw [HF.out]
        rfl
      · exact (hb.setCell (by simp) _).setCell (by simp) _

end Go.Proofs.Ytpfeegmifcodfaa
