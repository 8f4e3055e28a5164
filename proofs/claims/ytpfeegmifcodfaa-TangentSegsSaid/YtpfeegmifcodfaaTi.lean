/- Contracts of the reference's Begin and Finish. -/
import Derived.Test.YtpfeegmifcodfaaTh
import Derived.Test.YtpfeegmifcodfaaRefd
import Derived.Deep.QuietTactic
import Derived.BigQuiet
namespace Go.Proofs.Ytpfeegmifcodfaa
open Go.RowKit

theorem below_drewN {B : Nat} {a w : World} (h : Below B a w) (n : Nat) : Below B a (w.drewN n) := ⟨h.os, h.tape, h.output, h.size, h.block⟩
theorem eq_cases (x x' y y' : Int) : ((x == x') = false) ∨ ((x == x') = true ∧ (y == y') = false) ∨ ((x == x') = true ∧ (y == y') = true) := by
  cases x == x' <;> cases y == y' <;> simp

set_option maxHeartbeats 2000000 in
theorem rbegin2_any (x0 y0 x1 y1 x2 y2 x3 y3 : Int) (w : World) (hC : C28P x0 y0 x1 y1 x2 y2 x3 y3) :
    Calls Try.prog 12 #[.agg #[.int .i64 x0, .int .i64 y0, .int .i64 x1, .int .i64 y1, .int .i64 x2, .int .i64 y2, .int .i64 x3, .int .i64 y3, .int .i64 2]] w
      fun e w' => e = .returned (.agg #[.int .i64 (beginP 2 x0 y0 x1 y1 x2 y2 x3 y3).1, .int .i64 (beginP 2 x0 y0 x1 y1 x2 y2 x3 y3).2]) ∧ Below w.heap.size w w' := by
  obtain ⟨⟨a0, a0'⟩, ⟨b0, b0'⟩, ⟨a1, a1'⟩, ⟨b1, b1'⟩, ⟨a2, a2'⟩, ⟨b2, b2'⟩, ⟨a3, a3'⟩, ⟨b3, b3'⟩⟩ := hC
  have s1 := Blk.new w 29 (segC 2 x0 y0 x1 y1 x2 y2 x3 y3)
  have s2 : Blk ((w.alloc (.cells (segC 2 x0 y0 x1 y1 x2 y2 x3 y3) 29)).alloc (.cells #[.int .i64 0, .int .i64 0] 23)) (w.heap.size + 1) 23 #[.int .i64 0, .int .i64 0] := by have h := Blk.new (w.alloc (.cells (segC 2 x0 y0 x1 y1 x2 y2 x3 y3) 29)) 23 #[.int .i64 0, .int .i64 0]; simpa only [World.size_alloc] using h
  go_enter Try.func12, Try.ntmps12
  go_wp2_with fail
  go_loopw [3] (fun i wr => ∃ k : Nat, 1 ≤ k ∧ k ≤ 2 ∧ i = .int .i64 k ∧ Blk wr w.heap.size 29 (segC 2 x0 y0 x1 y1 x2 y2 x3 y3) ∧ Blk wr (w.heap.size + 1) 23 #[.int .i64 0, .int .i64 0] ∧
      beginP 2 x0 y0 x1 y1 x2 y2 x3 y3 = firstS ((diffs 2 x0 y0 x1 y1 x2 y2 x3 y3).drop (k - 1)) ∧ Below w.heap.size w wr) (fun i _ => 2 - (intOf i).toNat)
  case atStart => exact ⟨1, by omega, by omega, rfl, s1.alloc _, s2, rfl, by (repeat (first | exact Below.refl _ _ | assumption | refine Below.drew ?_ | refine Below.setCell ?_ (by simp; try omega) _ | refine Below.alloc ?_ (by simp; try omega) _))⟩
  case round =>
    clear s1 s2
    obtain ⟨k, hk1, hk, rfl, hS, hV, hF, hb⟩ := hrel
    have HF := Lib.hid hF
    clear hF
    have hlS := hS.lt
    have hlV := hV.lt
    have gx0 : wr.cell? ⟨w.heap.size, 0, none⟩ = some (.int .i64 x0) := hS.cell 0
    have gy0 : wr.cell? ⟨w.heap.size, 1, none⟩ = some (.int .i64 y0) := hS.cell 1
    have gn : wr.cell? ⟨w.heap.size, 8, none⟩ = some (.int .i64 2) := hS.cell 8
    have gv0 : wr.cell? ⟨w.heap.size + 1, 0, none⟩ = some (.int .i64 0) := hV.cell 0
    have gv1 : wr.cell? ⟨w.heap.size + 1, 1, none⟩ = some (.int .i64 0) := hV.cell 1
    have fv := hV.unfrozen
    rcases (by omega : k = 1 ∨ k = 2) with rfl | rfl
    · have gx : wr.cell? ⟨w.heap.size, 2, none⟩ = some (.int .i64 x1) := hS.cell 2
      have gy : wr.cell? ⟨w.heap.size, 3, none⟩ = some (.int .i64 y1) := hS.cell 3
      rcases eq_cases x1 x0 y1 y0 with h | ⟨h, h'⟩ | ⟨h, h'⟩
      any_goals
        go_wp2_with fail
        go_quiet (fail)
        go_wp2_with fail
      · obtain ⟨wq, hq⟩ : ∃ wq, wr.drewN nq = wq := ⟨_, rfl⟩
        have hbq : Below wr.heap.size wr wq := by rw [← hq]; exact below_drewN (Below.refl _ _) _
        rw [hq]
        clear hq
        obtain ⟨hcq, hfq⟩ := bcell hbq
        have hlS' := Nat.lt_of_lt_of_le hlS hbq.size
        have hlV' := Nat.lt_of_lt_of_le hlV hbq.size
        refine Reg.wp_region_soft 7 (by first | exact hb2 | exact Below.refl _ _) (by kernel_rfl) (by kernel_rfl) (fun u => ?_)
        simp only [List.take, List.drop]
        repeat (go_big_quiet_step ((first | fail)))
        refine wpQuiet_nil ?_
        intro xs hxs
        have hbx := Reg.class_below hxs
        clear hxs
        go_wp2_with fail
        refine (r4sub_any _ _ _ _ _ (by omega) (by omega) (by omega) (by omega) (by omega) (by omega) (by omega) (by omega)).mono ?_
        rintro e w2 ⟨rfl, hb2⟩
        go_wp2_with fail
        refine ⟨rfl, hb2, fun z hz => ?_⟩
        have hb3 := hbx.trans ((hb2.trans (hz.mono hb2.size)).mono hbx.size)
        clear hz hb2 hbx
        obtain ⟨hc, hf⟩ := Reg.bcell hb3
        have hsz := hb3.size
        try simp at hsz
        go_wp2_with fail
        have hb4 : Below wr.heap.size wr z := hbq.trans (hb3.mono hbq.size)
        refine bodyPost_ret (res_pt (((hV.grow hb4).set 0 _).set 1 _) rfl rfl rfl rfl) rfl ⟨?_, ?_⟩
        · refine pt_agg (p := (x1 - x0, y1 - y0)) rfl ?_
          rw [HF.out]
          refine (first_yes ?_).symm
          simp at h
          try simp at h'
          simp only
          omega
        · exact ((hb.trans (hb4.mono hb.size)).setCell (by simp) _).setCell (by simp) _
      · obtain ⟨wq, hq⟩ : ∃ wq, wr.drewN nq = wq := ⟨_, rfl⟩
        have hbq : Below wr.heap.size wr wq := by rw [← hq]; exact below_drewN (Below.refl _ _) _
        rw [hq]
        clear hq
        obtain ⟨hcq, hfq⟩ := bcell hbq
        have hlS' := Nat.lt_of_lt_of_le hlS hbq.size
        have hlV' := Nat.lt_of_lt_of_le hlV hbq.size
        refine Reg.wp_region_soft 7 (by first | exact hb2 | exact Below.refl _ _) (by kernel_rfl) (by kernel_rfl) (fun u => ?_)
        simp only [List.take, List.drop]
        repeat (go_big_quiet_step ((first | fail)))
        refine wpQuiet_nil ?_
        intro xs hxs
        have hbx := Reg.class_below hxs
        clear hxs
        go_wp2_with fail
        refine (r4sub_any _ _ _ _ _ (by omega) (by omega) (by omega) (by omega) (by omega) (by omega) (by omega) (by omega)).mono ?_
        rintro e w2 ⟨rfl, hb2⟩
        go_wp2_with fail
        refine ⟨rfl, hb2, fun z hz => ?_⟩
        have hb3 := hbx.trans ((hb2.trans (hz.mono hb2.size)).mono hbx.size)
        clear hz hb2 hbx
        obtain ⟨hc, hf⟩ := Reg.bcell hb3
        have hsz := hb3.size
        try simp at hsz
        go_wp2_with fail
        have hb4 : Below wr.heap.size wr z := hbq.trans (hb3.mono hbq.size)
        refine bodyPost_ret (res_pt (((hV.grow hb4).set 0 _).set 1 _) rfl rfl rfl rfl) rfl ⟨?_, ?_⟩
        · refine pt_agg (p := (x1 - x0, y1 - y0)) rfl ?_
          rw [HF.out]
          refine (first_yes ?_).symm
          simp at h
          try simp at h'
          simp only
          omega
        · exact ((hb.trans (hb4.mono hb.size)).setCell (by simp) _).setCell (by simp) _
      · refine ⟨⟨2, by omega, by omega, rfl, ?_, ?_, ?_, ?_⟩, by simp [intOf]⟩
        · exact hS
        · exact hV
        · rw [HF.out]
          simp at h h'
          exact first_no (by simp only; omega) (by simp only; omega)
        · exact below_drewN hb _
    · go_wp2_with fail
      refine bodyPost_ret (res_pt ((hV.set 0 _).set 1 _) rfl rfl rfl rfl) rfl ⟨?_, ?_⟩
      · refine pt_agg (p := (0, 0)) rfl ?_
        rw [HF.out]
        rfl
      · exact (hb.setCell (by simp) _).setCell (by simp) _

set_option maxHeartbeats 2000000 in
theorem rbegin3_any (x0 y0 x1 y1 x2 y2 x3 y3 : Int) (w : World) (hC : C28P x0 y0 x1 y1 x2 y2 x3 y3) :
    Calls Try.prog 12 #[.agg #[.int .i64 x0, .int .i64 y0, .int .i64 x1, .int .i64 y1, .int .i64 x2, .int .i64 y2, .int .i64 x3, .int .i64 y3, .int .i64 3]] w
      fun e w' => e = .returned (.agg #[.int .i64 (beginP 3 x0 y0 x1 y1 x2 y2 x3 y3).1, .int .i64 (beginP 3 x0 y0 x1 y1 x2 y2 x3 y3).2]) ∧ Below w.heap.size w w' := by
  obtain ⟨⟨a0, a0'⟩, ⟨b0, b0'⟩, ⟨a1, a1'⟩, ⟨b1, b1'⟩, ⟨a2, a2'⟩, ⟨b2, b2'⟩, ⟨a3, a3'⟩, ⟨b3, b3'⟩⟩ := hC
  have s1 := Blk.new w 29 (segC 3 x0 y0 x1 y1 x2 y2 x3 y3)
  have s2 : Blk ((w.alloc (.cells (segC 3 x0 y0 x1 y1 x2 y2 x3 y3) 29)).alloc (.cells #[.int .i64 0, .int .i64 0] 23)) (w.heap.size + 1) 23 #[.int .i64 0, .int .i64 0] := by have h := Blk.new (w.alloc (.cells (segC 3 x0 y0 x1 y1 x2 y2 x3 y3) 29)) 23 #[.int .i64 0, .int .i64 0]; simpa only [World.size_alloc] using h
  go_enter Try.func12, Try.ntmps12
  go_wp2_with fail
  go_loopw [3] (fun i wr => ∃ k : Nat, 1 ≤ k ∧ k ≤ 3 ∧ i = .int .i64 k ∧ Blk wr w.heap.size 29 (segC 3 x0 y0 x1 y1 x2 y2 x3 y3) ∧ Blk wr (w.heap.size + 1) 23 #[.int .i64 0, .int .i64 0] ∧
      beginP 3 x0 y0 x1 y1 x2 y2 x3 y3 = firstS ((diffs 3 x0 y0 x1 y1 x2 y2 x3 y3).drop (k - 1)) ∧ Below w.heap.size w wr) (fun i _ => 3 - (intOf i).toNat)
  case atStart => exact ⟨1, by omega, by omega, rfl, s1.alloc _, s2, rfl, by (repeat (first | exact Below.refl _ _ | assumption | refine Below.drew ?_ | refine Below.setCell ?_ (by simp; try omega) _ | refine Below.alloc ?_ (by simp; try omega) _))⟩
  case round =>
    clear s1 s2
    obtain ⟨k, hk1, hk, rfl, hS, hV, hF, hb⟩ := hrel
    have HF := Lib.hid hF
    clear hF
    have hlS := hS.lt
    have hlV := hV.lt
    have gx0 : wr.cell? ⟨w.heap.size, 0, none⟩ = some (.int .i64 x0) := hS.cell 0
    have gy0 : wr.cell? ⟨w.heap.size, 1, none⟩ = some (.int .i64 y0) := hS.cell 1
    have gn : wr.cell? ⟨w.heap.size, 8, none⟩ = some (.int .i64 3) := hS.cell 8
    have gv0 : wr.cell? ⟨w.heap.size + 1, 0, none⟩ = some (.int .i64 0) := hV.cell 0
    have gv1 : wr.cell? ⟨w.heap.size + 1, 1, none⟩ = some (.int .i64 0) := hV.cell 1
    have fv := hV.unfrozen
    rcases (by omega : k = 1 ∨ k = 2 ∨ k = 3) with rfl | rfl | rfl
    · have gx : wr.cell? ⟨w.heap.size, 2, none⟩ = some (.int .i64 x1) := hS.cell 2
      have gy : wr.cell? ⟨w.heap.size, 3, none⟩ = some (.int .i64 y1) := hS.cell 3
      rcases eq_cases x1 x0 y1 y0 with h | ⟨h, h'⟩ | ⟨h, h'⟩
      any_goals
        go_wp2_with fail
        go_quiet (fail)
        go_wp2_with fail
      · obtain ⟨wq, hq⟩ : ∃ wq, wr.drewN nq = wq := ⟨_, rfl⟩
        have hbq : Below wr.heap.size wr wq := by rw [← hq]; exact below_drewN (Below.refl _ _) _
        rw [hq]
        clear hq
        obtain ⟨hcq, hfq⟩ := bcell hbq
        have hlS' := Nat.lt_of_lt_of_le hlS hbq.size
        have hlV' := Nat.lt_of_lt_of_le hlV hbq.size
        refine Reg.wp_region_soft 7 (by first | exact hb2 | exact Below.refl _ _) (by kernel_rfl) (by kernel_rfl) (fun u => ?_)
        simp only [List.take, List.drop]
        repeat (go_big_quiet_step ((first | fail)))
        refine wpQuiet_nil ?_
        intro xs hxs
        have hbx := Reg.class_below hxs
        clear hxs
        go_wp2_with fail
        refine (r4sub_any _ _ _ _ _ (by omega) (by omega) (by omega) (by omega) (by omega) (by omega) (by omega) (by omega)).mono ?_
        rintro e w2 ⟨rfl, hb2⟩
        go_wp2_with fail
        refine ⟨rfl, hb2, fun z hz => ?_⟩
        have hb3 := hbx.trans ((hb2.trans (hz.mono hb2.size)).mono hbx.size)
        clear hz hb2 hbx
        obtain ⟨hc, hf⟩ := Reg.bcell hb3
        have hsz := hb3.size
        try simp at hsz
        go_wp2_with fail
        have hb4 : Below wr.heap.size wr z := hbq.trans (hb3.mono hbq.size)
        refine bodyPost_ret (res_pt (((hV.grow hb4).set 0 _).set 1 _) rfl rfl rfl rfl) rfl ⟨?_, ?_⟩
        · refine pt_agg (p := (x1 - x0, y1 - y0)) rfl ?_
          rw [HF.out]
          refine (first_yes ?_).symm
          simp at h
          try simp at h'
          simp only
          omega
        · exact ((hb.trans (hb4.mono hb.size)).setCell (by simp) _).setCell (by simp) _
      · obtain ⟨wq, hq⟩ : ∃ wq, wr.drewN nq = wq := ⟨_, rfl⟩
        have hbq : Below wr.heap.size wr wq := by rw [← hq]; exact below_drewN (Below.refl _ _) _
        rw [hq]
        clear hq
        obtain ⟨hcq, hfq⟩ := bcell hbq
        have hlS' := Nat.lt_of_lt_of_le hlS hbq.size
        have hlV' := Nat.lt_of_lt_of_le hlV hbq.size
        refine Reg.wp_region_soft 7 (by first | exact hb2 | exact Below.refl _ _) (by kernel_rfl) (by kernel_rfl) (fun u => ?_)
        simp only [List.take, List.drop]
        repeat (go_big_quiet_step ((first | fail)))
        refine wpQuiet_nil ?_
        intro xs hxs
        have hbx := Reg.class_below hxs
        clear hxs
        go_wp2_with fail
        refine (r4sub_any _ _ _ _ _ (by omega) (by omega) (by omega) (by omega) (by omega) (by omega) (by omega) (by omega)).mono ?_
        rintro e w2 ⟨rfl, hb2⟩
        go_wp2_with fail
        refine ⟨rfl, hb2, fun z hz => ?_⟩
        have hb3 := hbx.trans ((hb2.trans (hz.mono hb2.size)).mono hbx.size)
        clear hz hb2 hbx
        obtain ⟨hc, hf⟩ := Reg.bcell hb3
        have hsz := hb3.size
        try simp at hsz
        go_wp2_with fail
        have hb4 : Below wr.heap.size wr z := hbq.trans (hb3.mono hbq.size)
        refine bodyPost_ret (res_pt (((hV.grow hb4).set 0 _).set 1 _) rfl rfl rfl rfl) rfl ⟨?_, ?_⟩
        · refine pt_agg (p := (x1 - x0, y1 - y0)) rfl ?_
          rw [HF.out]
          refine (first_yes ?_).symm
          simp at h
          try simp at h'
          simp only
          omega
        · exact ((hb.trans (hb4.mono hb.size)).setCell (by simp) _).setCell (by simp) _
      · refine ⟨⟨2, by omega, by omega, rfl, ?_, ?_, ?_, ?_⟩, by simp [intOf]⟩
        · exact hS
        · exact hV
        · rw [HF.out]
          simp at h h'
          exact first_no (by simp only; omega) (by simp only; omega)
        · exact below_drewN hb _
    · have gx : wr.cell? ⟨w.heap.size, 4, none⟩ = some (.int .i64 x2) := hS.cell 4
      have gy : wr.cell? ⟨w.heap.size, 5, none⟩ = some (.int .i64 y2) := hS.cell 5
      rcases eq_cases x2 x0 y2 y0 with h | ⟨h, h'⟩ | ⟨h, h'⟩
      any_goals
        go_wp2_with fail
        go_quiet (fail)
        go_wp2_with fail
      · obtain ⟨wq, hq⟩ : ∃ wq, wr.drewN nq = wq := ⟨_, rfl⟩
        have hbq : Below wr.heap.size wr wq := by rw [← hq]; exact below_drewN (Below.refl _ _) _
        rw [hq]
        clear hq
        obtain ⟨hcq, hfq⟩ := bcell hbq
        have hlS' := Nat.lt_of_lt_of_le hlS hbq.size
        have hlV' := Nat.lt_of_lt_of_le hlV hbq.size
        refine Reg.wp_region_soft 7 (by first | exact hb2 | exact Below.refl _ _) (by kernel_rfl) (by kernel_rfl) (fun u => ?_)
        simp only [List.take, List.drop]
        repeat (go_big_quiet_step ((first | fail)))
        refine wpQuiet_nil ?_
        intro xs hxs
        have hbx := Reg.class_below hxs
        clear hxs
        go_wp2_with fail
        refine (r4sub_any _ _ _ _ _ (by omega) (by omega) (by omega) (by omega) (by omega) (by omega) (by omega) (by omega)).mono ?_
        rintro e w2 ⟨rfl, hb2⟩
        go_wp2_with fail
        refine ⟨rfl, hb2, fun z hz => ?_⟩
        have hb3 := hbx.trans ((hb2.trans (hz.mono hb2.size)).mono hbx.size)
        clear hz hb2 hbx
        obtain ⟨hc, hf⟩ := Reg.bcell hb3
        have hsz := hb3.size
        try simp at hsz
        go_wp2_with fail
        have hb4 : Below wr.heap.size wr z := hbq.trans (hb3.mono hbq.size)
        refine bodyPost_ret (res_pt (((hV.grow hb4).set 0 _).set 1 _) rfl rfl rfl rfl) rfl ⟨?_, ?_⟩
        · refine pt_agg (p := (x2 - x0, y2 - y0)) rfl ?_
          rw [HF.out]
          refine (first_yes ?_).symm
          simp at h
          try simp at h'
          simp only
          omega
        · exact ((hb.trans (hb4.mono hb.size)).setCell (by simp) _).setCell (by simp) _
      · obtain ⟨wq, hq⟩ : ∃ wq, wr.drewN nq = wq := ⟨_, rfl⟩
        have hbq : Below wr.heap.size wr wq := by rw [← hq]; exact below_drewN (Below.refl _ _) _
        rw [hq]
        clear hq
        obtain ⟨hcq, hfq⟩ := bcell hbq
        have hlS' := Nat.lt_of_lt_of_le hlS hbq.size
        have hlV' := Nat.lt_of_lt_of_le hlV hbq.size
        refine Reg.wp_region_soft 7 (by first | exact hb2 | exact Below.refl _ _) (by kernel_rfl) (by kernel_rfl) (fun u => ?_)
        simp only [List.take, List.drop]
        repeat (go_big_quiet_step ((first | fail)))
        refine wpQuiet_nil ?_
        intro xs hxs
        have hbx := Reg.class_below hxs
        clear hxs
        go_wp2_with fail
        refine (r4sub_any _ _ _ _ _ (by omega) (by omega) (by omega) (by omega) (by omega) (by omega) (by omega) (by omega)).mono ?_
        rintro e w2 ⟨rfl, hb2⟩
        go_wp2_with fail
        refine ⟨rfl, hb2, fun z hz => ?_⟩
        have hb3 := hbx.trans ((hb2.trans (hz.mono hb2.size)).mono hbx.size)
        clear hz hb2 hbx
        obtain ⟨hc, hf⟩ := Reg.bcell hb3
        have hsz := hb3.size
        try simp at hsz
        go_wp2_with fail
        have hb4 : Below wr.heap.size wr z := hbq.trans (hb3.mono hbq.size)
        refine bodyPost_ret (res_pt (((hV.grow hb4).set 0 _).set 1 _) rfl rfl rfl rfl) rfl ⟨?_, ?_⟩
        · refine pt_agg (p := (x2 - x0, y2 - y0)) rfl ?_
          rw [HF.out]
          refine (first_yes ?_).symm
          simp at h
          try simp at h'
          simp only
          omega
        · exact ((hb.trans (hb4.mono hb.size)).setCell (by simp) _).setCell (by simp) _
      · refine ⟨⟨3, by omega, by omega, rfl, ?_, ?_, ?_, ?_⟩, by simp [intOf]⟩
        · exact hS
        · exact hV
        · rw [HF.out]
          simp at h h'
          exact first_no (by simp only; omega) (by simp only; omega)
        · exact below_drewN hb _
    · go_wp2_with fail
      refine bodyPost_ret (res_pt ((hV.set 0 _).set 1 _) rfl rfl rfl rfl) rfl ⟨?_, ?_⟩
      · refine pt_agg (p := (0, 0)) rfl ?_
        rw [HF.out]
        rfl
      · exact (hb.setCell (by simp) _).setCell (by simp) _

set_option maxHeartbeats 2000000 in
theorem rbegin4_any (x0 y0 x1 y1 x2 y2 x3 y3 : Int) (w : World) (hC : C28P x0 y0 x1 y1 x2 y2 x3 y3) :
    Calls Try.prog 12 #[.agg #[.int .i64 x0, .int .i64 y0, .int .i64 x1, .int .i64 y1, .int .i64 x2, .int .i64 y2, .int .i64 x3, .int .i64 y3, .int .i64 4]] w
      fun e w' => e = .returned (.agg #[.int .i64 (beginP 4 x0 y0 x1 y1 x2 y2 x3 y3).1, .int .i64 (beginP 4 x0 y0 x1 y1 x2 y2 x3 y3).2]) ∧ Below w.heap.size w w' := by
  obtain ⟨⟨a0, a0'⟩, ⟨b0, b0'⟩, ⟨a1, a1'⟩, ⟨b1, b1'⟩, ⟨a2, a2'⟩, ⟨b2, b2'⟩, ⟨a3, a3'⟩, ⟨b3, b3'⟩⟩ := hC
  have s1 := Blk.new w 29 (segC 4 x0 y0 x1 y1 x2 y2 x3 y3)
  have s2 : Blk ((w.alloc (.cells (segC 4 x0 y0 x1 y1 x2 y2 x3 y3) 29)).alloc (.cells #[.int .i64 0, .int .i64 0] 23)) (w.heap.size + 1) 23 #[.int .i64 0, .int .i64 0] := by have h := Blk.new (w.alloc (.cells (segC 4 x0 y0 x1 y1 x2 y2 x3 y3) 29)) 23 #[.int .i64 0, .int .i64 0]; simpa only [World.size_alloc] using h
  go_enter Try.func12, Try.ntmps12
  go_wp2_with fail
  go_loopw [3] (fun i wr => ∃ k : Nat, 1 ≤ k ∧ k ≤ 4 ∧ i = .int .i64 k ∧ Blk wr w.heap.size 29 (segC 4 x0 y0 x1 y1 x2 y2 x3 y3) ∧ Blk wr (w.heap.size + 1) 23 #[.int .i64 0, .int .i64 0] ∧
      beginP 4 x0 y0 x1 y1 x2 y2 x3 y3 = firstS ((diffs 4 x0 y0 x1 y1 x2 y2 x3 y3).drop (k - 1)) ∧ Below w.heap.size w wr) (fun i _ => 4 - (intOf i).toNat)
  case atStart => exact ⟨1, by omega, by omega, rfl, s1.alloc _, s2, rfl, by (repeat (first | exact Below.refl _ _ | assumption | refine Below.drew ?_ | refine Below.setCell ?_ (by simp; try omega) _ | refine Below.alloc ?_ (by simp; try omega) _))⟩
  case round =>
    clear s1 s2
    obtain ⟨k, hk1, hk, rfl, hS, hV, hF, hb⟩ := hrel
    have HF := Lib.hid hF
    clear hF
    have hlS := hS.lt
    have hlV := hV.lt
    have gx0 : wr.cell? ⟨w.heap.size, 0, none⟩ = some (.int .i64 x0) := hS.cell 0
    have gy0 : wr.cell? ⟨w.heap.size, 1, none⟩ = some (.int .i64 y0) := hS.cell 1
    have gn : wr.cell? ⟨w.heap.size, 8, none⟩ = some (.int .i64 4) := hS.cell 8
    have gv0 : wr.cell? ⟨w.heap.size + 1, 0, none⟩ = some (.int .i64 0) := hV.cell 0
    have gv1 : wr.cell? ⟨w.heap.size + 1, 1, none⟩ = some (.int .i64 0) := hV.cell 1
    have fv := hV.unfrozen
    rcases (by omega : k = 1 ∨ k = 2 ∨ k = 3 ∨ k = 4) with rfl | rfl | rfl | rfl
    · have gx : wr.cell? ⟨w.heap.size, 2, none⟩ = some (.int .i64 x1) := hS.cell 2
      have gy : wr.cell? ⟨w.heap.size, 3, none⟩ = some (.int .i64 y1) := hS.cell 3
      rcases eq_cases x1 x0 y1 y0 with h | ⟨h, h'⟩ | ⟨h, h'⟩
      any_goals
        go_wp2_with fail
        go_quiet (fail)
        go_wp2_with fail
      · obtain ⟨wq, hq⟩ : ∃ wq, wr.drewN nq = wq := ⟨_, rfl⟩
        have hbq : Below wr.heap.size wr wq := by rw [← hq]; exact below_drewN (Below.refl _ _) _
        rw [hq]
        clear hq
        obtain ⟨hcq, hfq⟩ := bcell hbq
        have hlS' := Nat.lt_of_lt_of_le hlS hbq.size
        have hlV' := Nat.lt_of_lt_of_le hlV hbq.size
        refine Reg.wp_region_soft 7 (by first | exact hb2 | exact Below.refl _ _) (by kernel_rfl) (by kernel_rfl) (fun u => ?_)
        simp only [List.take, List.drop]
        repeat (go_big_quiet_step ((first | fail)))
        refine wpQuiet_nil ?_
        intro xs hxs
        have hbx := Reg.class_below hxs
        clear hxs
        go_wp2_with fail
        refine (r4sub_any _ _ _ _ _ (by omega) (by omega) (by omega) (by omega) (by omega) (by omega) (by omega) (by omega)).mono ?_
        rintro e w2 ⟨rfl, hb2⟩
        go_wp2_with fail
        refine ⟨rfl, hb2, fun z hz => ?_⟩
        have hb3 := hbx.trans ((hb2.trans (hz.mono hb2.size)).mono hbx.size)
        clear hz hb2 hbx
        obtain ⟨hc, hf⟩ := Reg.bcell hb3
        have hsz := hb3.size
        try simp at hsz
        go_wp2_with fail
        have hb4 : Below wr.heap.size wr z := hbq.trans (hb3.mono hbq.size)
        refine bodyPost_ret (res_pt (((hV.grow hb4).set 0 _).set 1 _) rfl rfl rfl rfl) rfl ⟨?_, ?_⟩
        · refine pt_agg (p := (x1 - x0, y1 - y0)) rfl ?_
          rw [HF.out]
          refine (first_yes ?_).symm
          simp at h
          try simp at h'
          simp only
          omega
        · exact ((hb.trans (hb4.mono hb.size)).setCell (by simp) _).setCell (by simp) _
      · obtain ⟨wq, hq⟩ : ∃ wq, wr.drewN nq = wq := ⟨_, rfl⟩
        have hbq : Below wr.heap.size wr wq := by rw [← hq]; exact below_drewN (Below.refl _ _) _
        rw [hq]
        clear hq
        obtain ⟨hcq, hfq⟩ := bcell hbq
        have hlS' := Nat.lt_of_lt_of_le hlS hbq.size
        have hlV' := Nat.lt_of_lt_of_le hlV hbq.size
        refine Reg.wp_region_soft 7 (by first | exact hb2 | exact Below.refl _ _) (by kernel_rfl) (by kernel_rfl) (fun u => ?_)
        simp only [List.take, List.drop]
        repeat (go_big_quiet_step ((first | fail)))
        refine wpQuiet_nil ?_
        intro xs hxs
        have hbx := Reg.class_below hxs
        clear hxs
        go_wp2_with fail
        refine (r4sub_any _ _ _ _ _ (by omega) (by omega) (by omega) (by omega) (by omega) (by omega) (by omega) (by omega)).mono ?_
        rintro e w2 ⟨rfl, hb2⟩
        go_wp2_with fail
        refine ⟨rfl, hb2, fun z hz => ?_⟩
        have hb3 := hbx.trans ((hb2.trans (hz.mono hb2.size)).mono hbx.size)
        clear hz hb2 hbx
        obtain ⟨hc, hf⟩ := Reg.bcell hb3
        have hsz := hb3.size
        try simp at hsz
        go_wp2_with fail
        have hb4 : Below wr.heap.size wr z := hbq.trans (hb3.mono hbq.size)
        refine bodyPost_ret (res_pt (((hV.grow hb4).set 0 _).set 1 _) rfl rfl rfl rfl) rfl ⟨?_, ?_⟩
        · refine pt_agg (p := (x1 - x0, y1 - y0)) rfl ?_
          rw [HF.out]
          refine (first_yes ?_).symm
          simp at h
          try simp at h'
          simp only
          omega
        · exact ((hb.trans (hb4.mono hb.size)).setCell (by simp) _).setCell (by simp) _
      · refine ⟨⟨2, by omega, by omega, rfl, ?_, ?_, ?_, ?_⟩, by simp [intOf]⟩
        · exact hS
        · exact hV
        · rw [HF.out]
          simp at h h'
          exact first_no (by simp only; omega) (by simp only; omega)
        · exact below_drewN hb _
    · have gx : wr.cell? ⟨w.heap.size, 4, none⟩ = some (.int .i64 x2) := hS.cell 4
      have gy : wr.cell? ⟨w.heap.size, 5, none⟩ = some (.int .i64 y2) := hS.cell 5
      rcases eq_cases x2 x0 y2 y0 with h | ⟨h, h'⟩ | ⟨h, h'⟩
      any_goals
        go_wp2_with fail
        go_quiet (fail)
        go_wp2_with fail
      · obtain ⟨wq, hq⟩ : ∃ wq, wr.drewN nq = wq := ⟨_, rfl⟩
        have hbq : Below wr.heap.size wr wq := by rw [← hq]; exact below_drewN (Below.refl _ _) _
        rw [hq]
        clear hq
        obtain ⟨hcq, hfq⟩ := bcell hbq
        have hlS' := Nat.lt_of_lt_of_le hlS hbq.size
        have hlV' := Nat.lt_of_lt_of_le hlV hbq.size
        refine Reg.wp_region_soft 7 (by first | exact hb2 | exact Below.refl _ _) (by kernel_rfl) (by kernel_rfl) (fun u => ?_)
        simp only [List.take, List.drop]
        repeat (go_big_quiet_step ((first | fail)))
        refine wpQuiet_nil ?_
        intro xs hxs
        have hbx := Reg.class_below hxs
        clear hxs
        go_wp2_with fail
        refine (r4sub_any _ _ _ _ _ (by omega) (by omega) (by omega) (by omega) (by omega) (by omega) (by omega) (by omega)).mono ?_
        rintro e w2 ⟨rfl, hb2⟩
        go_wp2_with fail
        refine ⟨rfl, hb2, fun z hz => ?_⟩
        have hb3 := hbx.trans ((hb2.trans (hz.mono hb2.size)).mono hbx.size)
        clear hz hb2 hbx
        obtain ⟨hc, hf⟩ := Reg.bcell hb3
        have hsz := hb3.size
        try simp at hsz
        go_wp2_with fail
        have hb4 : Below wr.heap.size wr z := hbq.trans (hb3.mono hbq.size)
        refine bodyPost_ret (res_pt (((hV.grow hb4).set 0 _).set 1 _) rfl rfl rfl rfl) rfl ⟨?_, ?_⟩
        · refine pt_agg (p := (x2 - x0, y2 - y0)) rfl ?_
          rw [HF.out]
          refine (first_yes ?_).symm
          simp at h
          try simp at h'
          simp only
          omega
        · exact ((hb.trans (hb4.mono hb.size)).setCell (by simp) _).setCell (by simp) _
      · obtain ⟨wq, hq⟩ : ∃ wq, wr.drewN nq = wq := ⟨_, rfl⟩
        have hbq : Below wr.heap.size wr wq := by rw [← hq]; exact below_drewN (Below.refl _ _) _
        rw [hq]
        clear hq
        obtain ⟨hcq, hfq⟩ := bcell hbq
        have hlS' := Nat.lt_of_lt_of_le hlS hbq.size
        have hlV' := Nat.lt_of_lt_of_le hlV hbq.size
        refine Reg.wp_region_soft 7 (by first | exact hb2 | exact Below.refl _ _) (by kernel_rfl) (by kernel_rfl) (fun u => ?_)
        simp only [List.take, List.drop]
        repeat (go_big_quiet_step ((first | fail)))
        refine wpQuiet_nil ?_
        intro xs hxs
        have hbx := Reg.class_below hxs
        clear hxs
        go_wp2_with fail
        refine (r4sub_any _ _ _ _ _ (by omega) (by omega) (by omega) (by omega) (by omega) (by omega) (by omega) (by omega)).mono ?_
        rintro e w2 ⟨rfl, hb2⟩
        go_wp2_with fail
        refine ⟨rfl, hb2, fun z hz => ?_⟩
        have hb3 := hbx.trans ((hb2.trans (hz.mono hb2.size)).mono hbx.size)
        clear hz hb2 hbx
        obtain ⟨hc, hf⟩ := Reg.bcell hb3
        have hsz := hb3.size
        try simp at hsz
        go_wp2_with fail
        have hb4 : Below wr.heap.size wr z := hbq.trans (hb3.mono hbq.size)
        refine bodyPost_ret (res_pt (((hV.grow hb4).set 0 _).set 1 _) rfl rfl rfl rfl) rfl ⟨?_, ?_⟩
        · refine pt_agg (p := (x2 - x0, y2 - y0)) rfl ?_
          rw [HF.out]
          refine (first_yes ?_).symm
          simp at h
          try simp at h'
          simp only
          omega
        · exact ((hb.trans (hb4.mono hb.size)).setCell (by simp) _).setCell (by simp) _
      · refine ⟨⟨3, by omega, by omega, rfl, ?_, ?_, ?_, ?_⟩, by simp [intOf]⟩
        · exact hS
        · exact hV
        · rw [HF.out]
          simp at h h'
          exact first_no (by simp only; omega) (by simp only; omega)
        · exact below_drewN hb _
    · have gx : wr.cell? ⟨w.heap.size, 6, none⟩ = some (.int .i64 x3) := hS.cell 6
      have gy : wr.cell? ⟨w.heap.size, 7, none⟩ = some (.int .i64 y3) := hS.cell 7
      rcases eq_cases x3 x0 y3 y0 with h | ⟨h, h'⟩ | ⟨h, h'⟩
      any_goals
        go_wp2_with fail
        go_quiet (fail)
        go_wp2_with fail
      · obtain ⟨wq, hq⟩ : ∃ wq, wr.drewN nq = wq := ⟨_, rfl⟩
        have hbq : Below wr.heap.size wr wq := by rw [← hq]; exact below_drewN (Below.refl _ _) _
        rw [hq]
        clear hq
        obtain ⟨hcq, hfq⟩ := bcell hbq
        have hlS' := Nat.lt_of_lt_of_le hlS hbq.size
        have hlV' := Nat.lt_of_lt_of_le hlV hbq.size
        refine Reg.wp_region_soft 7 (by first | exact hb2 | exact Below.refl _ _) (by kernel_rfl) (by kernel_rfl) (fun u => ?_)
        simp only [List.take, List.drop]
        repeat (go_big_quiet_step ((first | fail)))
        refine wpQuiet_nil ?_
        intro xs hxs
        have hbx := Reg.class_below hxs
        clear hxs
        go_wp2_with fail
        refine (r4sub_any _ _ _ _ _ (by omega) (by omega) (by omega) (by omega) (by omega) (by omega) (by omega) (by omega)).mono ?_
        rintro e w2 ⟨rfl, hb2⟩
        go_wp2_with fail
        refine ⟨rfl, hb2, fun z hz => ?_⟩
        have hb3 := hbx.trans ((hb2.trans (hz.mono hb2.size)).mono hbx.size)
        clear hz hb2 hbx
        obtain ⟨hc, hf⟩ := Reg.bcell hb3
        have hsz := hb3.size
        try simp at hsz
        go_wp2_with fail
        have hb4 : Below wr.heap.size wr z := hbq.trans (hb3.mono hbq.size)
        refine bodyPost_ret (res_pt (((hV.grow hb4).set 0 _).set 1 _) rfl rfl rfl rfl) rfl ⟨?_, ?_⟩
        · refine pt_agg (p := (x3 - x0, y3 - y0)) rfl ?_
          rw [HF.out]
          refine (first_yes ?_).symm
          simp at h
          try simp at h'
          simp only
          omega
        · exact ((hb.trans (hb4.mono hb.size)).setCell (by simp) _).setCell (by simp) _
      · obtain ⟨wq, hq⟩ : ∃ wq, wr.drewN nq = wq := ⟨_, rfl⟩
        have hbq : Below wr.heap.size wr wq := by rw [← hq]; exact below_drewN (Below.refl _ _) _
        rw [hq]
        clear hq
        obtain ⟨hcq, hfq⟩ := bcell hbq
        have hlS' := Nat.lt_of_lt_of_le hlS hbq.size
        have hlV' := Nat.lt_of_lt_of_le hlV hbq.size
        refine Reg.wp_region_soft 7 (by first | exact hb2 | exact Below.refl _ _) (by kernel_rfl) (by kernel_rfl) (fun u => ?_)
        simp only [List.take, List.drop]
        repeat (go_big_quiet_step ((first | fail)))
        refine wpQuiet_nil ?_
        intro xs hxs
        have hbx := Reg.class_below hxs
        clear hxs
        go_wp2_with fail
        refine (r4sub_any _ _ _ _ _ (by omega) (by omega) (by omega) (by omega) (by omega) (by omega) (by omega) (by omega)).mono ?_
        rintro e w2 ⟨rfl, hb2⟩
        go_wp2_with fail
        refine ⟨rfl, hb2, fun z hz => ?_⟩
        have hb3 := hbx.trans ((hb2.trans (hz.mono hb2.size)).mono hbx.size)
        clear hz hb2 hbx
        obtain ⟨hc, hf⟩ := Reg.bcell hb3
        have hsz := hb3.size
        try simp at hsz
        go_wp2_with fail
        have hb4 : Below wr.heap.size wr z := hbq.trans (hb3.mono hbq.size)
        refine bodyPost_ret (res_pt (((hV.grow hb4).set 0 _).set 1 _) rfl rfl rfl rfl) rfl ⟨?_, ?_⟩
        · refine pt_agg (p := (x3 - x0, y3 - y0)) rfl ?_
          rw [HF.out]
          refine (first_yes ?_).symm
          simp at h
          try simp at h'
          simp only
          omega
        · exact ((hb.trans (hb4.mono hb.size)).setCell (by simp) _).setCell (by simp) _
      · refine ⟨⟨4, by omega, by omega, rfl, ?_, ?_, ?_, ?_⟩, by simp [intOf]⟩
        · exact hS
        · exact hV
        · rw [HF.out]
          simp at h h'
          exact first_no (by simp only; omega) (by simp only; omega)
        · exact below_drewN hb _
    · go_wp2_with fail
      refine bodyPost_ret (res_pt ((hV.set 0 _).set 1 _) rfl rfl rfl rfl) rfl ⟨?_, ?_⟩
      · refine pt_agg (p := (0, 0)) rfl ?_
        rw [HF.out]
        rfl
      · exact (hb.setCell (by simp) _).setCell (by simp) _

end Go.Proofs.Ytpfeegmifcodfaa
