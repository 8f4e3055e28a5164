/- Contract of the reference's Class. -/
import Derived.Test.YtpfeegmifcodfaaTj
namespace Go.Proofs.Ytpfeegmifcodfaa
open Go.RowKit

def bendsU (u : Int × Int) (px py : Nat → Int) (k : Nat) : Bool := (List.range k).any fun j => bendB u (px 0, py 0) (legAt px py j)
def foldsU (u : Int × Int) (px py : Nat → Int) (k : Nat) : Bool := (List.range k).any fun j => foldB u (legAt px py j)
theorem bendsU_succ (u : Int × Int) (px py : Nat → Int) (k : Nat) : bendsU u px py (k + 1) = (bendsU u px py k || bendB u (px 0, py 0) (legAt px py k)) := by simp [bendsU, List.range_succ]
theorem foldsU_succ (u : Int × Int) (px py : Nat → Int) (k : Nat) : foldsU u px py (k + 1) = (foldsU u px py k || foldB u (legAt px py k)) := by simp [foldsU, List.range_succ]
theorem bendsU_yes {u : Int × Int} {px py : Nat → Int} {j k : Nat} (h : j < k) (hb : bendB u (px 0, py 0) (legAt px py j) = true) : bendsU u px py k = true := by
  unfold bendsU
  rw [List.any_eq_true]
  exact ⟨j, List.mem_range.2 h, hb⟩
theorem classS_zero (px py : Nat → Int) (k : Nat) : classS (bendsU (0, 0) px py k) (foldsU (0, 0) px py k) (0, 0) = 0 := by
  have e1 : bendsU (0, 0) px py k = false := by simp [bendsU, bendB]
  have e2 : foldsU (0, 0) px py k = false := by simp [foldsU, foldB]
  rw [e1, e2]; rfl

set_option maxRecDepth 100000 in
set_option maxHeartbeats 4000000 in
theorem rclass_any (n : Nat) (hn2 : 2 ≤ n) (hn4 : n ≤ 4) (px py : Nat → Int) (hC : ∀ k, C28 (px k) ∧ C28 (py k)) (u : Int × Int) (w : World)
    (hu : (-536870912 ≤ u.1 ∧ u.1 ≤ 536870912) ∧ (-536870912 ≤ u.2 ∧ u.2 ≤ 536870912))
    (hBegin : ∀ W, Calls Try.prog 12 #[.agg (segF px py n)] W fun e w' => e = .returned (.agg #[.int .i64 u.1, .int .i64 u.2]) ∧ Below W.heap.size W w') :
    Calls Try.prog 16 #[.agg (segF px py n)] w
      fun e w' => e = .returned (.int .i64 (classS (bendsU u px py (n - 1)) (foldsU u px py (n - 1)) u)) ∧ Below w.heap.size w w' := by
  obtain ⟨ua, ub⟩ := u
  simp only at hu hBegin
  obtain ⟨⟨d1, d2⟩, ⟨d3, d4⟩⟩ := hu
  have HB := Lib.hid hBegin
  have HC := Lib.hid hC
  clear hBegin hC
  have sS := Blk.new w 29 (segF px py n)
  rcases zero_cases ua ub with h | ⟨h, h'⟩ | ⟨h, h'⟩
  rotate_left 2
  · simp only [segF, segC]
    go_enter Try.func16, Try.ntmps16
    go_wp2_with fail
    refine (HB.out _).mono ?_
    rintro e w2 ⟨rfl, hb2⟩
    go_wp2_with fail
    go_ret
    have hx2 : Below w.heap.size w w2 := Below.trans (by (repeat (first | exact Below.refl _ _ | assumption | refine Below.drew ?_ | refine Below.setCell ?_ (by simp; try omega) _ | refine Below.alloc ?_ (by simp; try omega) _))) (hb2.mono (by simp))
    refine ⟨ret_int ?_, hx2.alloc hx2.size _⟩
    simp at h h'
    subst h h'
    exact (classS_zero px py _).symm
  all_goals
    simp only [segF, segC]
    go_enter Try.func16, Try.ntmps16
    go_wp2_with fail
    refine (HB.out _).mono ?_
    rintro e w2 ⟨rfl, hb2⟩
    go_wp2_with fail
    have hx2 : Below w.heap.size w w2 := Below.trans (by (repeat (first | exact Below.refl _ _ | assumption | refine Below.drew ?_ | refine Below.setCell ?_ (by simp; try omega) _ | refine Below.alloc ?_ (by simp; try omega) _))) (hb2.mono (by simp))
    have kS := (sS.grow hb2).alloc (.cells #[.int .i64 ua, .int .i64 ub] 23)
    have kU := Blk.new w2 23 #[.int .i64 ua, .int .i64 ub]
    have hx3 := hx2.alloc hx2.size (.cells #[.int .i64 ua, .int .i64 ub] 23)
    clear hb2 sS
    go_loopw [4, 5] (fun bk i wr => ∃ k : Nat, k ≤ n - 1 ∧ i = .int .i64 ((k : Int) + 1) ∧ bk = .bool (foldsU (ua, ub) px py k) ∧ bendsU (ua, ub) px py k = false ∧ Blk wr w.heap.size 29 (segF px py n) ∧
      Blk wr w2.heap.size 23 #[.int .i64 ua, .int .i64 ub] ∧ Below w.heap.size w wr) (fun _ i _ => (n - (intOf i).toNat))
    case atStart => exact ⟨0, by omega, rfl, rfl, rfl, kS, kU, hx3⟩
    case round =>
      clear kS kU hx3
      obtain ⟨k, hk, rfl, rfl, hbn, hS, hU, hb⟩ := hrel
      have HBN := Lib.hid hbn
      clear hbn
      have hlS := hS.lt
      have hlU := hU.lt
      have gn : wr.cell? ⟨w.heap.size, 8, none⟩ = some (.int .i64 n) := hS.cell 8
      by_cases hlt : k < n - 1
      · have hin : ((k : Int) + 1) < n := by omega
        obtain ⟨gx, gy⟩ := segF_cell hS (k + 1) (by omega)
        obtain ⟨gpx, gpy⟩ := segF_cell hS k (by omega)
        have g0x : wr.cell? ⟨w.heap.size, 0, none⟩ = some (.int .i64 (px 0)) := hS.cell 0
        have g0y : wr.cell? ⟨w.heap.size, 1, none⟩ = some (.int .i64 (py 0)) := hS.cell 1
        have gu0 : wr.cell? ⟨w2.heap.size, 0, none⟩ = some (.int .i64 ua) := hU.cell 0
        have gu1 : wr.cell? ⟨w2.heap.size, 1, none⟩ = some (.int .i64 ub) := hU.cell 1
        obtain ⟨⟨c1, c2⟩, ⟨c3, c4⟩⟩ := HC.out k
        obtain ⟨⟨c5, c6⟩, ⟨c7, c8⟩⟩ := HC.out (k + 1)
        obtain ⟨⟨c9, c10⟩, ⟨c11, c12⟩⟩ := HC.out 0
        have i1 : (0 : Int) ≤ (k : Int) + 1 := by omega
        have i2 : (k : Int) + 1 < 4 := by omega
        have i3 : ((k : Int) + 1).toNat = k + 1 := by omega
        have i4 : (k : Int) < 4 := by omega
        have HBS := Lib.hid (bendsU_succ (ua, ub) px py k)
        have HFS := Lib.hid (foldsU_succ (ua, ub) px py k)
        cases hbd : bendB (ua, ub) (px 0, py 0) (legAt px py k)
        · skip
          have HBD := Lib.hid hbd
          have hbE : (ua * (py (k + 1) - py 0) - ub * (px (k + 1) - px 0) != 0) = false := hbd
          clear hbd
          go_wp2_with fail
          refine Reg.wp_region_all (Below.refl _ _) (by kernel_rfl) (by kernel_rfl) ?_
          repeat (go_big_quiet_step ((first | (go_at_call 30; exact Reg.calls_aft (r4sub_any _ _ _ _ _ (by omega) (by omega) (by omega) (by omega) (by omega) (by omega) (by omega) (by omega))) | (go_at_call 35; exact Reg.calls_aft (r4cross_any _ _ _ _ _ (by omega) (by omega) (by omega) (by omega) (by omega) (by omega) (by omega) (by omega))))))
          refine wpQuiet_nil ?_
          intro xs hxs
          have hbx := Reg.class_below hxs
          clear hxs
          have hcx := (bcell hbx).1
          have hlS' := Nat.lt_of_lt_of_le hlS hbx.size
          have hlU' := Nat.lt_of_lt_of_le hlU hbx.size
          have hS2 := hS.grow hbx
          have hU2 := hU.grow hbx
          have hb2 := hb.trans (hbx.mono hb.size)
          clear hS hU hb
          cases hfd : foldsU (ua, ub) px py k
          · have HFD := Lib.hid hfd
            clear hfd
            go_wp2_with fail
            refine Reg.wp_region_all (Below.refl _ _) (by kernel_rfl) (by kernel_rfl) ?_
            have hbx1 := Lib.hid hbx
            clear hbx
            repeat (go_big_quiet_step ((first | (go_at_call 30; exact Reg.calls_aft (r4sub_any _ _ _ _ _ (by omega) (by omega) (by omega) (by omega) (by omega) (by omega) (by omega) (by omega))) | (go_at_call 36; exact Reg.calls_aft (r4dot_any _ _ _ _ _ (by omega) (by omega) (by omega) (by omega) (by omega) (by omega) (by omega) (by omega))))))
            refine wpQuiet_nil ?_
            intro xs hxs
            have hbx := Reg.class_below hxs
            clear hxs
            go_wp2_with fail
            refine ⟨⟨k + 1, by omega, by go_num, ?_, ?_, hS2.grow hbx, hU2.grow hbx, hb2.trans (hbx.mono hb2.size)⟩, by simp [intOf]; omega⟩
            · rw [HFS.out, HFD.out]; rfl
            · rw [HBS.out, HBN.out, HBD.out]; rfl
          · have HFD := Lib.hid hfd
            clear hfd
            go_wp2_with fail
            refine Reg.wp_region_all (Below.refl _ _) (by kernel_rfl) (by kernel_rfl) ?_
            have hbx1 := Lib.hid hbx
            clear hbx
            repeat (go_big_quiet_step ((first | fail)))
            refine wpQuiet_nil ?_
            intro xs hxs
            have hbx := Reg.class_below hxs
            clear hxs
            go_wp2_with fail
            refine ⟨⟨k + 1, by omega, by go_num, ?_, ?_, hS2.grow hbx, hU2.grow hbx, hb2.trans (hbx.mono hb2.size)⟩, by simp [intOf]; omega⟩
            · rw [HFS.out, HFD.out]; rfl
            · rw [HBS.out, HBN.out, HBD.out]; rfl
        · skip
          have HBD := Lib.hid hbd
          have hbE : (ua * (py (k + 1) - py 0) - ub * (px (k + 1) - px 0) != 0) = true := hbd
          clear hbd
          go_wp2_with fail
          refine Reg.wp_region_all (Below.refl _ _) (by kernel_rfl) (by kernel_rfl) ?_
          repeat (go_big_quiet_step ((first | (go_at_call 30; exact Reg.calls_aft (r4sub_any _ _ _ _ _ (by omega) (by omega) (by omega) (by omega) (by omega) (by omega) (by omega) (by omega))) | (go_at_call 35; exact Reg.calls_aft (r4cross_any _ _ _ _ _ (by omega) (by omega) (by omega) (by omega) (by omega) (by omega) (by omega) (by omega))))))
          refine wpQuiet_nil ?_
          intro xs hxs
          have hbx := Reg.class_below hxs
          clear hxs
          have hcx := (bcell hbx).1
          have hlS' := Nat.lt_of_lt_of_le hlS hbx.size
          have hlU' := Nat.lt_of_lt_of_le hlU hbx.size
          go_wp2_with fail
          go_ret
          refine ⟨ret_int ?_, hb.trans (hbx.mono hb.size)⟩
          rw [bendsU_yes (k := n - 1) hlt HBD.out]
          rfl
      · have hin : ¬ ((k : Int) + 1) < n := by omega
        have hkn : k = n - 1 := by omega
        cases hfd : foldsU (ua, ub) px py k
        · have HF := Lib.hid hfd
          clear hfd
          go_wp2_with fail
          go_ret
          refine ⟨ret_int ?_, hb⟩
          rw [← hkn, HBN.out, HF.out]
          simp at h
          try simp at h'
          simp [classS, *]
        · have HF := Lib.hid hfd
          clear hfd
          go_wp2_with fail
          go_ret
          refine ⟨ret_int ?_, hb⟩
          rw [← hkn, HBN.out, HF.out]
          rfl

end Go.Proofs.Ytpfeegmifcodfaa
