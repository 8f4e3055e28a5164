/- SignShift: what is shifted lies on the same side, and as much between, and within. -/
import Derived.Test.YtklnedcakgfbmaaLaweb
import Derived.Test.YtklnedcakgfbmaaOpen
namespace Go.Proofs.Ytklnedcakgfbmaa
open Go.RowKit

theorem crossD_shift (ax ay bx py qx qy u v : Int) : crossD (ax + u) (ay + v) (bx + u) (py + v) (qx + u) (qy + v) = crossD ax ay bx py qx qy := by
  unfold crossD
  rw [show bx + u - (ax + u) = bx - ax by omega, show qy + v - (ay + v) = qy - ay by omega, show py + v - (ay + v) = py - ay by omega, show qx + u - (ax + u) = qx - ax by omega]
theorem sideS_shift (ax ay bx py qx qy u v : Int) : sideS (ax + u) (ay + v) (bx + u) (py + v) (qx + u) (qy + v) = sideS ax ay bx py qx qy := by unfold sideS; rw [crossD_shift]
theorem orderedB_shift (a p b u : Int) : orderedB (a + u) (p + u) (b + u) = orderedB a p b := by
  unfold orderedB
  rw [Bool.eq_iff_iff]
  simp only [Bool.and_eq_true, decide_eq_true_eq]
  omega
theorem betweenB_shift (ax ay bx py qx qy u v : Int) : betweenB (ax + u) (ay + v) (bx + u) (py + v) (qx + u) (qy + v) = betweenB ax ay bx py qx qy := by
  unfold betweenB; rw [orderedB_shift, orderedB_shift, sideS_shift]
theorem withinB_shift (ax ay bx py cx cy qx qy u v : Int) : withinB (ax + u) (ay + v) (bx + u) (py + v) (cx + u) (cy + v) (qx + u) (qy + v) = withinB ax ay bx py cx cy qx qy := by
  unfold withinB; simp only [betweenB_shift, sideS_shift]

theorem heap_new (w : World) (o : Obj) : (w.alloc o).heap[w.heap.size]? = some o := by
  show (w.heap.push o)[w.heap.size]? = some o
  simp
theorem block_lt {w : World} {g : Nat} {o : Obj} (h : w.heap[g]? = some o) : g < w.heap.size := by
  rcases Nat.lt_or_ge g w.heap.size with k | k
  · exact k
  · rw [Array.getElem?_eq_none k] at h; cases h

theorem round_block {wr xs xt : World} {B i j : Nat} {cs : Array Value} {T : TypeId} {v0 v1 : Value} (hv : wr.heap[B]? = some (.cells cs T (0, 0))) (hbx : Below wr.heap.size wr xs)
    (hbt : Below ((xs.setCell ⟨B, i, none⟩ v0).setCell ⟨B, j, none⟩ v1).heap.size ((xs.setCell ⟨B, i, none⟩ v0).setCell ⟨B, j, none⟩ v1) xt) :
    xt.heap[B]? = some (.cells ((cs.setIfInBounds i v0).setIfInBounds j v1) T (0, 0)) := by
  have h0 : xs.heap[B]? = some (.cells cs T (0, 0)) := (hbx.block _ (block_lt hv)).trans hv
  have h1 := Go.Joins.block_setCell (i := j) (Go.Joins.block_setCell (i := i) h0 v0) v1
  exact (hbt.block _ (block_lt h1)).trans h1
theorem round_below {W wr xs xt : World} {B i j : Nat} {v0 v1 : Value} (hB : W.heap.size ≤ B) (hb : Below W.heap.size W wr) (hbx : Below wr.heap.size wr xs)
    (hbt : Below ((xs.setCell ⟨B, i, none⟩ v0).setCell ⟨B, j, none⟩ v1).heap.size ((xs.setCell ⟨B, i, none⟩ v0).setCell ⟨B, j, none⟩ v1) xt) : Below W.heap.size W xt := by
  have h := ((hb.trans (hbx.mono hb.size)).setCell (p := ⟨B, i, none⟩) hB v0).setCell (p := ⟨B, j, none⟩) hB v1
  exact h.trans (hbt.mono h.size)

/-- The cells of the four points, the first k of them shifted. -/
def shC (k : Nat) (ax ay bx py cx cy qx qy u v : Int) : Array Value :=
  #[.int .i64 (if 0 < k then ax + u else ax), .int .i64 (if 0 < k then ay + v else ay), .int .i64 (if 1 < k then bx + u else bx), .int .i64 (if 1 < k then py + v else py),
    .int .i64 (if 2 < k then cx + u else cx), .int .i64 (if 2 < k then cy + v else cy), .int .i64 (if 3 < k then qx + u else qx), .int .i64 (if 3 < k then qy + v else qy)]

set_option maxHeartbeats 4000000 in
theorem shift_any (ax ay bx py cx cy qx qy u v : Int) (w : World) :
    Calls Try.prog 7 #[.agg #[.int .i64 ax, .int .i64 ay], .agg #[.int .i64 bx, .int .i64 py], .agg #[.int .i64 cx, .int .i64 cy], .agg #[.int .i64 qx, .int .i64 qy], .agg #[.int .i64 u, .int .i64 v]] w fun e w' => e = .returned (.bool true) ∧ Below w.heap.size w w' := by
  cases hn : [(ax, ay), (bx, py), (cx, cy), (qx, qy)].all fun q => nearP q.1 q.2
  · have Hn := Lib.hid hn
    clear hn
    go_enter Try.func7, Try.ntmps7
    go_wp2_with (first | (go_at_call 10; refine (calls_from (by first | assumption | exact Below.refl _ _) (lnear_any _ 4 4 [(ax, ay), (bx, py), (cx, cy), (qx, qy)] _ (by omega) (by exact RPts.new (by simp) (fun k p hk => by match k, hk with | 0, hk => (simp at hk; subst hk; simp [go_sem]) | 1, hk => (simp at hk; subst hk; simp [go_sem]) | 2, hk => (simp at hk; subst hk; simp [go_sem]) | 3, hk => (simp at hk; subst hk; simp [go_sem]))))).mono ?_; rw [Hn.out]; rintro e w2 ⟨rfl, hb2⟩; have hc2 := (bcell hb2).1) | (go_at_call 11; refine (calls_from (by first | assumption | exact Below.refl _ _) (shown_any _)).mono ?_; rintro e w2 ⟨rfl, hb2⟩; have hc2 := (bcell hb2).1; have hf2 := (bcell hb2).2))
    go_ret
    exact ⟨rfl, by (first | ((repeat (first | exact Below.refl _ _ | assumption | refine Below.drew ?_ | refine Below.setCell ?_ (by simp; try omega) _ | refine Below.alloc ?_ (by simp; try omega) _)); done) | exact Below.trans (by (repeat (first | exact Below.refl _ _ | assumption | refine Below.drew ?_ | refine Below.setCell ?_ (by simp; try omega) _ | refine Below.alloc ?_ (by simp; try omega) _))) (hb2.mono (by simp; try omega)))⟩
  have Hn := Lib.hid hn
  simp only [List.all_cons, List.all_nil, Bool.and_true, Bool.and_eq_true] at hn
  obtain ⟨ha, hb, hc, hd⟩ := hn
  obtain ⟨a1, a2, a3, a4⟩ := nearP_true ha
  obtain ⟨b1, b2, b3, b4⟩ := nearP_true hb
  obtain ⟨c1, c2, c3, c4⟩ := nearP_true hc
  obtain ⟨d1, d2, d3, d4⟩ := nearP_true hd
  clear ha hb hc hd
  cases hm : [(u, v)].all fun q => nearP q.1 q.2
  · have Hm := Lib.hid hm
    clear hm
    go_enter Try.func7, Try.ntmps7
    go_wp2_with fail
    go_at_call 10
    refine (calls_from (Below.refl _ _) (lnear_any _ 4 4 [(ax, ay), (bx, py), (cx, cy), (qx, qy)] _ (by omega) (by exact RPts.new (by simp) (fun k p hk => by match k, hk with | 0, hk => (simp at hk; subst hk; simp [go_sem]) | 1, hk => (simp at hk; subst hk; simp [go_sem]) | 2, hk => (simp at hk; subst hk; simp [go_sem]) | 3, hk => (simp at hk; subst hk; simp [go_sem]))))).mono ?_
    rw [Hn.out]
    rintro e w2 ⟨rfl, hb2⟩
    have hc2 := (bcell hb2).1
    go_wp2_with fail
    go_at_call 10
    refine (calls_from (hb2.alloc hb2.size _) (lnear_any _ 1 1 [(u, v)] _ (by omega) (by exact RPts.new (by simp) (fun k p hk => by match k, hk with | 0, hk => (simp at hk; subst hk; simp [go_sem]))))).mono ?_
    rw [Hm.out]
    clear hc2 hb2
    rintro e w3 ⟨rfl, hb2⟩
    have hc2 := (bcell hb2).1
    go_wp2_with (go_at_call 11; refine (calls_from (by first | assumption | exact Below.refl _ _) (shown_any _)).mono ?_; rintro e w2 ⟨rfl, hb2⟩; have hc2 := (bcell hb2).1; have hf2 := (bcell hb2).2)
    go_ret
    exact ⟨rfl, by (first | ((repeat (first | exact Below.refl _ _ | assumption | refine Below.drew ?_ | refine Below.setCell ?_ (by simp; try omega) _ | refine Below.alloc ?_ (by simp; try omega) _)); done) | exact Below.trans (by (repeat (first | exact Below.refl _ _ | assumption | refine Below.drew ?_ | refine Below.setCell ?_ (by simp; try omega) _ | refine Below.alloc ?_ (by simp; try omega) _))) (hb2.mono (by simp; try omega)))⟩
  · have Hm := Lib.hid hm
    simp only [List.all_cons, List.all_nil, Bool.and_true] at hm
    obtain ⟨e1, e2, e3, e4⟩ := nearP_true hm
    clear hm
    go_enter Try.func7, Try.ntmps7
    go_wp2_with fail
    go_at_call 10
    refine (calls_from (Below.refl _ _) (lnear_any _ 4 4 [(ax, ay), (bx, py), (cx, cy), (qx, qy)] _ (by omega) (by exact RPts.new (by simp) (fun k p hk => by match k, hk with | 0, hk => (simp at hk; subst hk; simp [go_sem]) | 1, hk => (simp at hk; subst hk; simp [go_sem]) | 2, hk => (simp at hk; subst hk; simp [go_sem]) | 3, hk => (simp at hk; subst hk; simp [go_sem]))))).mono ?_
    rw [Hn.out]
    rintro e w2 ⟨rfl, hb2⟩
    have hc2 := (bcell hb2).1
    go_wp2_with fail
    go_at_call 10
    refine (calls_from (hb2.alloc hb2.size _) (lnear_any _ 1 1 [(u, v)] _ (by omega) (by exact RPts.new (by simp) (fun k p hk => by match k, hk with | 0, hk => (simp at hk; subst hk; simp [go_sem]))))).mono ?_
    rw [Hm.out]
    clear hc2 hb2
    rintro e w3 ⟨rfl, hb2⟩
    have hc2 := (bcell hb2).1
    go_wp2_with (go_at_call 11; refine (calls_from (by first | assumption | exact Below.refl _ _) (shown_any _)).mono ?_; rintro e w2 ⟨rfl, hb2⟩; have hc2 := (bcell hb2).1; have hf2 := (bcell hb2).2)
    obtain ⟨W0, hW0⟩ : ∃ W0, W0 = ((((w.alloc (.cells #[.int .i64 ax, .int .i64 ay] 23)).alloc (.cells #[.int .i64 bx, .int .i64 py] 23)).alloc (.cells #[.int .i64 cx, .int .i64 cy] 23)).alloc
      (.cells #[.int .i64 qx, .int .i64 qy] 23)).alloc (.cells #[.int .i64 u, .int .i64 v] 23) := ⟨_, rfl⟩
    have hblk : w2.heap[W0.heap.size]? = some (.cells (shC 0 ax ay bx py cx cy qx qy u v) 23 (0, 0)) := by
      subst hW0
      rw [hb2.block _ (by simp)]
      exact heap_new _ _
    have hb0 : Below W0.heap.size W0 w2 := by
      subst hW0
      exact ((Below.refl _ _).alloc (Nat.le_refl _) _).trans (hb2.mono (by simp))
    go_loopw [12] (fun i wr => ∃ k : Nat, k ≤ 4 ∧ i = .int .i64 k ∧ wr.heap[W0.heap.size]? = some (.cells (shC k ax ay bx py cx cy qx qy u v) 23 (0, 0)) ∧ Below W0.heap.size W0 wr) (fun i _ => 4 - (intOf i).toNat)
    case atStart => exact ⟨0, by omega, rfl, hblk, hb0⟩
    case round =>
      obtain ⟨k, hk, rfl, hv, hb⟩ := hrel
      subst hW0
      simp only [World.size_alloc] at hv
      have hBs := block_lt hv
      have hcel := fun i => Go.Joins.cell_of_block hv i
      have hunf := fun i => Go.Joins.unfrozen_of_block hv i
      obtain ⟨hc, hf⟩ := bcell hb
      have g8 : wr.cell? ⟨w.heap.size + 1 + 1 + 1 + 1, 0, none⟩ = some (.int .i64 u) := (hc _ 0 (by simp)).trans (by simp [go_sem])
      have g9 : wr.cell? ⟨w.heap.size + 1 + 1 + 1 + 1, 1, none⟩ = some (.int .i64 v) := (hc _ 1 (by simp)).trans (by simp [go_sem])
      have hBt : w.heap.size + 1 + 1 + 1 + 1 < wr.heap.size := Nat.lt_of_succ_lt hBs
      have HV := Lib.hid hv
      clear hv
      rcases (by omega : k = 0 ∨ k = 1 ∨ k = 2 ∨ k = 3 ∨ k = 4) with rfl | rfl | rfl | rfl | rfl
      · have g0 := hcel 0
        have g1 := hcel 1
        simp [shC] at g0 g1
        clear hcel
        go_wp2_with fail
        refine Reg.wp_region_cut 9 (by first | exact hb2 | exact Below.refl _ _) (by kernel_rfl) (by kernel_rfl) (fun u => ?_)
        simp only [List.take, List.drop]
        repeat (go_big_quiet_step ((first | (go_at_call 19; exact Reg.calls_aft (r4add_any _ _ _ _ _ (by omega) (by omega) (by omega) (by omega) (by omega) (by omega) (by omega) (by omega))))))
        refine wpQuiet_nil ?_
        intro xs hxs
        have hbx := Reg.class_below hxs
        clear hxs
        have hcx := (bcell hbx).1
        have hfx := (bcell hbx).2
        have hsx := hbx.size
        have hBx : w.heap.size + 1 + 1 + 1 + 1 + 1 < xs.heap.size := Nat.lt_of_lt_of_le hBs hsx
        go_wp2_with fail
        refine ⟨rfl, fun u2 => ?_⟩
        repeat (go_big_quiet_step ((first | fail)))
        refine wpQuiet_nil ?_
        intro xt hxt
        have hbt := Reg.class_below hxt
        clear hxt
        go_wp2_with fail
        refine ⟨⟨1, by omega, rfl, ?_, round_below (by simp) hb hbx hbt⟩, by simp [intOf]⟩
        simp only [World.size_alloc]
        exact round_block HV.out hbx hbt
      · have g0 := hcel 2
        have g1 := hcel 3
        simp [shC] at g0 g1
        clear hcel
        go_wp2_with fail
        refine Reg.wp_region_cut 9 (by first | exact hb2 | exact Below.refl _ _) (by kernel_rfl) (by kernel_rfl) (fun u => ?_)
        simp only [List.take, List.drop]
        repeat (go_big_quiet_step ((first | (go_at_call 19; exact Reg.calls_aft (r4add_any _ _ _ _ _ (by omega) (by omega) (by omega) (by omega) (by omega) (by omega) (by omega) (by omega))))))
        refine wpQuiet_nil ?_
        intro xs hxs
        have hbx := Reg.class_below hxs
        clear hxs
        have hcx := (bcell hbx).1
        have hfx := (bcell hbx).2
        have hsx := hbx.size
        have hBx : w.heap.size + 1 + 1 + 1 + 1 + 1 < xs.heap.size := Nat.lt_of_lt_of_le hBs hsx
        go_wp2_with fail
        refine ⟨rfl, fun u2 => ?_⟩
        repeat (go_big_quiet_step ((first | fail)))
        refine wpQuiet_nil ?_
        intro xt hxt
        have hbt := Reg.class_below hxt
        clear hxt
        go_wp2_with fail
        refine ⟨⟨2, by omega, rfl, ?_, round_below (by simp) hb hbx hbt⟩, by simp [intOf]⟩
        simp only [World.size_alloc]
        exact round_block HV.out hbx hbt
      · have g0 := hcel 4
        have g1 := hcel 5
        simp [shC] at g0 g1
        clear hcel
        go_wp2_with fail
        refine Reg.wp_region_cut 9 (by first | exact hb2 | exact Below.refl _ _) (by kernel_rfl) (by kernel_rfl) (fun u => ?_)
        simp only [List.take, List.drop]
        repeat (go_big_quiet_step ((first | (go_at_call 19; exact Reg.calls_aft (r4add_any _ _ _ _ _ (by omega) (by omega) (by omega) (by omega) (by omega) (by omega) (by omega) (by omega))))))
        refine wpQuiet_nil ?_
        intro xs hxs
        have hbx := Reg.class_below hxs
        clear hxs
        have hcx := (bcell hbx).1
        have hfx := (bcell hbx).2
        have hsx := hbx.size
        have hBx : w.heap.size + 1 + 1 + 1 + 1 + 1 < xs.heap.size := Nat.lt_of_lt_of_le hBs hsx
        go_wp2_with fail
        refine ⟨rfl, fun u2 => ?_⟩
        repeat (go_big_quiet_step ((first | fail)))
        refine wpQuiet_nil ?_
        intro xt hxt
        have hbt := Reg.class_below hxt
        clear hxt
        go_wp2_with fail
        refine ⟨⟨3, by omega, rfl, ?_, round_below (by simp) hb hbx hbt⟩, by simp [intOf]⟩
        simp only [World.size_alloc]
        exact round_block HV.out hbx hbt
      · have g0 := hcel 6
        have g1 := hcel 7
        simp [shC] at g0 g1
        clear hcel
        go_wp2_with fail
        refine Reg.wp_region_cut 9 (by first | exact hb2 | exact Below.refl _ _) (by kernel_rfl) (by kernel_rfl) (fun u => ?_)
        simp only [List.take, List.drop]
        repeat (go_big_quiet_step ((first | (go_at_call 19; exact Reg.calls_aft (r4add_any _ _ _ _ _ (by omega) (by omega) (by omega) (by omega) (by omega) (by omega) (by omega) (by omega))))))
        refine wpQuiet_nil ?_
        intro xs hxs
        have hbx := Reg.class_below hxs
        clear hxs
        have hcx := (bcell hbx).1
        have hfx := (bcell hbx).2
        have hsx := hbx.size
        have hBx : w.heap.size + 1 + 1 + 1 + 1 + 1 < xs.heap.size := Nat.lt_of_lt_of_le hBs hsx
        go_wp2_with fail
        refine ⟨rfl, fun u2 => ?_⟩
        repeat (go_big_quiet_step ((first | fail)))
        refine wpQuiet_nil ?_
        intro xt hxt
        have hbt := Reg.class_below hxt
        clear hxt
        go_wp2_with fail
        refine ⟨⟨4, by omega, rfl, ?_, round_below (by simp) hb hbx hbt⟩, by simp [intOf]⟩
        simp only [World.size_alloc]
        exact round_block HV.out hbx hbt
      · have g0 := hcel 0
        have g1 := hcel 1
        have g2 := hcel 2
        have g3 := hcel 3
        have g4 := hcel 4
        have g5 := hcel 5
        have g6 := hcel 6
        have g7 := hcel 7
        simp [shC] at g0 g1 g2 g3 g4 g5 g6 g7
        clear hcel
        have k00 : wr.cell? ⟨w.heap.size, 0, none⟩ = some (.int .i64 ax) := (hc _ 0 (by simp; try omega)).trans (by simp [go_sem])
        have k01 : wr.cell? ⟨w.heap.size, 1, none⟩ = some (.int .i64 ay) := (hc _ 1 (by simp; try omega)).trans (by simp [go_sem])
        have k10 : wr.cell? ⟨w.heap.size + 1, 0, none⟩ = some (.int .i64 bx) := (hc _ 0 (by simp; try omega)).trans (by simp [go_sem])
        have k11 : wr.cell? ⟨w.heap.size + 1, 1, none⟩ = some (.int .i64 py) := (hc _ 1 (by simp; try omega)).trans (by simp [go_sem])
        have k20 : wr.cell? ⟨w.heap.size + 1 + 1, 0, none⟩ = some (.int .i64 cx) := (hc _ 0 (by simp; try omega)).trans (by simp [go_sem])
        have k21 : wr.cell? ⟨w.heap.size + 1 + 1, 1, none⟩ = some (.int .i64 cy) := (hc _ 1 (by simp; try omega)).trans (by simp [go_sem])
        have k30 : wr.cell? ⟨w.heap.size + 1 + 1 + 1, 0, none⟩ = some (.int .i64 qx) := (hc _ 0 (by simp; try omega)).trans (by simp [go_sem])
        have k31 : wr.cell? ⟨w.heap.size + 1 + 1 + 1, 1, none⟩ = some (.int .i64 qy) := (hc _ 1 (by simp; try omega)).trans (by simp [go_sem])
        have l0 : w.heap.size < wr.heap.size := by omega
        have l1 : w.heap.size + 1 < wr.heap.size := by omega
        have l2 : w.heap.size + 1 + 1 < wr.heap.size := by omega
        have l3 : w.heap.size + 1 + 1 + 1 < wr.heap.size := by omega
        have hRP : Hid (RPts wr wr.heap.size (some ⟨w.heap.size + 1 + 1 + 1 + 1 + 1, 0, none⟩) 4 [(ax + u, ay + v), (bx + u, py + v), (cx + u, cy + v), (qx + u, qy + v)]) := Lib.hid (RPts.new hBs (fun k p hk => by
          match k, hk with
          | 0, hk => simp at hk; subst hk; exact ⟨g0, g1⟩
          | 1, hk => simp at hk; subst hk; exact ⟨g2, g3⟩
          | 2, hk => simp at hk; subst hk; exact ⟨g4, g5⟩
          | 3, hk => simp at hk; subst hk; exact ⟨g6, g7⟩))
        have hy : Below w.heap.size w wr := Below.trans (by (repeat (first | exact Below.refl _ _ | assumption | refine Below.drew ?_ | refine Below.setCell ?_ (by simp; try omega) _ | refine Below.alloc ?_ (by simp; try omega) _))) (hb.mono (by simp; omega))
        cases hl : ([(ax + u, ay + v), (bx + u, py + v), (cx + u, cy + v), (qx + u, qy + v)]).all fun q => nearP q.1 q.2
        · have Hl := Lib.hid hl
          clear hl
          go_wp2_with fail
          go_at_call 10
          refine (lnear_any _ 4 4 [(ax + u, ay + v), (bx + u, py + v), (cx + u, cy + v), (qx + u, qy + v)] _ (by omega) hRP.out).mono ?_
          rw [Hl.out]
          clear hb2
          rintro e w4 ⟨rfl, hb2⟩
          go_wp2_with fail
          go_ret
          exact ⟨rfl, hy.trans (hb2.mono hy.size)⟩
        · have Hl := Lib.hid hl
          simp only [List.all_cons, List.all_nil, Bool.and_true, Bool.and_eq_true] at hl
          obtain ⟨ha, hb', hc', hd⟩ := hl
          obtain ⟨m1, m2, m3, m4⟩ := nearP_true ha
          obtain ⟨n1, n2, n3, n4⟩ := nearP_true hb'
          obtain ⟨o1, o2, o3, o4⟩ := nearP_true hc'
          obtain ⟨p1, p2, p3, p4⟩ := nearP_true hd
          clear ha hb' hc' hd
          have s1 := sideS_shift ax ay bx py qx qy u v
          have s2 := betweenB_shift ax ay bx py qx qy u v
          have s3 := withinB_shift ax ay bx py cx cy qx qy u v
          go_wp2_with fail
          go_at_call 10
          refine (lnear_any _ 4 4 [(ax + u, ay + v), (bx + u, py + v), (cx + u, cy + v), (qx + u, qy + v)] _ (by omega) hRP.out).mono ?_
          rw [Hl.out]
          clear hb2
          rintro e w4 ⟨rfl, hb2⟩
          go_wp2_with fail
          refine Reg.wp_region_all (by first | exact hb2 | exact Below.refl _ _) (by kernel_rfl) (by kernel_rfl) ?_
          repeat (go_big_quiet_step ((first | (go_at_call 12; exact Reg.calls_aft (side_any _ _ _ _ _ _ _ (by omega) (by omega) (by omega) (by omega) (by omega) (by omega) (by omega) (by omega) (by omega) (by omega) (by omega) (by omega))) | (go_at_call 14; exact Reg.calls_aft (between_any _ _ _ _ _ _ _ (by omega) (by omega) (by omega) (by omega) (by omega) (by omega) (by omega) (by omega) (by omega) (by omega) (by omega) (by omega))) | (go_at_call 13; exact Reg.calls_aft (within_any _ _ _ _ _ _ _ _ _ (by omega) (by omega) (by omega) (by omega) (by omega) (by omega) (by omega) (by omega) (by omega) (by omega) (by omega) (by omega) (by omega) (by omega) (by omega) (by omega))))))
          refine wpQuiet_nil ?_
          intro xs hxs
          have hbx := Reg.class_below hxs
          clear hxs
          go_wp2_with fail
          go_ret
          exact ⟨rfl, hy.trans (hbx.mono hy.size)⟩

namespace shift
open Go.ChangeShapes Go.WideShapes Go.ChangeAt

theorem contract {H : Type} (enc : TypeId × Value → H) (W : World) (base : Nat) (args : Array Value) (ds : List (DataW H)) (ps : List MemPlace)
    (hval : ∀ (j : Nat) t v, Try.f7.params[j]? = some t → args[j]? = some v → Value.okWide Try.checked.prog W .any base t v)
    (hA : DataW.TrodAll enc Try.checked.prog W 0 (fun _ => true) true Try.f7.params.toList args.toList ds ps) (hlt : ∀ x ∈ ps, x.block < W.heap.size) :
    Calls Try.checked.prog 7 args W fun e W' => e = .returned (.bool true) ∧ Below W.heap.size W W' := by
  rw [Try.params7] at hA hval
  obtain ⟨v0, vs0, d0, ds0, p0, q0, ea, rfl, rfl, h0, hA⟩ := trodAll_cons hA
  obtain ⟨v1, vs1, d1, ds1, p1, q1, rfl, rfl, rfl, h1, hA⟩ := trodAll_cons hA
  obtain ⟨v2, vs2, d2, ds2, p2, q2, rfl, rfl, rfl, h2, hA⟩ := trodAll_cons hA
  obtain ⟨v3, vs3, d3, ds3, p3, q3, rfl, rfl, rfl, h3, hA⟩ := trodAll_cons hA
  obtain ⟨v4, vs4, d4, ds4, p4, q4, rfl, rfl, rfl, h4, hA⟩ := trodAll_cons hA
  obtain ⟨rfl, rfl, rfl⟩ := trodAll_nil hA
  obtain rfl : args = #[v0, v1, v2, v3, v4] := by cases args; simp_all
  obtain ⟨ax, ay, rfl, _, _⟩ := open_pt (hval 0 _ _ rfl rfl) h0
  obtain ⟨bx, py, rfl, _, _⟩ := open_pt (hval 1 _ _ rfl rfl) h1
  obtain ⟨cx, cy, rfl, _, _⟩ := open_pt (hval 2 _ _ rfl rfl) h2
  obtain ⟨qx, qy, rfl, _, _⟩ := open_pt (hval 3 _ _ rfl rfl) h3
  obtain ⟨u, v, rfl, _, _⟩ := open_pt (hval 4 _ _ rfl rfl) h4
  exact shift_any ax ay bx py cx cy qx qy u v W

set_option maxRecDepth 100000 in
theorem lifted (os : Os) (started : os.Started) (H : Type) (enc : TypeId × Value → H) :
    ReturnsInHanded {} Try.checked os 7 .any (Rows.signShiftSpec.pre6 enc Try.prog Try.f7 [] false) (Rows.signShiftSpec.post enc Try.prog Try.f7 false true false false) :=
  law_lift (bT := 4) started (by kernel_rfl) Try.func7 rfl (by kernel_rfl) (by kernel_rfl) (by kernel_rfl) (fun ds h => by match ds, h with | [_, _, _, _, _], _ => rfl)
    (ChangeSpec.witness6 (enc := enc) (C := Try.checked) false ⟨#[], #[.agg #[.int .i64 0, .int .i64 0], .agg #[.int .i64 0, .int .i64 0], .agg #[.int .i64 0, .int .i64 0], .agg #[.int .i64 0, .int .i64 0], .agg #[.int .i64 0, .int .i64 0]], []⟩ 8 (by kernel_rfl) (by kernel_rfl) (by kernel_rfl) (by kernel_rfl))
    (fun W base args ds ps hval hA hlt => contract enc W base args ds ps hval hA hlt)

theorem holds : Rows.SignShiftSaid :=
  OpenClaim.holds_of_wide 7 Try.f7 rfl rfl rfl rfl rfl rfl rfl ⟨rfl, rfl, rfl, rfl, rfl⟩ rfl rfl rfl rfl rfl (by kernel_rfl) Try.func7 (by kernel_rfl)
    (of_decide_eq_true (by kernel_rfl)) (by unfold Func.isWrapper; first | (rw [if_pos (by decide +kernel)]; kernel_rfl) | (rw [if_neg (by decide +kernel)]; exact ⟨rfl, rfl⟩))
    (fun os started H enc _ => lifted os started H enc)
end shift
end Go.Proofs.Ytklnedcakgfbmaa
