/- Contract of the reference's Corner. Printed by gencorner.py. -/
import Derived.Test.YtpfeegmifcodfaaTd
namespace Go.Proofs.Ytpfeegmifcodfaa
open Go.RowKit

set_option maxHeartbeats 1000000 in
theorem rcorner_out (closed : Bool) (a : Option Addr) (n c : Nat) (l : List (Int × Int)) (i : Int) (w : World) (hl : l.length = n) (hi : i < 0 ∨ (n : Int) ≤ i) :
    Calls Try.prog 20 #[.agg #[.slice a n c, .bool closed], .int .i64 i] w
      fun e w' => e = .returned (.tuple #[.agg #[.int .i64 (cornerS closed l i).1.1, .int .i64 (cornerS closed l i).1.2], .agg #[.int .i64 (cornerS closed l i).2.1, .int .i64 (cornerS closed l i).2.2]]) ∧ Below w.heap.size w w' := by
  have HE : Hid (cornerS closed l i = ((0, 0), (0, 0))) := Lib.hid (by unfold cornerS; rw [if_pos (by omega)])
  have hi' : i < 0 ∨ (¬ i < 0 ∧ (n : Int) ≤ i) := by omega
  rcases hi' with h | ⟨h, k⟩
  · go_enter Try.func20, Try.ntmps20
    go_wp2_with fail
    go_region
    all_goals
      go_wp2_with fail
      exact bodyPost_ret (v := .tuple #[.agg #[.int .i64 0, .int .i64 0], .agg #[.int .i64 0, .int .i64 0]]) (by simp [results, Try.results20, go_sem]) rfl ⟨by rw [HE.out], by (repeat (first | exact Below.refl _ _ | assumption | refine Below.drew ?_ | refine Below.setCell ?_ (by simp; try omega) _ | refine Below.alloc ?_ (by simp; try omega) _))⟩
  · go_enter Try.func20, Try.ntmps20
    go_wp2_with fail
    go_region
    all_goals
      go_wp2_with fail
      exact bodyPost_ret (v := .tuple #[.agg #[.int .i64 0, .int .i64 0], .agg #[.int .i64 0, .int .i64 0]]) (by simp [results, Try.results20, go_sem]) rfl ⟨by rw [HE.out], by (repeat (first | exact Below.refl _ _ | assumption | refine Below.drew ?_ | refine Below.setCell ?_ (by simp; try omega) _ | refine Below.alloc ?_ (by simp; try omega) _))⟩

/-- What the reference's Corner's blocks hold. -/
def RSt (w W : World) (sl : Value) (closed : Bool) (u v : Int × Int) : Prop :=
  Blk W w.heap.size 42 #[sl, .bool closed] ∧ Blk W (w.heap.size + 1) 23 #[.int .i64 0, .int .i64 0] ∧ Blk W (w.heap.size + 1 + 1) 23 #[.int .i64 0, .int .i64 0] ∧
    Blk W (w.heap.size + 1 + 1 + 1) 23 #[.int .i64 u.1, .int .i64 u.2] ∧ Blk W (w.heap.size + 1 + 1 + 1 + 1) 23 #[.int .i64 v.1, .int .i64 v.2] ∧ Below w.heap.size w W
section
variable {w W W' : World} {sl : Value} {closed : Bool} {u v : Int × Int}
theorem RSt.grow (h : RSt w W sl closed u v) (hb : Below W.heap.size W W') : RSt w W' sl closed u v :=
  ⟨h.1.grow hb, h.2.1.grow hb, h.2.2.1.grow hb, h.2.2.2.1.grow hb, h.2.2.2.2.1.grow hb, h.2.2.2.2.2.trans (hb.mono h.2.2.2.2.2.size)⟩
theorem RSt.setU (h : RSt w W sl closed u v) (x y : Int) : RSt w ((W.setCell ⟨w.heap.size + 1 + 1 + 1, 0, none⟩ (.int .i64 x)).setCell ⟨w.heap.size + 1 + 1 + 1, 1, none⟩ (.int .i64 y)) sl closed (x, y) v :=
  ⟨(h.1.far (by omega) _).far (by omega) _, (h.2.1.far (by omega) _).far (by omega) _, (h.2.2.1.far (by omega) _).far (by omega) _, (h.2.2.2.1.set 0 _).set 1 _, (h.2.2.2.2.1.far (by omega) _).far (by omega) _, (h.2.2.2.2.2.setCell (by simp; omega) _).setCell (by simp; omega) _⟩
theorem RSt.setV (h : RSt w W sl closed u v) (x y : Int) : RSt w ((W.setCell ⟨w.heap.size + 1 + 1 + 1 + 1, 0, none⟩ (.int .i64 x)).setCell ⟨w.heap.size + 1 + 1 + 1 + 1, 1, none⟩ (.int .i64 y)) sl closed u (x, y) :=
  ⟨(h.1.far (by omega) _).far (by omega) _, (h.2.1.far (by omega) _).far (by omega) _, (h.2.2.1.far (by omega) _).far (by omega) _, (h.2.2.2.1.far (by omega) _).far (by omega) _, (h.2.2.2.2.1.set 0 _).set 1 _, (h.2.2.2.2.2.setCell (by simp; omega) _).setCell (by simp; omega) _⟩
theorem RSt.size (h : RSt w W sl closed u v) : w.heap.size + 1 + 1 + 1 + 1 < W.heap.size := h.2.2.2.2.1.lt
theorem RSt.start (w : World) (sl : Value) (closed : Bool) : RSt w (((((w.alloc (.cells #[sl, .bool closed] 42)).alloc (.cells #[.int .i64 0, .int .i64 0] 23)).alloc (.cells #[.int .i64 0, .int .i64 0] 23)).alloc
    (.cells #[.int .i64 0, .int .i64 0] 23)).alloc (.cells #[.int .i64 0, .int .i64 0] 23)) sl closed (0, 0) (0, 0) := by
  refine ⟨((((Blk.new w _ _).alloc _).alloc _).alloc _).alloc _, ?_, ?_, ?_, ?_, by (repeat (first | exact Below.refl _ _ | assumption | refine Below.drew ?_ | refine Below.setCell ?_ (by simp; try omega) _ | refine Below.alloc ?_ (by simp; try omega) _))⟩
  · have h := (((Blk.new (w.alloc (.cells #[sl, .bool closed] 42)) 23 #[.int .i64 0, .int .i64 0]).alloc (.cells #[.int .i64 0, .int .i64 0] 23)).alloc (.cells #[.int .i64 0, .int .i64 0] 23)).alloc (.cells #[.int .i64 0, .int .i64 0] 23)
    simpa only [World.size_alloc] using h
  · have h := ((Blk.new ((w.alloc (.cells #[sl, .bool closed] 42)).alloc (.cells #[.int .i64 0, .int .i64 0] 23)) 23 #[.int .i64 0, .int .i64 0]).alloc (.cells #[.int .i64 0, .int .i64 0] 23)).alloc (.cells #[.int .i64 0, .int .i64 0] 23)
    simpa only [World.size_alloc] using h
  · have h := (Blk.new (((w.alloc (.cells #[sl, .bool closed] 42)).alloc (.cells #[.int .i64 0, .int .i64 0] 23)).alloc (.cells #[.int .i64 0, .int .i64 0] 23)) 23 #[.int .i64 0, .int .i64 0]).alloc (.cells #[.int .i64 0, .int .i64 0] 23)
    simpa only [World.size_alloc] using h
  · have h := Blk.new ((((w.alloc (.cells #[sl, .bool closed] 42)).alloc (.cells #[.int .i64 0, .int .i64 0] 23)).alloc (.cells #[.int .i64 0, .int .i64 0] 23)).alloc (.cells #[.int .i64 0, .int .i64 0] 23)) 23 #[.int .i64 0, .int .i64 0]
    simpa only [World.size_alloc] using h
/-- The results are set, and read. -/
theorem RSt.res (h : RSt w W sl closed u v) (a b c d : Int) :
    Blk ((((W.setCell ⟨w.heap.size + 1, 0, none⟩ (.int .i64 a)).setCell ⟨w.heap.size + 1, 1, none⟩ (.int .i64 b)).setCell ⟨w.heap.size + 1 + 1, 0, none⟩ (.int .i64 c)).setCell ⟨w.heap.size + 1 + 1, 1, none⟩ (.int .i64 d)).drew (w.heap.size + 1) 23 #[.int .i64 a, .int .i64 b] ∧
    Blk ((((W.setCell ⟨w.heap.size + 1, 0, none⟩ (.int .i64 a)).setCell ⟨w.heap.size + 1, 1, none⟩ (.int .i64 b)).setCell ⟨w.heap.size + 1 + 1, 0, none⟩ (.int .i64 c)).setCell ⟨w.heap.size + 1 + 1, 1, none⟩ (.int .i64 d)).drew (w.heap.size + 1 + 1) 23 #[.int .i64 c, .int .i64 d] ∧
    Below w.heap.size w ((((W.setCell ⟨w.heap.size + 1, 0, none⟩ (.int .i64 a)).setCell ⟨w.heap.size + 1, 1, none⟩ (.int .i64 b)).setCell ⟨w.heap.size + 1 + 1, 0, none⟩ (.int .i64 c)).setCell ⟨w.heap.size + 1 + 1, 1, none⟩ (.int .i64 d)).drew :=
  ⟨(((h.2.1.set 0 _).set 1 _).far (by omega) _).far (by omega) _, ((((h.2.2.1.far (by omega) _).far (by omega) _).set 0 _).set 1 _),
   ((((h.2.2.2.2.2.setCell (by simp) _).setCell (by simp) _).setCell (by simp; omega) _).setCell (by simp; omega) _).drew⟩
end

set_option maxHeartbeats 2000000 in
theorem rcorner_in (closed : Bool) (a : Option Addr) (n c : Nat) (l : List (Int × Int)) (j : Nat) (w : World) (hn : n ≤ 1099511627776) (hl : RPts w w.heap.size a n l) (hb : ∀ p ∈ l, HalfP p) (hj : j < n) :
    Calls Try.prog 20 #[.agg #[.slice a n c, .bool closed], .int .i64 j] w
      fun e w' => e = .returned (.tuple #[.agg #[.int .i64 (cornerU closed l j).1, .int .i64 (cornerU closed l j).2], .agg #[.int .i64 (cornerV closed l j).1, .int .i64 (cornerV closed l j).2]]) ∧ Below w.heap.size w w' := by
  obtain ⟨b, off, rfl, hbB, hcell⟩ := hl.form (by omega)
  have hP : ∀ k, k < n → HalfP (atP l k) := fun k hk => by
    unfold atP
    rw [List.getD_eq_getElem?_getD, List.getElem?_eq_getElem (by rw [hl.1]; exact hk)]
    exact hb _ (List.getElem_mem _)
  have hln := hl.1
  have HL := Lib.hid hl
  clear hl hb
  obtain ⟨pj, hpj⟩ : ∃ pj, pj = if j = 0 then n - 1 else j - 1 := ⟨_, rfl⟩
  obtain ⟨nj, hnj⟩ : ∃ nj, nj = if j + 1 = n then 0 else j + 1 := ⟨_, rfl⟩
  have hpl : pj < n := by rw [hpj]; split <;> omega
  have hnl : nj < n := by rw [hnj]; split <;> omega
  obtain ⟨c1, c2⟩ := hcell j hj
  obtain ⟨c3, c4⟩ := hcell pj hpl
  obtain ⟨c5, c6⟩ := hcell nj hnl
  obtain ⟨⟨q1, q2⟩, ⟨q3, q4⟩⟩ := hP j hj
  obtain ⟨⟨r1, r2⟩, ⟨r3, r4⟩⟩ := hP pj hpl
  obtain ⟨⟨s1, s2⟩, ⟨s3, s4⟩⟩ := hP nj hnl
  have HU : Hid (cornerU closed l j = if closed = true ∨ 0 < j then subP (atP l j) (atP l pj) else (0, 0)) := Lib.hid (by unfold cornerU; rw [hpj, hln])
  have HV : Hid (cornerV closed l j = if closed = true ∨ j + 1 < n then subP (atP l nj) (atP l j) else (0, 0)) := Lib.hid (by unfold cornerV; rw [hnj, hln])
  have m1 : ((j : Int) + n - 1) % n = pj := by
    rw [hpj]
    split
    · subst_vars; rw [Int.emod_eq_of_lt (by omega) (by omega)]; omega
    · rw [show ((j : Int) + n - 1) = (j - 1 : Int) + n by omega, Int.add_emod_right, Int.emod_eq_of_lt (by omega) (by omega)]; omega
  have m2 : ((j : Int) + 1) % n = nj := by
    rw [hnj]
    split
    · rw [show ((j : Int) + 1) = n by omega, Int.emod_self]; rfl
    · rw [Int.emod_eq_of_lt (by omega) (by omega)]; omega
  clear hpj hnj hln hcell hP
  generalize atP l j = q at *
  generalize atP l pj = r at *
  generalize atP l nj = s at *
  obtain ⟨qx, qy⟩ := q
  obtain ⟨rx, ry⟩ := r
  obtain ⟨sx, sy⟩ := s
  simp only at *
  have hjn : ¬ n ≤ j := by omega
  have hl1 : b < w.heap.size + 1 := by omega
  have hl2 : b < w.heap.size + 1 + 1 := by omega
  have hl3 : b < w.heap.size + 1 + 1 + 1 := by omega
  have hl4 : b < w.heap.size + 1 + 1 + 1 + 1 := by omega
  have dn : decide ((j : Int) < 0) = false := by simp
  have hcase : (0 < j ∨ ¬ 0 < j) ∧ (j + 1 < n ∨ ¬ j + 1 < n) ∧ (closed = true ∨ closed = false) := by cases closed <;> simp <;> omega
  obtain ⟨hc1, hc2, hc3⟩ := hcase
  rcases hc1 with h0 | h0 <;> rcases hc2 with h1 | h1 <;> rcases hc3 with rfl | rfl
  · have HU' : Hid (cornerU true l j = (qx - rx, qy - ry)) := Lib.hid (by rw [HU.out]; rw [if_pos (by simp; try omega)]; rfl)
    have HV' : Hid (cornerV true l j = (sx - qx, sy - qy)) := Lib.hid (by rw [HV.out]; rw [if_pos (by simp; try omega)]; rfl)
    have e0 : (0 : Int) < (j : Int) := by omega
    have e1 : (j : Int) + 1 < (n : Int) := by omega
    clear HU HV
    go_enter Try.func20, Try.ntmps20
    go_upto_if 28 with fail
    go_cut [] (fun wx => RSt w wx (.slice (some ⟨b, off, none⟩) n c) true (qx - rx, qy - ry) (0, 0))
    case first =>
      go_wp2_with fail
      refine Reg.wp_region_soft 15 (by first | exact hb2 | exact Below.refl _ _) (by kernel_rfl) (by kernel_rfl) (fun u => ?_)
      simp only [List.take, List.drop]
      repeat (go_big_quiet_step ((first | fail)))
      refine wpQuiet_nil ?_
      intro xs hxs
      have hbx := Reg.class_below hxs
      clear hxs
      go_wp2_with fail
      refine (r4sub_any _ _ _ _ _ (by omega) (by omega) (by omega) (by omega) (by omega) (by omega) (by omega) (by omega)).mono ?_
      rintro e w2 ⟨rfl, hb2⟩
      go_wp2_with fail
      refine ⟨rfl, hb2, fun z hz => ?_⟩
      have hb3 := hbx.trans ((hb2.trans (hz.mono hb2.size)).mono hbx.size)
      clear hz hb2 hbx
      obtain ⟨hc, hf⟩ := Reg.bcell hb3
      have hsz := hb3.size
      try simp at hsz
      go_wp2
      go_meet
      exact ((RSt.start w _ _).grow hb3).setU _ _
    case rest =>
      have HC := Lib.hid hcut
      obtain ⟨b1, b2, b3, b4, b5, hbw⟩ := hcut
      have g0 : wc.cell? ⟨w.heap.size, 0, none⟩ = some (.slice (some ⟨b, off, none⟩) n c) := b1.cell 0
      have g1 : wc.cell? ⟨w.heap.size, 1, none⟩ = some (.bool true) := b1.cell 1
      go_upto_if 52 with fail
      go_cut [] (fun wx => RSt w wx (.slice (some ⟨b, off, none⟩) n c) true (qx - rx, qy - ry) (sx - qx, sy - qy))
      case first =>
        have hcw := (bcell hbw).1
        go_wp2_with fail
        have hs0 := b1.lt
        have hsb : b < wc.heap.size := by omega
        refine Reg.wp_region_soft 13 (by first | exact hb2 | exact Below.refl _ _) (by kernel_rfl) (by kernel_rfl) (fun u => ?_)
        simp only [List.take, List.drop]
        repeat (go_big_quiet_step ((first | fail)))
        refine wpQuiet_nil ?_
        intro xs hxs
        have hbx := Reg.class_below hxs
        clear hxs
        go_wp2_with fail
        refine (r4sub_any _ _ _ _ _ (by omega) (by omega) (by omega) (by omega) (by omega) (by omega) (by omega) (by omega)).mono ?_
        rintro e w2 ⟨rfl, hb2⟩
        go_wp2_with fail
        refine ⟨rfl, hb2, fun z hz => ?_⟩
        have hb3 := hbx.trans ((hb2.trans (hz.mono hb2.size)).mono hbx.size)
        clear hz hb2 hbx
        obtain ⟨hc, hf⟩ := Reg.bcell hb3
        have hsz := hb3.size
        try simp at hsz
        have hs2 := b5.lt
        have k0 : wc.cell? ⟨w.heap.size + 1 + 1 + 1 + 1, 0, none⟩ = some (.int .i64 0) := b5.cell 0
        have k1 : wc.cell? ⟨w.heap.size + 1 + 1 + 1 + 1, 1, none⟩ = some (.int .i64 0) := b5.cell 1
        have kf := b5.unfrozen
        go_wp2
        go_meet
        exact (HC.out.grow hb3).setV _ _
      case rest =>
        clear g0 g1 b1 b2 b3 b4 b5 hbw HC
        have HC := Lib.hid hcut
        obtain ⟨b1, b2, b3, b4, b5, hbw⟩ := hcut
        have g0 : wc.cell? ⟨w.heap.size + 1 + 1 + 1, 0, none⟩ = some (.int .i64 (qx - rx)) := b4.cell 0
        have g1 : wc.cell? ⟨w.heap.size + 1 + 1 + 1, 1, none⟩ = some (.int .i64 (qy - ry)) := b4.cell 1
        have k0 : wc.cell? ⟨w.heap.size + 1 + 1 + 1 + 1, 0, none⟩ = some (.int .i64 (sx - qx)) := b5.cell 0
        have k1 : wc.cell? ⟨w.heap.size + 1 + 1 + 1 + 1, 1, none⟩ = some (.int .i64 (sy - qy)) := b5.cell 1
        have i0 : wc.cell? ⟨w.heap.size + 1, 0, none⟩ = some (.int .i64 0) := b2.cell 0
        have i1 : wc.cell? ⟨w.heap.size + 1, 1, none⟩ = some (.int .i64 0) := b2.cell 1
        have j0 : wc.cell? ⟨w.heap.size + 1 + 1, 0, none⟩ = some (.int .i64 0) := b3.cell 0
        have j1 : wc.cell? ⟨w.heap.size + 1 + 1, 1, none⟩ = some (.int .i64 0) := b3.cell 1
        have gf := b2.unfrozen
        have kf := b3.unfrozen
        have hs1 := b2.lt
        have hs2 := b3.lt
        have hs3 := b4.lt
        have hs4 := b5.lt
        go_wp2_with fail
        go_region
        all_goals
          go_wp2_with fail
          have hF := HC.out.res (qx - rx) (qy - ry) (sx - qx) (sy - qy)
          refine bodyPost_ret (res_pt2 hF.1 hF.2.1 rfl rfl rfl rfl rfl rfl rfl) rfl ⟨?_, hF.2.2⟩
          rw [HU'.out, HV'.out]
          rfl
  · have HU' : Hid (cornerU false l j = (qx - rx, qy - ry)) := Lib.hid (by rw [HU.out]; rw [if_pos (by simp; try omega)]; rfl)
    have HV' : Hid (cornerV false l j = (sx - qx, sy - qy)) := Lib.hid (by rw [HV.out]; rw [if_pos (by simp; try omega)]; rfl)
    have e0 : (0 : Int) < (j : Int) := by omega
    have e1 : (j : Int) + 1 < (n : Int) := by omega
    clear HU HV
    go_enter Try.func20, Try.ntmps20
    go_upto_if 28 with fail
    go_cut [] (fun wx => RSt w wx (.slice (some ⟨b, off, none⟩) n c) false (qx - rx, qy - ry) (0, 0))
    case first =>
      go_wp2_with fail
      refine Reg.wp_region_soft 15 (by first | exact hb2 | exact Below.refl _ _) (by kernel_rfl) (by kernel_rfl) (fun u => ?_)
      simp only [List.take, List.drop]
      repeat (go_big_quiet_step ((first | fail)))
      refine wpQuiet_nil ?_
      intro xs hxs
      have hbx := Reg.class_below hxs
      clear hxs
      go_wp2_with fail
      refine (r4sub_any _ _ _ _ _ (by omega) (by omega) (by omega) (by omega) (by omega) (by omega) (by omega) (by omega)).mono ?_
      rintro e w2 ⟨rfl, hb2⟩
      go_wp2_with fail
      refine ⟨rfl, hb2, fun z hz => ?_⟩
      have hb3 := hbx.trans ((hb2.trans (hz.mono hb2.size)).mono hbx.size)
      clear hz hb2 hbx
      obtain ⟨hc, hf⟩ := Reg.bcell hb3
      have hsz := hb3.size
      try simp at hsz
      go_wp2
      go_meet
      exact ((RSt.start w _ _).grow hb3).setU _ _
    case rest =>
      have HC := Lib.hid hcut
      obtain ⟨b1, b2, b3, b4, b5, hbw⟩ := hcut
      have g0 : wc.cell? ⟨w.heap.size, 0, none⟩ = some (.slice (some ⟨b, off, none⟩) n c) := b1.cell 0
      have g1 : wc.cell? ⟨w.heap.size, 1, none⟩ = some (.bool false) := b1.cell 1
      go_upto_if 52 with fail
      go_cut [] (fun wx => RSt w wx (.slice (some ⟨b, off, none⟩) n c) false (qx - rx, qy - ry) (sx - qx, sy - qy))
      case first =>
        have hcw := (bcell hbw).1
        go_wp2_with fail
        have hs0 := b1.lt
        have hsb : b < wc.heap.size := by omega
        refine Reg.wp_region_soft 13 (by first | exact hb2 | exact Below.refl _ _) (by kernel_rfl) (by kernel_rfl) (fun u => ?_)
        simp only [List.take, List.drop]
        repeat (go_big_quiet_step ((first | fail)))
        refine wpQuiet_nil ?_
        intro xs hxs
        have hbx := Reg.class_below hxs
        clear hxs
        go_wp2_with fail
        refine (r4sub_any _ _ _ _ _ (by omega) (by omega) (by omega) (by omega) (by omega) (by omega) (by omega) (by omega)).mono ?_
        rintro e w2 ⟨rfl, hb2⟩
        go_wp2_with fail
        refine ⟨rfl, hb2, fun z hz => ?_⟩
        have hb3 := hbx.trans ((hb2.trans (hz.mono hb2.size)).mono hbx.size)
        clear hz hb2 hbx
        obtain ⟨hc, hf⟩ := Reg.bcell hb3
        have hsz := hb3.size
        try simp at hsz
        have hs2 := b5.lt
        have k0 : wc.cell? ⟨w.heap.size + 1 + 1 + 1 + 1, 0, none⟩ = some (.int .i64 0) := b5.cell 0
        have k1 : wc.cell? ⟨w.heap.size + 1 + 1 + 1 + 1, 1, none⟩ = some (.int .i64 0) := b5.cell 1
        have kf := b5.unfrozen
        go_wp2
        go_meet
        exact (HC.out.grow hb3).setV _ _
      case rest =>
        clear g0 g1 b1 b2 b3 b4 b5 hbw HC
        have HC := Lib.hid hcut
        obtain ⟨b1, b2, b3, b4, b5, hbw⟩ := hcut
        have g0 : wc.cell? ⟨w.heap.size + 1 + 1 + 1, 0, none⟩ = some (.int .i64 (qx - rx)) := b4.cell 0
        have g1 : wc.cell? ⟨w.heap.size + 1 + 1 + 1, 1, none⟩ = some (.int .i64 (qy - ry)) := b4.cell 1
        have k0 : wc.cell? ⟨w.heap.size + 1 + 1 + 1 + 1, 0, none⟩ = some (.int .i64 (sx - qx)) := b5.cell 0
        have k1 : wc.cell? ⟨w.heap.size + 1 + 1 + 1 + 1, 1, none⟩ = some (.int .i64 (sy - qy)) := b5.cell 1
        have i0 : wc.cell? ⟨w.heap.size + 1, 0, none⟩ = some (.int .i64 0) := b2.cell 0
        have i1 : wc.cell? ⟨w.heap.size + 1, 1, none⟩ = some (.int .i64 0) := b2.cell 1
        have j0 : wc.cell? ⟨w.heap.size + 1 + 1, 0, none⟩ = some (.int .i64 0) := b3.cell 0
        have j1 : wc.cell? ⟨w.heap.size + 1 + 1, 1, none⟩ = some (.int .i64 0) := b3.cell 1
        have gf := b2.unfrozen
        have kf := b3.unfrozen
        have hs1 := b2.lt
        have hs2 := b3.lt
        have hs3 := b4.lt
        have hs4 := b5.lt
        go_wp2_with fail
        go_region
        all_goals
          go_wp2_with fail
          have hF := HC.out.res (qx - rx) (qy - ry) (sx - qx) (sy - qy)
          refine bodyPost_ret (res_pt2 hF.1 hF.2.1 rfl rfl rfl rfl rfl rfl rfl) rfl ⟨?_, hF.2.2⟩
          rw [HU'.out, HV'.out]
          rfl
  · have HU' : Hid (cornerU true l j = (qx - rx, qy - ry)) := Lib.hid (by rw [HU.out]; rw [if_pos (by simp; try omega)]; rfl)
    have HV' : Hid (cornerV true l j = (sx - qx, sy - qy)) := Lib.hid (by rw [HV.out]; rw [if_pos (by simp; try omega)]; rfl)
    have e0 : (0 : Int) < (j : Int) := by omega
    have e1 : ¬ (j : Int) + 1 < (n : Int) := by omega
    clear HU HV
    go_enter Try.func20, Try.ntmps20
    go_upto_if 28 with fail
    go_cut [] (fun wx => RSt w wx (.slice (some ⟨b, off, none⟩) n c) true (qx - rx, qy - ry) (0, 0))
    case first =>
      go_wp2_with fail
      refine Reg.wp_region_soft 15 (by first | exact hb2 | exact Below.refl _ _) (by kernel_rfl) (by kernel_rfl) (fun u => ?_)
      simp only [List.take, List.drop]
      repeat (go_big_quiet_step ((first | fail)))
      refine wpQuiet_nil ?_
      intro xs hxs
      have hbx := Reg.class_below hxs
      clear hxs
      go_wp2_with fail
      refine (r4sub_any _ _ _ _ _ (by omega) (by omega) (by omega) (by omega) (by omega) (by omega) (by omega) (by omega)).mono ?_
      rintro e w2 ⟨rfl, hb2⟩
      go_wp2_with fail
      refine ⟨rfl, hb2, fun z hz => ?_⟩
      have hb3 := hbx.trans ((hb2.trans (hz.mono hb2.size)).mono hbx.size)
      clear hz hb2 hbx
      obtain ⟨hc, hf⟩ := Reg.bcell hb3
      have hsz := hb3.size
      try simp at hsz
      go_wp2
      go_meet
      exact ((RSt.start w _ _).grow hb3).setU _ _
    case rest =>
      have HC := Lib.hid hcut
      obtain ⟨b1, b2, b3, b4, b5, hbw⟩ := hcut
      have g0 : wc.cell? ⟨w.heap.size, 0, none⟩ = some (.slice (some ⟨b, off, none⟩) n c) := b1.cell 0
      have g1 : wc.cell? ⟨w.heap.size, 1, none⟩ = some (.bool true) := b1.cell 1
      go_upto_if 52 with fail
      go_cut [] (fun wx => RSt w wx (.slice (some ⟨b, off, none⟩) n c) true (qx - rx, qy - ry) (sx - qx, sy - qy))
      case first =>
        have hcw := (bcell hbw).1
        go_wp2_with fail
        have hs0 := b1.lt
        have hsb : b < wc.heap.size := by omega
        refine Reg.wp_region_soft 13 (by first | exact hb2 | exact Below.refl _ _) (by kernel_rfl) (by kernel_rfl) (fun u => ?_)
        simp only [List.take, List.drop]
        repeat (go_big_quiet_step ((first | fail)))
        refine wpQuiet_nil ?_
        intro xs hxs
        have hbx := Reg.class_below hxs
        clear hxs
        go_wp2_with fail
        refine (r4sub_any _ _ _ _ _ (by omega) (by omega) (by omega) (by omega) (by omega) (by omega) (by omega) (by omega)).mono ?_
        rintro e w2 ⟨rfl, hb2⟩
        go_wp2_with fail
        refine ⟨rfl, hb2, fun z hz => ?_⟩
        have hb3 := hbx.trans ((hb2.trans (hz.mono hb2.size)).mono hbx.size)
        clear hz hb2 hbx
        obtain ⟨hc, hf⟩ := Reg.bcell hb3
        have hsz := hb3.size
        try simp at hsz
        have hs2 := b5.lt
        have k0 : wc.cell? ⟨w.heap.size + 1 + 1 + 1 + 1, 0, none⟩ = some (.int .i64 0) := b5.cell 0
        have k1 : wc.cell? ⟨w.heap.size + 1 + 1 + 1 + 1, 1, none⟩ = some (.int .i64 0) := b5.cell 1
        have kf := b5.unfrozen
        go_wp2
        go_meet
        exact (HC.out.grow hb3).setV _ _
      case rest =>
        clear g0 g1 b1 b2 b3 b4 b5 hbw HC
        have HC := Lib.hid hcut
        obtain ⟨b1, b2, b3, b4, b5, hbw⟩ := hcut
        have g0 : wc.cell? ⟨w.heap.size + 1 + 1 + 1, 0, none⟩ = some (.int .i64 (qx - rx)) := b4.cell 0
        have g1 : wc.cell? ⟨w.heap.size + 1 + 1 + 1, 1, none⟩ = some (.int .i64 (qy - ry)) := b4.cell 1
        have k0 : wc.cell? ⟨w.heap.size + 1 + 1 + 1 + 1, 0, none⟩ = some (.int .i64 (sx - qx)) := b5.cell 0
        have k1 : wc.cell? ⟨w.heap.size + 1 + 1 + 1 + 1, 1, none⟩ = some (.int .i64 (sy - qy)) := b5.cell 1
        have i0 : wc.cell? ⟨w.heap.size + 1, 0, none⟩ = some (.int .i64 0) := b2.cell 0
        have i1 : wc.cell? ⟨w.heap.size + 1, 1, none⟩ = some (.int .i64 0) := b2.cell 1
        have j0 : wc.cell? ⟨w.heap.size + 1 + 1, 0, none⟩ = some (.int .i64 0) := b3.cell 0
        have j1 : wc.cell? ⟨w.heap.size + 1 + 1, 1, none⟩ = some (.int .i64 0) := b3.cell 1
        have gf := b2.unfrozen
        have kf := b3.unfrozen
        have hs1 := b2.lt
        have hs2 := b3.lt
        have hs3 := b4.lt
        have hs4 := b5.lt
        go_wp2_with fail
        go_region
        all_goals
          go_wp2_with fail
          have hF := HC.out.res (qx - rx) (qy - ry) (sx - qx) (sy - qy)
          refine bodyPost_ret (res_pt2 hF.1 hF.2.1 rfl rfl rfl rfl rfl rfl rfl) rfl ⟨?_, hF.2.2⟩
          rw [HU'.out, HV'.out]
          rfl
  · have HU' : Hid (cornerU false l j = (qx - rx, qy - ry)) := Lib.hid (by rw [HU.out]; rw [if_pos (by simp; try omega)]; rfl)
    have HV' : Hid (cornerV false l j = (0, 0)) := Lib.hid (by rw [HV.out]; rw [if_neg (by simp; try omega)])
    have e0 : (0 : Int) < (j : Int) := by omega
    have e1 : ¬ (j : Int) + 1 < (n : Int) := by omega
    clear HU HV
    go_enter Try.func20, Try.ntmps20
    go_upto_if 28 with fail
    go_cut [] (fun wx => RSt w wx (.slice (some ⟨b, off, none⟩) n c) false (qx - rx, qy - ry) (0, 0))
    case first =>
      go_wp2_with fail
      refine Reg.wp_region_soft 15 (by first | exact hb2 | exact Below.refl _ _) (by kernel_rfl) (by kernel_rfl) (fun u => ?_)
      simp only [List.take, List.drop]
      repeat (go_big_quiet_step ((first | fail)))
      refine wpQuiet_nil ?_
      intro xs hxs
      have hbx := Reg.class_below hxs
      clear hxs
      go_wp2_with fail
      refine (r4sub_any _ _ _ _ _ (by omega) (by omega) (by omega) (by omega) (by omega) (by omega) (by omega) (by omega)).mono ?_
      rintro e w2 ⟨rfl, hb2⟩
      go_wp2_with fail
      refine ⟨rfl, hb2, fun z hz => ?_⟩
      have hb3 := hbx.trans ((hb2.trans (hz.mono hb2.size)).mono hbx.size)
      clear hz hb2 hbx
      obtain ⟨hc, hf⟩ := Reg.bcell hb3
      have hsz := hb3.size
      try simp at hsz
      go_wp2
      go_meet
      exact ((RSt.start w _ _).grow hb3).setU _ _
    case rest =>
      have HC := Lib.hid hcut
      obtain ⟨b1, b2, b3, b4, b5, hbw⟩ := hcut
      have g0 : wc.cell? ⟨w.heap.size, 0, none⟩ = some (.slice (some ⟨b, off, none⟩) n c) := b1.cell 0
      have g1 : wc.cell? ⟨w.heap.size, 1, none⟩ = some (.bool false) := b1.cell 1
      go_upto_if 52 with fail
      go_cut [] (fun wx => RSt w wx (.slice (some ⟨b, off, none⟩) n c) false (qx - rx, qy - ry) (0, 0))
      case first =>
        go_wp2_with fail
        go_meet
        exact HC.out
      case rest =>
        clear g0 g1 b1 b2 b3 b4 b5 hbw HC
        have HC := Lib.hid hcut
        obtain ⟨b1, b2, b3, b4, b5, hbw⟩ := hcut
        have g0 : wc.cell? ⟨w.heap.size + 1 + 1 + 1, 0, none⟩ = some (.int .i64 (qx - rx)) := b4.cell 0
        have g1 : wc.cell? ⟨w.heap.size + 1 + 1 + 1, 1, none⟩ = some (.int .i64 (qy - ry)) := b4.cell 1
        have k0 : wc.cell? ⟨w.heap.size + 1 + 1 + 1 + 1, 0, none⟩ = some (.int .i64 0) := b5.cell 0
        have k1 : wc.cell? ⟨w.heap.size + 1 + 1 + 1 + 1, 1, none⟩ = some (.int .i64 0) := b5.cell 1
        have i0 : wc.cell? ⟨w.heap.size + 1, 0, none⟩ = some (.int .i64 0) := b2.cell 0
        have i1 : wc.cell? ⟨w.heap.size + 1, 1, none⟩ = some (.int .i64 0) := b2.cell 1
        have j0 : wc.cell? ⟨w.heap.size + 1 + 1, 0, none⟩ = some (.int .i64 0) := b3.cell 0
        have j1 : wc.cell? ⟨w.heap.size + 1 + 1, 1, none⟩ = some (.int .i64 0) := b3.cell 1
        have gf := b2.unfrozen
        have kf := b3.unfrozen
        have hs1 := b2.lt
        have hs2 := b3.lt
        have hs3 := b4.lt
        have hs4 := b5.lt
        go_wp2_with fail
        go_region
        all_goals
          go_wp2_with fail
          have hF := HC.out.res (qx - rx) (qy - ry) 0 0
          refine bodyPost_ret (res_pt2 hF.1 hF.2.1 rfl rfl rfl rfl rfl rfl rfl) rfl ⟨?_, hF.2.2⟩
          rw [HU'.out, HV'.out]
          rfl
  · have HU' : Hid (cornerU true l j = (qx - rx, qy - ry)) := Lib.hid (by rw [HU.out]; rw [if_pos (by simp; try omega)]; rfl)
    have HV' : Hid (cornerV true l j = (sx - qx, sy - qy)) := Lib.hid (by rw [HV.out]; rw [if_pos (by simp; try omega)]; rfl)
    have e0 : ¬ (0 : Int) < (j : Int) := by omega
    have e1 : (j : Int) + 1 < (n : Int) := by omega
    clear HU HV
    go_enter Try.func20, Try.ntmps20
    go_upto_if 28 with fail
    go_cut [] (fun wx => RSt w wx (.slice (some ⟨b, off, none⟩) n c) true (qx - rx, qy - ry) (0, 0))
    case first =>
      go_wp2_with fail
      refine Reg.wp_region_soft 15 (by first | exact hb2 | exact Below.refl _ _) (by kernel_rfl) (by kernel_rfl) (fun u => ?_)
      simp only [List.take, List.drop]
      repeat (go_big_quiet_step ((first | fail)))
      refine wpQuiet_nil ?_
      intro xs hxs
      have hbx := Reg.class_below hxs
      clear hxs
      go_wp2_with fail
      refine (r4sub_any _ _ _ _ _ (by omega) (by omega) (by omega) (by omega) (by omega) (by omega) (by omega) (by omega)).mono ?_
      rintro e w2 ⟨rfl, hb2⟩
      go_wp2_with fail
      refine ⟨rfl, hb2, fun z hz => ?_⟩
      have hb3 := hbx.trans ((hb2.trans (hz.mono hb2.size)).mono hbx.size)
      clear hz hb2 hbx
      obtain ⟨hc, hf⟩ := Reg.bcell hb3
      have hsz := hb3.size
      try simp at hsz
      go_wp2
      go_meet
      exact ((RSt.start w _ _).grow hb3).setU _ _
    case rest =>
      have HC := Lib.hid hcut
      obtain ⟨b1, b2, b3, b4, b5, hbw⟩ := hcut
      have g0 : wc.cell? ⟨w.heap.size, 0, none⟩ = some (.slice (some ⟨b, off, none⟩) n c) := b1.cell 0
      have g1 : wc.cell? ⟨w.heap.size, 1, none⟩ = some (.bool true) := b1.cell 1
      go_upto_if 52 with fail
      go_cut [] (fun wx => RSt w wx (.slice (some ⟨b, off, none⟩) n c) true (qx - rx, qy - ry) (sx - qx, sy - qy))
      case first =>
        have hcw := (bcell hbw).1
        go_wp2_with fail
        have hs0 := b1.lt
        have hsb : b < wc.heap.size := by omega
        refine Reg.wp_region_soft 13 (by first | exact hb2 | exact Below.refl _ _) (by kernel_rfl) (by kernel_rfl) (fun u => ?_)
        simp only [List.take, List.drop]
        repeat (go_big_quiet_step ((first | fail)))
        refine wpQuiet_nil ?_
        intro xs hxs
        have hbx := Reg.class_below hxs
        clear hxs
        go_wp2_with fail
        refine (r4sub_any _ _ _ _ _ (by omega) (by omega) (by omega) (by omega) (by omega) (by omega) (by omega) (by omega)).mono ?_
        rintro e w2 ⟨rfl, hb2⟩
        go_wp2_with fail
        refine ⟨rfl, hb2, fun z hz => ?_⟩
        have hb3 := hbx.trans ((hb2.trans (hz.mono hb2.size)).mono hbx.size)
        clear hz hb2 hbx
        obtain ⟨hc, hf⟩ := Reg.bcell hb3
        have hsz := hb3.size
        try simp at hsz
        have hs2 := b5.lt
        have k0 : wc.cell? ⟨w.heap.size + 1 + 1 + 1 + 1, 0, none⟩ = some (.int .i64 0) := b5.cell 0
        have k1 : wc.cell? ⟨w.heap.size + 1 + 1 + 1 + 1, 1, none⟩ = some (.int .i64 0) := b5.cell 1
        have kf := b5.unfrozen
        go_wp2
        go_meet
        exact (HC.out.grow hb3).setV _ _
      case rest =>
        clear g0 g1 b1 b2 b3 b4 b5 hbw HC
        have HC := Lib.hid hcut
        obtain ⟨b1, b2, b3, b4, b5, hbw⟩ := hcut
        have g0 : wc.cell? ⟨w.heap.size + 1 + 1 + 1, 0, none⟩ = some (.int .i64 (qx - rx)) := b4.cell 0
        have g1 : wc.cell? ⟨w.heap.size + 1 + 1 + 1, 1, none⟩ = some (.int .i64 (qy - ry)) := b4.cell 1
        have k0 : wc.cell? ⟨w.heap.size + 1 + 1 + 1 + 1, 0, none⟩ = some (.int .i64 (sx - qx)) := b5.cell 0
        have k1 : wc.cell? ⟨w.heap.size + 1 + 1 + 1 + 1, 1, none⟩ = some (.int .i64 (sy - qy)) := b5.cell 1
        have i0 : wc.cell? ⟨w.heap.size + 1, 0, none⟩ = some (.int .i64 0) := b2.cell 0
        have i1 : wc.cell? ⟨w.heap.size + 1, 1, none⟩ = some (.int .i64 0) := b2.cell 1
        have j0 : wc.cell? ⟨w.heap.size + 1 + 1, 0, none⟩ = some (.int .i64 0) := b3.cell 0
        have j1 : wc.cell? ⟨w.heap.size + 1 + 1, 1, none⟩ = some (.int .i64 0) := b3.cell 1
        have gf := b2.unfrozen
        have kf := b3.unfrozen
        have hs1 := b2.lt
        have hs2 := b3.lt
        have hs3 := b4.lt
        have hs4 := b5.lt
        go_wp2_with fail
        go_region
        all_goals
          go_wp2_with fail
          have hF := HC.out.res (qx - rx) (qy - ry) (sx - qx) (sy - qy)
          refine bodyPost_ret (res_pt2 hF.1 hF.2.1 rfl rfl rfl rfl rfl rfl rfl) rfl ⟨?_, hF.2.2⟩
          rw [HU'.out, HV'.out]
          rfl
  · have HU' : Hid (cornerU false l j = (0, 0)) := Lib.hid (by rw [HU.out]; rw [if_neg (by simp; try omega)])
    have HV' : Hid (cornerV false l j = (sx - qx, sy - qy)) := Lib.hid (by rw [HV.out]; rw [if_pos (by simp; try omega)]; rfl)
    have e0 : ¬ (0 : Int) < (j : Int) := by omega
    have e1 : (j : Int) + 1 < (n : Int) := by omega
    clear HU HV
    go_enter Try.func20, Try.ntmps20
    go_upto_if 28 with fail
    go_cut [] (fun wx => RSt w wx (.slice (some ⟨b, off, none⟩) n c) false (0, 0) (0, 0))
    case first =>
      go_wp2_with fail
      go_meet
      exact RSt.start w _ _
    case rest =>
      have HC := Lib.hid hcut
      obtain ⟨b1, b2, b3, b4, b5, hbw⟩ := hcut
      have g0 : wc.cell? ⟨w.heap.size, 0, none⟩ = some (.slice (some ⟨b, off, none⟩) n c) := b1.cell 0
      have g1 : wc.cell? ⟨w.heap.size, 1, none⟩ = some (.bool false) := b1.cell 1
      go_upto_if 52 with fail
      go_cut [] (fun wx => RSt w wx (.slice (some ⟨b, off, none⟩) n c) false (0, 0) (sx - qx, sy - qy))
      case first =>
        have hcw := (bcell hbw).1
        go_wp2_with fail
        have hs0 := b1.lt
        have hsb : b < wc.heap.size := by omega
        refine Reg.wp_region_soft 13 (by first | exact hb2 | exact Below.refl _ _) (by kernel_rfl) (by kernel_rfl) (fun u => ?_)
        simp only [List.take, List.drop]
        repeat (go_big_quiet_step ((first | fail)))
        refine wpQuiet_nil ?_
        intro xs hxs
        have hbx := Reg.class_below hxs
        clear hxs
        go_wp2_with fail
        refine (r4sub_any _ _ _ _ _ (by omega) (by omega) (by omega) (by omega) (by omega) (by omega) (by omega) (by omega)).mono ?_
        rintro e w2 ⟨rfl, hb2⟩
        go_wp2_with fail
        refine ⟨rfl, hb2, fun z hz => ?_⟩
        have hb3 := hbx.trans ((hb2.trans (hz.mono hb2.size)).mono hbx.size)
        clear hz hb2 hbx
        obtain ⟨hc, hf⟩ := Reg.bcell hb3
        have hsz := hb3.size
        try simp at hsz
        have hs2 := b5.lt
        have k0 : wc.cell? ⟨w.heap.size + 1 + 1 + 1 + 1, 0, none⟩ = some (.int .i64 0) := b5.cell 0
        have k1 : wc.cell? ⟨w.heap.size + 1 + 1 + 1 + 1, 1, none⟩ = some (.int .i64 0) := b5.cell 1
        have kf := b5.unfrozen
        go_wp2
        go_meet
        exact (HC.out.grow hb3).setV _ _
      case rest =>
        clear g0 g1 b1 b2 b3 b4 b5 hbw HC
        have HC := Lib.hid hcut
        obtain ⟨b1, b2, b3, b4, b5, hbw⟩ := hcut
        have g0 : wc.cell? ⟨w.heap.size + 1 + 1 + 1, 0, none⟩ = some (.int .i64 0) := b4.cell 0
        have g1 : wc.cell? ⟨w.heap.size + 1 + 1 + 1, 1, none⟩ = some (.int .i64 0) := b4.cell 1
        have k0 : wc.cell? ⟨w.heap.size + 1 + 1 + 1 + 1, 0, none⟩ = some (.int .i64 (sx - qx)) := b5.cell 0
        have k1 : wc.cell? ⟨w.heap.size + 1 + 1 + 1 + 1, 1, none⟩ = some (.int .i64 (sy - qy)) := b5.cell 1
        have i0 : wc.cell? ⟨w.heap.size + 1, 0, none⟩ = some (.int .i64 0) := b2.cell 0
        have i1 : wc.cell? ⟨w.heap.size + 1, 1, none⟩ = some (.int .i64 0) := b2.cell 1
        have j0 : wc.cell? ⟨w.heap.size + 1 + 1, 0, none⟩ = some (.int .i64 0) := b3.cell 0
        have j1 : wc.cell? ⟨w.heap.size + 1 + 1, 1, none⟩ = some (.int .i64 0) := b3.cell 1
        have gf := b2.unfrozen
        have kf := b3.unfrozen
        have hs1 := b2.lt
        have hs2 := b3.lt
        have hs3 := b4.lt
        have hs4 := b5.lt
        go_wp2_with fail
        go_region
        all_goals
          go_wp2_with fail
          have hF := HC.out.res 0 0 (sx - qx) (sy - qy)
          refine bodyPost_ret (res_pt2 hF.1 hF.2.1 rfl rfl rfl rfl rfl rfl rfl) rfl ⟨?_, hF.2.2⟩
          rw [HU'.out, HV'.out]
          rfl
  · have HU' : Hid (cornerU true l j = (qx - rx, qy - ry)) := Lib.hid (by rw [HU.out]; rw [if_pos (by simp; try omega)]; rfl)
    have HV' : Hid (cornerV true l j = (sx - qx, sy - qy)) := Lib.hid (by rw [HV.out]; rw [if_pos (by simp; try omega)]; rfl)
    have e0 : ¬ (0 : Int) < (j : Int) := by omega
    have e1 : ¬ (j : Int) + 1 < (n : Int) := by omega
    clear HU HV
    go_enter Try.func20, Try.ntmps20
    go_upto_if 28 with fail
    go_cut [] (fun wx => RSt w wx (.slice (some ⟨b, off, none⟩) n c) true (qx - rx, qy - ry) (0, 0))
    case first =>
      go_wp2_with fail
      refine Reg.wp_region_soft 15 (by first | exact hb2 | exact Below.refl _ _) (by kernel_rfl) (by kernel_rfl) (fun u => ?_)
      simp only [List.take, List.drop]
      repeat (go_big_quiet_step ((first | fail)))
      refine wpQuiet_nil ?_
      intro xs hxs
      have hbx := Reg.class_below hxs
      clear hxs
      go_wp2_with fail
      refine (r4sub_any _ _ _ _ _ (by omega) (by omega) (by omega) (by omega) (by omega) (by omega) (by omega) (by omega)).mono ?_
      rintro e w2 ⟨rfl, hb2⟩
      go_wp2_with fail
      refine ⟨rfl, hb2, fun z hz => ?_⟩
      have hb3 := hbx.trans ((hb2.trans (hz.mono hb2.size)).mono hbx.size)
      clear hz hb2 hbx
      obtain ⟨hc, hf⟩ := Reg.bcell hb3
      have hsz := hb3.size
      try simp at hsz
      go_wp2
      go_meet
      exact ((RSt.start w _ _).grow hb3).setU _ _
    case rest =>
      have HC := Lib.hid hcut
      obtain ⟨b1, b2, b3, b4, b5, hbw⟩ := hcut
      have g0 : wc.cell? ⟨w.heap.size, 0, none⟩ = some (.slice (some ⟨b, off, none⟩) n c) := b1.cell 0
      have g1 : wc.cell? ⟨w.heap.size, 1, none⟩ = some (.bool true) := b1.cell 1
      go_upto_if 52 with fail
      go_cut [] (fun wx => RSt w wx (.slice (some ⟨b, off, none⟩) n c) true (qx - rx, qy - ry) (sx - qx, sy - qy))
      case first =>
        have hcw := (bcell hbw).1
        go_wp2_with fail
        have hs0 := b1.lt
        have hsb : b < wc.heap.size := by omega
        refine Reg.wp_region_soft 13 (by first | exact hb2 | exact Below.refl _ _) (by kernel_rfl) (by kernel_rfl) (fun u => ?_)
        simp only [List.take, List.drop]
        repeat (go_big_quiet_step ((first | fail)))
        refine wpQuiet_nil ?_
        intro xs hxs
        have hbx := Reg.class_below hxs
        clear hxs
        go_wp2_with fail
        refine (r4sub_any _ _ _ _ _ (by omega) (by omega) (by omega) (by omega) (by omega) (by omega) (by omega) (by omega)).mono ?_
        rintro e w2 ⟨rfl, hb2⟩
        go_wp2_with fail
        refine ⟨rfl, hb2, fun z hz => ?_⟩
        have hb3 := hbx.trans ((hb2.trans (hz.mono hb2.size)).mono hbx.size)
        clear hz hb2 hbx
        obtain ⟨hc, hf⟩ := Reg.bcell hb3
        have hsz := hb3.size
        try simp at hsz
        have hs2 := b5.lt
        have k0 : wc.cell? ⟨w.heap.size + 1 + 1 + 1 + 1, 0, none⟩ = some (.int .i64 0) := b5.cell 0
        have k1 : wc.cell? ⟨w.heap.size + 1 + 1 + 1 + 1, 1, none⟩ = some (.int .i64 0) := b5.cell 1
        have kf := b5.unfrozen
        go_wp2
        go_meet
        exact (HC.out.grow hb3).setV _ _
      case rest =>
        clear g0 g1 b1 b2 b3 b4 b5 hbw HC
        have HC := Lib.hid hcut
        obtain ⟨b1, b2, b3, b4, b5, hbw⟩ := hcut
        have g0 : wc.cell? ⟨w.heap.size + 1 + 1 + 1, 0, none⟩ = some (.int .i64 (qx - rx)) := b4.cell 0
        have g1 : wc.cell? ⟨w.heap.size + 1 + 1 + 1, 1, none⟩ = some (.int .i64 (qy - ry)) := b4.cell 1
        have k0 : wc.cell? ⟨w.heap.size + 1 + 1 + 1 + 1, 0, none⟩ = some (.int .i64 (sx - qx)) := b5.cell 0
        have k1 : wc.cell? ⟨w.heap.size + 1 + 1 + 1 + 1, 1, none⟩ = some (.int .i64 (sy - qy)) := b5.cell 1
        have i0 : wc.cell? ⟨w.heap.size + 1, 0, none⟩ = some (.int .i64 0) := b2.cell 0
        have i1 : wc.cell? ⟨w.heap.size + 1, 1, none⟩ = some (.int .i64 0) := b2.cell 1
        have j0 : wc.cell? ⟨w.heap.size + 1 + 1, 0, none⟩ = some (.int .i64 0) := b3.cell 0
        have j1 : wc.cell? ⟨w.heap.size + 1 + 1, 1, none⟩ = some (.int .i64 0) := b3.cell 1
        have gf := b2.unfrozen
        have kf := b3.unfrozen
        have hs1 := b2.lt
        have hs2 := b3.lt
        have hs3 := b4.lt
        have hs4 := b5.lt
        go_wp2_with fail
        go_region
        all_goals
          go_wp2_with fail
          have hF := HC.out.res (qx - rx) (qy - ry) (sx - qx) (sy - qy)
          refine bodyPost_ret (res_pt2 hF.1 hF.2.1 rfl rfl rfl rfl rfl rfl rfl) rfl ⟨?_, hF.2.2⟩
          rw [HU'.out, HV'.out]
          rfl
  · have HU' : Hid (cornerU false l j = (0, 0)) := Lib.hid (by rw [HU.out]; rw [if_neg (by simp; try omega)])
    have HV' : Hid (cornerV false l j = (0, 0)) := Lib.hid (by rw [HV.out]; rw [if_neg (by simp; try omega)])
    have e0 : ¬ (0 : Int) < (j : Int) := by omega
    have e1 : ¬ (j : Int) + 1 < (n : Int) := by omega
    clear HU HV
    go_enter Try.func20, Try.ntmps20
    go_upto_if 28 with fail
    go_cut [] (fun wx => RSt w wx (.slice (some ⟨b, off, none⟩) n c) false (0, 0) (0, 0))
    case first =>
      go_wp2_with fail
      go_meet
      exact RSt.start w _ _
    case rest =>
      have HC := Lib.hid hcut
      obtain ⟨b1, b2, b3, b4, b5, hbw⟩ := hcut
      have g0 : wc.cell? ⟨w.heap.size, 0, none⟩ = some (.slice (some ⟨b, off, none⟩) n c) := b1.cell 0
      have g1 : wc.cell? ⟨w.heap.size, 1, none⟩ = some (.bool false) := b1.cell 1
      go_upto_if 52 with fail
      go_cut [] (fun wx => RSt w wx (.slice (some ⟨b, off, none⟩) n c) false (0, 0) (0, 0))
      case first =>
        go_wp2_with fail
        go_meet
        exact HC.out
      case rest =>
        clear g0 g1 b1 b2 b3 b4 b5 hbw HC
        have HC := Lib.hid hcut
        obtain ⟨b1, b2, b3, b4, b5, hbw⟩ := hcut
        have g0 : wc.cell? ⟨w.heap.size + 1 + 1 + 1, 0, none⟩ = some (.int .i64 0) := b4.cell 0
        have g1 : wc.cell? ⟨w.heap.size + 1 + 1 + 1, 1, none⟩ = some (.int .i64 0) := b4.cell 1
        have k0 : wc.cell? ⟨w.heap.size + 1 + 1 + 1 + 1, 0, none⟩ = some (.int .i64 0) := b5.cell 0
        have k1 : wc.cell? ⟨w.heap.size + 1 + 1 + 1 + 1, 1, none⟩ = some (.int .i64 0) := b5.cell 1
        have i0 : wc.cell? ⟨w.heap.size + 1, 0, none⟩ = some (.int .i64 0) := b2.cell 0
        have i1 : wc.cell? ⟨w.heap.size + 1, 1, none⟩ = some (.int .i64 0) := b2.cell 1
        have j0 : wc.cell? ⟨w.heap.size + 1 + 1, 0, none⟩ = some (.int .i64 0) := b3.cell 0
        have j1 : wc.cell? ⟨w.heap.size + 1 + 1, 1, none⟩ = some (.int .i64 0) := b3.cell 1
        have gf := b2.unfrozen
        have kf := b3.unfrozen
        have hs1 := b2.lt
        have hs2 := b3.lt
        have hs3 := b4.lt
        have hs4 := b5.lt
        go_wp2_with fail
        go_region
        all_goals
          go_wp2_with fail
          have hF := HC.out.res 0 0 0 0
          refine bodyPost_ret (res_pt2 hF.1 hF.2.1 rfl rfl rfl rfl rfl rfl rfl) rfl ⟨?_, hF.2.2⟩
          rw [HU'.out, HV'.out]
          rfl

set_option maxHeartbeats 1000000 in
theorem rcorner_any (closed : Bool) (a : Option Addr) (n c : Nat) (l : List (Int × Int)) (i : Int) (w : World) (hn : n ≤ 1099511627776) (hl : RPts w w.heap.size a n l) (hb : ∀ p ∈ l, HalfP p) :
    Calls Try.prog 20 #[.agg #[.slice a n c, .bool closed], .int .i64 i] w
      fun e w' => e = .returned (.tuple #[.agg #[.int .i64 (cornerS closed l i).1.1, .int .i64 (cornerS closed l i).1.2], .agg #[.int .i64 (cornerS closed l i).2.1, .int .i64 (cornerS closed l i).2.2]]) ∧ Below w.heap.size w w' := by
  by_cases h : i < 0 ∨ (n : Int) ≤ i
  · exact rcorner_out closed a n c l i w hl.1 h
  · obtain ⟨j, rfl⟩ := Int.eq_ofNat_of_zero_le (show 0 ≤ i by omega)
    have e : cornerS closed l j = (cornerU closed l j, cornerV closed l j) := by
      unfold cornerS; rw [if_neg (by rw [hl.1]; exact h)]; rfl
    rw [e]
    exact rcorner_in closed a n c l j w hn hl hb (by omega)

end Go.Proofs.Ytpfeegmifcodfaa
