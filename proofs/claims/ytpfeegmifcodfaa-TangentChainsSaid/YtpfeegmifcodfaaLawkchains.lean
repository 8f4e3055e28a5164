/- TangentChains: how any two vectors meet, and those at the corners of any chain, is the document's. -/
import Derived.Test.YtpfeegmifcodfaaLawh
import Derived.Test.YtpfeegmifcodfaaOpenb
import Derived.Test.YtpfeegmifcodfaaTo
import Derived.Test.YtpfeegmifcodfaaRegc
namespace Go.Proofs.Ytpfeegmifcodfaa
open Go.RowKit

set_option maxRecDepth 100000 in
set_option maxHeartbeats 4000000 in
theorem chains_main (x y x' y' : Int) (closed : Bool) (a : Option Addr) (n c : Nat) (l : List (Int × Int)) (i : Int) (w : World) (hn : n ≤ 9223372036854775807) (hl : RPts w w.heap.size a n l)
    (h1 : halfB x y = true) (h2 : halfB x' y' = true) (h3 : (halvesB l && decide (n ≤ 100)) = true) :
    Calls Try.prog 4 #[.agg #[.int .i64 x, .int .i64 y], .agg #[.int .i64 x', .int .i64 y'], .agg #[.slice a n c, .bool closed], .int .i64 i] w fun e w' => e = .returned (.bool true) ∧ Below w.heap.size w w' := by
  obtain ⟨⟨a1, a2⟩, ⟨a3, a4⟩⟩ := halfB_true h1
  obtain ⟨⟨b1, b2⟩, ⟨b3, b4⟩⟩ := halfB_true h2
  simp only at a1 a2 a3 a4 b1 b2 b3 b4
  have h33 := h3
  rw [Bool.and_eq_true, decide_eq_true_eq] at h33
  obtain ⟨hv, h100⟩ := h33
  have hh := halves_half hv
  have bd := corner_bd (closed := closed) hh i
  have K1 := Lib.hid (fun W => lhalf_any x y W)
  have K2 := Lib.hid (fun W => lhalf_any x' y' W)
  have K3 := Lib.hid (fun W (hW : Below w.heap.size w W) => lbounded_any closed a n c l W hn ((hl.below hW).more hW.size))
  have K4 := Lib.hid (fun W (hW : Below w.heap.size w W) => corner_any closed a n c l i W (by omega) ((hl.below hW).more hW.size) hh)
  have K5 := Lib.hid (fun W (hW : Below w.heap.size w W) => rcorner_any closed a n c l i W (by omega) ((hl.below hW).more hW.size) hh)
  have K6 := Lib.hid (fun W (hW : Below w.heap.size w W) => turns_any closed a n c l W (by omega) ((hl.below hW).more hW.size) hh)
  have K7 := Lib.hid (fun W (hW : Below w.heap.size w W) => rturns_any closed a n c l W (by omega) ((hl.below hW).more hW.size) hh)
  have H1 := Lib.hid h1
  have H2 := Lib.hid h2
  have H3 := Lib.hid h3
  have hlen : (turnsS closed l).length ≤ 1000 := by
    have := hl.1
    unfold turnsS turnTo turnFrom
    cases closed <;> simp <;> omega
  generalize turnsS closed l = tl at *
  obtain ⟨cs, hcs⟩ : ∃ cs, cornerS closed l i = cs := ⟨_, rfl⟩
  rw [hcs] at bd K4 K5
  obtain ⟨⟨p1, p2⟩, ⟨q1, q2⟩⟩ := cs
  clear bd hcs h1 h2 h3 hv hh hl
  go_enter Try.func4, Try.ntmps4
  go_wp2_with fail
  have s4 : Blk (((w.alloc (.cells #[.int .i64 x, .int .i64 y] 23)).alloc (.cells #[.int .i64 x', .int .i64 y'] 23)).alloc (.cells #[.slice a n c, .bool closed] 36)) w.heap.size 23 #[.int .i64 x, .int .i64 y] := ((Blk.new w _ _).alloc _).alloc _
  have s5 : Blk (((w.alloc (.cells #[.int .i64 x, .int .i64 y] 23)).alloc (.cells #[.int .i64 x', .int .i64 y'] 23)).alloc (.cells #[.slice a n c, .bool closed] 36)) (w.heap.size + 1) 23 #[.int .i64 x', .int .i64 y'] := by
    have h := (Blk.new (w.alloc (.cells #[.int .i64 x, .int .i64 y] 23)) 23 #[.int .i64 x', .int .i64 y']).alloc (.cells #[.slice a n c, .bool closed] 36)
    rw [World.size_alloc] at h
    exact h
  have s6 : Blk (((w.alloc (.cells #[.int .i64 x, .int .i64 y] 23)).alloc (.cells #[.int .i64 x', .int .i64 y'] 23)).alloc (.cells #[.slice a n c, .bool closed] 36)) (w.heap.size + 1 + 1) 36 #[.slice a n c, .bool closed] := by
    have h := Blk.new ((w.alloc (.cells #[.int .i64 x, .int .i64 y] 23)).alloc (.cells #[.int .i64 x', .int .i64 y'] 23)) 36 #[.slice a n c, .bool closed]
    rw [World.size_alloc, World.size_alloc] at h
    exact h
  refine (K1.out _).mono ?_
  rw [H1.out]
  rintro e w2 ⟨rfl, hb2⟩
  have hx2 : Below w.heap.size w w2 := Below.trans (by (repeat (first | exact Below.refl _ _ | assumption | refine Below.drew ?_ | refine Below.setCell ?_ (by simp; try omega) _ | refine Below.alloc ?_ (by simp; try omega) _))) (hb2.mono (by simp; omega))
  replace s4 := s4.grow hb2
  replace s5 := s5.grow hb2
  replace s6 := s6.grow hb2
  clear hb2
  have l4 := s4.lt
  have l5 := s5.lt
  have l6 := s6.lt
  have g0 : w2.cell? ⟨w.heap.size + 1, 0, none⟩ = some (.int .i64 x') := s5.cell 0
  have g1 : w2.cell? ⟨w.heap.size + 1, 1, none⟩ = some (.int .i64 y') := s5.cell 1
  go_wp2_with fail
  refine (K2.out _).mono ?_
  rw [H2.out]
  rintro e w3 ⟨rfl, hb2⟩
  have hx3 := hx2.trans (hb2.mono hx2.size)
  replace s4 := s4.grow hb2
  replace s5 := s5.grow hb2
  replace s6 := s6.grow hb2
  clear hb2 hx2 g0 g1 l4 l5 l6
  have l4 := s4.lt
  have l5 := s5.lt
  have l6 := s6.lt
  have g0 : w3.cell? ⟨w.heap.size + 1 + 1, 0, none⟩ = some (.slice a n c) := s6.cell 0
  have g1 : w3.cell? ⟨w.heap.size + 1 + 1, 1, none⟩ = some (.bool closed) := s6.cell 1
  go_wp2_with fail
  refine (K3.out _ hx3).mono ?_
  rw [H3.out]
  rintro e w4 ⟨rfl, hb2⟩
  have hx4 := hx3.trans (hb2.mono hx3.size)
  replace s4 := s4.grow hb2
  replace s5 := s5.grow hb2
  replace s6 := s6.grow hb2
  clear hb2 hx3 g0 g1 l4 l5 l6
  go_wp2_with fail
  refine (shown_any _).mono ?_
  rintro e w5 ⟨rfl, hb2⟩
  have hx5 := hx4.trans (hb2.mono hx4.size)
  replace s4 := s4.grow hb2
  replace s5 := s5.grow hb2
  replace s6 := s6.grow hb2
  clear hb2 hx4
  have l4 := s4.lt
  have l5 := s5.lt
  have l6 := s6.lt
  have g0 : w5.cell? ⟨w.heap.size + 1 + 1, 0, none⟩ = some (.slice a n c) := s6.cell 0
  have g1 : w5.cell? ⟨w.heap.size + 1 + 1, 1, none⟩ = some (.bool closed) := s6.cell 1
  go_wp2_with fail
  refine (K4.out _ hx5).mono ?_
  rintro e w6 ⟨rfl, hb2⟩
  have hx6 := hx5.trans (hb2.mono hx5.size)
  replace s4 := s4.grow hb2
  replace s5 := s5.grow hb2
  replace s6 := s6.grow hb2
  clear hb2 hx5 g0 g1 l4 l5 l6
  have l4 := s4.lt
  have l5 := s5.lt
  have l6 := s6.lt
  have g0 : w6.cell? ⟨w.heap.size + 1 + 1, 0, none⟩ = some (.slice a n c) := s6.cell 0
  have g1 : w6.cell? ⟨w.heap.size + 1 + 1, 1, none⟩ = some (.bool closed) := s6.cell 1
  have l6' : w.heap.size + 1 + 1 < w6.heap.size + 1 := by omega
  go_wp2_with fail
  have s7 : Blk ((w6.alloc (.cells #[.int .i64 p1, .int .i64 p2] 23)).alloc (.cells #[.int .i64 q1, .int .i64 q2] 23)) w6.heap.size 23 #[.int .i64 p1, .int .i64 p2] := (Blk.new w6 _ _).alloc _
  have s8 : Blk ((w6.alloc (.cells #[.int .i64 p1, .int .i64 p2] 23)).alloc (.cells #[.int .i64 q1, .int .i64 q2] 23)) (w6.heap.size + 1) 23 #[.int .i64 q1, .int .i64 q2] := by
    have h := Blk.new (w6.alloc (.cells #[.int .i64 p1, .int .i64 p2] 23)) 23 #[.int .i64 q1, .int .i64 q2]
    rw [World.size_alloc] at h
    exact h
  have hx6' : Below w.heap.size w ((w6.alloc (.cells #[.int .i64 p1, .int .i64 p2] 23)).alloc (.cells #[.int .i64 q1, .int .i64 q2] 23)) := (hx6.alloc hx6.size _).alloc (by have := hx6.size; simp; omega) _
  refine (its_any _ _ _ _ _).mono ?_
  rintro e w7 ⟨rfl, hb2⟩
  have hx7 := hx6'.trans (hb2.mono hx6'.size)
  replace s4 := ((s4.alloc _).alloc _).grow hb2
  replace s5 := ((s5.alloc _).alloc _).grow hb2
  replace s6 := ((s6.alloc _).alloc _).grow hb2
  replace s7 := s7.grow hb2
  replace s8 := s8.grow hb2
  clear hb2 hx6 hx6' g0 g1 l4 l5 l6 l6'
  go_wp2_with fail
  refine (K5.out _ hx7).mono ?_
  rintro e w8 ⟨rfl, hb2⟩
  have hx8 := hx7.trans (hb2.mono hx7.size)
  replace s4 := s4.grow hb2
  replace s5 := s5.grow hb2
  replace s6 := s6.grow hb2
  replace s7 := s7.grow hb2
  replace s8 := s8.grow hb2
  clear hb2 hx7
  go_wp2_with fail
  have s9 : Blk ((w8.alloc (.cells #[.int .i64 p1, .int .i64 p2] 23)).alloc (.cells #[.int .i64 q1, .int .i64 q2] 23)) w8.heap.size 23 #[.int .i64 p1, .int .i64 p2] := (Blk.new w8 _ _).alloc _
  have s10 : Blk ((w8.alloc (.cells #[.int .i64 p1, .int .i64 p2] 23)).alloc (.cells #[.int .i64 q1, .int .i64 q2] 23)) (w8.heap.size + 1) 23 #[.int .i64 q1, .int .i64 q2] := by
    have h := Blk.new (w8.alloc (.cells #[.int .i64 p1, .int .i64 p2] 23)) 23 #[.int .i64 q1, .int .i64 q2]
    rw [World.size_alloc] at h
    exact h
  have hx9 : Below w.heap.size w ((w8.alloc (.cells #[.int .i64 p1, .int .i64 p2] 23)).alloc (.cells #[.int .i64 q1, .int .i64 q2] 23)) := (hx8.alloc hx8.size _).alloc (by have := hx8.size; simp; omega) _
  replace s4 := (s4.alloc (.cells #[.int .i64 p1, .int .i64 p2] 23)).alloc (.cells #[.int .i64 q1, .int .i64 q2] 23)
  replace s5 := (s5.alloc (.cells #[.int .i64 p1, .int .i64 p2] 23)).alloc (.cells #[.int .i64 q1, .int .i64 q2] 23)
  replace s6 := (s6.alloc (.cells #[.int .i64 p1, .int .i64 p2] 23)).alloc (.cells #[.int .i64 q1, .int .i64 q2] 23)
  replace s7 := (s7.alloc (.cells #[.int .i64 p1, .int .i64 p2] 23)).alloc (.cells #[.int .i64 q1, .int .i64 q2] 23)
  replace s8 := (s8.alloc (.cells #[.int .i64 p1, .int .i64 p2] 23)).alloc (.cells #[.int .i64 q1, .int .i64 q2] 23)
  clear hx8
  generalize ((w8.alloc (.cells #[.int .i64 p1, .int .i64 p2] 23)).alloc (.cells #[.int .i64 q1, .int .i64 q2] 23)) = w9 at s4 s5 s6 s7 s8 s9 s10 hx9 ⊢
  have l4 := s4.lt
  have l5 := s5.lt
  have l6 := s6.lt
  have l7 := s7.lt
  have l8 := s8.lt
  have l9 := s9.lt
  have l10 := s10.lt
  have g4 := s4.cell
  have g5 := s5.cell
  have g6 := s6.cell
  have g7 := s7.cell
  have g8 := s8.cell
  have g9 := s9.cell
  have g10 := s10.cell
  refine Reg.wp_region_R (fun _ => True) 26 rfl (by kernel_rfl) ?_
  refine Reg.wpR_hoist [0, 1, 2, 3, 4, 5, 6, 7, 8, 9, 10, 11, 12, 13, 14, 15, 16, 17, 18, 20] 6 rfl (by kernel_rfl) (by kernel_rfl) (fun u => ?_)
  simp only [Reg.pickL, List.drop]
  repeat (go_big_quiet_step ((first | (go_at_call 22; exact Reg.calls_aftK (meet_any _ _ _ _ _ (by omega) (by omega) (by omega) (by omega) (by omega) (by omega) (by omega) (by omega))) | (go_at_call 23; exact Reg.calls_aftK (rmeet_any _ _ _ _ _ (by omega) (by omega) (by omega) (by omega) (by omega) (by omega) (by omega) (by omega))))))
  refine wpQuiet_nil ?_
  refine Reg.wpR_main 19 (by kernel_rfl) (fun xm hxm => ?_)
  simp only [Reg.pickL, List.drop]
  have hxm1 := hx9.trans (Below.mono hxm hx9.size)
  clear s4 s5 s6 s7 s8 s9 s10 l4 l5 l6 l7 l8 l9 l10 g4 g5 g6 g7 g8 g9 g10 hxm hx9
  go_wp2_with fail
  refine (K6.out _ hxm1).mono ?_
  rintro e w10 ⟨v, rfl, hown, hb⟩
  obtain ⟨a10, c10, rfl, _⟩ := own_slice hown
  have hr1 := own_ints hown
  have hx10 := hxm1.trans (hb.mono hxm1.size)
  go_wp2_with fail
  refine ⟨rfl, Reg.Kp.of_gr hb, ?_⟩
  clear hb hown hxm1
  refine Reg.wpR_hoist [21] 4 rfl (by kernel_rfl) (by kernel_rfl) (fun u => ?_)
  simp only [Reg.pickL, List.drop]
  repeat (go_big_quiet_step ((first | (go_at_call 21; exact Reg.calls_aftK (its_any _ _ _ _ _)))))
  refine wpQuiet_nil ?_
  refine Reg.wpR_main 22 (by kernel_rfl) (fun xn hxn => ?_)
  simp only [Reg.pickL, List.drop]
  have hxn1 := hx10.trans (Below.mono hxn hx10.size)
  replace hr1 := hr1.grow hxn
  clear hxn hx10
  go_wp2_with fail
  refine (K7.out _ hxn1).mono ?_
  rintro e w11 ⟨v, rfl, hown, hb⟩
  obtain ⟨a11, c11, rfl, _⟩ := own_slice hown
  replace hr1 := hr1.grow hb
  have hr2 := own_ints hown
  have hx11 := hxn1.trans (hb.mono hxn1.size)
  go_wp2_with fail
  refine ⟨rfl, Reg.Kp.of_gr hb, ?_⟩
  clear hb hown hxn1
  refine Reg.wpR_main 23 (by kernel_rfl) (fun xp hxp => ?_)
  simp only [Reg.pickL, List.drop]
  have hxp1 := hx11.trans (Below.mono hxp hx11.size)
  replace hr1 := hr1.grow hxp
  replace hr2 := hr2.grow hxp
  clear hxp hx11
  go_wp2_with fail
  refine (ints_any _ _ _ _ _ _ _ (by omega) hr1 hr2).mono ?_
  rintro e w12 ⟨rfl, hb⟩
  have hx12 := hxp1.trans (hb.mono hxp1.size)
  go_wp2_with fail
  refine ⟨rfl, Reg.Kp.of_gr hb, ?_⟩
  clear hb hxp1 hr1 hr2
  refine Reg.wpR_hoist [24, 25] 0 rfl (by kernel_rfl) (by kernel_rfl) (fun u => ?_)
  simp only [Reg.pickL, List.drop]
  repeat (go_big_quiet_step ((first | fail)))
  refine wpQuiet_nil ?_
  refine Reg.wpR_end (by kernel_rfl) (fun xq hxq => ?_)
  go_wp2_with fail
  go_ret
  exact ⟨rfl, hx12.trans (Below.mono hxq hx12.size)⟩

set_option maxRecDepth 100000 in
set_option maxHeartbeats 4000000 in
theorem tchains_any (x y x' y' : Int) (closed : Bool) (a : Option Addr) (n c : Nat) (l : List (Int × Int)) (i : Int) (w : World) (hn : n ≤ 9223372036854775807) (hl : RPts w w.heap.size a n l) :
    Calls Try.prog 4 #[.agg #[.int .i64 x, .int .i64 y], .agg #[.int .i64 x', .int .i64 y'], .agg #[.slice a n c, .bool closed], .int .i64 i] w fun e w' => e = .returned (.bool true) ∧ Below w.heap.size w w' := by
  cases h1 : halfB x y
  · clear hl
    go_enter Try.func4, Try.ntmps4
    go_wp2_with (first | (go_at_call 17; refine (calls_from (by first | assumption | exact Below.refl _ _) (lhalf_any _ _ _)).mono ?_; rintro e w2 ⟨rfl, hb2⟩; have hc2 := (bcell hb2).1; have hf2 := (bcell hb2).2) | (go_at_call 10; refine (calls_from (by first | assumption | exact Below.refl _ _) (shown_any _)).mono ?_; rintro e w2 ⟨rfl, hb2⟩; have hc2 := (bcell hb2).1; have hf2 := (bcell hb2).2))
    go_ret
    exact ⟨rfl, by (first | ((repeat (first | exact Below.refl _ _ | assumption | refine Below.drew ?_ | refine Below.setCell ?_ (by simp; try omega) _ | refine Below.alloc ?_ (by simp; try omega) _)); done) | exact Below.trans (by (repeat (first | exact Below.refl _ _ | assumption | refine Below.drew ?_ | refine Below.setCell ?_ (by simp; try omega) _ | refine Below.alloc ?_ (by simp; try omega) _))) (hb2.mono (by simp; try omega)))⟩
  cases h2 : halfB x' y'
  · clear hl
    go_enter Try.func4, Try.ntmps4
    go_wp2_with (first | (go_at_call 17; refine (calls_from (by first | assumption | exact Below.refl _ _) (lhalf_any _ _ _)).mono ?_; rintro e w2 ⟨rfl, hb2⟩; have hc2 := (bcell hb2).1; have hf2 := (bcell hb2).2) | (go_at_call 10; refine (calls_from (by first | assumption | exact Below.refl _ _) (shown_any _)).mono ?_; rintro e w2 ⟨rfl, hb2⟩; have hc2 := (bcell hb2).1; have hf2 := (bcell hb2).2))
    go_ret
    exact ⟨rfl, by (first | ((repeat (first | exact Below.refl _ _ | assumption | refine Below.drew ?_ | refine Below.setCell ?_ (by simp; try omega) _ | refine Below.alloc ?_ (by simp; try omega) _)); done) | exact Below.trans (by (repeat (first | exact Below.refl _ _ | assumption | refine Below.drew ?_ | refine Below.setCell ?_ (by simp; try omega) _ | refine Below.alloc ?_ (by simp; try omega) _))) (hb2.mono (by simp; try omega)))⟩
  cases h3 : halvesB l && decide (n ≤ 100)
  · have K3 := Lib.hid (fun W (hW : Below w.heap.size w W) => lbounded_any closed a n c l W hn ((hl.below hW).more hW.size))
    have H3 := Lib.hid h3
    clear h3 hl
    go_enter Try.func4, Try.ntmps4
    go_wp2_with (first | (go_at_call 17; refine (calls_from (by first | assumption | exact Below.refl _ _) (lhalf_any _ _ _)).mono ?_; rintro e w2 ⟨rfl, hb2⟩; have hc2 := (bcell hb2).1; have hf2 := (bcell hb2).2))
    have hx2 : Below w.heap.size w w2 := Below.trans (by (repeat (first | exact Below.refl _ _ | assumption | refine Below.drew ?_ | refine Below.setCell ?_ (by simp; try omega) _ | refine Below.alloc ?_ (by simp; try omega) _))) (hb2.mono (by simp; omega))
    refine (K3.out _ hx2).mono ?_
    rw [H3.out]
    rintro e w3 ⟨rfl, hb3⟩
    have hx3 := hx2.trans (hb3.mono hx2.size)
    clear hx2 hb2 hb3 hc2
    go_wp2_with fail
    refine (shown_any _).mono ?_
    rintro e w4 ⟨rfl, hb4⟩
    have hx4 := hx3.trans (hb4.mono hx3.size)
    go_wp2_with fail
    go_ret
    exact ⟨rfl, hx4⟩
  · exact chains_main x y x' y' closed a n c l i w hn hl h1 h2 h3

namespace tchains
open Go.ChangeShapes Go.WideShapes Go.ChangeAt

theorem contract {H : Type} (enc : TypeId × Value → H) (W : World) (base : Nat) (args : Array Value) (ds : List (DataW H)) (ps : List MemPlace)
    (hval : ∀ (j : Nat) t v, Try.f4.params[j]? = some t → args[j]? = some v → Value.okWide Try.checked.prog W .any base t v)
    (hA : DataW.TrodAll enc Try.checked.prog W 0 (fun _ => true) true Try.f4.params.toList args.toList ds ps) (hlt : ∀ x ∈ ps, x.block < W.heap.size) :
    Calls Try.checked.prog 4 args W fun e W' => e = .returned (.bool true) ∧ Below W.heap.size W W' := by
  rw [Try.params4] at hA hval
  obtain ⟨v0, vs0, d0, ds0, p0, q0, ea, rfl, rfl, h0, hA⟩ := trodAll_cons hA
  obtain ⟨v1, vs1, d1, ds1, p1, q1, rfl, rfl, rfl, h1, hA⟩ := trodAll_cons hA
  obtain ⟨v2, vs2, d2, ds2, p2, q2, rfl, rfl, rfl, h2, hA⟩ := trodAll_cons hA
  obtain ⟨v3, vs3, d3, ds3, p3, q3, rfl, rfl, rfl, h3, hA⟩ := trodAll_cons hA
  obtain ⟨rfl, rfl, rfl⟩ := trodAll_nil hA
  obtain rfl : args = #[v0, v1, v2, v3] := by cases args; simp_all
  have _ := hlt
  obtain ⟨x, y, rfl, _, _⟩ := open_pt (hval 0 _ _ rfl rfl) h0
  obtain ⟨x', y', rfl, _, _⟩ := open_pt (hval 1 _ _ rfl rfl) h1
  obtain ⟨a, n, c, l, closed, rfl, hnc, hcm, hl⟩ := open_chain (hval 2 _ _ rfl rfl) h2
  obtain ⟨i, rfl⟩ := okWide_int Try.underlying3 (hval 3 _ _ rfl rfl)
  exact tchains_any x y x' y' closed a n c l i W (by unfold maxLen at hcm; omega) hl

set_option maxRecDepth 100000 in
theorem lifted (os : Os) (started : os.Started) (H : Type) (enc : TypeId × Value → H) :
    ReturnsInHanded {} Try.checked os 4 .any (Rows.tangentChainsSpec.pre6 enc Try.prog Try.f4 [] false) (Rows.tangentChainsSpec.post enc Try.prog Try.f4 false true false false) :=
  law_lift (bT := 4) started (by kernel_rfl) Try.func4 rfl (by kernel_rfl) (by kernel_rfl) (by kernel_rfl) (fun ds h => by match ds, h with | [_, _, _, _], _ => rfl)
    (ChangeSpec.witness6 (enc := enc) (C := Try.checked) false ⟨#[], #[.agg #[.int .i64 0, .int .i64 0], .agg #[.int .i64 0, .int .i64 0], .agg #[.slice none 0 0, .bool false], .int .i64 0], []⟩ 8 (by kernel_rfl) (by kernel_rfl) (by kernel_rfl) (by kernel_rfl))
    (fun W base args ds ps hval hA hlt => contract enc W base args ds ps hval hA hlt)

theorem holds : Rows.TangentChainsSaid :=
  OpenClaim.holds_of_wide 4 Try.f4 rfl rfl rfl rfl rfl rfl rfl ⟨rfl, rfl, rfl, rfl, rfl⟩ rfl rfl rfl rfl rfl (by kernel_rfl) Try.func4 (by kernel_rfl)
    (of_decide_eq_true (by kernel_rfl)) (by unfold Func.isWrapper; first | (rw [if_pos (by decide +kernel)]; kernel_rfl) | (rw [if_neg (by decide +kernel)]; exact ⟨rfl, rfl⟩))
    (fun os started H enc _ => lifted os started H enc)
end tchains
end Go.Proofs.Ytpfeegmifcodfaa
