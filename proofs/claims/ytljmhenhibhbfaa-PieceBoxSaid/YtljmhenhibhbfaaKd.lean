/- Contract of piece's left: whether a point lies on no side's right. -/
import Derived.Test.YtljmhenhibhbfaaKc
import Derived.Test.YtljmhenhibhbfaaSign
namespace Go.Proofs.Ytljmhenhibhbfaa
open Go.RowKit Go.Shelf
attribute [local go_sem] Oper.semAt_some

theorem left_all {l : List (Int × Int)} {hC : ∀ q ∈ l, nearK q} {q : Int × Int} (h : ∀ x ∈ sidesN l hC, seesB q x.1 = true) : leftB l q = true := by
  unfold leftB
  rw [← sidesN_val l hC, List.all_eq_true]
  intro s hs
  obtain ⟨x, hx, rfl⟩ := List.mem_map.1 hs
  exact h x hx
theorem left_not {l : List (Int × Int)} {hC : ∀ q ∈ l, nearK q} {q : Int × Int} {pre : List SSide} (hp : pre <+: sidesN l hC) {x : SSide} (hx : x ∈ pre) (h : seesB q x.1 = false) : leftB l q = false := by
  unfold leftB
  rw [← sidesN_val l hC, List.all_eq_false]
  exact ⟨x.1, List.mem_map_of_mem (hp.subset hx), by rw [h]; simp⟩

set_option maxRecDepth 100000 in
set_option maxHeartbeats 4000000 in
theorem left_any (a : Option Addr) (n c : Nat) (l : List (Int × Int)) (qx qy : Int) (w : World) (hn : n ≤ 1000) (hC : ∀ q ∈ l, nearK q) (hq : nearK (qx, qy)) (hl : RPts w w.heap.size a n l) :
    Calls Try.prog 22 #[.slice a n c, .agg #[.int .i64 qx, .int .i64 qy]] w fun e w' => e = .returned (.bool (leftB l (qx, qy))) ∧ Below w.heap.size w w' := by
  obtain ⟨⟨q1, q2⟩, ⟨q3, q4⟩⟩ := hq
  refine (callsIn_wide (n := 6)).1 ?_
  refine callsIn_of_wp_marks Try.func22 rfl trivial ?_ rfl
  simp only [Try.ntmps22, List.size_toArray, List.length_cons, List.length_nil, Nat.reduceAdd, Nat.reduceSub, Array.replicate_succ, Array.replicate_zero, List.push_toArray, List.append_toArray, List.nil_append, List.cons_append]
  gi_wp2_with fail
  refine ⟨trivial, ?_⟩
  refine (callsIn_wide.2 (sides_any _ a n c _ rfl)).mono ?_
  rintro e w' ⟨rfl, rfl⟩
  gi_wp2_with fail
  have bQ := ((Blk.new w 23 #[.int .i64 qx, .int .i64 qy]).alloc (.cells #[.bool false] 4)).alloc (.cells #[.slice a n c] 31)
  have bR := (Blk.new (w.alloc (.cells #[.int .i64 qx, .int .i64 qy] 23)) 4 #[.bool false]).alloc (.cells #[.slice a n c] 31)
  have bP := Blk.new ((w.alloc (.cells #[.int .i64 qx, .int .i64 qy] 23)).alloc (.cells #[.bool false] 4)) 31 #[.slice a n c]
  simp only [World.size_alloc] at bR bP
  have hsz : (((w.alloc (.cells #[.int .i64 qx, .int .i64 qy] 23)).alloc (.cells #[.bool false] 4)).alloc (.cells #[.slice a n c] 31)).heap.size = w.heap.size + 1 + 1 + 1 := by simp
  have hB0 : Below w.heap.size w (((w.alloc (.cells #[.int .i64 qx, .int .i64 qy] 23)).alloc (.cells #[.bool false] 4)).alloc (.cells #[.slice a n c] 31)) := by (repeat (first | exact Below.refl _ _ | assumption | refine Below.drew ?_ | refine Below.setCell ?_ (by simp; try omega) _ | refine Below.alloc ?_ (by simp; try omega) _))
  have hl0 := hl.below hB0
  generalize hW0 : ((w.alloc (.cells #[.int .i64 qx, .int .i64 qy] 23)).alloc (.cells #[.bool false] 4)).alloc (.cells #[.slice a n c] 31) = W0 at *
  clear hW0
  refine wpIn_rangeFunc_ownH rfl (by omega) (gf := 32) (lb := #[.pointer (some ⟨w.heap.size + 1 + 1, 0, none⟩)]) rfl trivial (enters_of Try.func32 (by kernel_rfl) rfl)
    (sides_stops 5 (by omega) (w.heap.size + 1 + 1) w.heap.size n c a l hn hC W0 bP hl0 (by omega)) kept_t (kept_b (by omega) (by omega)) (Below.refl _ _) (fun _ => rfl)
    (fun pre W => (((∀ x ∈ pre, seesB (qx, qy) x.1 = true) ∧ Blk W w.heap.size 23 #[.int .i64 qx, .int .i64 qy]) ∧ (Blk W (w.heap.size + 1) 4 #[.bool false] ∧ Blk W (w.heap.size + 1 + 1) 31 #[.slice a n c])) ∧ Below w.heap.size w W)
    (fun cd pre W => ((cd = .ret ∧ ∃ x ∈ pre, seesB (qx, qy) x.1 = false) ∧ Blk W (w.heap.size + 1) 4 #[.bool false]) ∧ Below w.heap.size w W)
    (OwnFrom.and (OwnFrom.and (OwnFrom.and (ownFrom_pure _ _) (Own.from (blk_own _ _ _) _)) (OwnFrom.and (Own.from (blk_own _ _ _) _) (Own.from (blk_own _ _ _) _))) (ownFrom_below (Nat.le_refl _) (by omega)))
    (fun cd => OwnFrom.and (OwnFrom.and (ownFrom_pure _ _) (Own.from (blk_own _ _ _) _)) (ownFrom_below (Nat.le_refl _) (by omega)))
    ⟨⟨⟨fun x hx => absurd hx (by simp), bQ⟩, ⟨bR, bP⟩⟩, hB0⟩
    (fun x a' W => ∃ Bx, w.heap.size + 1 + 1 < Bx ∧ Blk W Bx 23 #[.int .i64 x.1.1.1, .int .i64 x.1.1.2] ∧ Blk W (Bx + 1) 23 #[.int .i64 x.1.2.1, .int .i64 x.1.2.2] ∧
      a' = { tmps := #[.slice a n c, .agg #[.int .i64 qx, .int .i64 qy], undef, .pointer (some ⟨w.heap.size, 0, none⟩), .pointer (some ⟨w.heap.size + 1, 0, none⟩), .pointer (some ⟨Bx, 0, none⟩), .pointer (some ⟨Bx + 1, 0, none⟩), .slice a n c, .func (.func 32) #[] #[.pointer (some ⟨w.heap.size + 1 + 1, 0, none⟩)],
        .agg #[.int .i64 x.1.1.1, .int .i64 x.1.1.2], .agg #[.int .i64 x.1.2.1, .int .i64 x.1.2.2], undef, undef, undef, undef, undef], defers := [] })
    (fun x a' _ X Y row hs hg hr => by
      obtain ⟨Bx, h1, h2, h3, h4⟩ := hs
      exact ⟨Bx, h1, blk_own Bx _ (fun (_ : Unit) => #[.int .i64 x.1.1.1, .int .i64 x.1.1.2]) () X Y row h2 hg (fun r e => (hr r e).2), blk_own (Bx + 1) _ (fun (_ : Unit) => #[.int .i64 x.1.2.1, .int .i64 x.1.2.2]) () X Y row h3 hg (fun r e => (hr r e).2), h4⟩)
    ?assign ?body ?done ?stop
  case assign =>
    rintro lp pre x W K ⟨⟨⟨hp, bQ1⟩, ⟨bR1, bP1⟩⟩, hB1⟩ hK
    gi_wp2
    refine hK _ _ (((KeepsOthers.alloc _ _).trans (KeepsOthers.alloc _ _)).from _) (kept_grow (((Below.refl _ _).alloc (Nat.le_refl _) _).alloc (by simp) _) bP1.lt hB1.size)
      ⟨⟨⟨hp, (bQ1.alloc _).alloc _⟩, ⟨(bR1.alloc _).alloc _, (bP1.alloc _).alloc _⟩⟩, (hB1.alloc hB1.size _).alloc (by have := hB1.size; simp; omega) _⟩
      ⟨W.heap.size, bP1.lt, (Blk.new W _ _).alloc _, ?_, rfl⟩
    have h := Blk.new (W.alloc (.cells #[.int .i64 x.1.1.1, .int .i64 x.1.1.2] 23)) 23 #[.int .i64 x.1.2.1, .int .i64 x.1.2.2]
    simpa only [World.size_alloc] using h
  case body =>
    rintro lp pre x a' W hlp ⟨r, hr⟩ ⟨⟨⟨hp, bQ1⟩, ⟨bR1, bP1⟩⟩, hB1⟩ ⟨Bx, hBx, bX, bY, rfl⟩ hlt
    have HX : Hid (seesB (qx, qy) x.1 = decide (0 ≤ sideS x.1.1.1 x.1.1.2 x.1.2.1 x.1.2.2 qx qy)) := Lib.hid rfl
    have HPX : Hid (seesB (qx, qy) x.1 = true → ∀ y ∈ pre ++ [x], seesB (qx, qy) y.1 = true) := Lib.hid (fun h y hy => by
      rcases List.mem_append.1 hy with h2 | h2
      · exact hp y h2
      · rw [List.mem_singleton.1 h2]; exact h)
    have HPN : Hid (seesB (qx, qy) x.1 = false → ∃ y ∈ pre ++ [x], seesB (qx, qy) y.1 = false) := Lib.hid (fun h => ⟨x, by simp, h⟩)
    obtain ⟨⟨⟨x1, y1⟩, ⟨x2, y2⟩⟩, hok⟩ := x
    obtain ⟨⟨⟨o1, o2⟩, ⟨o3, o4⟩⟩, ⟨o5, o6⟩, ⟨o7, o8⟩⟩ := hok
    simp only at bX bY o1 o2 o3 o4 o5 o6 o7 o8 HX
    have cQ0 : W.cell? ⟨w.heap.size, 0, none⟩ = some (.int .i64 qx) := bQ1.cell 0
    have cQ1 : W.cell? ⟨w.heap.size, 1, none⟩ = some (.int .i64 qy) := bQ1.cell 1
    have cX0 : W.cell? ⟨Bx, 0, none⟩ = some (.int .i64 x1) := bX.cell 0
    have cX1 : W.cell? ⟨Bx, 1, none⟩ = some (.int .i64 y1) := bX.cell 1
    have cY0 : W.cell? ⟨Bx + 1, 0, none⟩ = some (.int .i64 x2) := bY.cell 0
    have cY1 : W.cell? ⟨Bx + 1, 1, none⟩ = some (.int .i64 y2) := bY.cell 1
    have sQ := bQ1.lt
    have sX := bX.lt
    have sY := bY.lt
    have HK := Lib.hid (And.intro bQ1 (And.intro bR1 (And.intro bP1 hB1)))
    clear bQ1 bR1 bP1 bX bY hB1 hp
    dsimp only
    gi_wp2_with fail
    refine ⟨trivial, ?_⟩
    refine (CallsIn.inRound lp (callsIn_wide.2 (side_any x1 y1 x2 y2 qx qy _ (by omega) (by omega) (by omega) (by omega) (by omega) (by omega) (by omega) (by omega) (by omega) (by omega) (by omega) (by omega)))).mono ?_
    rintro e w2 ⟨rfl, hb2⟩
    by_cases hs : sideS x1 y1 x2 y2 qx qy < 0
    · have HN := Lib.hid (HPN.out (by rw [HX.out]; exact decide_eq_false (by omega)))
      have k1 := (HK.out.2.1.grow hb2).unfrozen
      have k2 := (HK.out.2.1.grow hb2).cell
      have k3 := (HK.out.2.1.grow hb2).lt
      clear HX HPX HPN
      gi_wp2
      obtain ⟨kQ, kR, kP, kB⟩ := HK.out
      exact ⟨((keeps_below hb2).trans (KeepsOthers.setCell _ _ _)).from _, ⟨⟨rfl, HN.out⟩, (kR.grow hb2).set 0 _⟩, (kB.trans (hb2.mono kB.size)).setCell (by simp) _⟩
    · have HY2 := Lib.hid (HPX.out (by rw [HX.out]; exact decide_eq_true (by omega)))
      clear HX HPX HPN
      gi_wp2
      obtain ⟨kQ, kR, kP, kB⟩ := HK.out
      exact ⟨(keeps_below hb2).from _, kept_grow hb2 kP.lt kB.size, ⟨⟨⟨HY2.out, kQ.grow hb2⟩, ⟨kR.grow hb2, kP.grow hb2⟩⟩, kB.trans (hb2.mono kB.size)⟩⟩
  case done =>
    rintro D ys W hD rfl ⟨⟨⟨hp, bQ1⟩, ⟨bR1, bP1⟩⟩, hB1⟩ hK
    have HL := Lib.hid (left_all hp)
    have k1 := bR1.unfrozen
    have k2 := bR1.cell
    have k3 := bR1.lt
    have HR := Lib.hid (bR1.set 0 (.bool true))
    have HB := Lib.hid (hB1.setCell (p := ⟨w.heap.size + 1, 0, none⟩) (by simp) (.bool true))
    clear bQ1 bR1 bP1 hB1 hp
    gi_wp2
    have hK' := (KeepsOthers.setCell W ⟨w.heap.size + 1, 0, none⟩ (.bool true)).same D _ hK rfl
    refine ⟨by simp, .inl ⟨_, _, rfl, run_takeDeferred hK', ?_⟩⟩
    exact ⟨.bool true, res_bool ((World.putObj_heap_other (by omega)).trans HR.out) rfl rfl rfl, ret_bool HL.out.symm, HB.out.trans (belowK_b (w := w) (Nat.le_refl _) _ D _ _ (by omega) hK' rfl rfl)⟩
  case stop =>
    rintro D cd pre W hD hpre ⟨⟨⟨rfl, x, hx, hxs⟩, bR1⟩, hB1⟩ hK
    have HL := Lib.hid (left_not hpre hx hxs)
    have HR := Lib.hid bR1
    have HB := Lib.hid hB1
    clear bR1 hB1
    gi_wp2
    refine ⟨by simp, .inl ⟨_, _, rfl, run_takeDeferred hK, ?_⟩⟩
    exact ⟨.bool false, res_bool ((World.putObj_heap_other (by omega)).trans HR.out) rfl rfl rfl, ret_bool HL.out.symm, HB.out.trans (belowK_b (w := w) (Nat.le_refl _) _ D _ _ (by omega) hK rfl rfl)⟩
end Go.Proofs.Ytljmhenhibhbfaa
