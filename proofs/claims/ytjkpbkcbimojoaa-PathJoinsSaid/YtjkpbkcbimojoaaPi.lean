/- Contract of the taker: a line, and curves. Printed by gentake.py. -/
import Derived.Test.YtjkpbkcbimojoaaPh
import Derived.Test.YtjkpbkcbimojoaaCopy
namespace Go.Proofs.Ytjkpbkcbimojoaa
open Go.RowKit

set_option maxHeartbeats 2000000 in
theorem take_line (T B0 : Nat) (vsl : Value) (t : TakeS) (w : World) (hT : B0 ≤ T) (hi : TkInv w B0 T vsl t) (h0 : 1 ≤ t.rest.length) (hp : 0 < t.subs.length) (hn : t.subs.length ≤ 1000) (hs : ∀ s ∈ t.subs, s.segs.length ≤ 1000) :
    Calls Try.prog 31 #[.pointer (some ⟨T, 0, none⟩), .int .i64 2] w fun e w' => e = .returned (.tuple #[]) ∧ TkInv w' B0 T vsl (takeS t 2) ∧ Below B0 w w' := by
  obtain ⟨subs, ⟨x, y⟩, rest⟩ := t
  obtain ⟨a, n, c, sv, hB, hnc, hcm, hP, hO⟩ := hi
  rcases hO with ⟨rfl, _⟩ | ⟨front, ⟨⟨sx, sy⟩, segs, cl⟩, fv, lv, B, rfl, hO⟩
  · simp at hp
  obtain ⟨g, cap, rfl, hg1, hg2, hg3, hg4, -, -, -, -, -⟩ := hO.where_
  obtain ⟨⟨p0, q0⟩, r0, rfl⟩ : ∃ p l, rest = p :: l := by cases rest with | nil => (simp at h0) | cons p l => exact ⟨p, l, rfl⟩
  obtain ⟨b, off, rfl, hbB, c0, c1⟩ := hP.2 0 (p0, q0) rfl
  have hn1 := hP.1
  obtain ⟨i0, hi, hz0, hz1, hz2⟩ := info_parts infoSeg
  have k1 := Lib.hid (fun W => takes_at (v := 2) (k := 1) rfl W)
  have g1 : w.cell? ⟨T, 1, none⟩ = some (.slice (some ⟨b, off, none⟩) n c) := hB.cell 1
  have hlT := hB.lt
  have kf := hB.unfrozen
  simp only [List.length_cons] at hn1
  unfold maxLen at hcm
  simp only [Nat.zero_mul, Nat.add_zero] at c0 c1
  have HS : Hid (∀ (j : Nat) v, [.int .i64 p0, .int .i64 q0][j]? = some v → w.cell? ⟨b, off + j, none⟩ = some v) := Lib.hid (fun j v hj => by
    match j, hj with
    | 0, hj => simp at hj; subst hj; exact c0
    | 1, hj => simp at hj; subst hj; exact c1)
  have HP := Lib.hid hP
  have HN := Lib.hid hn1
  have h1n : 1 ≤ n := by omega
  have hbT : b ≠ T := by omega
  have hTb : T ≠ b := by omega
  have hbw : b < w.heap.size := by omega
  have HO := Lib.hid hO
  clear hn1 hP hO 
  go_enter Try.func31, Try.ntmps31
  go_wp2_with fail
  refine Reg.wp_region_all (by first | exact hb2 | exact Below.refl _ _) (by kernel_rfl) (by kernel_rfl) ?_
  repeat (go_big_quiet_step ((first | (go_at_call 14; exact Reg.calls_aft (k1.out _)))))
  refine wpQuiet_nil ?_
  intro xs hxs
  have hbx := Reg.class_below hxs
  clear hxs
  obtain ⟨hc, hf⟩ := bcell hbx
  go_wp2_with fail
  · skip
    have hlT' : T < xs.heap.size := by have := hbx.size; omega
    have hTx : T ≠ xs.heap.size := by omega
    have hxT : xs.heap.size ≠ T := by omega
    have hbX : b ≠ xs.heap.size := by have := hbx.size; omega
    have hXb : xs.heap.size ≠ b := by have := hbx.size; omega
    have hbx1 : b < xs.heap.size := by have := hbx.size; omega
    have hbx2 : b < xs.heap.size + 1 := by omega
    have g3 : w.cell? ⟨T, 3, none⟩ = some (.int .i64 x) := hB.cell 3
    have g4 : w.cell? ⟨T, 4, none⟩ = some (.int .i64 y) := hB.cell 4
    have H8 := copy_new (P := Try.prog) (xs.setCell ⟨T, 1, none⟩ (.slice (some ⟨b, off, none⟩) (n - 1) (0))) [.int .i64 0, .int .i64 0, .int .i64 0, .int .i64 0, .int .i64 0, .int .i64 0, .int .i64 0, .int .i64 0, .int .i64 2] 50 (.cells #[.int .i64 x, .int .i64 y] 44)
      23 23 3 44 0 4 4 1 2 ⟨xs.heap.size + 1, 0, none⟩ 1 1 [.int .i64 x, .int .i64 y] Try.underlying23 (by kernel_rfl) rfl rfl (by
        intro j v hj
        match j, hj with
        | 0, hj => simp at hj; subst hj; simp [go_sem, Addr.add]
        | 1, hj => simp at hj; subst hj; simp [go_sem, Addr.add]) (by simp) (by simp [Value.oneCell'])
    rw [World.size_setCell] at H8
    have hxW : Below B0 w ((((xs.setCell ⟨T, 1, none⟩ (.slice (some ⟨b, off, none⟩) (n - 1) (0))).alloc (.cells #[.int .i64 x, .int .i64 y, .int .i64 0, .int .i64 0, .int .i64 0, .int .i64 0, .int .i64 0, .int .i64 0, .int .i64 2] 50)).alloc (.cells #[.int .i64 x, .int .i64 y] 44)).drew) :=
      ((((hbx.mono (by omega)).setCell (by simpa using hT) _).alloc (by simp; omega) _).alloc (by simp; omega) _).drew
    have H11 := copy_new (P := Try.prog) (xs.setCell ⟨T, 1, none⟩ (.slice (some ⟨b, off, none⟩) (n - 1) (0))) [.int .i64 x, .int .i64 y, .int .i64 0, .int .i64 0, .int .i64 0, .int .i64 0, .int .i64 0, .int .i64 0, .int .i64 2] 50 (.cells #[.int .i64 x, .int .i64 y] 44)
      23 23 3 44 2 3 3 1 2 ⟨b, off, none⟩ 1 1 [.int .i64 p0, .int .i64 q0] Try.underlying23 (by kernel_rfl) rfl rfl (fun j v hj => by
        rw [add_spot']
        exact (hxW.cell (p := ⟨b, off + j, none⟩) hbB).trans (HS.out j v hj)) (by simp) (by simp [Value.oneCell'])
    rw [World.size_setCell] at H11
    simp at H8 H11
    go_region
    have hB2 := (hB.grow hbx).set 1 (.slice (some ⟨b, off, none⟩) (n - 1) (0))
    have hO2 := (HO.out.grow hbx).far (i := 1) (hB.grow hbx) (by decide) (by decide) (.slice (some ⟨b, off, none⟩) (n - 1) (0))
    have hB3 : Blk ((((xs.setCell ⟨T, 1, none⟩ (.slice (some ⟨b, off, none⟩) (n - 1) (0))).alloc (.cells #[.int .i64 x, .int .i64 y, .int .i64 p0, .int .i64 q0, .int .i64 0, .int .i64 0, .int .i64 0, .int .i64 0, .int .i64 2] 50)).alloc (.cells #[.int .i64 x, .int .i64 y] 44)).drew) T 67
      #[vsl, .slice (some ⟨b, off, none⟩) (n - 1) (0), .slice (some ⟨g, 0, none⟩) (front.length + 1) cap, .int .i64 x, .int .i64 y] := (hB2.alloc _).alloc _
    have hO3 : OwnF ((((xs.setCell ⟨T, 1, none⟩ (.slice (some ⟨b, off, none⟩) (n - 1) (0))).alloc (.cells #[.int .i64 x, .int .i64 y, .int .i64 p0, .int .i64 q0, .int .i64 0, .int .i64 0, .int .i64 0, .int .i64 0, .int .i64 2] 50)).alloc (.cells #[.int .i64 x, .int .i64 y] 44)).drew) B0 B _ _ _ front fv ⟨(sx, sy), segs, cl⟩ lv :=
      hO2.grow ((((Below.refl _ _).alloc (Nat.le_refl _) _).alloc (by simp) _).drew)
    have hG3 : Blk ((((xs.setCell ⟨T, 1, none⟩ (.slice (some ⟨b, off, none⟩) (n - 1) (0))).alloc (.cells #[.int .i64 x, .int .i64 y, .int .i64 p0, .int .i64 q0, .int .i64 0, .int .i64 0, .int .i64 0, .int .i64 0, .int .i64 2] 50)).alloc (.cells #[.int .i64 x, .int .i64 y] 44)).drew) xs.heap.size 50 #[.int .i64 x, .int .i64 y, .int .i64 p0, .int .i64 q0, .int .i64 0, .int .i64 0, .int .i64 0, .int .i64 0, .int .i64 2] := by
      have h := (Blk.new (xs.setCell ⟨T, 1, none⟩ (.slice (some ⟨b, off, none⟩) (n - 1) (0))) 50 #[.int .i64 x, .int .i64 y, .int .i64 p0, .int .i64 q0, .int .i64 0, .int .i64 0, .int .i64 0, .int .i64 0, .int .i64 2]).alloc (.cells #[.int .i64 x, .int .i64 y] 44)
      rw [World.size_setCell] at h
      exact h
    have hx3 : Below B0 w ((((xs.setCell ⟨T, 1, none⟩ (.slice (some ⟨b, off, none⟩) (n - 1) (0))).alloc (.cells #[.int .i64 x, .int .i64 y, .int .i64 p0, .int .i64 q0, .int .i64 0, .int .i64 0, .int .i64 0, .int .i64 0, .int .i64 2] 50)).alloc (.cells #[.int .i64 x, .int .i64 y] 44)).drew) :=
      ((((hbx.mono (by omega)).setCell (by simpa using hT) _).alloc (by simp; omega) _).alloc (by simp; omega) _).drew
    clear H8 H11 hxW hB2 hO2 hbx hc hf
    generalize ((((xs.setCell ⟨T, 1, none⟩ (.slice (some ⟨b, off, none⟩) (n - 1) (0))).alloc (.cells #[.int .i64 x, .int .i64 y, .int .i64 p0, .int .i64 q0, .int .i64 0, .int .i64 0, .int .i64 0, .int .i64 0, .int .i64 2] 50)).alloc (.cells #[.int .i64 x, .int .i64 y] 44)).drew) = wz at hB3 hO3 hG3 hx3 ⊢
    generalize xs.heap.size = G at *
    clear g1 g3 g4 c0 c1 kf hB hbw hlT HO
    have hlTz := hB3.lt
    have hlGz := hG3.lt
    have hkG := hG3.cell
    obtain ⟨g', cap', eg, -, hgz, -, -, c0, c1, c2, c3, cf⟩ := hO3.where_
    simp only [Value.slice.injEq, Option.some.injEq, Addr.mk.injEq] at eg
    obtain ⟨⟨rfl, -⟩, -, rfl⟩ := eg
    simp only at c0 c1 c2 c3
    go_wp2_with fail
    refine Reg.wp_region_soft 8 (by first | exact hb2 | exact Below.refl _ _) (by kernel_rfl) (by kernel_rfl) (fun u => ?_)
    simp only [List.take, List.drop]
    repeat (go_big_quiet_step ((first | (go_at_call 41; exact Reg.calls_aft (last_any T g front.length cap _ _ _ _ _ (hB3.grow (Reg.aft_below _ _ _)) (by simp at hn; omega))))))
    refine wpQuiet_nil ?_
    intro xs hxs
    have hbx := Reg.class_below hxs
    clear hxs
    go_wp2_with fail
    refine ⟨rfl, (Below.refl _ _).alloc (Nat.le_refl _) _, fun z hz => ?_⟩
    have hNz : Blk z xs.heap.size 50 (segV ⟨(x, y), (p0, q0), (0, 0), (0, 0), 2⟩).toArray := (Blk.new xs _ _).grow hz
    have hBz := ((hB3.grow hbx).alloc _).grow hz
    have hOz := ((hO3.grow hbx).grow ((Below.refl _ _).alloc (Nat.le_refl _) _)).grow hz
    have hxz := hx3.trans ((hbx.trans (((Below.refl _ _).alloc hbx.size _).trans (hz.mono (by have := hbx.size; simp; omega)))).mono (by have := hx3.size; omega))
    have hszz : B ≤ z.heap.size := hOz.hsize
    clear hbx hz hB3 hO3 hG3 hx3 c0 c1 c2 c3 cf hkG
    have hsl := hs _ (List.mem_append_right _ List.mem_cons_self)
    simp only at hsl
    have hlz : z.ownsRow B 50 9 lv segs.length (segsV segs) := hOz.hlast
    refine wpList_append_own _ rfl _ _ 45 rfl B 50 i0 _ 9 72 Try.underlying45 hi hz0 hz1 hz2 rfl (by decide) _ _ _ rfl hlz ⟨xs.heap.size, 0, none⟩ 1 1 (segV ⟨(x, y), (p0, q0), (0, 0), (0, 0), 2⟩) rfl rfl hNz.news (segV_one _) (by unfold maxLen; omega) (by omega) hszz ?_
    intro lv' w4 hown4 hg4 _
    obtain ⟨a4, c4', rfl, _⟩ := own_slice hown4
    obtain ⟨d2, df, dg, dg'⟩ := hOz.grown_cell (by decide) hg4
    have hgT := hOz.apart hBz (by decide)
    have hTg := Ne.symm hgT
    have hB4 := hBz.grown hg4 (own_apart_blk hlz hBz (by decide))
    have hO4 := hOz.put (s := ⟨(x, y), (p0, q0), (0, 0), (0, 0), 2⟩) (by decide) hown4 hg4
    have hx4 : Below B0 w w4 := hxz.grown hg4 (by have := hxz.size; omega) (fun k hk => by have := (hlz.lt k hk).1; have := hOz.hbase; omega)
    have hgb : g ≠ b := by omega
    have hbg : b ≠ g := by omega
    have m0 : w4.cell? ⟨b, off, none⟩ = some (.int .i64 p0) := (hx4.cell (p := ⟨b, off, none⟩) hbB).trans (HS.out 0 _ rfl)
    have m1 : w4.cell? ⟨b, off + 1, none⟩ = some (.int .i64 q0) := (hx4.cell (p := ⟨b, off + 1, none⟩) hbB).trans (HS.out 1 _ rfl)
    have kf4 := hB4.unfrozen
    have hlT4 := hB4.lt
    have e3 : w4.cell? ⟨T, 3, none⟩ = some (.int .i64 x) := hB4.cell 3
    have e4 : w4.cell? ⟨T, 4, none⟩ = some (.int .i64 y) := hB4.cell 4
    have HO4 := Lib.hid hO4
    clear hown4 hg4 hNz hlz hBz hOz hxz hO4
    go_wp2_with fail
    have hB5 := hB4.far hgT (i := front.length * 4 + 2) (.slice a4 (segs.length + 1) c4')
    have hB6 := hB5.set 3 (.int .i64 p0)
    have hB7 := hB6.set 4 (.int .i64 q0)
    have hO7 := (HO4.out.far (i := 3) hB5 (by decide) (by decide) (.int .i64 p0)).far (i := 4) hB6 (by decide) (by decide) (.int .i64 q0)
    have hx7 := ((hx4.setCell (p := ⟨g, front.length * 4 + 2, none⟩) (by simpa using hg1) (.slice a4 (segs.length + 1) c4')).setCell (p := ⟨T, 3, none⟩) (by simpa using hT) (.int .i64 p0)).setCell (p := ⟨T, 4, none⟩) (by simpa using hT) (.int .i64 q0)
    refine bodyPost_end (v := .tuple #[]) (by simp [results, Try.results31, go_sem]) rfl ⟨rfl, ⟨_, _, _, _, hB7, ?_, ?_, RPts.below ?_ hx7, .inr ⟨front, _, fv, _, B, ?_, hO7⟩⟩, hx7⟩
    · omega
    · unfold maxLen; omega
    · exact RPts.none_left (by have := HN.out; simp [takeS_line]; omega) (by omega)
    · rw [takeS_line]
      simp only [modLast_snoc]
      rfl
  · skip
    have hlT' : T < xs.heap.size := by have := hbx.size; omega
    have hTx : T ≠ xs.heap.size := by omega
    have hxT : xs.heap.size ≠ T := by omega
    have hbX : b ≠ xs.heap.size := by have := hbx.size; omega
    have hXb : xs.heap.size ≠ b := by have := hbx.size; omega
    have hbx1 : b < xs.heap.size := by have := hbx.size; omega
    have hbx2 : b < xs.heap.size + 1 := by omega
    have g3 : w.cell? ⟨T, 3, none⟩ = some (.int .i64 x) := hB.cell 3
    have g4 : w.cell? ⟨T, 4, none⟩ = some (.int .i64 y) := hB.cell 4
    have H8 := copy_new (P := Try.prog) (xs.setCell ⟨T, 1, none⟩ (.slice (some ⟨b, off + 2, none⟩) (n - 1) (c - 1))) [.int .i64 0, .int .i64 0, .int .i64 0, .int .i64 0, .int .i64 0, .int .i64 0, .int .i64 0, .int .i64 0, .int .i64 2] 50 (.cells #[.int .i64 x, .int .i64 y] 44)
      23 23 3 44 0 4 4 1 2 ⟨xs.heap.size + 1, 0, none⟩ 1 1 [.int .i64 x, .int .i64 y] Try.underlying23 (by kernel_rfl) rfl rfl (by
        intro j v hj
        match j, hj with
        | 0, hj => simp at hj; subst hj; simp [go_sem, Addr.add]
        | 1, hj => simp at hj; subst hj; simp [go_sem, Addr.add]) (by simp) (by simp [Value.oneCell'])
    rw [World.size_setCell] at H8
    have hxW : Below B0 w ((((xs.setCell ⟨T, 1, none⟩ (.slice (some ⟨b, off + 2, none⟩) (n - 1) (c - 1))).alloc (.cells #[.int .i64 x, .int .i64 y, .int .i64 0, .int .i64 0, .int .i64 0, .int .i64 0, .int .i64 0, .int .i64 0, .int .i64 2] 50)).alloc (.cells #[.int .i64 x, .int .i64 y] 44)).drew) :=
      ((((hbx.mono (by omega)).setCell (by simpa using hT) _).alloc (by simp; omega) _).alloc (by simp; omega) _).drew
    have H11 := copy_new (P := Try.prog) (xs.setCell ⟨T, 1, none⟩ (.slice (some ⟨b, off + 2, none⟩) (n - 1) (c - 1))) [.int .i64 x, .int .i64 y, .int .i64 0, .int .i64 0, .int .i64 0, .int .i64 0, .int .i64 0, .int .i64 0, .int .i64 2] 50 (.cells #[.int .i64 x, .int .i64 y] 44)
      23 23 3 44 2 3 3 1 2 ⟨b, off, none⟩ 1 c [.int .i64 p0, .int .i64 q0] Try.underlying23 (by kernel_rfl) rfl rfl (fun j v hj => by
        rw [add_spot']
        exact (hxW.cell (p := ⟨b, off + j, none⟩) hbB).trans (HS.out j v hj)) (by simp) (by simp [Value.oneCell'])
    rw [World.size_setCell] at H11
    simp at H8 H11
    go_region
    have hB2 := (hB.grow hbx).set 1 (.slice (some ⟨b, off + 2, none⟩) (n - 1) (c - 1))
    have hO2 := (HO.out.grow hbx).far (i := 1) (hB.grow hbx) (by decide) (by decide) (.slice (some ⟨b, off + 2, none⟩) (n - 1) (c - 1))
    have hB3 : Blk ((((xs.setCell ⟨T, 1, none⟩ (.slice (some ⟨b, off + 2, none⟩) (n - 1) (c - 1))).alloc (.cells #[.int .i64 x, .int .i64 y, .int .i64 p0, .int .i64 q0, .int .i64 0, .int .i64 0, .int .i64 0, .int .i64 0, .int .i64 2] 50)).alloc (.cells #[.int .i64 x, .int .i64 y] 44)).drew) T 67
      #[vsl, .slice (some ⟨b, off + 2, none⟩) (n - 1) (c - 1), .slice (some ⟨g, 0, none⟩) (front.length + 1) cap, .int .i64 x, .int .i64 y] := (hB2.alloc _).alloc _
    have hO3 : OwnF ((((xs.setCell ⟨T, 1, none⟩ (.slice (some ⟨b, off + 2, none⟩) (n - 1) (c - 1))).alloc (.cells #[.int .i64 x, .int .i64 y, .int .i64 p0, .int .i64 q0, .int .i64 0, .int .i64 0, .int .i64 0, .int .i64 0, .int .i64 2] 50)).alloc (.cells #[.int .i64 x, .int .i64 y] 44)).drew) B0 B _ _ _ front fv ⟨(sx, sy), segs, cl⟩ lv :=
      hO2.grow ((((Below.refl _ _).alloc (Nat.le_refl _) _).alloc (by simp) _).drew)
    have hG3 : Blk ((((xs.setCell ⟨T, 1, none⟩ (.slice (some ⟨b, off + 2, none⟩) (n - 1) (c - 1))).alloc (.cells #[.int .i64 x, .int .i64 y, .int .i64 p0, .int .i64 q0, .int .i64 0, .int .i64 0, .int .i64 0, .int .i64 0, .int .i64 2] 50)).alloc (.cells #[.int .i64 x, .int .i64 y] 44)).drew) xs.heap.size 50 #[.int .i64 x, .int .i64 y, .int .i64 p0, .int .i64 q0, .int .i64 0, .int .i64 0, .int .i64 0, .int .i64 0, .int .i64 2] := by
      have h := (Blk.new (xs.setCell ⟨T, 1, none⟩ (.slice (some ⟨b, off + 2, none⟩) (n - 1) (c - 1))) 50 #[.int .i64 x, .int .i64 y, .int .i64 p0, .int .i64 q0, .int .i64 0, .int .i64 0, .int .i64 0, .int .i64 0, .int .i64 2]).alloc (.cells #[.int .i64 x, .int .i64 y] 44)
      rw [World.size_setCell] at h
      exact h
    have hx3 : Below B0 w ((((xs.setCell ⟨T, 1, none⟩ (.slice (some ⟨b, off + 2, none⟩) (n - 1) (c - 1))).alloc (.cells #[.int .i64 x, .int .i64 y, .int .i64 p0, .int .i64 q0, .int .i64 0, .int .i64 0, .int .i64 0, .int .i64 0, .int .i64 2] 50)).alloc (.cells #[.int .i64 x, .int .i64 y] 44)).drew) :=
      ((((hbx.mono (by omega)).setCell (by simpa using hT) _).alloc (by simp; omega) _).alloc (by simp; omega) _).drew
    clear H8 H11 hxW hB2 hO2 hbx hc hf
    generalize ((((xs.setCell ⟨T, 1, none⟩ (.slice (some ⟨b, off + 2, none⟩) (n - 1) (c - 1))).alloc (.cells #[.int .i64 x, .int .i64 y, .int .i64 p0, .int .i64 q0, .int .i64 0, .int .i64 0, .int .i64 0, .int .i64 0, .int .i64 2] 50)).alloc (.cells #[.int .i64 x, .int .i64 y] 44)).drew) = wz at hB3 hO3 hG3 hx3 ⊢
    generalize xs.heap.size = G at *
    clear g1 g3 g4 c0 c1 kf hB hbw hlT HO
    have hlTz := hB3.lt
    have hlGz := hG3.lt
    have hkG := hG3.cell
    obtain ⟨g', cap', eg, -, hgz, -, -, c0, c1, c2, c3, cf⟩ := hO3.where_
    simp only [Value.slice.injEq, Option.some.injEq, Addr.mk.injEq] at eg
    obtain ⟨⟨rfl, -⟩, -, rfl⟩ := eg
    simp only at c0 c1 c2 c3
    go_wp2_with fail
    refine Reg.wp_region_soft 8 (by first | exact hb2 | exact Below.refl _ _) (by kernel_rfl) (by kernel_rfl) (fun u => ?_)
    simp only [List.take, List.drop]
    repeat (go_big_quiet_step ((first | (go_at_call 41; exact Reg.calls_aft (last_any T g front.length cap _ _ _ _ _ (hB3.grow (Reg.aft_below _ _ _)) (by simp at hn; omega))))))
    refine wpQuiet_nil ?_
    intro xs hxs
    have hbx := Reg.class_below hxs
    clear hxs
    go_wp2_with fail
    refine ⟨rfl, (Below.refl _ _).alloc (Nat.le_refl _) _, fun z hz => ?_⟩
    have hNz : Blk z xs.heap.size 50 (segV ⟨(x, y), (p0, q0), (0, 0), (0, 0), 2⟩).toArray := (Blk.new xs _ _).grow hz
    have hBz := ((hB3.grow hbx).alloc _).grow hz
    have hOz := ((hO3.grow hbx).grow ((Below.refl _ _).alloc (Nat.le_refl _) _)).grow hz
    have hxz := hx3.trans ((hbx.trans (((Below.refl _ _).alloc hbx.size _).trans (hz.mono (by have := hbx.size; simp; omega)))).mono (by have := hx3.size; omega))
    have hszz : B ≤ z.heap.size := hOz.hsize
    clear hbx hz hB3 hO3 hG3 hx3 c0 c1 c2 c3 cf hkG
    have hsl := hs _ (List.mem_append_right _ List.mem_cons_self)
    simp only at hsl
    have hlz : z.ownsRow B 50 9 lv segs.length (segsV segs) := hOz.hlast
    refine wpList_append_own _ rfl _ _ 45 rfl B 50 i0 _ 9 72 Try.underlying45 hi hz0 hz1 hz2 rfl (by decide) _ _ _ rfl hlz ⟨xs.heap.size, 0, none⟩ 1 1 (segV ⟨(x, y), (p0, q0), (0, 0), (0, 0), 2⟩) rfl rfl hNz.news (segV_one _) (by unfold maxLen; omega) (by omega) hszz ?_
    intro lv' w4 hown4 hg4 _
    obtain ⟨a4, c4', rfl, _⟩ := own_slice hown4
    obtain ⟨d2, df, dg, dg'⟩ := hOz.grown_cell (by decide) hg4
    have hgT := hOz.apart hBz (by decide)
    have hTg := Ne.symm hgT
    have hB4 := hBz.grown hg4 (own_apart_blk hlz hBz (by decide))
    have hO4 := hOz.put (s := ⟨(x, y), (p0, q0), (0, 0), (0, 0), 2⟩) (by decide) hown4 hg4
    have hx4 : Below B0 w w4 := hxz.grown hg4 (by have := hxz.size; omega) (fun k hk => by have := (hlz.lt k hk).1; have := hOz.hbase; omega)
    have hgb : g ≠ b := by omega
    have hbg : b ≠ g := by omega
    have m0 : w4.cell? ⟨b, off, none⟩ = some (.int .i64 p0) := (hx4.cell (p := ⟨b, off, none⟩) hbB).trans (HS.out 0 _ rfl)
    have m1 : w4.cell? ⟨b, off + 1, none⟩ = some (.int .i64 q0) := (hx4.cell (p := ⟨b, off + 1, none⟩) hbB).trans (HS.out 1 _ rfl)
    have kf4 := hB4.unfrozen
    have hlT4 := hB4.lt
    have e3 : w4.cell? ⟨T, 3, none⟩ = some (.int .i64 x) := hB4.cell 3
    have e4 : w4.cell? ⟨T, 4, none⟩ = some (.int .i64 y) := hB4.cell 4
    have HO4 := Lib.hid hO4
    clear hown4 hg4 hNz hlz hBz hOz hxz hO4
    go_wp2_with fail
    have hB5 := hB4.far hgT (i := front.length * 4 + 2) (.slice a4 (segs.length + 1) c4')
    have hB6 := hB5.set 3 (.int .i64 p0)
    have hB7 := hB6.set 4 (.int .i64 q0)
    have hO7 := (HO4.out.far (i := 3) hB5 (by decide) (by decide) (.int .i64 p0)).far (i := 4) hB6 (by decide) (by decide) (.int .i64 q0)
    have hx7 := ((hx4.setCell (p := ⟨g, front.length * 4 + 2, none⟩) (by simpa using hg1) (.slice a4 (segs.length + 1) c4')).setCell (p := ⟨T, 3, none⟩) (by simpa using hT) (.int .i64 p0)).setCell (p := ⟨T, 4, none⟩) (by simpa using hT) (.int .i64 q0)
    refine bodyPost_end (v := .tuple #[]) (by simp [results, Try.results31, go_sem]) rfl ⟨rfl, ⟨_, _, _, _, hB7, ?_, ?_, RPts.below ?_ hx7, .inr ⟨front, _, fv, _, B, ?_, hO7⟩⟩, hx7⟩
    · omega
    · unfold maxLen; omega
    · exact HP.out.from 1
    · rw [takeS_line]
      simp only [modLast_snoc]
      rfl

set_option maxHeartbeats 2000000 in
theorem take_quad (T B0 : Nat) (vsl : Value) (t : TakeS) (w : World) (hT : B0 ≤ T) (hi : TkInv w B0 T vsl t) (h0 : 2 ≤ t.rest.length) (hp : 0 < t.subs.length) (hn : t.subs.length ≤ 1000) (hs : ∀ s ∈ t.subs, s.segs.length ≤ 1000) :
    Calls Try.prog 31 #[.pointer (some ⟨T, 0, none⟩), .int .i64 3] w fun e w' => e = .returned (.tuple #[]) ∧ TkInv w' B0 T vsl (takeS t 3) ∧ Below B0 w w' := by
  obtain ⟨subs, ⟨x, y⟩, rest⟩ := t
  obtain ⟨a, n, c, sv, hB, hnc, hcm, hP, hO⟩ := hi
  rcases hO with ⟨rfl, _⟩ | ⟨front, ⟨⟨sx, sy⟩, segs, cl⟩, fv, lv, B, rfl, hO⟩
  · simp at hp
  obtain ⟨g, cap, rfl, hg1, hg2, hg3, hg4, -, -, -, -, -⟩ := hO.where_
  obtain ⟨⟨p0, q0⟩, r0, rfl⟩ : ∃ p l, rest = p :: l := by cases rest with | nil => (simp at h0) | cons p l => exact ⟨p, l, rfl⟩
  obtain ⟨⟨p1, q1⟩, r1, rfl⟩ : ∃ p l, r0 = p :: l := by cases r0 with | nil => (simp at h0) | cons p l => exact ⟨p, l, rfl⟩
  obtain ⟨b, off, rfl, hbB, c0, c1⟩ := hP.2 0 (p0, q0) rfl
  obtain ⟨b', off', e', -, c2, c3⟩ := hP.2 1 (p1, q1) rfl
  simp only [Option.some.injEq, Addr.mk.injEq, and_true] at e'
  obtain ⟨rfl, rfl⟩ := e'
  have hn1 := hP.1
  obtain ⟨i0, hi, hz0, hz1, hz2⟩ := info_parts infoSeg
  have k1 := Lib.hid (fun W => takes_at (v := 3) (k := 2) rfl W)
  have g1 : w.cell? ⟨T, 1, none⟩ = some (.slice (some ⟨b, off, none⟩) n c) := hB.cell 1
  have hlT := hB.lt
  have kf := hB.unfrozen
  simp only [List.length_cons] at hn1
  unfold maxLen at hcm
  simp only [Nat.zero_mul, Nat.add_zero, Nat.one_mul] at c0 c1 c2 c3
  have HS : Hid (∀ (j : Nat) v, [.int .i64 p0, .int .i64 q0, .int .i64 p1, .int .i64 q1][j]? = some v → w.cell? ⟨b, off + j, none⟩ = some v) := Lib.hid (fun j v hj => by
    match j, hj with
    | 0, hj => simp at hj; subst hj; exact c0
    | 1, hj => simp at hj; subst hj; exact c1
    | 2, hj => simp at hj; subst hj; exact c2
    | 3, hj => simp at hj; subst hj; exact c3)
  have HP := Lib.hid hP
  have HN := Lib.hid hn1
  have h1n : 2 ≤ n := by omega
  have hbT : b ≠ T := by omega
  have hTb : T ≠ b := by omega
  have hbw : b < w.heap.size := by omega
  have HO := Lib.hid hO
  clear hn1 hP hO c2 c3
  go_enter Try.func31, Try.ntmps31
  go_wp2_with fail
  refine Reg.wp_region_all (by first | exact hb2 | exact Below.refl _ _) (by kernel_rfl) (by kernel_rfl) ?_
  repeat (go_big_quiet_step ((first | (go_at_call 14; exact Reg.calls_aft (k1.out _)))))
  refine wpQuiet_nil ?_
  intro xs hxs
  have hbx := Reg.class_below hxs
  clear hxs
  obtain ⟨hc, hf⟩ := bcell hbx
  go_wp2_with fail
  · skip
    have hlT' : T < xs.heap.size := by have := hbx.size; omega
    have hTx : T ≠ xs.heap.size := by omega
    have hxT : xs.heap.size ≠ T := by omega
    have hbX : b ≠ xs.heap.size := by have := hbx.size; omega
    have hXb : xs.heap.size ≠ b := by have := hbx.size; omega
    have hbx1 : b < xs.heap.size := by have := hbx.size; omega
    have hbx2 : b < xs.heap.size + 1 := by omega
    have g3 : w.cell? ⟨T, 3, none⟩ = some (.int .i64 x) := hB.cell 3
    have g4 : w.cell? ⟨T, 4, none⟩ = some (.int .i64 y) := hB.cell 4
    have H8 := copy_new (P := Try.prog) (xs.setCell ⟨T, 1, none⟩ (.slice (some ⟨b, off, none⟩) (n - 2) (0))) [.int .i64 0, .int .i64 0, .int .i64 0, .int .i64 0, .int .i64 0, .int .i64 0, .int .i64 0, .int .i64 0, .int .i64 3] 50 (.cells #[.int .i64 x, .int .i64 y] 44)
      23 23 3 44 0 4 4 1 2 ⟨xs.heap.size + 1, 0, none⟩ 1 1 [.int .i64 x, .int .i64 y] Try.underlying23 (by kernel_rfl) rfl rfl (by
        intro j v hj
        match j, hj with
        | 0, hj => simp at hj; subst hj; simp [go_sem, Addr.add]
        | 1, hj => simp at hj; subst hj; simp [go_sem, Addr.add]) (by simp) (by simp [Value.oneCell'])
    rw [World.size_setCell] at H8
    have hxW : Below B0 w ((((xs.setCell ⟨T, 1, none⟩ (.slice (some ⟨b, off, none⟩) (n - 2) (0))).alloc (.cells #[.int .i64 x, .int .i64 y, .int .i64 0, .int .i64 0, .int .i64 0, .int .i64 0, .int .i64 0, .int .i64 0, .int .i64 3] 50)).alloc (.cells #[.int .i64 x, .int .i64 y] 44)).drew) :=
      ((((hbx.mono (by omega)).setCell (by simpa using hT) _).alloc (by simp; omega) _).alloc (by simp; omega) _).drew
    have H11 := copy_new (P := Try.prog) (xs.setCell ⟨T, 1, none⟩ (.slice (some ⟨b, off, none⟩) (n - 2) (0))) [.int .i64 x, .int .i64 y, .int .i64 0, .int .i64 0, .int .i64 0, .int .i64 0, .int .i64 0, .int .i64 0, .int .i64 3] 50 (.cells #[.int .i64 x, .int .i64 y] 44)
      23 23 3 44 2 3 3 2 2 ⟨b, off, none⟩ 2 2 [.int .i64 p0, .int .i64 q0, .int .i64 p1, .int .i64 q1] Try.underlying23 (by kernel_rfl) rfl rfl (fun j v hj => by
        rw [add_spot']
        exact (hxW.cell (p := ⟨b, off + j, none⟩) hbB).trans (HS.out j v hj)) (by simp) (by simp [Value.oneCell'])
    rw [World.size_setCell] at H11
    simp at H8 H11
    go_region
    have hB2 := (hB.grow hbx).set 1 (.slice (some ⟨b, off, none⟩) (n - 2) (0))
    have hO2 := (HO.out.grow hbx).far (i := 1) (hB.grow hbx) (by decide) (by decide) (.slice (some ⟨b, off, none⟩) (n - 2) (0))
    have hB3 : Blk ((((xs.setCell ⟨T, 1, none⟩ (.slice (some ⟨b, off, none⟩) (n - 2) (0))).alloc (.cells #[.int .i64 x, .int .i64 y, .int .i64 p0, .int .i64 q0, .int .i64 p1, .int .i64 q1, .int .i64 0, .int .i64 0, .int .i64 3] 50)).alloc (.cells #[.int .i64 x, .int .i64 y] 44)).drew) T 67
      #[vsl, .slice (some ⟨b, off, none⟩) (n - 2) (0), .slice (some ⟨g, 0, none⟩) (front.length + 1) cap, .int .i64 x, .int .i64 y] := (hB2.alloc _).alloc _
    have hO3 : OwnF ((((xs.setCell ⟨T, 1, none⟩ (.slice (some ⟨b, off, none⟩) (n - 2) (0))).alloc (.cells #[.int .i64 x, .int .i64 y, .int .i64 p0, .int .i64 q0, .int .i64 p1, .int .i64 q1, .int .i64 0, .int .i64 0, .int .i64 3] 50)).alloc (.cells #[.int .i64 x, .int .i64 y] 44)).drew) B0 B _ _ _ front fv ⟨(sx, sy), segs, cl⟩ lv :=
      hO2.grow ((((Below.refl _ _).alloc (Nat.le_refl _) _).alloc (by simp) _).drew)
    have hG3 : Blk ((((xs.setCell ⟨T, 1, none⟩ (.slice (some ⟨b, off, none⟩) (n - 2) (0))).alloc (.cells #[.int .i64 x, .int .i64 y, .int .i64 p0, .int .i64 q0, .int .i64 p1, .int .i64 q1, .int .i64 0, .int .i64 0, .int .i64 3] 50)).alloc (.cells #[.int .i64 x, .int .i64 y] 44)).drew) xs.heap.size 50 #[.int .i64 x, .int .i64 y, .int .i64 p0, .int .i64 q0, .int .i64 p1, .int .i64 q1, .int .i64 0, .int .i64 0, .int .i64 3] := by
      have h := (Blk.new (xs.setCell ⟨T, 1, none⟩ (.slice (some ⟨b, off, none⟩) (n - 2) (0))) 50 #[.int .i64 x, .int .i64 y, .int .i64 p0, .int .i64 q0, .int .i64 p1, .int .i64 q1, .int .i64 0, .int .i64 0, .int .i64 3]).alloc (.cells #[.int .i64 x, .int .i64 y] 44)
      rw [World.size_setCell] at h
      exact h
    have hx3 : Below B0 w ((((xs.setCell ⟨T, 1, none⟩ (.slice (some ⟨b, off, none⟩) (n - 2) (0))).alloc (.cells #[.int .i64 x, .int .i64 y, .int .i64 p0, .int .i64 q0, .int .i64 p1, .int .i64 q1, .int .i64 0, .int .i64 0, .int .i64 3] 50)).alloc (.cells #[.int .i64 x, .int .i64 y] 44)).drew) :=
      ((((hbx.mono (by omega)).setCell (by simpa using hT) _).alloc (by simp; omega) _).alloc (by simp; omega) _).drew
    clear H8 H11 hxW hB2 hO2 hbx hc hf
    generalize ((((xs.setCell ⟨T, 1, none⟩ (.slice (some ⟨b, off, none⟩) (n - 2) (0))).alloc (.cells #[.int .i64 x, .int .i64 y, .int .i64 p0, .int .i64 q0, .int .i64 p1, .int .i64 q1, .int .i64 0, .int .i64 0, .int .i64 3] 50)).alloc (.cells #[.int .i64 x, .int .i64 y] 44)).drew) = wz at hB3 hO3 hG3 hx3 ⊢
    generalize xs.heap.size = G at *
    clear g1 g3 g4 c0 c1 kf hB hbw hlT HO
    have hlTz := hB3.lt
    have hlGz := hG3.lt
    have hkG := hG3.cell
    obtain ⟨g', cap', eg, -, hgz, -, -, c0, c1, c2, c3, cf⟩ := hO3.where_
    simp only [Value.slice.injEq, Option.some.injEq, Addr.mk.injEq] at eg
    obtain ⟨⟨rfl, -⟩, -, rfl⟩ := eg
    simp only at c0 c1 c2 c3
    go_wp2_with fail
    refine Reg.wp_region_soft 8 (by first | exact hb2 | exact Below.refl _ _) (by kernel_rfl) (by kernel_rfl) (fun u => ?_)
    simp only [List.take, List.drop]
    repeat (go_big_quiet_step ((first | (go_at_call 41; exact Reg.calls_aft (last_any T g front.length cap _ _ _ _ _ (hB3.grow (Reg.aft_below _ _ _)) (by simp at hn; omega))))))
    refine wpQuiet_nil ?_
    intro xs hxs
    have hbx := Reg.class_below hxs
    clear hxs
    go_wp2_with fail
    refine ⟨rfl, (Below.refl _ _).alloc (Nat.le_refl _) _, fun z hz => ?_⟩
    have hNz : Blk z xs.heap.size 50 (segV ⟨(x, y), (p0, q0), (p1, q1), (0, 0), 3⟩).toArray := (Blk.new xs _ _).grow hz
    have hBz := ((hB3.grow hbx).alloc _).grow hz
    have hOz := ((hO3.grow hbx).grow ((Below.refl _ _).alloc (Nat.le_refl _) _)).grow hz
    have hxz := hx3.trans ((hbx.trans (((Below.refl _ _).alloc hbx.size _).trans (hz.mono (by have := hbx.size; simp; omega)))).mono (by have := hx3.size; omega))
    have hszz : B ≤ z.heap.size := hOz.hsize
    clear hbx hz hB3 hO3 hG3 hx3 c0 c1 c2 c3 cf hkG
    have hsl := hs _ (List.mem_append_right _ List.mem_cons_self)
    simp only at hsl
    have hlz : z.ownsRow B 50 9 lv segs.length (segsV segs) := hOz.hlast
    refine wpList_append_own _ rfl _ _ 45 rfl B 50 i0 _ 9 72 Try.underlying45 hi hz0 hz1 hz2 rfl (by decide) _ _ _ rfl hlz ⟨xs.heap.size, 0, none⟩ 1 1 (segV ⟨(x, y), (p0, q0), (p1, q1), (0, 0), 3⟩) rfl rfl hNz.news (segV_one _) (by unfold maxLen; omega) (by omega) hszz ?_
    intro lv' w4 hown4 hg4 _
    obtain ⟨a4, c4', rfl, _⟩ := own_slice hown4
    obtain ⟨d2, df, dg, dg'⟩ := hOz.grown_cell (by decide) hg4
    have hgT := hOz.apart hBz (by decide)
    have hTg := Ne.symm hgT
    have hB4 := hBz.grown hg4 (own_apart_blk hlz hBz (by decide))
    have hO4 := hOz.put (s := ⟨(x, y), (p0, q0), (p1, q1), (0, 0), 3⟩) (by decide) hown4 hg4
    have hx4 : Below B0 w w4 := hxz.grown hg4 (by have := hxz.size; omega) (fun k hk => by have := (hlz.lt k hk).1; have := hOz.hbase; omega)
    have hgb : g ≠ b := by omega
    have hbg : b ≠ g := by omega
    have m0 : w4.cell? ⟨b, off + 2, none⟩ = some (.int .i64 p1) := (hx4.cell (p := ⟨b, off + 2, none⟩) hbB).trans (HS.out 2 _ rfl)
    have m1 : w4.cell? ⟨b, off + 3, none⟩ = some (.int .i64 q1) := (hx4.cell (p := ⟨b, off + 3, none⟩) hbB).trans (HS.out 3 _ rfl)
    have kf4 := hB4.unfrozen
    have hlT4 := hB4.lt
    have e3 : w4.cell? ⟨T, 3, none⟩ = some (.int .i64 x) := hB4.cell 3
    have e4 : w4.cell? ⟨T, 4, none⟩ = some (.int .i64 y) := hB4.cell 4
    have HO4 := Lib.hid hO4
    clear hown4 hg4 hNz hlz hBz hOz hxz hO4
    go_wp2_with fail
    have hB5 := hB4.far hgT (i := front.length * 4 + 2) (.slice a4 (segs.length + 1) c4')
    have hB6 := hB5.set 3 (.int .i64 p1)
    have hB7 := hB6.set 4 (.int .i64 q1)
    have hO7 := (HO4.out.far (i := 3) hB5 (by decide) (by decide) (.int .i64 p1)).far (i := 4) hB6 (by decide) (by decide) (.int .i64 q1)
    have hx7 := ((hx4.setCell (p := ⟨g, front.length * 4 + 2, none⟩) (by simpa using hg1) (.slice a4 (segs.length + 1) c4')).setCell (p := ⟨T, 3, none⟩) (by simpa using hT) (.int .i64 p1)).setCell (p := ⟨T, 4, none⟩) (by simpa using hT) (.int .i64 q1)
    refine bodyPost_end (v := .tuple #[]) (by simp [results, Try.results31, go_sem]) rfl ⟨rfl, ⟨_, _, _, _, hB7, ?_, ?_, RPts.below ?_ hx7, .inr ⟨front, _, fv, _, B, ?_, hO7⟩⟩, hx7⟩
    · omega
    · unfold maxLen; omega
    · exact RPts.none_left (by have := HN.out; simp [takeS_quad]; omega) (by omega)
    · rw [takeS_quad]
      simp only [modLast_snoc]
      rfl
  · skip
    have hlT' : T < xs.heap.size := by have := hbx.size; omega
    have hTx : T ≠ xs.heap.size := by omega
    have hxT : xs.heap.size ≠ T := by omega
    have hbX : b ≠ xs.heap.size := by have := hbx.size; omega
    have hXb : xs.heap.size ≠ b := by have := hbx.size; omega
    have hbx1 : b < xs.heap.size := by have := hbx.size; omega
    have hbx2 : b < xs.heap.size + 1 := by omega
    have g3 : w.cell? ⟨T, 3, none⟩ = some (.int .i64 x) := hB.cell 3
    have g4 : w.cell? ⟨T, 4, none⟩ = some (.int .i64 y) := hB.cell 4
    have H8 := copy_new (P := Try.prog) (xs.setCell ⟨T, 1, none⟩ (.slice (some ⟨b, off + 4, none⟩) (n - 2) (c - 2))) [.int .i64 0, .int .i64 0, .int .i64 0, .int .i64 0, .int .i64 0, .int .i64 0, .int .i64 0, .int .i64 0, .int .i64 3] 50 (.cells #[.int .i64 x, .int .i64 y] 44)
      23 23 3 44 0 4 4 1 2 ⟨xs.heap.size + 1, 0, none⟩ 1 1 [.int .i64 x, .int .i64 y] Try.underlying23 (by kernel_rfl) rfl rfl (by
        intro j v hj
        match j, hj with
        | 0, hj => simp at hj; subst hj; simp [go_sem, Addr.add]
        | 1, hj => simp at hj; subst hj; simp [go_sem, Addr.add]) (by simp) (by simp [Value.oneCell'])
    rw [World.size_setCell] at H8
    have hxW : Below B0 w ((((xs.setCell ⟨T, 1, none⟩ (.slice (some ⟨b, off + 4, none⟩) (n - 2) (c - 2))).alloc (.cells #[.int .i64 x, .int .i64 y, .int .i64 0, .int .i64 0, .int .i64 0, .int .i64 0, .int .i64 0, .int .i64 0, .int .i64 3] 50)).alloc (.cells #[.int .i64 x, .int .i64 y] 44)).drew) :=
      ((((hbx.mono (by omega)).setCell (by simpa using hT) _).alloc (by simp; omega) _).alloc (by simp; omega) _).drew
    have H11 := copy_new (P := Try.prog) (xs.setCell ⟨T, 1, none⟩ (.slice (some ⟨b, off + 4, none⟩) (n - 2) (c - 2))) [.int .i64 x, .int .i64 y, .int .i64 0, .int .i64 0, .int .i64 0, .int .i64 0, .int .i64 0, .int .i64 0, .int .i64 3] 50 (.cells #[.int .i64 x, .int .i64 y] 44)
      23 23 3 44 2 3 3 2 2 ⟨b, off, none⟩ 2 c [.int .i64 p0, .int .i64 q0, .int .i64 p1, .int .i64 q1] Try.underlying23 (by kernel_rfl) rfl rfl (fun j v hj => by
        rw [add_spot']
        exact (hxW.cell (p := ⟨b, off + j, none⟩) hbB).trans (HS.out j v hj)) (by simp) (by simp [Value.oneCell'])
    rw [World.size_setCell] at H11
    simp at H8 H11
    go_region
    have hB2 := (hB.grow hbx).set 1 (.slice (some ⟨b, off + 4, none⟩) (n - 2) (c - 2))
    have hO2 := (HO.out.grow hbx).far (i := 1) (hB.grow hbx) (by decide) (by decide) (.slice (some ⟨b, off + 4, none⟩) (n - 2) (c - 2))
    have hB3 : Blk ((((xs.setCell ⟨T, 1, none⟩ (.slice (some ⟨b, off + 4, none⟩) (n - 2) (c - 2))).alloc (.cells #[.int .i64 x, .int .i64 y, .int .i64 p0, .int .i64 q0, .int .i64 p1, .int .i64 q1, .int .i64 0, .int .i64 0, .int .i64 3] 50)).alloc (.cells #[.int .i64 x, .int .i64 y] 44)).drew) T 67
      #[vsl, .slice (some ⟨b, off + 4, none⟩) (n - 2) (c - 2), .slice (some ⟨g, 0, none⟩) (front.length + 1) cap, .int .i64 x, .int .i64 y] := (hB2.alloc _).alloc _
    have hO3 : OwnF ((((xs.setCell ⟨T, 1, none⟩ (.slice (some ⟨b, off + 4, none⟩) (n - 2) (c - 2))).alloc (.cells #[.int .i64 x, .int .i64 y, .int .i64 p0, .int .i64 q0, .int .i64 p1, .int .i64 q1, .int .i64 0, .int .i64 0, .int .i64 3] 50)).alloc (.cells #[.int .i64 x, .int .i64 y] 44)).drew) B0 B _ _ _ front fv ⟨(sx, sy), segs, cl⟩ lv :=
      hO2.grow ((((Below.refl _ _).alloc (Nat.le_refl _) _).alloc (by simp) _).drew)
    have hG3 : Blk ((((xs.setCell ⟨T, 1, none⟩ (.slice (some ⟨b, off + 4, none⟩) (n - 2) (c - 2))).alloc (.cells #[.int .i64 x, .int .i64 y, .int .i64 p0, .int .i64 q0, .int .i64 p1, .int .i64 q1, .int .i64 0, .int .i64 0, .int .i64 3] 50)).alloc (.cells #[.int .i64 x, .int .i64 y] 44)).drew) xs.heap.size 50 #[.int .i64 x, .int .i64 y, .int .i64 p0, .int .i64 q0, .int .i64 p1, .int .i64 q1, .int .i64 0, .int .i64 0, .int .i64 3] := by
      have h := (Blk.new (xs.setCell ⟨T, 1, none⟩ (.slice (some ⟨b, off + 4, none⟩) (n - 2) (c - 2))) 50 #[.int .i64 x, .int .i64 y, .int .i64 p0, .int .i64 q0, .int .i64 p1, .int .i64 q1, .int .i64 0, .int .i64 0, .int .i64 3]).alloc (.cells #[.int .i64 x, .int .i64 y] 44)
      rw [World.size_setCell] at h
      exact h
    have hx3 : Below B0 w ((((xs.setCell ⟨T, 1, none⟩ (.slice (some ⟨b, off + 4, none⟩) (n - 2) (c - 2))).alloc (.cells #[.int .i64 x, .int .i64 y, .int .i64 p0, .int .i64 q0, .int .i64 p1, .int .i64 q1, .int .i64 0, .int .i64 0, .int .i64 3] 50)).alloc (.cells #[.int .i64 x, .int .i64 y] 44)).drew) :=
      ((((hbx.mono (by omega)).setCell (by simpa using hT) _).alloc (by simp; omega) _).alloc (by simp; omega) _).drew
    clear H8 H11 hxW hB2 hO2 hbx hc hf
    generalize ((((xs.setCell ⟨T, 1, none⟩ (.slice (some ⟨b, off + 4, none⟩) (n - 2) (c - 2))).alloc (.cells #[.int .i64 x, .int .i64 y, .int .i64 p0, .int .i64 q0, .int .i64 p1, .int .i64 q1, .int .i64 0, .int .i64 0, .int .i64 3] 50)).alloc (.cells #[.int .i64 x, .int .i64 y] 44)).drew) = wz at hB3 hO3 hG3 hx3 ⊢
    generalize xs.heap.size = G at *
    clear g1 g3 g4 c0 c1 kf hB hbw hlT HO
    have hlTz := hB3.lt
    have hlGz := hG3.lt
    have hkG := hG3.cell
    obtain ⟨g', cap', eg, -, hgz, -, -, c0, c1, c2, c3, cf⟩ := hO3.where_
    simp only [Value.slice.injEq, Option.some.injEq, Addr.mk.injEq] at eg
    obtain ⟨⟨rfl, -⟩, -, rfl⟩ := eg
    simp only at c0 c1 c2 c3
    go_wp2_with fail
    refine Reg.wp_region_soft 8 (by first | exact hb2 | exact Below.refl _ _) (by kernel_rfl) (by kernel_rfl) (fun u => ?_)
    simp only [List.take, List.drop]
    repeat (go_big_quiet_step ((first | (go_at_call 41; exact Reg.calls_aft (last_any T g front.length cap _ _ _ _ _ (hB3.grow (Reg.aft_below _ _ _)) (by simp at hn; omega))))))
    refine wpQuiet_nil ?_
    intro xs hxs
    have hbx := Reg.class_below hxs
    clear hxs
    go_wp2_with fail
    refine ⟨rfl, (Below.refl _ _).alloc (Nat.le_refl _) _, fun z hz => ?_⟩
    have hNz : Blk z xs.heap.size 50 (segV ⟨(x, y), (p0, q0), (p1, q1), (0, 0), 3⟩).toArray := (Blk.new xs _ _).grow hz
    have hBz := ((hB3.grow hbx).alloc _).grow hz
    have hOz := ((hO3.grow hbx).grow ((Below.refl _ _).alloc (Nat.le_refl _) _)).grow hz
    have hxz := hx3.trans ((hbx.trans (((Below.refl _ _).alloc hbx.size _).trans (hz.mono (by have := hbx.size; simp; omega)))).mono (by have := hx3.size; omega))
    have hszz : B ≤ z.heap.size := hOz.hsize
    clear hbx hz hB3 hO3 hG3 hx3 c0 c1 c2 c3 cf hkG
    have hsl := hs _ (List.mem_append_right _ List.mem_cons_self)
    simp only at hsl
    have hlz : z.ownsRow B 50 9 lv segs.length (segsV segs) := hOz.hlast
    refine wpList_append_own _ rfl _ _ 45 rfl B 50 i0 _ 9 72 Try.underlying45 hi hz0 hz1 hz2 rfl (by decide) _ _ _ rfl hlz ⟨xs.heap.size, 0, none⟩ 1 1 (segV ⟨(x, y), (p0, q0), (p1, q1), (0, 0), 3⟩) rfl rfl hNz.news (segV_one _) (by unfold maxLen; omega) (by omega) hszz ?_
    intro lv' w4 hown4 hg4 _
    obtain ⟨a4, c4', rfl, _⟩ := own_slice hown4
    obtain ⟨d2, df, dg, dg'⟩ := hOz.grown_cell (by decide) hg4
    have hgT := hOz.apart hBz (by decide)
    have hTg := Ne.symm hgT
    have hB4 := hBz.grown hg4 (own_apart_blk hlz hBz (by decide))
    have hO4 := hOz.put (s := ⟨(x, y), (p0, q0), (p1, q1), (0, 0), 3⟩) (by decide) hown4 hg4
    have hx4 : Below B0 w w4 := hxz.grown hg4 (by have := hxz.size; omega) (fun k hk => by have := (hlz.lt k hk).1; have := hOz.hbase; omega)
    have hgb : g ≠ b := by omega
    have hbg : b ≠ g := by omega
    have m0 : w4.cell? ⟨b, off + 2, none⟩ = some (.int .i64 p1) := (hx4.cell (p := ⟨b, off + 2, none⟩) hbB).trans (HS.out 2 _ rfl)
    have m1 : w4.cell? ⟨b, off + 3, none⟩ = some (.int .i64 q1) := (hx4.cell (p := ⟨b, off + 3, none⟩) hbB).trans (HS.out 3 _ rfl)
    have kf4 := hB4.unfrozen
    have hlT4 := hB4.lt
    have e3 : w4.cell? ⟨T, 3, none⟩ = some (.int .i64 x) := hB4.cell 3
    have e4 : w4.cell? ⟨T, 4, none⟩ = some (.int .i64 y) := hB4.cell 4
    have HO4 := Lib.hid hO4
    clear hown4 hg4 hNz hlz hBz hOz hxz hO4
    go_wp2_with fail
    have hB5 := hB4.far hgT (i := front.length * 4 + 2) (.slice a4 (segs.length + 1) c4')
    have hB6 := hB5.set 3 (.int .i64 p1)
    have hB7 := hB6.set 4 (.int .i64 q1)
    have hO7 := (HO4.out.far (i := 3) hB5 (by decide) (by decide) (.int .i64 p1)).far (i := 4) hB6 (by decide) (by decide) (.int .i64 q1)
    have hx7 := ((hx4.setCell (p := ⟨g, front.length * 4 + 2, none⟩) (by simpa using hg1) (.slice a4 (segs.length + 1) c4')).setCell (p := ⟨T, 3, none⟩) (by simpa using hT) (.int .i64 p1)).setCell (p := ⟨T, 4, none⟩) (by simpa using hT) (.int .i64 q1)
    refine bodyPost_end (v := .tuple #[]) (by simp [results, Try.results31, go_sem]) rfl ⟨rfl, ⟨_, _, _, _, hB7, ?_, ?_, RPts.below ?_ hx7, .inr ⟨front, _, fv, _, B, ?_, hO7⟩⟩, hx7⟩
    · omega
    · unfold maxLen; omega
    · exact HP.out.from 2
    · rw [takeS_quad]
      simp only [modLast_snoc]
      rfl

set_option maxHeartbeats 2000000 in
theorem take_cubic (T B0 : Nat) (vsl : Value) (t : TakeS) (w : World) (hT : B0 ≤ T) (hi : TkInv w B0 T vsl t) (h0 : 3 ≤ t.rest.length) (hp : 0 < t.subs.length) (hn : t.subs.length ≤ 1000) (hs : ∀ s ∈ t.subs, s.segs.length ≤ 1000) :
    Calls Try.prog 31 #[.pointer (some ⟨T, 0, none⟩), .int .i64 4] w fun e w' => e = .returned (.tuple #[]) ∧ TkInv w' B0 T vsl (takeS t 4) ∧ Below B0 w w' := by
  obtain ⟨subs, ⟨x, y⟩, rest⟩ := t
  obtain ⟨a, n, c, sv, hB, hnc, hcm, hP, hO⟩ := hi
  rcases hO with ⟨rfl, _⟩ | ⟨front, ⟨⟨sx, sy⟩, segs, cl⟩, fv, lv, B, rfl, hO⟩
  · simp at hp
  obtain ⟨g, cap, rfl, hg1, hg2, hg3, hg4, -, -, -, -, -⟩ := hO.where_
  obtain ⟨⟨p0, q0⟩, r0, rfl⟩ : ∃ p l, rest = p :: l := by cases rest with | nil => (simp at h0) | cons p l => exact ⟨p, l, rfl⟩
  obtain ⟨⟨p1, q1⟩, r1, rfl⟩ : ∃ p l, r0 = p :: l := by cases r0 with | nil => (simp at h0) | cons p l => exact ⟨p, l, rfl⟩
  obtain ⟨⟨p2, q2⟩, r2, rfl⟩ : ∃ p l, r1 = p :: l := by cases r1 with | nil => (simp at h0) | cons p l => exact ⟨p, l, rfl⟩
  obtain ⟨b, off, rfl, hbB, c0, c1⟩ := hP.2 0 (p0, q0) rfl
  obtain ⟨b', off', e', -, c2, c3⟩ := hP.2 1 (p1, q1) rfl
  simp only [Option.some.injEq, Addr.mk.injEq, and_true] at e'
  obtain ⟨rfl, rfl⟩ := e'
  obtain ⟨b', off', e', -, c4, c5⟩ := hP.2 2 (p2, q2) rfl
  simp only [Option.some.injEq, Addr.mk.injEq, and_true] at e'
  obtain ⟨rfl, rfl⟩ := e'
  have hn1 := hP.1
  obtain ⟨i0, hi, hz0, hz1, hz2⟩ := info_parts infoSeg
  have k1 := Lib.hid (fun W => takes_at (v := 4) (k := 3) rfl W)
  have g1 : w.cell? ⟨T, 1, none⟩ = some (.slice (some ⟨b, off, none⟩) n c) := hB.cell 1
  have hlT := hB.lt
  have kf := hB.unfrozen
  simp only [List.length_cons] at hn1
  unfold maxLen at hcm
  simp only [Nat.zero_mul, Nat.add_zero, Nat.one_mul, Nat.reduceMul] at c0 c1 c2 c3 c4 c5
  have HS : Hid (∀ (j : Nat) v, [.int .i64 p0, .int .i64 q0, .int .i64 p1, .int .i64 q1, .int .i64 p2, .int .i64 q2][j]? = some v → w.cell? ⟨b, off + j, none⟩ = some v) := Lib.hid (fun j v hj => by
    match j, hj with
    | 0, hj => simp at hj; subst hj; exact c0
    | 1, hj => simp at hj; subst hj; exact c1
    | 2, hj => simp at hj; subst hj; exact c2
    | 3, hj => simp at hj; subst hj; exact c3
    | 4, hj => simp at hj; subst hj; exact c4
    | 5, hj => simp at hj; subst hj; exact c5)
  have HP := Lib.hid hP
  have HN := Lib.hid hn1
  have h1n : 3 ≤ n := by omega
  have hbT : b ≠ T := by omega
  have hTb : T ≠ b := by omega
  have hbw : b < w.heap.size := by omega
  have HO := Lib.hid hO
  clear hn1 hP hO c2 c3 c4 c5
  go_enter Try.func31, Try.ntmps31
  go_wp2_with fail
  refine Reg.wp_region_all (by first | exact hb2 | exact Below.refl _ _) (by kernel_rfl) (by kernel_rfl) ?_
  repeat (go_big_quiet_step ((first | (go_at_call 14; exact Reg.calls_aft (k1.out _)))))
  refine wpQuiet_nil ?_
  intro xs hxs
  have hbx := Reg.class_below hxs
  clear hxs
  obtain ⟨hc, hf⟩ := bcell hbx
  go_wp2_with fail
  · skip
    have hlT' : T < xs.heap.size := by have := hbx.size; omega
    have hTx : T ≠ xs.heap.size := by omega
    have hxT : xs.heap.size ≠ T := by omega
    have hbX : b ≠ xs.heap.size := by have := hbx.size; omega
    have hXb : xs.heap.size ≠ b := by have := hbx.size; omega
    have hbx1 : b < xs.heap.size := by have := hbx.size; omega
    have hbx2 : b < xs.heap.size + 1 := by omega
    have g3 : w.cell? ⟨T, 3, none⟩ = some (.int .i64 x) := hB.cell 3
    have g4 : w.cell? ⟨T, 4, none⟩ = some (.int .i64 y) := hB.cell 4
    have H8 := copy_new (P := Try.prog) (xs.setCell ⟨T, 1, none⟩ (.slice (some ⟨b, off, none⟩) (n - 3) (0))) [.int .i64 0, .int .i64 0, .int .i64 0, .int .i64 0, .int .i64 0, .int .i64 0, .int .i64 0, .int .i64 0, .int .i64 4] 50 (.cells #[.int .i64 x, .int .i64 y] 44)
      23 23 3 44 0 4 4 1 2 ⟨xs.heap.size + 1, 0, none⟩ 1 1 [.int .i64 x, .int .i64 y] Try.underlying23 (by kernel_rfl) rfl rfl (by
        intro j v hj
        match j, hj with
        | 0, hj => simp at hj; subst hj; simp [go_sem, Addr.add]
        | 1, hj => simp at hj; subst hj; simp [go_sem, Addr.add]) (by simp) (by simp [Value.oneCell'])
    rw [World.size_setCell] at H8
    have hxW : Below B0 w ((((xs.setCell ⟨T, 1, none⟩ (.slice (some ⟨b, off, none⟩) (n - 3) (0))).alloc (.cells #[.int .i64 x, .int .i64 y, .int .i64 0, .int .i64 0, .int .i64 0, .int .i64 0, .int .i64 0, .int .i64 0, .int .i64 4] 50)).alloc (.cells #[.int .i64 x, .int .i64 y] 44)).drew) :=
      ((((hbx.mono (by omega)).setCell (by simpa using hT) _).alloc (by simp; omega) _).alloc (by simp; omega) _).drew
    have H11 := copy_new (P := Try.prog) (xs.setCell ⟨T, 1, none⟩ (.slice (some ⟨b, off, none⟩) (n - 3) (0))) [.int .i64 x, .int .i64 y, .int .i64 0, .int .i64 0, .int .i64 0, .int .i64 0, .int .i64 0, .int .i64 0, .int .i64 4] 50 (.cells #[.int .i64 x, .int .i64 y] 44)
      23 23 3 44 2 3 3 3 2 ⟨b, off, none⟩ 3 3 [.int .i64 p0, .int .i64 q0, .int .i64 p1, .int .i64 q1, .int .i64 p2, .int .i64 q2] Try.underlying23 (by kernel_rfl) rfl rfl (fun j v hj => by
        rw [add_spot']
        exact (hxW.cell (p := ⟨b, off + j, none⟩) hbB).trans (HS.out j v hj)) (by simp) (by simp [Value.oneCell'])
    rw [World.size_setCell] at H11
    simp at H8 H11
    go_region
    have hB2 := (hB.grow hbx).set 1 (.slice (some ⟨b, off, none⟩) (n - 3) (0))
    have hO2 := (HO.out.grow hbx).far (i := 1) (hB.grow hbx) (by decide) (by decide) (.slice (some ⟨b, off, none⟩) (n - 3) (0))
    have hB3 : Blk ((((xs.setCell ⟨T, 1, none⟩ (.slice (some ⟨b, off, none⟩) (n - 3) (0))).alloc (.cells #[.int .i64 x, .int .i64 y, .int .i64 p0, .int .i64 q0, .int .i64 p1, .int .i64 q1, .int .i64 p2, .int .i64 q2, .int .i64 4] 50)).alloc (.cells #[.int .i64 x, .int .i64 y] 44)).drew) T 67
      #[vsl, .slice (some ⟨b, off, none⟩) (n - 3) (0), .slice (some ⟨g, 0, none⟩) (front.length + 1) cap, .int .i64 x, .int .i64 y] := (hB2.alloc _).alloc _
    have hO3 : OwnF ((((xs.setCell ⟨T, 1, none⟩ (.slice (some ⟨b, off, none⟩) (n - 3) (0))).alloc (.cells #[.int .i64 x, .int .i64 y, .int .i64 p0, .int .i64 q0, .int .i64 p1, .int .i64 q1, .int .i64 p2, .int .i64 q2, .int .i64 4] 50)).alloc (.cells #[.int .i64 x, .int .i64 y] 44)).drew) B0 B _ _ _ front fv ⟨(sx, sy), segs, cl⟩ lv :=
      hO2.grow ((((Below.refl _ _).alloc (Nat.le_refl _) _).alloc (by simp) _).drew)
    have hG3 : Blk ((((xs.setCell ⟨T, 1, none⟩ (.slice (some ⟨b, off, none⟩) (n - 3) (0))).alloc (.cells #[.int .i64 x, .int .i64 y, .int .i64 p0, .int .i64 q0, .int .i64 p1, .int .i64 q1, .int .i64 p2, .int .i64 q2, .int .i64 4] 50)).alloc (.cells #[.int .i64 x, .int .i64 y] 44)).drew) xs.heap.size 50 #[.int .i64 x, .int .i64 y, .int .i64 p0, .int .i64 q0, .int .i64 p1, .int .i64 q1, .int .i64 p2, .int .i64 q2, .int .i64 4] := by
      have h := (Blk.new (xs.setCell ⟨T, 1, none⟩ (.slice (some ⟨b, off, none⟩) (n - 3) (0))) 50 #[.int .i64 x, .int .i64 y, .int .i64 p0, .int .i64 q0, .int .i64 p1, .int .i64 q1, .int .i64 p2, .int .i64 q2, .int .i64 4]).alloc (.cells #[.int .i64 x, .int .i64 y] 44)
      rw [World.size_setCell] at h
      exact h
    have hx3 : Below B0 w ((((xs.setCell ⟨T, 1, none⟩ (.slice (some ⟨b, off, none⟩) (n - 3) (0))).alloc (.cells #[.int .i64 x, .int .i64 y, .int .i64 p0, .int .i64 q0, .int .i64 p1, .int .i64 q1, .int .i64 p2, .int .i64 q2, .int .i64 4] 50)).alloc (.cells #[.int .i64 x, .int .i64 y] 44)).drew) :=
      ((((hbx.mono (by omega)).setCell (by simpa using hT) _).alloc (by simp; omega) _).alloc (by simp; omega) _).drew
    clear H8 H11 hxW hB2 hO2 hbx hc hf
    generalize ((((xs.setCell ⟨T, 1, none⟩ (.slice (some ⟨b, off, none⟩) (n - 3) (0))).alloc (.cells #[.int .i64 x, .int .i64 y, .int .i64 p0, .int .i64 q0, .int .i64 p1, .int .i64 q1, .int .i64 p2, .int .i64 q2, .int .i64 4] 50)).alloc (.cells #[.int .i64 x, .int .i64 y] 44)).drew) = wz at hB3 hO3 hG3 hx3 ⊢
    generalize xs.heap.size = G at *
    clear g1 g3 g4 c0 c1 kf hB hbw hlT HO
    have hlTz := hB3.lt
    have hlGz := hG3.lt
    have hkG := hG3.cell
    obtain ⟨g', cap', eg, -, hgz, -, -, c0, c1, c2, c3, cf⟩ := hO3.where_
    simp only [Value.slice.injEq, Option.some.injEq, Addr.mk.injEq] at eg
    obtain ⟨⟨rfl, -⟩, -, rfl⟩ := eg
    simp only at c0 c1 c2 c3
    go_wp2_with fail
    refine Reg.wp_region_soft 8 (by first | exact hb2 | exact Below.refl _ _) (by kernel_rfl) (by kernel_rfl) (fun u => ?_)
    simp only [List.take, List.drop]
    repeat (go_big_quiet_step ((first | (go_at_call 41; exact Reg.calls_aft (last_any T g front.length cap _ _ _ _ _ (hB3.grow (Reg.aft_below _ _ _)) (by simp at hn; omega))))))
    refine wpQuiet_nil ?_
    intro xs hxs
    have hbx := Reg.class_below hxs
    clear hxs
    go_wp2_with fail
    refine ⟨rfl, (Below.refl _ _).alloc (Nat.le_refl _) _, fun z hz => ?_⟩
    have hNz : Blk z xs.heap.size 50 (segV ⟨(x, y), (p0, q0), (p1, q1), (p2, q2), 4⟩).toArray := (Blk.new xs _ _).grow hz
    have hBz := ((hB3.grow hbx).alloc _).grow hz
    have hOz := ((hO3.grow hbx).grow ((Below.refl _ _).alloc (Nat.le_refl _) _)).grow hz
    have hxz := hx3.trans ((hbx.trans (((Below.refl _ _).alloc hbx.size _).trans (hz.mono (by have := hbx.size; simp; omega)))).mono (by have := hx3.size; omega))
    have hszz : B ≤ z.heap.size := hOz.hsize
    clear hbx hz hB3 hO3 hG3 hx3 c0 c1 c2 c3 cf hkG
    have hsl := hs _ (List.mem_append_right _ List.mem_cons_self)
    simp only at hsl
    have hlz : z.ownsRow B 50 9 lv segs.length (segsV segs) := hOz.hlast
    refine wpList_append_own _ rfl _ _ 45 rfl B 50 i0 _ 9 72 Try.underlying45 hi hz0 hz1 hz2 rfl (by decide) _ _ _ rfl hlz ⟨xs.heap.size, 0, none⟩ 1 1 (segV ⟨(x, y), (p0, q0), (p1, q1), (p2, q2), 4⟩) rfl rfl hNz.news (segV_one _) (by unfold maxLen; omega) (by omega) hszz ?_
    intro lv' w4 hown4 hg4 _
    obtain ⟨a4, c4', rfl, _⟩ := own_slice hown4
    obtain ⟨d2, df, dg, dg'⟩ := hOz.grown_cell (by decide) hg4
    have hgT := hOz.apart hBz (by decide)
    have hTg := Ne.symm hgT
    have hB4 := hBz.grown hg4 (own_apart_blk hlz hBz (by decide))
    have hO4 := hOz.put (s := ⟨(x, y), (p0, q0), (p1, q1), (p2, q2), 4⟩) (by decide) hown4 hg4
    have hx4 : Below B0 w w4 := hxz.grown hg4 (by have := hxz.size; omega) (fun k hk => by have := (hlz.lt k hk).1; have := hOz.hbase; omega)
    have hgb : g ≠ b := by omega
    have hbg : b ≠ g := by omega
    have m0 : w4.cell? ⟨b, off + 4, none⟩ = some (.int .i64 p2) := (hx4.cell (p := ⟨b, off + 4, none⟩) hbB).trans (HS.out 4 _ rfl)
    have m1 : w4.cell? ⟨b, off + 5, none⟩ = some (.int .i64 q2) := (hx4.cell (p := ⟨b, off + 5, none⟩) hbB).trans (HS.out 5 _ rfl)
    have kf4 := hB4.unfrozen
    have hlT4 := hB4.lt
    have e3 : w4.cell? ⟨T, 3, none⟩ = some (.int .i64 x) := hB4.cell 3
    have e4 : w4.cell? ⟨T, 4, none⟩ = some (.int .i64 y) := hB4.cell 4
    have HO4 := Lib.hid hO4
    clear hown4 hg4 hNz hlz hBz hOz hxz hO4
    go_wp2_with fail
    have hB5 := hB4.far hgT (i := front.length * 4 + 2) (.slice a4 (segs.length + 1) c4')
    have hB6 := hB5.set 3 (.int .i64 p2)
    have hB7 := hB6.set 4 (.int .i64 q2)
    have hO7 := (HO4.out.far (i := 3) hB5 (by decide) (by decide) (.int .i64 p2)).far (i := 4) hB6 (by decide) (by decide) (.int .i64 q2)
    have hx7 := ((hx4.setCell (p := ⟨g, front.length * 4 + 2, none⟩) (by simpa using hg1) (.slice a4 (segs.length + 1) c4')).setCell (p := ⟨T, 3, none⟩) (by simpa using hT) (.int .i64 p2)).setCell (p := ⟨T, 4, none⟩) (by simpa using hT) (.int .i64 q2)
    refine bodyPost_end (v := .tuple #[]) (by simp [results, Try.results31, go_sem]) rfl ⟨rfl, ⟨_, _, _, _, hB7, ?_, ?_, RPts.below ?_ hx7, .inr ⟨front, _, fv, _, B, ?_, hO7⟩⟩, hx7⟩
    · omega
    · unfold maxLen; omega
    · exact RPts.none_left (by have := HN.out; simp [takeS_cubic]; omega) (by omega)
    · rw [takeS_cubic]
      simp only [modLast_snoc]
      rfl
  · skip
    have hlT' : T < xs.heap.size := by have := hbx.size; omega
    have hTx : T ≠ xs.heap.size := by omega
    have hxT : xs.heap.size ≠ T := by omega
    have hbX : b ≠ xs.heap.size := by have := hbx.size; omega
    have hXb : xs.heap.size ≠ b := by have := hbx.size; omega
    have hbx1 : b < xs.heap.size := by have := hbx.size; omega
    have hbx2 : b < xs.heap.size + 1 := by omega
    have g3 : w.cell? ⟨T, 3, none⟩ = some (.int .i64 x) := hB.cell 3
    have g4 : w.cell? ⟨T, 4, none⟩ = some (.int .i64 y) := hB.cell 4
    have H8 := copy_new (P := Try.prog) (xs.setCell ⟨T, 1, none⟩ (.slice (some ⟨b, off + 6, none⟩) (n - 3) (c - 3))) [.int .i64 0, .int .i64 0, .int .i64 0, .int .i64 0, .int .i64 0, .int .i64 0, .int .i64 0, .int .i64 0, .int .i64 4] 50 (.cells #[.int .i64 x, .int .i64 y] 44)
      23 23 3 44 0 4 4 1 2 ⟨xs.heap.size + 1, 0, none⟩ 1 1 [.int .i64 x, .int .i64 y] Try.underlying23 (by kernel_rfl) rfl rfl (by
        intro j v hj
        match j, hj with
        | 0, hj => simp at hj; subst hj; simp [go_sem, Addr.add]
        | 1, hj => simp at hj; subst hj; simp [go_sem, Addr.add]) (by simp) (by simp [Value.oneCell'])
    rw [World.size_setCell] at H8
    have hxW : Below B0 w ((((xs.setCell ⟨T, 1, none⟩ (.slice (some ⟨b, off + 6, none⟩) (n - 3) (c - 3))).alloc (.cells #[.int .i64 x, .int .i64 y, .int .i64 0, .int .i64 0, .int .i64 0, .int .i64 0, .int .i64 0, .int .i64 0, .int .i64 4] 50)).alloc (.cells #[.int .i64 x, .int .i64 y] 44)).drew) :=
      ((((hbx.mono (by omega)).setCell (by simpa using hT) _).alloc (by simp; omega) _).alloc (by simp; omega) _).drew
    have H11 := copy_new (P := Try.prog) (xs.setCell ⟨T, 1, none⟩ (.slice (some ⟨b, off + 6, none⟩) (n - 3) (c - 3))) [.int .i64 x, .int .i64 y, .int .i64 0, .int .i64 0, .int .i64 0, .int .i64 0, .int .i64 0, .int .i64 0, .int .i64 4] 50 (.cells #[.int .i64 x, .int .i64 y] 44)
      23 23 3 44 2 3 3 3 2 ⟨b, off, none⟩ 3 c [.int .i64 p0, .int .i64 q0, .int .i64 p1, .int .i64 q1, .int .i64 p2, .int .i64 q2] Try.underlying23 (by kernel_rfl) rfl rfl (fun j v hj => by
        rw [add_spot']
        exact (hxW.cell (p := ⟨b, off + j, none⟩) hbB).trans (HS.out j v hj)) (by simp) (by simp [Value.oneCell'])
    rw [World.size_setCell] at H11
    simp at H8 H11
    go_region
    have hB2 := (hB.grow hbx).set 1 (.slice (some ⟨b, off + 6, none⟩) (n - 3) (c - 3))
    have hO2 := (HO.out.grow hbx).far (i := 1) (hB.grow hbx) (by decide) (by decide) (.slice (some ⟨b, off + 6, none⟩) (n - 3) (c - 3))
    have hB3 : Blk ((((xs.setCell ⟨T, 1, none⟩ (.slice (some ⟨b, off + 6, none⟩) (n - 3) (c - 3))).alloc (.cells #[.int .i64 x, .int .i64 y, .int .i64 p0, .int .i64 q0, .int .i64 p1, .int .i64 q1, .int .i64 p2, .int .i64 q2, .int .i64 4] 50)).alloc (.cells #[.int .i64 x, .int .i64 y] 44)).drew) T 67
      #[vsl, .slice (some ⟨b, off + 6, none⟩) (n - 3) (c - 3), .slice (some ⟨g, 0, none⟩) (front.length + 1) cap, .int .i64 x, .int .i64 y] := (hB2.alloc _).alloc _
    have hO3 : OwnF ((((xs.setCell ⟨T, 1, none⟩ (.slice (some ⟨b, off + 6, none⟩) (n - 3) (c - 3))).alloc (.cells #[.int .i64 x, .int .i64 y, .int .i64 p0, .int .i64 q0, .int .i64 p1, .int .i64 q1, .int .i64 p2, .int .i64 q2, .int .i64 4] 50)).alloc (.cells #[.int .i64 x, .int .i64 y] 44)).drew) B0 B _ _ _ front fv ⟨(sx, sy), segs, cl⟩ lv :=
      hO2.grow ((((Below.refl _ _).alloc (Nat.le_refl _) _).alloc (by simp) _).drew)
    have hG3 : Blk ((((xs.setCell ⟨T, 1, none⟩ (.slice (some ⟨b, off + 6, none⟩) (n - 3) (c - 3))).alloc (.cells #[.int .i64 x, .int .i64 y, .int .i64 p0, .int .i64 q0, .int .i64 p1, .int .i64 q1, .int .i64 p2, .int .i64 q2, .int .i64 4] 50)).alloc (.cells #[.int .i64 x, .int .i64 y] 44)).drew) xs.heap.size 50 #[.int .i64 x, .int .i64 y, .int .i64 p0, .int .i64 q0, .int .i64 p1, .int .i64 q1, .int .i64 p2, .int .i64 q2, .int .i64 4] := by
      have h := (Blk.new (xs.setCell ⟨T, 1, none⟩ (.slice (some ⟨b, off + 6, none⟩) (n - 3) (c - 3))) 50 #[.int .i64 x, .int .i64 y, .int .i64 p0, .int .i64 q0, .int .i64 p1, .int .i64 q1, .int .i64 p2, .int .i64 q2, .int .i64 4]).alloc (.cells #[.int .i64 x, .int .i64 y] 44)
      rw [World.size_setCell] at h
      exact h
    have hx3 : Below B0 w ((((xs.setCell ⟨T, 1, none⟩ (.slice (some ⟨b, off + 6, none⟩) (n - 3) (c - 3))).alloc (.cells #[.int .i64 x, .int .i64 y, .int .i64 p0, .int .i64 q0, .int .i64 p1, .int .i64 q1, .int .i64 p2, .int .i64 q2, .int .i64 4] 50)).alloc (.cells #[.int .i64 x, .int .i64 y] 44)).drew) :=
      ((((hbx.mono (by omega)).setCell (by simpa using hT) _).alloc (by simp; omega) _).alloc (by simp; omega) _).drew
    clear H8 H11 hxW hB2 hO2 hbx hc hf
    generalize ((((xs.setCell ⟨T, 1, none⟩ (.slice (some ⟨b, off + 6, none⟩) (n - 3) (c - 3))).alloc (.cells #[.int .i64 x, .int .i64 y, .int .i64 p0, .int .i64 q0, .int .i64 p1, .int .i64 q1, .int .i64 p2, .int .i64 q2, .int .i64 4] 50)).alloc (.cells #[.int .i64 x, .int .i64 y] 44)).drew) = wz at hB3 hO3 hG3 hx3 ⊢
    generalize xs.heap.size = G at *
    clear g1 g3 g4 c0 c1 kf hB hbw hlT HO
    have hlTz := hB3.lt
    have hlGz := hG3.lt
    have hkG := hG3.cell
    obtain ⟨g', cap', eg, -, hgz, -, -, c0, c1, c2, c3, cf⟩ := hO3.where_
    simp only [Value.slice.injEq, Option.some.injEq, Addr.mk.injEq] at eg
    obtain ⟨⟨rfl, -⟩, -, rfl⟩ := eg
    simp only at c0 c1 c2 c3
    go_wp2_with fail
    refine Reg.wp_region_soft 8 (by first | exact hb2 | exact Below.refl _ _) (by kernel_rfl) (by kernel_rfl) (fun u => ?_)
    simp only [List.take, List.drop]
    repeat (go_big_quiet_step ((first | (go_at_call 41; exact Reg.calls_aft (last_any T g front.length cap _ _ _ _ _ (hB3.grow (Reg.aft_below _ _ _)) (by simp at hn; omega))))))
    refine wpQuiet_nil ?_
    intro xs hxs
    have hbx := Reg.class_below hxs
    clear hxs
    go_wp2_with fail
    refine ⟨rfl, (Below.refl _ _).alloc (Nat.le_refl _) _, fun z hz => ?_⟩
    have hNz : Blk z xs.heap.size 50 (segV ⟨(x, y), (p0, q0), (p1, q1), (p2, q2), 4⟩).toArray := (Blk.new xs _ _).grow hz
    have hBz := ((hB3.grow hbx).alloc _).grow hz
    have hOz := ((hO3.grow hbx).grow ((Below.refl _ _).alloc (Nat.le_refl _) _)).grow hz
    have hxz := hx3.trans ((hbx.trans (((Below.refl _ _).alloc hbx.size _).trans (hz.mono (by have := hbx.size; simp; omega)))).mono (by have := hx3.size; omega))
    have hszz : B ≤ z.heap.size := hOz.hsize
    clear hbx hz hB3 hO3 hG3 hx3 c0 c1 c2 c3 cf hkG
    have hsl := hs _ (List.mem_append_right _ List.mem_cons_self)
    simp only at hsl
    have hlz : z.ownsRow B 50 9 lv segs.length (segsV segs) := hOz.hlast
    refine wpList_append_own _ rfl _ _ 45 rfl B 50 i0 _ 9 72 Try.underlying45 hi hz0 hz1 hz2 rfl (by decide) _ _ _ rfl hlz ⟨xs.heap.size, 0, none⟩ 1 1 (segV ⟨(x, y), (p0, q0), (p1, q1), (p2, q2), 4⟩) rfl rfl hNz.news (segV_one _) (by unfold maxLen; omega) (by omega) hszz ?_
    intro lv' w4 hown4 hg4 _
    obtain ⟨a4, c4', rfl, _⟩ := own_slice hown4
    obtain ⟨d2, df, dg, dg'⟩ := hOz.grown_cell (by decide) hg4
    have hgT := hOz.apart hBz (by decide)
    have hTg := Ne.symm hgT
    have hB4 := hBz.grown hg4 (own_apart_blk hlz hBz (by decide))
    have hO4 := hOz.put (s := ⟨(x, y), (p0, q0), (p1, q1), (p2, q2), 4⟩) (by decide) hown4 hg4
    have hx4 : Below B0 w w4 := hxz.grown hg4 (by have := hxz.size; omega) (fun k hk => by have := (hlz.lt k hk).1; have := hOz.hbase; omega)
    have hgb : g ≠ b := by omega
    have hbg : b ≠ g := by omega
    have m0 : w4.cell? ⟨b, off + 4, none⟩ = some (.int .i64 p2) := (hx4.cell (p := ⟨b, off + 4, none⟩) hbB).trans (HS.out 4 _ rfl)
    have m1 : w4.cell? ⟨b, off + 5, none⟩ = some (.int .i64 q2) := (hx4.cell (p := ⟨b, off + 5, none⟩) hbB).trans (HS.out 5 _ rfl)
    have kf4 := hB4.unfrozen
    have hlT4 := hB4.lt
    have e3 : w4.cell? ⟨T, 3, none⟩ = some (.int .i64 x) := hB4.cell 3
    have e4 : w4.cell? ⟨T, 4, none⟩ = some (.int .i64 y) := hB4.cell 4
    have HO4 := Lib.hid hO4
    clear hown4 hg4 hNz hlz hBz hOz hxz hO4
    go_wp2_with fail
    have hB5 := hB4.far hgT (i := front.length * 4 + 2) (.slice a4 (segs.length + 1) c4')
    have hB6 := hB5.set 3 (.int .i64 p2)
    have hB7 := hB6.set 4 (.int .i64 q2)
    have hO7 := (HO4.out.far (i := 3) hB5 (by decide) (by decide) (.int .i64 p2)).far (i := 4) hB6 (by decide) (by decide) (.int .i64 q2)
    have hx7 := ((hx4.setCell (p := ⟨g, front.length * 4 + 2, none⟩) (by simpa using hg1) (.slice a4 (segs.length + 1) c4')).setCell (p := ⟨T, 3, none⟩) (by simpa using hT) (.int .i64 p2)).setCell (p := ⟨T, 4, none⟩) (by simpa using hT) (.int .i64 q2)
    refine bodyPost_end (v := .tuple #[]) (by simp [results, Try.results31, go_sem]) rfl ⟨rfl, ⟨_, _, _, _, hB7, ?_, ?_, RPts.below ?_ hx7, .inr ⟨front, _, fv, _, B, ?_, hO7⟩⟩, hx7⟩
    · omega
    · unfold maxLen; omega
    · exact HP.out.from 3
    · rw [takeS_cubic]
      simp only [modLast_snoc]
      rfl

end Go.Proofs.Ytjkpbkcbimojoaa
