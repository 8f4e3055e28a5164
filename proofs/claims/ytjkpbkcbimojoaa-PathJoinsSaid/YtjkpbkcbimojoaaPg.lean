/- Contracts of the taker's small methods: where the last subpath lies, a line to a point. -/
import Derived.Test.YtjkpbkcbimojoaaPf
import Derived.Test.YtjkpbkcbimojoaaPa
import Derived.Test.YtjkpbkcbimojoaaRet
import Derived.Test.YtjkpbkcbimojoaaRegb
import Derived.WalkKit
import Derived.WalkSpells
import Derived.Deep.QuietTactic
import Derived.BigQuiet
import Derived.Outline
namespace Go.Proofs.Ytjkpbkcbimojoaa
open Go.RowKit

set_option maxHeartbeats 400000 in
theorem last_any (T g m cap : Nat) (v0 v1 x y : Value) (w : World) (hT : Blk w T 67 #[v0, v1, .slice (some ⟨g, 0, none⟩) (m + 1) cap, x, y]) (hm : m ≤ 1099511627776) :
    Calls Try.prog 41 #[.pointer (some ⟨T, 0, none⟩)] w fun e w' => e = .returned (.pointer (some ⟨g, m * 4, none⟩)) ∧ Below w.heap.size w w' := by
  have g2 : w.cell? ⟨T, 2, none⟩ = some (.slice (some ⟨g, 0, none⟩) (m + 1) cap) := hT.cell 2
  have h1 : (0 : Int) ≤ ((m + 1 : Nat) : Int) - 1 := by omega
  have h2 : ((m + 1 : Nat) : Int) - 1 < ((m + 1 : Nat) : Int) := by omega
  have h3 : (((m + 1 : Nat) : Int) - 1).toNat = m := by omega
  go_enter Try.func41, Try.ntmps41
  go_wp2_with fail
  go_region
  all_goals
    go_wp2_with fail
    go_ret
    exact ⟨by simp, by (repeat (first | exact Below.refl _ _ | assumption | refine Below.drew ?_ | refine Below.setCell ?_ (by simp; try omega) _ | refine Below.alloc ?_ (by simp; try omega) _))⟩

set_option maxHeartbeats 400000 in
theorem line_any (T : Nat) (v0 v1 v2 : Value) (x y p q : Int) (w : World) (hT : Blk w T 67 #[v0, v1, v2, .int .i64 x, .int .i64 y]) :
    Calls Try.prog 42 #[.pointer (some ⟨T, 0, none⟩), .agg #[.int .i64 p, .int .i64 q]] w fun e w' => e = .returned (.agg #[.int .i64 x, .int .i64 y, .int .i64 p, .int .i64 q, .int .i64 0, .int .i64 0, .int .i64 0, .int .i64 0, .int .i64 2]) ∧ Below w.heap.size w w' := by
  have g3 : w.cell? ⟨T, 3, none⟩ = some (.int .i64 x) := hT.cell 3
  have g4 : w.cell? ⟨T, 4, none⟩ = some (.int .i64 y) := hT.cell 4
  have hlt := hT.lt
  have hl1 : T < w.heap.size + 1 := by omega
  go_enter Try.func42, Try.ntmps42
  go_wp2_with fail
  go_region
  all_goals
    go_wp2_with fail
    refine bodyPost_ret (res_seg (t := 50) (cs := #[.int .i64 x, .int .i64 y, .int .i64 p, .int .i64 q, .int .i64 0, .int .i64 0, .int .i64 0, .int .i64 0, .int .i64 2]) ?_ rfl rfl rfl) rfl ⟨rfl, by (repeat (first | exact Below.refl _ _ | assumption | refine Below.drew ?_ | refine Below.setCell ?_ (by simp; try omega) _ | refine Below.alloc ?_ (by simp; try omega) _))⟩
    have h := Blk.new (w.alloc (.cells #[.int .i64 p, .int .i64 q] 44)) 50 #[.int .i64 x, .int .i64 y, .int .i64 p, .int .i64 q, .int .i64 0, .int .i64 0, .int .i64 0, .int .i64 0, .int .i64 2]
    rw [World.size_alloc] at h
    exact h

/-- What is known while verbs are taken: the taker's block, the points that are left, the subpaths. -/
def OwnT (w : World) (B0 : Nat) (tS tG : TypeId) (sv : Value) (subs : List SubS) : Prop :=
  (subs = [] ∧ sv = .slice none 0 0) ∨ ∃ front last fv lv B, subs = front ++ [last] ∧ OwnF w B0 B tS tG sv front fv last lv
def TkInv (w : World) (B0 T : Nat) (vsl : Value) (t : TakeS) : Prop :=
  ∃ a n c sv, Blk w T 67 #[vsl, .slice a n c, sv, .int .i64 t.pos.1, .int .i64 t.pos.2] ∧ n ≤ c ∧ c ≤ maxLen ∧ RPts w B0 a n t.rest ∧ OwnT w B0 47 50 sv t.subs

theorem takes_at {v k : Int} (h : takesS v = k) (W : World) : Calls Try.prog 14 #[.int .i64 v] W fun e w' => e = .returned (.int .i64 k) ∧ Below W.heap.size W w' := h ▸ takes_any v W

theorem infoSeg : (Try.prog.info? 50).map (fun i => (i.zero, i.size, i.bytes)) = some (some (.agg #[.int .i64 0, .int .i64 0, .int .i64 0, .int .i64 0, .int .i64 0, .int .i64 0, .int .i64 0, .int .i64 0, .int .i64 0]), 9, 72) := by kernel_rfl
theorem infoSub : (Try.prog.info? 47).map (fun i => (i.zero, i.size, i.bytes)) = some (some (.agg #[.int .i64 0, .int .i64 0, .slice none 0 0, .bool false]), 4, 48) := by kernel_rfl

set_option maxHeartbeats 1000000 in
theorem take_close (T B0 : Nat) (vsl : Value) (t : TakeS) (w : World) (hT : B0 ≤ T) (hi : TkInv w B0 T vsl t) (h0 : 0 < t.subs.length) (hn : t.subs.length ≤ 1000) (hs : ∀ s ∈ t.subs, s.segs.length ≤ 1000) :
    Calls Try.prog 31 #[.pointer (some ⟨T, 0, none⟩), .int .i64 5] w fun e w' => e = .returned (.tuple #[]) ∧ TkInv w' B0 T vsl (takeS t 5) ∧ Below B0 w w' := by
  obtain ⟨subs, ⟨x, y⟩, rest⟩ := t
  obtain ⟨a, n, c, sv, hB, hnc, hcm, hP, hO⟩ := hi
  rcases hO with ⟨rfl, _⟩ | ⟨front, ⟨⟨sx, sy⟩, segs, cl⟩, fv, lv, B, rfl, hO⟩
  · simp at h0
  obtain ⟨g, cap, rfl, hg1, hg2, hg3, hg4, c0, c1, c2, c3, cf⟩ := hO.where_
  obtain ⟨i0, hi, hz0, hz1, hz2⟩ := info_parts infoSeg
  have k1 := Lib.hid (fun W => takes_at (v := 5) (k := 0) rfl W)
  have g1 : w.cell? ⟨T, 1, none⟩ = some (.slice a n c) := hB.cell 1
  have hlT := hB.lt
  have kf := hB.unfrozen
  unfold maxLen at hcm
  go_enter Try.func31, Try.ntmps31
  go_wp2_with fail
  refine Reg.wp_region_all (by first | exact hb2 | exact Below.refl _ _) (by kernel_rfl) (by kernel_rfl) ?_
  repeat (go_big_quiet_step ((first | (go_at_call 14; exact Reg.calls_aft (k1.out _)))))
  refine wpQuiet_nil ?_
  intro xs hxs
  have hbx := Reg.class_below hxs
  clear hxs
  obtain ⟨hc, hf⟩ := bcell hbx
  go_wp2_with fail
  have hB2 : Blk (xs.setCell ⟨T, 1, none⟩ (.slice a n c)) T _ _ := (hB.grow hbx).set 1 (.slice a n c)
  have hO2 := (hO.grow hbx).far (i := 1) (hB.grow hbx) (by decide) (by decide) (.slice a n c)
  have hx2 : Below B0 w (xs.setCell ⟨T, 1, none⟩ (.slice a n c)) := (hbx.mono (by omega)).setCell (by simpa using hT) _
  refine (last_any T g front.length cap _ _ _ _ _ hB2 (by simp at hn; omega)).mono ?_
  rintro e w2 ⟨rfl, hb2⟩
  have hB3 := hB2.grow hb2
  have hO3 := hO2.grow hb2
  have hx3 : Below B0 w w2 := hx2.trans (hb2.mono (by have := hbx.size; simp; omega))
  clear hB2 hO2 hx2 hb2 hc hf hbx c0 c1 c2 c3 cf kf hB hO g1
  simp only [Array.setIfInBounds] at hB3
  have hlT3 := hB3.lt
  obtain ⟨g', cap', eg, -, hg2', -, -, c0, c1, c2, c3, cf⟩ := hO3.where_
  simp only [Value.slice.injEq, Option.some.injEq, Addr.mk.injEq] at eg
  obtain ⟨⟨rfl, -⟩, -, rfl⟩ := eg
  simp only at c0 c1 c2 c3
  have hgT := hO3.apart hB3 (by decide)
  have hTg := Ne.symm hgT
  have g3 : w2.cell? ⟨T, 3, none⟩ = some (.int .i64 x) := hB3.cell 3
  have g4 : w2.cell? ⟨T, 4, none⟩ = some (.int .i64 y) := hB3.cell 4
  have hOm := hO3.mark (by decide)
  have hBm : Blk (w2.setCell ⟨g, front.length * 4 + 3, none⟩ (.bool true)) T _ _ := hB3.far hgT _
  have hxm : Below B0 w (w2.setCell ⟨g, front.length * 4 + 3, none⟩ (.bool true)) := hx3.setCell (by simpa using hg1) _
  go_wp2_with fail
  have hcase : (x = sx ∧ y = sy) ∨ ((x == sx) = false ∧ ¬ (x, y) = (sx, sy)) ∨ ((x == sx) = true ∧ (y == sy) = false ∧ ¬ (x, y) = (sx, sy)) := by
    by_cases h1 : x = sx <;> by_cases h2 : y = sy <;> simp [h1, h2]
  rcases hcase with ⟨rfl, rfl⟩ | hne
  · refine Reg.wp_region_all (by first | exact hb2 | exact Below.refl _ _) (by kernel_rfl) (by kernel_rfl) ?_
    repeat (go_big_quiet_step ((first | fail)))
    refine wpQuiet_nil ?_
    intro xs hxs
    have hbx := Reg.class_below hxs
    clear hxs
    go_wp2_with fail
    have hxe := hxm.trans (hbx.mono (by have := hxm.size; omega))
    refine bodyPost_ret (v := .tuple #[]) (by simp [results, Try.results31, go_sem]) rfl ⟨rfl, ?_, hxe⟩
    refine ⟨a, n, c, _, hBm.grow hbx, hnc, by unfold maxLen; omega, hP.below hxe, .inr ⟨front, _, fv, lv, B, ?_, hOm.grow hbx⟩⟩
    rw [takeS_close]
    simp only [modLast_snoc, closeS]
    simp
  · have hne' : Hid (¬ (x, y) = (sx, sy)) := Lib.hid (by rcases hne with h | h <;> simp_all)
    rcases hne with ⟨h1, -⟩ | ⟨h1, h2, -⟩
    all_goals
      refine Reg.wp_region_all (by first | exact hb2 | exact Below.refl _ _) (by kernel_rfl) (by kernel_rfl) ?_
      repeat (go_big_quiet_step ((first | fail)))
      refine wpQuiet_nil ?_
      intro xs hxs
      have hbx := Reg.class_below hxs
      clear hxs
      have hxe := hxm.trans (hbx.mono (by have := hxm.size; omega))
      have hBx := hBm.grow hbx
      have hOx := hOm.grow hbx
      clear hxm hBm hOm hbx hB3 hO3 hx3 c0 c1 c2 c3 cf g3 g4
      obtain ⟨g', cap', eg, -, hg2', -, -, c0, c1, c2, c3, cf⟩ := hOx.where_
      simp only [Value.slice.injEq, Option.some.injEq, Addr.mk.injEq] at eg
      obtain ⟨⟨rfl, -⟩, -, rfl⟩ := eg
      simp only at c0 c1 c2 c3
      go_wp2_with fail
      refine Reg.wp_region_softO 11 (by first | exact hb2 | exact Below.refl _ _) (by kernel_rfl) ⟨⟨_, rfl⟩, rfl⟩ (fun _ _ _ _ h => h) (by kernel_rfl) (fun u => ?_)
      simp only [List.take, List.drop]
      repeat (go_big_quiet_step ((first | (go_at_call 42; exact Reg.calls_aft (line_any T _ _ _ x y _ _ _ (hBx.grow (Reg.aft_below _ _ _)))))))
      refine wpQuiet_nil ?_
      intro xs hxs
      have hbx := Reg.class_below hxs
      clear hxs
      go_wp2_with fail
      refine ⟨rfl, (Below.refl _ _).alloc (Nat.le_refl _) _, fun z hz => ?_⟩
      have hNz : Blk z xs.heap.size 50 (segV (lineS (x, y) (sx, sy))).toArray := (Blk.new xs _ _).grow hz
      have hBz := ((hBx.grow hbx).alloc _).grow hz
      have hOz := ((hOx.grow hbx).grow ((Below.refl _ _).alloc (Nat.le_refl _) _)).grow hz
      have hxz := hxe.trans ((hbx.trans (((Below.refl _ _).alloc hbx.size _).trans (hz.mono (by have := hbx.size; simp; omega)))).mono (by have := hxe.size; omega))
      have hszz : B ≤ z.heap.size := hOz.hsize
      clear hbx hz hBx hOx hxe c0 c1 c2 c3 cf
      have hsl := hs _ (List.mem_append_right _ List.mem_cons_self)
      simp only at hsl
      have hlz : z.ownsRow B 50 9 lv segs.length (segsV segs) := hOz.hlast
      refine wpList_append_own _ rfl _ _ 45 rfl B 50 i0 _ 9 72 Try.underlying45 hi hz0 hz1 hz2 rfl (by decide) _ _ _ rfl hlz ⟨xs.heap.size, 0, none⟩ 1 1 (segV (lineS (x, y) (sx, sy))) rfl rfl hNz.news (segV_one _) (by unfold maxLen; omega) (by omega) hszz ?_
      intro lv' w4 hown4 hg4 _
      obtain ⟨a4, c4', rfl, _⟩ := own_slice hown4
      obtain ⟨d2, df, dg, dg'⟩ := hOz.grown_cell (by decide) hg4
      have hgT := hOz.apart hBz (by decide)
      have hB4 := hBz.grown hg4 (own_apart_blk hlz hBz (by decide))
      have hO4 := hOz.put (s := lineS (x, y) (sx, sy)) (by decide) hown4 hg4
      have hx4 : Below B0 w w4 := hxz.grown hg4 (by have := hxz.size; omega) (fun k hk => by have := (hlz.lt k hk).1; have := hOz.hbase; omega)
      clear hown4 hg4 hNz hlz hBz hOz hxz
      go_wp2_with fail
      refine bodyPost_ret (v := .tuple #[]) (by simp [results, Try.results31, go_sem]) rfl ⟨rfl, ?_, ?_⟩
      · refine ⟨a, n, c, _, hB4.far hgT _, hnc, by unfold maxLen; omega, hP.below (hx4.setCell (by simpa using hg1) _), .inr ⟨front, _, fv, _, B, ?_, hO4⟩⟩
        rw [takeS_close]
        simp only [modLast_snoc, closeS]
        rw [if_neg hne'.out]
        rfl
      · exact hx4.setCell (by simpa using hg1) _
end Go.Proofs.Ytjkpbkcbimojoaa
