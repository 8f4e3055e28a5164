/- Contract of the taker: a verb that moves. -/
import Derived.Test.YtjkpbkcbimojoaaPg
namespace Go.Proofs.Ytjkpbkcbimojoaa
open Go.RowKit

theorem OwnT.row {w : World} {B0 : Nat} {tS tG : TypeId} {sv : Value} {subs : List SubS} (h : OwnT w B0 tS tG sv subs) (hb : B0 ≤ w.heap.size) (ht : tS ≠ tG) : ∃ xs, w.ownsRow B0 tS 4 sv subs.length xs ∧
    ∀ (w' : World) (v' : Value) (p : Int × Int), w'.ownsRow B0 tS 4 v' (subs.length + 1) (xs ++ [.int .i64 p.1, .int .i64 p.2, .slice none 0 0, .bool false]) → w.grownBy w' sv.ownBlock → OwnT w' B0 tS tG v' (subs ++ [⟨p, [], false⟩]) := by
  rcases h with ⟨rfl, rfl⟩ | ⟨front, last, fv, lv, B, rfl, hO⟩
  · refine ⟨[], World.ownsRow_nil _ _ _ _, fun w' v' p hr hg => .inr ⟨[], _, [], _, w'.heap.size, rfl, OwnF.begin (Nat.le_trans hb hg.size) hr⟩⟩
  · refine ⟨subRow (front ++ [last]) (fv ++ [lv]), by simpa using hO.hrow, fun w' v' p hr hg => .inr ⟨front ++ [last], _, fv ++ [lv], _, w'.heap.size, rfl, hO.next ht ?_ hg⟩⟩
    simpa using hr
theorem OwnT.grow {w w' : World} {B0 : Nat} {tS tG : TypeId} {sv : Value} {subs : List SubS} (h : OwnT w B0 tS tG sv subs) (hb : Below w.heap.size w w') : OwnT w' B0 tS tG sv subs :=
  h.imp id fun ⟨front, last, fv, lv, B, e, hO⟩ => ⟨front, last, fv, lv, B, e, hO.grow hb⟩
theorem OwnT.far {w : World} {B0 : Nat} {tS tG : TypeId} {sv : Value} {subs : List SubS} {t : TypeId} {b i : Nat} {cs : Array Value} (h : OwnT w B0 tS tG sv subs) (hB : Blk w b t cs) (h1 : t ≠ tS) (h2 : t ≠ tG) (u : Value) :
    OwnT (w.setCell ⟨b, i, none⟩ u) B0 tS tG sv subs := h.imp id fun ⟨front, last, fv, lv, B, e, hO⟩ => ⟨front, last, fv, lv, B, e, hO.far hB h1 h2 u⟩

theorem RPts.from {w : World} {B b off n : Nat} {l : List (Int × Int)} (h : RPts w B (some ⟨b, off, none⟩) n l) (k : Nat) : RPts w B (some ⟨b, off + k * 2, none⟩) (n - k) (l.drop k) := by
  refine ⟨by rw [List.length_drop, h.1], fun j p hj => ?_⟩
  rw [List.getElem?_drop] at hj
  obtain ⟨b', off', e, h1, h2, h3⟩ := h.2 (k + j) p hj
  simp only [Option.some.injEq, Addr.mk.injEq] at e
  obtain ⟨rfl, rfl, _⟩ := e
  refine ⟨b, off + k * 2, rfl, h1, ?_, ?_⟩
  · rw [show off + k * 2 + j * 2 = off + (k + j) * 2 by omega]; exact h2
  · rw [show off + k * 2 + j * 2 + 1 = off + (k + j) * 2 + 1 by omega]; exact h3
theorem RPts.none_left {w : World} {B n : Nat} {a : Option Addr} {l : List (Int × Int)} (h : l.length = n) (hn : n = 0) : RPts w B a n l :=
  ⟨h, fun j p hj => by rw [List.length_eq_zero_iff.1 (h.trans hn)] at hj; simp at hj⟩

set_option maxHeartbeats 1000000 in
theorem take_move (T B0 : Nat) (vsl : Value) (t : TakeS) (w : World) (hT : B0 ≤ T) (hi : TkInv w B0 T vsl t) (h0 : 0 < t.rest.length) (hn : t.subs.length ≤ 1000) :
    Calls Try.prog 31 #[.pointer (some ⟨T, 0, none⟩), .int .i64 1] w fun e w' => e = .returned (.tuple #[]) ∧ TkInv w' B0 T vsl (takeS t 1) ∧ Below B0 w w' := by
  obtain ⟨subs, ⟨x, y⟩, rest⟩ := t
  obtain ⟨a, n, c, sv, hB, hnc, hcm, hP, hO⟩ := hi
  obtain ⟨⟨p, q⟩, rest, rfl⟩ : ∃ p l, rest = p :: l := by cases rest with | nil => simp at h0 | cons p l => exact ⟨p, l, rfl⟩
  obtain ⟨b, off, rfl, hbB, c0, c1⟩ := hP.2 0 (p, q) rfl
  have hn1 := hP.1
  obtain ⟨i0, hi, hz0, hz1, hz2⟩ := info_parts infoSub
  have k1 := Lib.hid (fun W => takes_at (v := 1) (k := 1) rfl W)
  have g1 : w.cell? ⟨T, 1, none⟩ = some (.slice (some ⟨b, off, none⟩) n c) := hB.cell 1
  have hlT := hB.lt
  have kf := hB.unfrozen
  simp only [List.length_cons] at hn1
  unfold maxLen at hcm
  simp only [Nat.zero_mul, Nat.add_zero] at c0 c1
  have HP := Lib.hid hP
  have HN := Lib.hid hn1
  have h1n : 1 ≤ n := by omega
  have hbT : b ≠ T := by omega
  have hTb : T ≠ b := by omega
  have hbw : b < w.heap.size := by omega
  have HO := Lib.hid hO
  clear hn1 hP hO
  go_enter Try.func31, Try.ntmps31
  go_wp2_with fail
  refine Reg.wp_region_all (by first | exact hb2 | exact Below.refl _ _) (by kernel_rfl) (by kernel_rfl) ?_
  repeat (go_big_quiet_step ((first | (go_at_call 14; exact Reg.calls_aft (k1.out _)))))
  refine wpQuiet_nil ?_
  intro xs hxs
  have hbx := Reg.class_below hxs
  clear hxs
  obtain ⟨hc, hf⟩ := bcell hbx
  go_wp2_with fail
  · skip
    have hW2 : Below B0 w (xs.setCell ⟨T, 1, none⟩ (.slice (some ⟨b, off, none⟩) (n - 1) (0))) := (hbx.mono (by omega)).setCell (by simpa using hT) _
    have hB2 := (hB.grow hbx).set 1 (.slice (some ⟨b, off, none⟩) (n - 1) (0))
    have HO2 := Lib.hid ((HO.out.grow hbx).far (i := 1) (hB.grow hbx) (by decide) (by decide) (.slice (some ⟨b, off, none⟩) (n - 1) (0)))
    simp only [Array.setIfInBounds] at hB2
    have hlT2 := hB2.lt
    have g2 : (xs.setCell ⟨T, 1, none⟩ (.slice (some ⟨b, off, none⟩) (n - 1) (0))).cell? ⟨T, 2, none⟩ = some sv := hB2.cell 2
    have hsz1 := hbx.size
    have hbxs : b < xs.heap.size := by omega
    have hTxs : T < xs.heap.size := by omega
    have hf2 := hB2.unfrozen
    refine Reg.wp_region_softO 9 (by first | exact hb2 | exact Below.refl _ _) (by kernel_rfl) ⟨⟨_, rfl⟩, rfl⟩ (fun _ _ _ _ h => h) (by kernel_rfl) (fun u => ?_)
    simp only [List.take, List.drop]
    repeat (go_big_quiet_step ((first | fail)))
    refine wpQuiet_nil ?_
    intro xs hxs
    have hbx := Reg.class_below hxs
    clear hxs
    have hs2 := hbx.size
    simp only [World.size_setCell] at hs2
    go_wp2_with fail
    refine ⟨rfl, (Below.refl _ _).alloc (Nat.le_refl _) _, fun z hz => ?_⟩
    have hNz : Blk z xs.heap.size 47 [.int .i64 p, .int .i64 q, .slice none 0 0, .bool false].toArray := (Blk.new xs _ _).grow hz
    have hBz := ((hB2.grow hbx).alloc _).grow hz
    have hOz := ((HO2.out.grow hbx).grow ((Below.refl _ _).alloc (Nat.le_refl _) _)).grow hz
    have hxz : Below B0 w z := hW2.trans ((hbx.trans (((Below.refl _ _).alloc hbx.size _).trans (hz.mono (by have := hbx.size; simp; omega)))).mono (by have := hW2.size; omega))
    obtain ⟨rs, hrs, hrn⟩ := hOz.row (by have := hxz.size; omega) (by decide)
    have HRz := Lib.hid hrs
    have HRN := Lib.hid hrn
    clear hbx hz hB2 hW2 hf2 g2 hOz hrs hrn HO2
    refine wpList_append_own _ rfl _ _ 28 rfl B0 47 i0 _ 4 48 Try.underlying28 hi hz0 hz1 hz2 rfl (by decide) _ _ _ rfl HRz.out ⟨xs.heap.size, 0, none⟩ 1 1 [.int .i64 p, .int .i64 q, .slice none 0 0, .bool false] rfl rfl hNz.news (by simp [Value.oneCell']) (by unfold maxLen; omega) (by omega) (by have := hxz.size; omega) ?_
    intro sv' w4 hown4 hg4 _
    obtain ⟨a4, c4', rfl, _⟩ := own_slice hown4
    have hB4 := hBz.grown hg4 (own_apart_blk HRz.out hBz (by decide))
    have hx4 : Below B0 w w4 := hxz.grown hg4 (by have := hxz.size; omega) (fun k hk => (HRz.out.lt k hk).1)
    have hO4 := HRN.out w4 _ (p, q) hown4 hg4
    have k0 : w4.cell? ⟨b, off, none⟩ = some (.int .i64 p) := (hx4.cell (p := ⟨b, off, none⟩) hbB).trans c0
    have k1' : w4.cell? ⟨b, off + 1, none⟩ = some (.int .i64 q) := (hx4.cell (p := ⟨b, off + 1, none⟩) hbB).trans c1
    have kf4 := hB4.unfrozen
    have hlT4 := hB4.lt
    have e2 : w4.cell? ⟨T, 2, none⟩ = some sv := hB4.cell 2
    have e3 : w4.cell? ⟨T, 3, none⟩ = some (.int .i64 x) := hB4.cell 3
    have e4 : w4.cell? ⟨T, 4, none⟩ = some (.int .i64 y) := hB4.cell 4
    have HO4 := Lib.hid hO4
    clear hown4 hg4 hNz HRz HRN hBz hxz hO4
    go_wp2_with fail
    have hB5 := hB4.set 2 (.slice a4 (subs.length + 1) c4')
    have hB6 := hB5.set 3 (.int .i64 p)
    have hB7 := hB6.set 4 (.int .i64 q)
    have hO7 := ((HO4.out.far (i := 2) hB4 (by decide) (by decide) (.slice a4 (subs.length + 1) c4')).far (i := 3) hB5 (by decide) (by decide) (.int .i64 p)).far (i := 4) hB6 (by decide) (by decide) (.int .i64 q)
    have hx7 := ((hx4.setCell (p := ⟨T, 2, none⟩) (by simpa using hT) (.slice a4 (subs.length + 1) c4')).setCell (p := ⟨T, 3, none⟩) (by simpa using hT) (.int .i64 p)).setCell (p := ⟨T, 4, none⟩) (by simpa using hT) (.int .i64 q)
    refine bodyPost_end (v := .tuple #[]) (by simp [results, Try.results31, go_sem]) rfl ⟨rfl, ⟨_, _, _, _, hB7, ?_, ?_, RPts.below ?_ hx7, hO7⟩, hx7⟩
    · omega
    · unfold maxLen; omega
    · exact RPts.none_left (by have := HN.out; simp [takeS_move]; omega) (by omega)
  · skip
    have hW2 : Below B0 w (xs.setCell ⟨T, 1, none⟩ (.slice (some ⟨b, off + 2, none⟩) (n - 1) (c - 1))) := (hbx.mono (by omega)).setCell (by simpa using hT) _
    have hB2 := (hB.grow hbx).set 1 (.slice (some ⟨b, off + 2, none⟩) (n - 1) (c - 1))
    have HO2 := Lib.hid ((HO.out.grow hbx).far (i := 1) (hB.grow hbx) (by decide) (by decide) (.slice (some ⟨b, off + 2, none⟩) (n - 1) (c - 1)))
    simp only [Array.setIfInBounds] at hB2
    have hlT2 := hB2.lt
    have g2 : (xs.setCell ⟨T, 1, none⟩ (.slice (some ⟨b, off + 2, none⟩) (n - 1) (c - 1))).cell? ⟨T, 2, none⟩ = some sv := hB2.cell 2
    have hsz1 := hbx.size
    have hbxs : b < xs.heap.size := by omega
    have hTxs : T < xs.heap.size := by omega
    have hf2 := hB2.unfrozen
    refine Reg.wp_region_softO 9 (by first | exact hb2 | exact Below.refl _ _) (by kernel_rfl) ⟨⟨_, rfl⟩, rfl⟩ (fun _ _ _ _ h => h) (by kernel_rfl) (fun u => ?_)
    simp only [List.take, List.drop]
    repeat (go_big_quiet_step ((first | fail)))
    refine wpQuiet_nil ?_
    intro xs hxs
    have hbx := Reg.class_below hxs
    clear hxs
    have hs2 := hbx.size
    simp only [World.size_setCell] at hs2
    go_wp2_with fail
    refine ⟨rfl, (Below.refl _ _).alloc (Nat.le_refl _) _, fun z hz => ?_⟩
    have hNz : Blk z xs.heap.size 47 [.int .i64 p, .int .i64 q, .slice none 0 0, .bool false].toArray := (Blk.new xs _ _).grow hz
    have hBz := ((hB2.grow hbx).alloc _).grow hz
    have hOz := ((HO2.out.grow hbx).grow ((Below.refl _ _).alloc (Nat.le_refl _) _)).grow hz
    have hxz : Below B0 w z := hW2.trans ((hbx.trans (((Below.refl _ _).alloc hbx.size _).trans (hz.mono (by have := hbx.size; simp; omega)))).mono (by have := hW2.size; omega))
    obtain ⟨rs, hrs, hrn⟩ := hOz.row (by have := hxz.size; omega) (by decide)
    have HRz := Lib.hid hrs
    have HRN := Lib.hid hrn
    clear hbx hz hB2 hW2 hf2 g2 hOz hrs hrn HO2
    refine wpList_append_own _ rfl _ _ 28 rfl B0 47 i0 _ 4 48 Try.underlying28 hi hz0 hz1 hz2 rfl (by decide) _ _ _ rfl HRz.out ⟨xs.heap.size, 0, none⟩ 1 1 [.int .i64 p, .int .i64 q, .slice none 0 0, .bool false] rfl rfl hNz.news (by simp [Value.oneCell']) (by unfold maxLen; omega) (by omega) (by have := hxz.size; omega) ?_
    intro sv' w4 hown4 hg4 _
    obtain ⟨a4, c4', rfl, _⟩ := own_slice hown4
    have hB4 := hBz.grown hg4 (own_apart_blk HRz.out hBz (by decide))
    have hx4 : Below B0 w w4 := hxz.grown hg4 (by have := hxz.size; omega) (fun k hk => (HRz.out.lt k hk).1)
    have hO4 := HRN.out w4 _ (p, q) hown4 hg4
    have k0 : w4.cell? ⟨b, off, none⟩ = some (.int .i64 p) := (hx4.cell (p := ⟨b, off, none⟩) hbB).trans c0
    have k1' : w4.cell? ⟨b, off + 1, none⟩ = some (.int .i64 q) := (hx4.cell (p := ⟨b, off + 1, none⟩) hbB).trans c1
    have kf4 := hB4.unfrozen
    have hlT4 := hB4.lt
    have e2 : w4.cell? ⟨T, 2, none⟩ = some sv := hB4.cell 2
    have e3 : w4.cell? ⟨T, 3, none⟩ = some (.int .i64 x) := hB4.cell 3
    have e4 : w4.cell? ⟨T, 4, none⟩ = some (.int .i64 y) := hB4.cell 4
    have HO4 := Lib.hid hO4
    clear hown4 hg4 hNz HRz HRN hBz hxz hO4
    go_wp2_with fail
    have hB5 := hB4.set 2 (.slice a4 (subs.length + 1) c4')
    have hB6 := hB5.set 3 (.int .i64 p)
    have hB7 := hB6.set 4 (.int .i64 q)
    have hO7 := ((HO4.out.far (i := 2) hB4 (by decide) (by decide) (.slice a4 (subs.length + 1) c4')).far (i := 3) hB5 (by decide) (by decide) (.int .i64 p)).far (i := 4) hB6 (by decide) (by decide) (.int .i64 q)
    have hx7 := ((hx4.setCell (p := ⟨T, 2, none⟩) (by simpa using hT) (.slice a4 (subs.length + 1) c4')).setCell (p := ⟨T, 3, none⟩) (by simpa using hT) (.int .i64 p)).setCell (p := ⟨T, 4, none⟩) (by simpa using hT) (.int .i64 q)
    refine bodyPost_end (v := .tuple #[]) (by simp [results, Try.results31, go_sem]) rfl ⟨rfl, ⟨_, _, _, _, hB7, ?_, ?_, RPts.below ?_ hx7, hO7⟩, hx7⟩
    · omega
    · unfold maxLen; omega
    · exact HP.out.from 1
end Go.Proofs.Ytjkpbkcbimojoaa
