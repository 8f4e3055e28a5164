/- PieceBox: what a piece has lies in its box; each side of the box is reached by a corner; of one corner alone it is that. -/
import Derived.Test.YtljmhenhibhbfaaKi
import Derived.Test.YtljmhenhibhbfaaOpenc
import Derived.Laws.StructEq
import Derived.ChangeKeysEq
import Derived.Lib.SmallJoins
import Derived.Deep.DeepCutAuto
import Derived.Deep.CutRange
namespace Go.Proofs.Ytljmhenhibhbfaa
open Go.RowKit

theorem bools_eql (w : World) : (Op.equalIn 10000 37 (.agg #[.bool true, .bool true, .bool true, .bool true]) (.agg #[.bool true, .bool true, .bool true, .bool true])).run Try.prog w = .ok true w := by
  obtain ⟨i, hi⟩ : ∃ i, Try.prog.info? 4 = some i := by
    cases h : Try.prog.info? 4 with
    | some i => exact ⟨i, rfl⟩
    | none => exact absurd h (by
        have : (Try.prog.info? 4).isSome = true := by kernel_rfl
        intro h2
        rw [h2] at this
        cases this)
  rw [show (10000 : Nat) = 9999 + 1 from rfl, run_equalIn_array w 9999 _ _ Try.underlying37 hi, show Try.prog.cellsOf 4 = 1 by kernel_rfl]
  simp [Op.eqItems, List.range, List.range.loop, go_sem]

/-- Whether one of the first k corners is so. -/
def reachB (l : List (Int × Int)) (t : Int × Int → Bool) (k : Nat) : Bool := (l.take k).any t
theorem reach_succ (l : List (Int × Int)) (t : Int × Int → Bool) (k : Nat) (hk : k < l.length) : reachB l t (k + 1) = (reachB l t k || t l[k]) := by
  unfold reachB
  rw [take_snoc l k hk, List.any_append]
  simp
theorem reach_all {l : List (Int × Int)} {t : Int × Int → Bool} {q : Int × Int} (hq : q ∈ l) (h : t q = true) {n : Nat} (hn : l.length ≤ n) : reachB l t n = true := by
  unfold reachB
  rw [List.take_of_length_le hn, List.any_eq_true]
  exact ⟨q, hq, h⟩
def inB (b : BoxT) (q : Int × Int) : Bool := decide (b.1.1 ≤ q.1) && (decide (q.1 ≤ b.2.1) && (decide (b.1.2 ≤ q.2) && decide (q.2 ≤ b.2.2)))

def BxS (W : World) (R : Nat) (t : TypeId) (w7 : World) (r0 r1 r2 r3 : Bool) : Prop := Blk W R t #[.bool r0, .bool r1, .bool r2, .bool r3] ∧ Below R w7 W
abbrev tX (x : Int) (p : Int × Int) : Bool := p.1 == x
abbrev tY (y : Int) (p : Int × Int) : Bool := p.2 == y

set_option maxRecDepth 100000 in
set_option maxHeartbeats 4000000 in
theorem lbox_out (a : Option Addr) (n c : Nat) (l : List (Int × Int)) (qx qy : Int) (w : World) (hn : n ≤ 9223372036854775807) (hl : RPts w w.heap.size a n l) (ho : bndB l = false ∨ bndB [(qx, qy)] = false ∨ n = 0) :
    Calls Try.prog 5 #[.slice a n c, .agg #[.int .i64 qx, .int .i64 qy]] w fun e w' => e = .returned (.bool true) ∧ Below w.heap.size w w' := by
  have hxa : Below w.heap.size w (w.alloc (.cells #[.int .i64 qx, .int .i64 qy] 23)) := by (repeat (first | exact Below.refl _ _ | assumption | refine Below.drew ?_ | refine Below.setCell ?_ (by simp; try omega) _ | refine Below.alloc ?_ (by simp; try omega) _))
  have KB := Lib.hid (fun W (hW : Below w.heap.size w W) => bounded_any a n c l W hn (hl.grow hW))
  have KB1 := Lib.hid (fun W a (hr : RPts W W.heap.size a 1 [(qx, qy)]) => bounded_any a 1 1 _ W (by omega) hr)
  have hQ := Blk.new w 23 #[.int .i64 qx, .int .i64 qy]
  cases hbd : bndB l
  · rw [hbd] at KB
    clear hbd ho
    go_enter Try.func5, Try.ntmps5
    go_wp2_with fail
    refine (KB.out _ hxa).mono ?_
    rintro e w2 ⟨rfl, hb2⟩
    have hx := hxa.trans (hb2.mono hxa.size)
    go_wp2_with fail
    refine (shown_any _).mono ?_
    rintro e w3 ⟨rfl, hb3⟩
    have hx3 := hx.trans (hb3.mono hx.size)
    go_wp2_with fail
    go_ret
    exact ⟨rfl, hx3⟩
  · rw [hbd] at KB ho
    cases hbq : bndB [(qx, qy)]
    · rw [hbq] at KB1
      clear hbd hbq ho
      go_enter Try.func5, Try.ntmps5
      go_wp2_with fail
      refine (KB.out _ hxa).mono ?_
      rintro e w2 ⟨rfl, hb2⟩
      have hx := hxa.trans (hb2.mono hxa.size)
      have hQ2 := hQ.grow hb2
      have eQ := hQ2.cell
      have lQ := hQ2.lt
      go_wp2_with fail
      refine (KB1.out _ _ (by exact RPts.new (by simp) (fun k p hk => by match k, hk with | 0, hk => (simp at hk; subst hk; simp [go_sem])))).mono ?_
      rintro e w2b ⟨rfl, hb2b⟩
      have hxb := (hx.alloc hx.size (.cells #[.int .i64 qx, .int .i64 qy] 23)).trans (hb2b.mono (by have := hx.size; simp; omega))
      go_wp2_with fail
      refine (shown_any _).mono ?_
      rintro e w3 ⟨rfl, hb3⟩
      have hx3 := hxb.trans (hb3.mono hxb.size)
      go_wp2_with fail
      go_ret
      exact ⟨rfl, hx3⟩
    · rw [hbq] at KB1 ho
      have hn0 : n = 0 := by rcases ho with h | h | h; cases h; cases h; exact h
      subst hn0
      clear hbd hbq ho
      go_enter Try.func5, Try.ntmps5
      go_wp2_with fail
      refine (KB.out _ hxa).mono ?_
      rintro e w2 ⟨rfl, hb2⟩
      have hx := hxa.trans (hb2.mono hxa.size)
      have hQ2 := hQ.grow hb2
      have eQ := hQ2.cell
      have lQ := hQ2.lt
      go_wp2_with fail
      refine (KB1.out _ _ (by exact RPts.new (by simp) (fun k p hk => by match k, hk with | 0, hk => (simp at hk; subst hk; simp [go_sem])))).mono ?_
      rintro e w2b ⟨rfl, hb2b⟩
      have hxb := (hx.alloc hx.size (.cells #[.int .i64 qx, .int .i64 qy] 23)).trans (hb2b.mono (by have := hx.size; simp; omega))
      go_wp2_with fail
      refine (shown_any _).mono ?_
      rintro e w3 ⟨rfl, hb3⟩
      have hx3 := hxb.trans (hb3.mono hxb.size)
      go_wp2_with fail
      go_ret
      exact ⟨rfl, hx3⟩

set_option maxRecDepth 100000 in
set_option maxHeartbeats 8000000 in
theorem lbox_any (a : Option Addr) (n c : Nat) (l : List (Int × Int)) (qx qy : Int) (w : World) (hn : n ≤ 9223372036854775807) (hl : RPts w w.heap.size a n l) :
    Calls Try.prog 5 #[.slice a n c, .agg #[.int .i64 qx, .int .i64 qy]] w fun e w' => e = .returned (.bool true) ∧ Below w.heap.size w w' := by
  by_cases hbd : bndB l = false
  · exact lbox_out a n c l qx qy w hn hl (.inl hbd)
  by_cases hbq : bndB [(qx, qy)] = false
  · exact lbox_out a n c l qx qy w hn hl (.inr (.inl hbq))
  by_cases hn0 : n = 0
  · exact lbox_out a n c l qx qy w hn hl (.inr (.inr hn0))
  simp only [Bool.not_eq_false] at hbd hbq
  have hxa : Below w.heap.size w (w.alloc (.cells #[.int .i64 qx, .int .i64 qy] 23)) := by (repeat (first | exact Below.refl _ _ | assumption | refine Below.drew ?_ | refine Below.setCell ?_ (by simp; try omega) _ | refine Below.alloc ?_ (by simp; try omega) _))
  have KB := Lib.hid (fun W (hW : Below w.heap.size w W) => bounded_any a n c l W hn (hl.grow hW))
  have KB1 := Lib.hid (fun W a (hr : RPts W W.heap.size a 1 [(qx, qy)]) => bounded_any a 1 1 _ W (by omega) hr)
  rw [hbd] at KB
  rw [hbq] at KB1
  obtain ⟨hC, h16⟩ := bnd_near hbd
  have hnq : nearK (qx, qy) := (bnd_near hbq).1 _ (by simp)
  have HLL := Lib.hid hl.1
  have hn16 : n ≤ 16 := by rw [← HLL.out]; exact h16
  have hnb : ((n : Int) == 0) = false := by simpa using hn0
  have HL := Lib.hid hl
  have KX := Lib.hid (fun W (hW : Below w.heap.size w W) => box_any a n c l W (by omega) (hl.grow hW))
  have KH := Lib.hid (fun W (hW : Below w.heap.size w W) => has_any a n c l qx qy W (by omega) hC hnq (hl.grow hW))
  have HIN := Lib.hid (fun h => has_in (l := l) (q := (qx, qy)) (by rw [HLL.out]; omega) h)
  have HBX := Lib.hid (fun q (hq : q ∈ l) => box_all hq)
  have HMT := Lib.hid (box_met (l := l) (by rw [HLL.out]; omega))
  have hQ := Blk.new w 23 #[.int .i64 qx, .int .i64 qy]
  clear hl hC hnq hbd hbq h16
  generalize boxK l = bx at *
  generalize hasB l (qx, qy) = hs at *
  obtain ⟨⟨lx, ly⟩, ⟨ux, uy⟩⟩ := bx
  simp only at KX HBX HMT HIN
  go_enter Try.func5, Try.ntmps5
  go_wp2_with fail
  refine (KB.out _ hxa).mono ?_
  rintro e w2 ⟨rfl, hb2⟩
  have hx := hxa.trans (hb2.mono hxa.size)
  have hQ2 := hQ.grow hb2
  have eQ := hQ2.cell
  have lQ := hQ2.lt
  go_wp2_with fail
  refine (KB1.out _ _ (by exact RPts.new (by simp) (fun k p hk => by match k, hk with | 0, hk => (simp at hk; subst hk; simp [go_sem])))).mono ?_
  rintro e w3 ⟨rfl, hb3⟩
  have hx3 := (hx.alloc hx.size (.cells #[.int .i64 qx, .int .i64 qy] 23)).trans (hb3.mono (by have := hx.size; simp; omega))
  have hQ3 := (hQ2.alloc (.cells #[.int .i64 qx, .int .i64 qy] 23)).grow hb3
  clear eQ lQ hQ2 hx hb2 hb3 hQ KB KB1 hxa
  go_wp2_with fail
  refine (shown_any _).mono ?_
  rintro e w4 ⟨rfl, hb2⟩
  have hx4 := hx3.trans (hb2.mono hx3.size)
  have hQ4 := hQ3.grow hb2
  clear hx3 hQ3 hb2
  go_wp2_with fail
  refine (KX.out _ hx4).mono ?_
  rintro e w6 ⟨rfl, hb2⟩
  have hx6 := hx4.trans (hb2.mono hx4.size)
  have hQ6 := hQ4.grow hb2
  clear hx4 hQ4 hb2 KX
  go_wp2_with fail
  have fL := (Blk.new w6 23 #[.int .i64 lx, .int .i64 ly]).alloc (.cells #[.int .i64 ux, .int .i64 uy] 23)
  have fU := Blk.new (w6.alloc (.cells #[.int .i64 lx, .int .i64 ly] 23)) 23 #[.int .i64 ux, .int .i64 uy]
  rw [World.size_alloc] at fU
  have hx7 := (hx6.alloc hx6.size (.cells #[.int .i64 lx, .int .i64 ly] 23)).alloc (by have := hx6.size; simp; omega) (.cells #[.int .i64 ux, .int .i64 uy] 23)
  have fQ := (hQ6.alloc (.cells #[.int .i64 lx, .int .i64 ly] 23)).alloc (.cells #[.int .i64 ux, .int .i64 uy] 23)
  have hR7 : ((w6.alloc (.cells #[.int .i64 lx, .int .i64 ly] 23)).alloc (.cells #[.int .i64 ux, .int .i64 uy] 23)).heap.size = w6.heap.size + 1 + 1 := by simp
  generalize hw7 : (w6.alloc (.cells #[.int .i64 lx, .int .i64 ly] 23)).alloc (.cells #[.int .i64 ux, .int .i64 uy] 23) = w7 at *
  have hbR := (Below.refl w7.heap.size w7).alloc (Nat.le_refl _) (.cells #[.bool false, .bool false, .bool false, .bool false] 37)
  have fR := Blk.new w7 37 #[.bool false, .bool false, .bool false, .bool false]
  have hsw := hx6.size
  have hRw : w6.heap.size + 1 + 1 ≤ w7.heap.size := by omega
  have hWR : w.heap.size ≤ w6.heap.size + 1 + 1 := by omega
  have hLR : w6.heap.size < w6.heap.size + 1 + 1 := by omega
  have hUR : w6.heap.size + 1 < w6.heap.size + 1 + 1 := by omega
  have hQR : w.heap.size < w6.heap.size + 1 + 1 := by have := hQ6.lt; omega
  rw [hR7] at hbR fR
  have FL := Lib.hid fL
  have FU := Lib.hid fU
  have FQ := Lib.hid fQ
  have FR := Lib.hid fR
  have HB := Lib.hid hbR
  clear fL fU fQ fR hbR hQ6 hx6 hR7 hw7
  generalize hR : w6.heap.size + 1 + 1 = R at *
  go_loopw [8] (fun iv wr => ∃ k : Nat, k ≤ n ∧ iv = .int .i64 k ∧ BxS wr R 37 w7 (reachB l (tX lx) k) (reachB l (tX ux) k) (reachB l (tY ly) k) (reachB l (tY uy) k)) (fun iv _ => n - (intOf iv).toNat)
  case atStart => exact ⟨0, Nat.zero_le _, rfl, FR.out, HB.out⟩
  case round =>
    clear FR HB
    obtain ⟨k, hk, rfl, fR, hb⟩ := hrel
    by_cases hlt : k < n
    · have hlk : k < l.length := by rw [HLL.out]; exact hlt
      obtain ⟨vb, vo, hba, hvB, c1, c2⟩ := (HL.out.below hx7).2 k l[k] (List.getElem?_eq_getElem hlk)
      subst hba
      have HQ : Hid (∃ q, q = l[k]) := Lib.hid ⟨_, rfl⟩
      have hmem : l[k] ∈ l := List.getElem_mem hlk
      obtain ⟨⟨e1, e2⟩, ⟨e3, e4⟩⟩ := HBX.out _ hmem
      obtain ⟨q, hq⟩ : ∃ q, l[k] = q := ⟨_, rfl⟩
      rw [hq] at c1 c2 e1 e2 e3 e4
      obtain ⟨px, py⟩ := q
      simp only at c1 c2 e1 e2 e3 e4
      replace HQ := Lib.hid hq
      clear hq hmem
      have hvR : vb < R := by omega
      have C1 := Lib.hid c1
      have C2 := Lib.hid c2
      have d1 : ¬ px < lx := by omega
      have d2 : ¬ ux < px := by omega
      have d3 : ¬ py < ly := by omega
      have d4 : ¬ uy < py := by omega
      have hlt' : (k : Int) < n := by omega
      have p1 := (hb.cell (p := ⟨vb, vo + k * 2, none⟩) hvR).trans c1
      have p2 := (hb.cell (p := ⟨vb, vo + k * 2 + 1, none⟩) hvR).trans c2
      have eL := (FL.out.below hb hLR).cell
      have eU := (FU.out.below hb hUR).cell
      have sL := (FL.out.below hb hLR).lt
      have sU := (FU.out.below hb hUR).lt
      have hvw : vb < wr.heap.size := Nat.lt_trans hvR fR.lt
      clear c1 c2 e1 e2 e3 e4
      obtain ⟨wk, rfl⟩ : ∃ wk : World, wk = wr := ⟨_, rfl⟩
      go_wp2_with fail
      refine Reg.wp_region_R (fun _ => True) 38 rfl (by kernel_rfl) ?_
      refine Reg.wpR_hoist [0, 1, 2, 3, 4, 5, 6, 7] 30 rfl (by kernel_rfl) (by kernel_rfl) (fun u => ?_)
      simp only [Reg.pickL, List.drop]
      repeat (go_big_quiet_step ((first | fail)))
      refine wpQuiet_nil ?_
      rw [decide_eq_false (show ¬ px < lx by omega)]
      refine Reg.wpR_hoist [8, 9, 10, 11, 12, 13, 14, 15, 16] 21 rfl (by kernel_rfl) (by kernel_rfl) (fun u => ?_)
      simp only [Reg.pickL, List.drop]
      repeat (go_big_quiet_step ((first | fail)))
      refine wpQuiet_nil ?_
      rw [decide_eq_false (show ¬ ux < px by omega)]
      refine Reg.wpR_hoist [17, 18, 19, 20, 21, 22, 23, 24, 25, 26] 11 rfl (by kernel_rfl) (by kernel_rfl) (fun u => ?_)
      simp only [Reg.pickL, List.drop]
      repeat (go_big_quiet_step ((first | fail)))
      refine wpQuiet_nil ?_
      rw [decide_eq_false (show ¬ py < ly by omega)]
      refine Reg.wpR_hoist [27, 28, 29, 30, 31, 32, 33, 34, 35, 36] 1 rfl (by kernel_rfl) (by kernel_rfl) (fun u => ?_)
      simp only [Reg.pickL, List.drop]
      repeat (go_big_quiet_step ((first | fail)))
      refine wpQuiet_nil ?_
      rw [decide_eq_false (show ¬ uy < py by omega)]
      refine Reg.wpR_hoist [37] 0 rfl (by kernel_rfl) (by kernel_rfl) (fun u => ?_)
      simp only [Reg.pickL, List.drop]
      repeat (go_big_quiet_step ((first | fail)))
      refine wpQuiet_nil ?_
      refine Reg.wpR_end (by kernel_rfl) (fun xs hbx => ?_)
      replace hbx : Below wk.heap.size wk xs := hbx
      replace fR := fR.grow hbx
      replace hb := hb.trans (hbx.mono (Nat.le_trans hRw hb.size))
      clear p1 p2 eL eU sL sU hvw d1 d2 d3 d4 hbx
      go_upto_region 10 with (fail)
      go_cut [] from 79 to 91 (fun wx => BxS wx R 37 w7 (reachB l (tX lx) (k + 1)) (reachB l (tX ux) k) (reachB l (tY ly) k) (reachB l (tY uy) k))
      case first =>
        have HS := Lib.hid (reach_succ l (tX lx) k hlk)
        rw [HQ.out] at HS
        generalize reachB l (tX lx) k = r at *
        cases r
        · cases ht : (px == lx)
          · rw [show (tX lx) (px, py) = false from ht] at HS
            have eR := fR.cell
            have sR := fR.lt
            have eL := (FL.out.below hb hLR).cell
            have eU := (FU.out.below hb hUR).cell
            have sL := (FL.out.below hb hLR).lt
            have sU := (FU.out.below hb hUR).lt
            have d1 := (hb.cell (p := ⟨vb, vo + k * 2, none⟩) hvR).trans C1.out
            have d2 := (hb.cell (p := ⟨vb, vo + k * 2 + 1, none⟩) hvR).trans C2.out
            have hvw : vb < xs.heap.size := Nat.lt_trans hvR sR
            refine Reg.wp_region_E (fun _ => True) (fun j => decide (13 ≤ j)) 14 rfl (by kernel_rfl) ?_
            refine Reg.wpE_hoist [0, 1, 2, 3, 4, 5, 6, 7, 8, 9, 10, 11, 12] 1 rfl (by kernel_rfl) (by kernel_rfl) (by kernel_rfl) (fun u => ?_)
            simp only [Reg.pickL, List.drop]
            repeat (go_big_quiet_step ((first | fail)))
            refine wpQuiet_nil ?_
            clear eL eU eR sL sU sR d1 d2 hvw
            refine Reg.wpE_main 13 (by kernel_rfl) (fun x1 hN => ?_)
            simp only [Reg.pickL, List.drop]
            replace fR := fR.grow hN
            replace hb := hb.trans (Below.mono hN (Nat.le_trans hRw hb.size))
            clear hN
            have eR := fR.cell
            have sR := fR.lt
            have kR := fR.unfrozen
            go_wp2_with fail
            refine ⟨rfl, .inl rfl, ?_⟩
            clear eR sR kR
            replace hb := hb.setCell (p := ⟨R, 0, none⟩) (Nat.le_refl _) (.bool false)
            replace fR := fR.set 0 (.bool false)
            refine Reg.wpE_end (by kernel_rfl) (fun x2 hN => ?_)
            replace fR := fR.grow hN
            replace hb := hb.trans (Below.mono hN (Nat.le_trans hRw hb.size))
            clear hN
            go_wp2_with fail
            go_meet
            exact ⟨by rw [HS.out]; exact fR, hb⟩
          · rw [show (tX lx) (px, py) = true from ht] at HS
            have eR := fR.cell
            have sR := fR.lt
            have eL := (FL.out.below hb hLR).cell
            have eU := (FU.out.below hb hUR).cell
            have sL := (FL.out.below hb hLR).lt
            have sU := (FU.out.below hb hUR).lt
            have d1 := (hb.cell (p := ⟨vb, vo + k * 2, none⟩) hvR).trans C1.out
            have d2 := (hb.cell (p := ⟨vb, vo + k * 2 + 1, none⟩) hvR).trans C2.out
            have hvw : vb < xs.heap.size := Nat.lt_trans hvR sR
            refine Reg.wp_region_E (fun _ => True) (fun j => decide (13 ≤ j)) 14 rfl (by kernel_rfl) ?_
            refine Reg.wpE_hoist [0, 1, 2, 3, 4, 5, 6, 7, 8, 9, 10, 11, 12] 1 rfl (by kernel_rfl) (by kernel_rfl) (by kernel_rfl) (fun u => ?_)
            simp only [Reg.pickL, List.drop]
            repeat (go_big_quiet_step ((first | fail)))
            refine wpQuiet_nil ?_
            clear eL eU eR sL sU sR d1 d2 hvw
            refine Reg.wpE_main 13 (by kernel_rfl) (fun x1 hN => ?_)
            simp only [Reg.pickL, List.drop]
            replace fR := fR.grow hN
            replace hb := hb.trans (Below.mono hN (Nat.le_trans hRw hb.size))
            clear hN
            have eR := fR.cell
            have sR := fR.lt
            have kR := fR.unfrozen
            go_wp2_with fail
            refine ⟨rfl, .inl rfl, ?_⟩
            clear eR sR kR
            replace hb := hb.setCell (p := ⟨R, 0, none⟩) (Nat.le_refl _) (.bool true)
            replace fR := fR.set 0 (.bool true)
            refine Reg.wpE_end (by kernel_rfl) (fun x2 hN => ?_)
            replace fR := fR.grow hN
            replace hb := hb.trans (Below.mono hN (Nat.le_trans hRw hb.size))
            clear hN
            go_wp2_with fail
            go_meet
            exact ⟨by rw [HS.out]; exact fR, hb⟩
        · skip
          have eR := fR.cell
          have sR := fR.lt
          have eL := (FL.out.below hb hLR).cell
          have eU := (FU.out.below hb hUR).cell
          have sL := (FL.out.below hb hLR).lt
          have sU := (FU.out.below hb hUR).lt
          have d1 := (hb.cell (p := ⟨vb, vo + k * 2, none⟩) hvR).trans C1.out
          have d2 := (hb.cell (p := ⟨vb, vo + k * 2 + 1, none⟩) hvR).trans C2.out
          have hvw : vb < xs.heap.size := Nat.lt_trans hvR sR
          refine Reg.wp_region_E (fun _ => True) (fun j => decide (13 ≤ j)) 14 rfl (by kernel_rfl) ?_
          refine Reg.wpE_hoist [0, 1, 2, 3, 4, 5, 6, 7, 8, 9, 10, 11, 12] 1 rfl (by kernel_rfl) (by kernel_rfl) (by kernel_rfl) (fun u => ?_)
          simp only [Reg.pickL, List.drop]
          repeat (go_big_quiet_step ((first | fail)))
          refine wpQuiet_nil ?_
          clear eL eU eR sL sU sR d1 d2 hvw
          refine Reg.wpE_main 13 (by kernel_rfl) (fun x1 hN => ?_)
          simp only [Reg.pickL, List.drop]
          replace fR := fR.grow hN
          replace hb := hb.trans (Below.mono hN (Nat.le_trans hRw hb.size))
          clear hN
          have eR := fR.cell
          have sR := fR.lt
          have kR := fR.unfrozen
          go_wp2_with fail
          refine ⟨rfl, .inl rfl, ?_⟩
          clear eR sR kR
          replace hb := hb.setCell (p := ⟨R, 0, none⟩) (Nat.le_refl _) (.bool true)
          replace fR := fR.set 0 (.bool true)
          refine Reg.wpE_end (by kernel_rfl) (fun x2 hN => ?_)
          replace fR := fR.grow hN
          replace hb := hb.trans (Below.mono hN (Nat.le_trans hRw hb.size))
          clear hN
          go_wp2_with fail
          go_meet
          exact ⟨by rw [HS.out]; exact fR, hb⟩
      case rest =>
        obtain ⟨fR, hb⟩ := hcut
        go_upto_region 11 with (fail)
        go_cut [] from 92 to 104 (fun wx => BxS wx R 37 w7 (reachB l (tX lx) (k + 1)) (reachB l (tX ux) (k + 1)) (reachB l (tY ly) k) (reachB l (tY uy) k))
        case first =>
          have HS := Lib.hid (reach_succ l (tX ux) k hlk)
          rw [HQ.out] at HS
          generalize reachB l (tX ux) k = r at *
          cases r
          · cases ht : (px == ux)
            · rw [show (tX ux) (px, py) = false from ht] at HS
              have eR := fR.cell
              have sR := fR.lt
              have eL := (FL.out.below hb hLR).cell
              have eU := (FU.out.below hb hUR).cell
              have sL := (FL.out.below hb hLR).lt
              have sU := (FU.out.below hb hUR).lt
              have d1 := (hb.cell (p := ⟨vb, vo + k * 2, none⟩) hvR).trans C1.out
              have d2 := (hb.cell (p := ⟨vb, vo + k * 2 + 1, none⟩) hvR).trans C2.out
              have hvw : vb < wc.heap.size := Nat.lt_trans hvR sR
              refine Reg.wp_region_E (fun _ => True) (fun j => decide (13 ≤ j)) 14 rfl (by kernel_rfl) ?_
              refine Reg.wpE_hoist [0, 1, 2, 3, 4, 5, 6, 7, 8, 9, 10, 11, 12] 1 rfl (by kernel_rfl) (by kernel_rfl) (by kernel_rfl) (fun u => ?_)
              simp only [Reg.pickL, List.drop]
              repeat (go_big_quiet_step ((first | fail)))
              refine wpQuiet_nil ?_
              clear eL eU eR sL sU sR d1 d2 hvw
              refine Reg.wpE_main 13 (by kernel_rfl) (fun x1 hN => ?_)
              simp only [Reg.pickL, List.drop]
              replace fR := fR.grow hN
              replace hb := hb.trans (Below.mono hN (Nat.le_trans hRw hb.size))
              clear hN
              have eR := fR.cell
              have sR := fR.lt
              have kR := fR.unfrozen
              go_wp2_with fail
              refine ⟨rfl, .inl rfl, ?_⟩
              clear eR sR kR
              replace hb := hb.setCell (p := ⟨R, 1, none⟩) (Nat.le_refl _) (.bool false)
              replace fR := fR.set 1 (.bool false)
              refine Reg.wpE_end (by kernel_rfl) (fun x2 hN => ?_)
              replace fR := fR.grow hN
              replace hb := hb.trans (Below.mono hN (Nat.le_trans hRw hb.size))
              clear hN
              go_wp2_with fail
              go_meet
              exact ⟨by rw [HS.out]; exact fR, hb⟩
            · rw [show (tX ux) (px, py) = true from ht] at HS
              have eR := fR.cell
              have sR := fR.lt
              have eL := (FL.out.below hb hLR).cell
              have eU := (FU.out.below hb hUR).cell
              have sL := (FL.out.below hb hLR).lt
              have sU := (FU.out.below hb hUR).lt
              have d1 := (hb.cell (p := ⟨vb, vo + k * 2, none⟩) hvR).trans C1.out
              have d2 := (hb.cell (p := ⟨vb, vo + k * 2 + 1, none⟩) hvR).trans C2.out
              have hvw : vb < wc.heap.size := Nat.lt_trans hvR sR
              refine Reg.wp_region_E (fun _ => True) (fun j => decide (13 ≤ j)) 14 rfl (by kernel_rfl) ?_
              refine Reg.wpE_hoist [0, 1, 2, 3, 4, 5, 6, 7, 8, 9, 10, 11, 12] 1 rfl (by kernel_rfl) (by kernel_rfl) (by kernel_rfl) (fun u => ?_)
              simp only [Reg.pickL, List.drop]
              repeat (go_big_quiet_step ((first | fail)))
              refine wpQuiet_nil ?_
              clear eL eU eR sL sU sR d1 d2 hvw
              refine Reg.wpE_main 13 (by kernel_rfl) (fun x1 hN => ?_)
              simp only [Reg.pickL, List.drop]
              replace fR := fR.grow hN
              replace hb := hb.trans (Below.mono hN (Nat.le_trans hRw hb.size))
              clear hN
              have eR := fR.cell
              have sR := fR.lt
              have kR := fR.unfrozen
              go_wp2_with fail
              refine ⟨rfl, .inl rfl, ?_⟩
              clear eR sR kR
              replace hb := hb.setCell (p := ⟨R, 1, none⟩) (Nat.le_refl _) (.bool true)
              replace fR := fR.set 1 (.bool true)
              refine Reg.wpE_end (by kernel_rfl) (fun x2 hN => ?_)
              replace fR := fR.grow hN
              replace hb := hb.trans (Below.mono hN (Nat.le_trans hRw hb.size))
              clear hN
              go_wp2_with fail
              go_meet
              exact ⟨by rw [HS.out]; exact fR, hb⟩
          · skip
            have eR := fR.cell
            have sR := fR.lt
            have eL := (FL.out.below hb hLR).cell
            have eU := (FU.out.below hb hUR).cell
            have sL := (FL.out.below hb hLR).lt
            have sU := (FU.out.below hb hUR).lt
            have d1 := (hb.cell (p := ⟨vb, vo + k * 2, none⟩) hvR).trans C1.out
            have d2 := (hb.cell (p := ⟨vb, vo + k * 2 + 1, none⟩) hvR).trans C2.out
            have hvw : vb < wc.heap.size := Nat.lt_trans hvR sR
            refine Reg.wp_region_E (fun _ => True) (fun j => decide (13 ≤ j)) 14 rfl (by kernel_rfl) ?_
            refine Reg.wpE_hoist [0, 1, 2, 3, 4, 5, 6, 7, 8, 9, 10, 11, 12] 1 rfl (by kernel_rfl) (by kernel_rfl) (by kernel_rfl) (fun u => ?_)
            simp only [Reg.pickL, List.drop]
            repeat (go_big_quiet_step ((first | fail)))
            refine wpQuiet_nil ?_
            clear eL eU eR sL sU sR d1 d2 hvw
            refine Reg.wpE_main 13 (by kernel_rfl) (fun x1 hN => ?_)
            simp only [Reg.pickL, List.drop]
            replace fR := fR.grow hN
            replace hb := hb.trans (Below.mono hN (Nat.le_trans hRw hb.size))
            clear hN
            have eR := fR.cell
            have sR := fR.lt
            have kR := fR.unfrozen
            go_wp2_with fail
            refine ⟨rfl, .inl rfl, ?_⟩
            clear eR sR kR
            replace hb := hb.setCell (p := ⟨R, 1, none⟩) (Nat.le_refl _) (.bool true)
            replace fR := fR.set 1 (.bool true)
            refine Reg.wpE_end (by kernel_rfl) (fun x2 hN => ?_)
            replace fR := fR.grow hN
            replace hb := hb.trans (Below.mono hN (Nat.le_trans hRw hb.size))
            clear hN
            go_wp2_with fail
            go_meet
            exact ⟨by rw [HS.out]; exact fR, hb⟩
        case rest =>
          obtain ⟨fR, hb⟩ := hcut
          obtain ⟨wd, rfl⟩ : ∃ wd : World, wd = wc := ⟨_, rfl⟩
          go_upto_region 12 with (fail)
          go_cut [] from 105 to 117 (fun wx => BxS wx R 37 w7 (reachB l (tX lx) (k + 1)) (reachB l (tX ux) (k + 1)) (reachB l (tY ly) (k + 1)) (reachB l (tY uy) k))
          case first =>
            have HS := Lib.hid (reach_succ l (tY ly) k hlk)
            rw [HQ.out] at HS
            generalize reachB l (tY ly) k = r at *
            cases r
            · cases ht : (py == ly)
              · rw [show (tY ly) (px, py) = false from ht] at HS
                have eR := fR.cell
                have sR := fR.lt
                have eL := (FL.out.below hb hLR).cell
                have eU := (FU.out.below hb hUR).cell
                have sL := (FL.out.below hb hLR).lt
                have sU := (FU.out.below hb hUR).lt
                have d1 := (hb.cell (p := ⟨vb, vo + k * 2, none⟩) hvR).trans C1.out
                have d2 := (hb.cell (p := ⟨vb, vo + k * 2 + 1, none⟩) hvR).trans C2.out
                have hvw : vb < wd.heap.size := Nat.lt_trans hvR sR
                refine Reg.wp_region_E (fun _ => True) (fun j => decide (13 ≤ j)) 14 rfl (by kernel_rfl) ?_
                refine Reg.wpE_hoist [0, 1, 2, 3, 4, 5, 6, 7, 8, 9, 10, 11, 12] 1 rfl (by kernel_rfl) (by kernel_rfl) (by kernel_rfl) (fun u => ?_)
                simp only [Reg.pickL, List.drop]
                repeat (go_big_quiet_step ((first | fail)))
                refine wpQuiet_nil ?_
                clear eL eU eR sL sU sR d1 d2 hvw
                refine Reg.wpE_main 13 (by kernel_rfl) (fun x1 hN => ?_)
                simp only [Reg.pickL, List.drop]
                replace fR := fR.grow hN
                replace hb := hb.trans (Below.mono hN (Nat.le_trans hRw hb.size))
                clear hN
                have eR := fR.cell
                have sR := fR.lt
                have kR := fR.unfrozen
                go_wp2_with fail
                refine ⟨rfl, .inl rfl, ?_⟩
                clear eR sR kR
                replace hb := hb.setCell (p := ⟨R, 2, none⟩) (Nat.le_refl _) (.bool false)
                replace fR := fR.set 2 (.bool false)
                refine Reg.wpE_end (by kernel_rfl) (fun x2 hN => ?_)
                replace fR := fR.grow hN
                replace hb := hb.trans (Below.mono hN (Nat.le_trans hRw hb.size))
                clear hN
                go_wp2_with fail
                go_meet
                exact ⟨by rw [HS.out]; exact fR, hb⟩
              · rw [show (tY ly) (px, py) = true from ht] at HS
                have eR := fR.cell
                have sR := fR.lt
                have eL := (FL.out.below hb hLR).cell
                have eU := (FU.out.below hb hUR).cell
                have sL := (FL.out.below hb hLR).lt
                have sU := (FU.out.below hb hUR).lt
                have d1 := (hb.cell (p := ⟨vb, vo + k * 2, none⟩) hvR).trans C1.out
                have d2 := (hb.cell (p := ⟨vb, vo + k * 2 + 1, none⟩) hvR).trans C2.out
                have hvw : vb < wd.heap.size := Nat.lt_trans hvR sR
                refine Reg.wp_region_E (fun _ => True) (fun j => decide (13 ≤ j)) 14 rfl (by kernel_rfl) ?_
                refine Reg.wpE_hoist [0, 1, 2, 3, 4, 5, 6, 7, 8, 9, 10, 11, 12] 1 rfl (by kernel_rfl) (by kernel_rfl) (by kernel_rfl) (fun u => ?_)
                simp only [Reg.pickL, List.drop]
                repeat (go_big_quiet_step ((first | fail)))
                refine wpQuiet_nil ?_
                clear eL eU eR sL sU sR d1 d2 hvw
                refine Reg.wpE_main 13 (by kernel_rfl) (fun x1 hN => ?_)
                simp only [Reg.pickL, List.drop]
                replace fR := fR.grow hN
                replace hb := hb.trans (Below.mono hN (Nat.le_trans hRw hb.size))
                clear hN
                have eR := fR.cell
                have sR := fR.lt
                have kR := fR.unfrozen
                go_wp2_with fail
                refine ⟨rfl, .inl rfl, ?_⟩
                clear eR sR kR
                replace hb := hb.setCell (p := ⟨R, 2, none⟩) (Nat.le_refl _) (.bool true)
                replace fR := fR.set 2 (.bool true)
                refine Reg.wpE_end (by kernel_rfl) (fun x2 hN => ?_)
                replace fR := fR.grow hN
                replace hb := hb.trans (Below.mono hN (Nat.le_trans hRw hb.size))
                clear hN
                go_wp2_with fail
                go_meet
                exact ⟨by rw [HS.out]; exact fR, hb⟩
            · skip
              have eR := fR.cell
              have sR := fR.lt
              have eL := (FL.out.below hb hLR).cell
              have eU := (FU.out.below hb hUR).cell
              have sL := (FL.out.below hb hLR).lt
              have sU := (FU.out.below hb hUR).lt
              have d1 := (hb.cell (p := ⟨vb, vo + k * 2, none⟩) hvR).trans C1.out
              have d2 := (hb.cell (p := ⟨vb, vo + k * 2 + 1, none⟩) hvR).trans C2.out
              have hvw : vb < wd.heap.size := Nat.lt_trans hvR sR
              refine Reg.wp_region_E (fun _ => True) (fun j => decide (13 ≤ j)) 14 rfl (by kernel_rfl) ?_
              refine Reg.wpE_hoist [0, 1, 2, 3, 4, 5, 6, 7, 8, 9, 10, 11, 12] 1 rfl (by kernel_rfl) (by kernel_rfl) (by kernel_rfl) (fun u => ?_)
              simp only [Reg.pickL, List.drop]
              repeat (go_big_quiet_step ((first | fail)))
              refine wpQuiet_nil ?_
              clear eL eU eR sL sU sR d1 d2 hvw
              refine Reg.wpE_main 13 (by kernel_rfl) (fun x1 hN => ?_)
              simp only [Reg.pickL, List.drop]
              replace fR := fR.grow hN
              replace hb := hb.trans (Below.mono hN (Nat.le_trans hRw hb.size))
              clear hN
              have eR := fR.cell
              have sR := fR.lt
              have kR := fR.unfrozen
              go_wp2_with fail
              refine ⟨rfl, .inl rfl, ?_⟩
              clear eR sR kR
              replace hb := hb.setCell (p := ⟨R, 2, none⟩) (Nat.le_refl _) (.bool true)
              replace fR := fR.set 2 (.bool true)
              refine Reg.wpE_end (by kernel_rfl) (fun x2 hN => ?_)
              replace fR := fR.grow hN
              replace hb := hb.trans (Below.mono hN (Nat.le_trans hRw hb.size))
              clear hN
              go_wp2_with fail
              go_meet
              exact ⟨by rw [HS.out]; exact fR, hb⟩
          case rest =>
            obtain ⟨fR, hb⟩ := hcut
            obtain ⟨we, rfl⟩ : ∃ we : World, we = wc := ⟨_, rfl⟩
            go_upto_region 13 with (fail)
            have HS := Lib.hid (reach_succ l (tY uy) k hlk)
            rw [HQ.out] at HS
            generalize reachB l (tY uy) k = r at *
            cases r
            · cases ht : (py == uy)
              · rw [show (tY uy) (px, py) = false from ht] at HS
                have eR := fR.cell
                have sR := fR.lt
                have eL := (FL.out.below hb hLR).cell
                have eU := (FU.out.below hb hUR).cell
                have sL := (FL.out.below hb hLR).lt
                have sU := (FU.out.below hb hUR).lt
                have d1 := (hb.cell (p := ⟨vb, vo + k * 2, none⟩) hvR).trans C1.out
                have d2 := (hb.cell (p := ⟨vb, vo + k * 2 + 1, none⟩) hvR).trans C2.out
                have hvw : vb < we.heap.size := Nat.lt_trans hvR sR
                refine Reg.wp_region_E (fun _ => True) (fun j => decide (13 ≤ j)) 14 rfl (by kernel_rfl) ?_
                refine Reg.wpE_hoist [0, 1, 2, 3, 4, 5, 6, 7, 8, 9, 10, 11, 12] 1 rfl (by kernel_rfl) (by kernel_rfl) (by kernel_rfl) (fun u => ?_)
                simp only [Reg.pickL, List.drop]
                repeat (go_big_quiet_step ((first | fail)))
                refine wpQuiet_nil ?_
                clear eL eU eR sL sU sR d1 d2 hvw
                refine Reg.wpE_main 13 (by kernel_rfl) (fun x1 hN => ?_)
                simp only [Reg.pickL, List.drop]
                replace fR := fR.grow hN
                replace hb := hb.trans (Below.mono hN (Nat.le_trans hRw hb.size))
                clear hN
                have eR := fR.cell
                have sR := fR.lt
                have kR := fR.unfrozen
                go_wp2_with fail
                refine ⟨rfl, .inl rfl, ?_⟩
                clear eR sR kR
                replace hb := hb.setCell (p := ⟨R, 3, none⟩) (Nat.le_refl _) (.bool false)
                replace fR := fR.set 3 (.bool false)
                refine Reg.wpE_end (by kernel_rfl) (fun x2 hN => ?_)
                replace fR := fR.grow hN
                replace hb := hb.trans (Below.mono hN (Nat.le_trans hRw hb.size))
                clear hN
                go_wp2_with fail
                exact ⟨⟨k + 1, by omega, by go_num, by rw [HS.out]; exact fR, hb⟩, by simp [intOf]; omega⟩
              · rw [show (tY uy) (px, py) = true from ht] at HS
                have eR := fR.cell
                have sR := fR.lt
                have eL := (FL.out.below hb hLR).cell
                have eU := (FU.out.below hb hUR).cell
                have sL := (FL.out.below hb hLR).lt
                have sU := (FU.out.below hb hUR).lt
                have d1 := (hb.cell (p := ⟨vb, vo + k * 2, none⟩) hvR).trans C1.out
                have d2 := (hb.cell (p := ⟨vb, vo + k * 2 + 1, none⟩) hvR).trans C2.out
                have hvw : vb < we.heap.size := Nat.lt_trans hvR sR
                refine Reg.wp_region_E (fun _ => True) (fun j => decide (13 ≤ j)) 14 rfl (by kernel_rfl) ?_
                refine Reg.wpE_hoist [0, 1, 2, 3, 4, 5, 6, 7, 8, 9, 10, 11, 12] 1 rfl (by kernel_rfl) (by kernel_rfl) (by kernel_rfl) (fun u => ?_)
                simp only [Reg.pickL, List.drop]
                repeat (go_big_quiet_step ((first | fail)))
                refine wpQuiet_nil ?_
                clear eL eU eR sL sU sR d1 d2 hvw
                refine Reg.wpE_main 13 (by kernel_rfl) (fun x1 hN => ?_)
                simp only [Reg.pickL, List.drop]
                replace fR := fR.grow hN
                replace hb := hb.trans (Below.mono hN (Nat.le_trans hRw hb.size))
                clear hN
                have eR := fR.cell
                have sR := fR.lt
                have kR := fR.unfrozen
                go_wp2_with fail
                refine ⟨rfl, .inl rfl, ?_⟩
                clear eR sR kR
                replace hb := hb.setCell (p := ⟨R, 3, none⟩) (Nat.le_refl _) (.bool true)
                replace fR := fR.set 3 (.bool true)
                refine Reg.wpE_end (by kernel_rfl) (fun x2 hN => ?_)
                replace fR := fR.grow hN
                replace hb := hb.trans (Below.mono hN (Nat.le_trans hRw hb.size))
                clear hN
                go_wp2_with fail
                exact ⟨⟨k + 1, by omega, by go_num, by rw [HS.out]; exact fR, hb⟩, by simp [intOf]; omega⟩
            · skip
              have eR := fR.cell
              have sR := fR.lt
              have eL := (FL.out.below hb hLR).cell
              have eU := (FU.out.below hb hUR).cell
              have sL := (FL.out.below hb hLR).lt
              have sU := (FU.out.below hb hUR).lt
              have d1 := (hb.cell (p := ⟨vb, vo + k * 2, none⟩) hvR).trans C1.out
              have d2 := (hb.cell (p := ⟨vb, vo + k * 2 + 1, none⟩) hvR).trans C2.out
              have hvw : vb < we.heap.size := Nat.lt_trans hvR sR
              refine Reg.wp_region_E (fun _ => True) (fun j => decide (13 ≤ j)) 14 rfl (by kernel_rfl) ?_
              refine Reg.wpE_hoist [0, 1, 2, 3, 4, 5, 6, 7, 8, 9, 10, 11, 12] 1 rfl (by kernel_rfl) (by kernel_rfl) (by kernel_rfl) (fun u => ?_)
              simp only [Reg.pickL, List.drop]
              repeat (go_big_quiet_step ((first | fail)))
              refine wpQuiet_nil ?_
              clear eL eU eR sL sU sR d1 d2 hvw
              refine Reg.wpE_main 13 (by kernel_rfl) (fun x1 hN => ?_)
              simp only [Reg.pickL, List.drop]
              replace fR := fR.grow hN
              replace hb := hb.trans (Below.mono hN (Nat.le_trans hRw hb.size))
              clear hN
              have eR := fR.cell
              have sR := fR.lt
              have kR := fR.unfrozen
              go_wp2_with fail
              refine ⟨rfl, .inl rfl, ?_⟩
              clear eR sR kR
              replace hb := hb.setCell (p := ⟨R, 3, none⟩) (Nat.le_refl _) (.bool true)
              replace fR := fR.set 3 (.bool true)
              refine Reg.wpE_end (by kernel_rfl) (fun x2 hN => ?_)
              replace fR := fR.grow hN
              replace hb := hb.trans (Below.mono hN (Nat.le_trans hRw hb.size))
              clear hN
              go_wp2_with fail
              exact ⟨⟨k + 1, by omega, by go_num, by rw [HS.out]; exact fR, hb⟩, by simp [intOf]; omega⟩
    · have hkn : ¬ (k : Int) < n := by omega
      have hkl : l.length ≤ k := by rw [HLL.out]; omega
      obtain ⟨⟨q1, m1, f1⟩, ⟨q2, m2, f2⟩, ⟨q3, m3, f3⟩, ⟨q4, m4, f4⟩⟩ := HMT.out
      rw [reach_all (t := tX lx) m1 (by show (q1.1 == lx) = true; rw [f1]; simp) hkl, reach_all (t := tX ux) m2 (by show (q2.1 == ux) = true; rw [f2]; simp) hkl,
        reach_all (t := tY ly) m3 (by show (q3.2 == ly) = true; rw [f3]; simp) hkl, reach_all (t := tY uy) m4 (by show (q4.2 == uy) = true; rw [f4]; simp) hkl] at fR
      have hx := hx7.trans (hb.mono hWR)
      have eR := fR.cell
      have sR := fR.lt
      have eL := (FL.out.below hb hLR).cell
      have eU := (FU.out.below hb hUR).cell
      have eQ := (FQ.out.below hb hQR).cell
      have sL := (FL.out.below hb hLR).lt
      have sU := (FU.out.below hb hUR).lt
      have sQ := (FQ.out.below hb hQR).lt
      have hbe := bools_eql
      clear f1 f2 f3 f4 m1 m2 m3 m4 hkl HMT HBX
      try simp only at HIN
      by_cases i1 : lx ≤ qx
      · by_cases i2 : qx ≤ ux
        · by_cases i3 : ly ≤ qy
          · by_cases i4 : qy ≤ uy
            · clear HIN KH
              go_wp2_with fail
              go_ret
              exact ⟨rfl, hx⟩
            · skip
              have hsf : hs = false := by
                cases hs
                · rfl
                · exact absurd (HIN.out rfl) (by omega)
              subst hsf
              clear HIN
              go_wp2_with fail
              refine (KH.out _ hx).mono ?_
              rintro e w9 ⟨rfl, hb9⟩
              have hx9 := hx.trans (hb9.mono hx.size)
              go_wp2_with fail
              go_ret
              exact ⟨rfl, hx9⟩
          · skip
            have hsf : hs = false := by
              cases hs
              · rfl
              · exact absurd (HIN.out rfl) (by omega)
            subst hsf
            clear HIN
            go_wp2_with fail
            refine (KH.out _ hx).mono ?_
            rintro e w9 ⟨rfl, hb9⟩
            have hx9 := hx.trans (hb9.mono hx.size)
            go_wp2_with fail
            go_ret
            exact ⟨rfl, hx9⟩
        · skip
          have hsf : hs = false := by
            cases hs
            · rfl
            · exact absurd (HIN.out rfl) (by omega)
          subst hsf
          clear HIN
          go_wp2_with fail
          refine (KH.out _ hx).mono ?_
          rintro e w9 ⟨rfl, hb9⟩
          have hx9 := hx.trans (hb9.mono hx.size)
          go_wp2_with fail
          go_ret
          exact ⟨rfl, hx9⟩
      · skip
        have hsf : hs = false := by
          cases hs
          · rfl
          · exact absurd (HIN.out rfl) (by omega)
        subst hsf
        clear HIN
        go_wp2_with fail
        refine (KH.out _ hx).mono ?_
        rintro e w9 ⟨rfl, hb9⟩
        have hx9 := hx.trans (hb9.mono hx.size)
        go_wp2_with fail
        go_ret
        exact ⟨rfl, hx9⟩

namespace kbox
open Go.ChangeShapes Go.WideShapes Go.ChangeAt

theorem contract {H : Type} (enc : TypeId × Value → H) (W : World) (base : Nat) (args : Array Value) (ds : List (DataW H)) (ps : List MemPlace)
    (hval : ∀ (j : Nat) t v, Try.f5.params[j]? = some t → args[j]? = some v → Value.okWide Try.checked.prog W .any base t v)
    (hA : DataW.TrodAll enc Try.checked.prog W 0 (fun _ => true) true Try.f5.params.toList args.toList ds ps) (hlt : ∀ x ∈ ps, x.block < W.heap.size) :
    Calls Try.checked.prog 5 args W fun e W' => e = .returned (.bool true) ∧ Below W.heap.size W W' := by
  rw [Try.params5] at hA hval
  obtain ⟨v0, vs0, d0, ds0, p0, q0, ea, rfl, rfl, h0, hA⟩ := trodAll_cons hA
  obtain ⟨v1, vs1, d1, ds1, p1, q1, rfl, rfl, rfl, h1, hA⟩ := trodAll_cons hA
  obtain ⟨rfl, rfl, rfl⟩ := trodAll_nil hA
  obtain rfl : args = #[v0, v1] := by cases args; simp_all
  have _ := hlt
  obtain ⟨e, len, cap, rfl⟩ := okWide_slice Try.underlying25 (hval 0 _ _ rfl rfl)
  obtain ⟨fuel, hf⟩ := h0
  obtain ⟨a, n, c, l, hel, j1, j2, j3, j4⟩ := open_pts' hf
  have he : Value.slice e len cap = .slice a n c := by simpa [Value.cells] using hel
  rw [he]
  obtain ⟨x, y, rfl, _, _⟩ := open_pt (hval 1 _ _ rfl rfl) h1
  unfold maxLen at *
  exact lbox_any a n c l x y W (by omega) j3

set_option maxRecDepth 100000 in
theorem lifted (os : Os) (started : os.Started) (H : Type) (enc : TypeId × Value → H) :
    ReturnsInHanded {} Try.checked os 5 .any (Rows.pieceBoxSpec.pre6 enc Try.prog Try.f5 [] false) (Rows.pieceBoxSpec.post enc Try.prog Try.f5 false true false false) :=
  law_lift (bT := 4) started (by kernel_rfl) Try.func5 rfl (by kernel_rfl) (by kernel_rfl) (by kernel_rfl) (fun ds h => by match ds, h with | [_, _], _ => rfl)
    (ChangeSpec.witness6 (enc := enc) (C := Try.checked) false ⟨#[], #[.slice none 0 0, .agg #[.int .i64 0, .int .i64 0]], []⟩ 8 (by kernel_rfl) (by kernel_rfl) (by kernel_rfl) (by kernel_rfl))
    (fun W base args ds ps hval hA hlt => contract enc W base args ds ps hval hA hlt)

theorem holds : Rows.PieceBoxSaid :=
  OpenClaim.holds_of_wide 5 Try.f5 rfl rfl rfl rfl rfl rfl rfl ⟨rfl, rfl, rfl, rfl, rfl⟩ rfl rfl rfl rfl rfl (by kernel_rfl) Try.func5 (by kernel_rfl)
    (of_decide_eq_true (by kernel_rfl)) (by unfold Func.isWrapper; first | (rw [if_pos (by decide +kernel)]; kernel_rfl) | (rw [if_neg (by decide +kernel)]; exact ⟨rfl, rfl⟩))
    (fun os started H enc _ => lifted os started H enc)
end kbox
end Go.Proofs.Ytljmhenhibhbfaa
