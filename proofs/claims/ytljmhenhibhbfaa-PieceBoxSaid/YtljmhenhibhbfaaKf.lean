/- Contracts of the law's bounded, and of piece.Box. -/
import Derived.Test.YtljmhenhibhbfaaKe
import Derived.Test.YtljmhenhibhbfaaRefd
import Derived.Test.YtljmhenhibhbfaaRet
import Derived.Test.YtljmhenhibhbfaaRegd
namespace Go.Proofs.Ytljmhenhibhbfaa
open Go.RowKit

def bndB (l : List (Int × Int)) : Bool := l.all (fun q => nearP q.1 q.2) && decide (l.length ≤ 16)
theorem bnd_near {l : List (Int × Int)} (h : bndB l = true) : (∀ q ∈ l, nearK q) ∧ l.length ≤ 16 := by
  simp only [bndB, Bool.and_eq_true, List.all_eq_true, decide_eq_true_eq] at h
  refine ⟨fun q hq => ?_, h.2⟩
  have := nearP_true (h.1 q hq)
  unfold nearK
  omega

set_option maxHeartbeats 400000 in
theorem bounded_any (a : Option Addr) (n c : Nat) (l : List (Int × Int)) (w : World) (hn : n ≤ 9223372036854775807) (hl : RPts w w.heap.size a n l) :
    Calls Try.prog 6 #[.slice a n c] w fun e w' => e = .returned (.bool (bndB l)) ∧ Below w.heap.size w w' := by
  have hll := hl.1
  have HLL := Lib.hid hll
  have HL := Lib.hid hl
  clear hl hll
  go_enter Try.func6, Try.ntmps6
  go_wp2_with fail
  go_loopw [3] (fun i wr => ∃ k : Nat, k ≤ n ∧ i = .int .i64 k ∧ (∀ q ∈ l.take k, nearP q.1 q.2 = true) ∧ Below w.heap.size w wr) (fun i _ => n - (intOf i).toNat)
  case atStart => exact ⟨0, Nat.zero_le _, rfl, by simp, Below.refl _ _⟩
  case round =>
    obtain ⟨k, hk, rfl, hq, hb⟩ := hrel
    have Hq := Lib.hid hq
    clear hq
    by_cases hlt : k < n
    · have hlk : k < l.length := by rw [HLL.out]; exact hlt
      obtain ⟨b, off, ha, hbB, hc1, hc2⟩ := (HL.out.below hb).2 k l[k] (List.getElem?_eq_getElem hlk)
      subst ha
      have Htake : Hid (l.take (k + 1) = l.take k ++ [l[k]]) := Lib.hid (List.take_succ_eq_append_getElem hlk)
      have hmem : l[k] ∈ l := List.getElem_mem hlk
      have hlt' : (k : Int) < n := by omega
      generalize l[k] = q at *
      obtain ⟨qx, qy⟩ := q
      simp only at hc1 hc2
      have KN := Lib.hid (fun W => r4near_any qx qy W)
      cases hnr : nearP qx qy
      · rw [hnr] at KN
        have HE : Hid (bndB l = false) := Lib.hid (by
          unfold bndB
          have : l.all (fun q => nearP q.1 q.2) = false := List.all_eq_false.2 ⟨_, hmem, by simp [hnr]⟩
          rw [this]; rfl)
        clear hnr
        go_wp2_with fail
        refine (KN.out _).mono ?_
        rintro e w2 ⟨rfl, hb2⟩
        have hx := hb.trans (hb2.mono hb.size)
        go_wp2_with fail
        go_ret
        exact ⟨by rw [HE.out]; rfl, hx⟩
      · rw [hnr] at KN
        have HN : Hid (∀ q ∈ l.take (k + 1), nearP q.1 q.2 = true) := Lib.hid (by
          rw [Htake.out]
          intro q hq
          rcases List.mem_append.1 hq with h | h
          · exact Hq.out q h
          · rw [List.mem_singleton.1 h]; exact hnr)
        clear hnr
        go_wp2_with fail
        refine (KN.out _).mono ?_
        rintro e w2 ⟨rfl, hb2⟩
        have hx := hb.trans (hb2.mono hb.size)
        go_wp2_with fail
        exact ⟨⟨k + 1, by omega, by go_num, HN.out, hx⟩, by simp [intOf]; omega⟩
    · have hkn : k = n := by omega
      have HE : Hid (bndB l = decide ((n : Int) ≤ 16)) := Lib.hid (by
        unfold bndB
        have h1 : l.all (fun q => nearP q.1 q.2) = true := List.all_eq_true.2 (fun q hq => Hq.out q (by rw [List.take_of_length_le (by rw [HLL.out]; omega)]; exact hq))
        rw [h1, HLL.out, Bool.true_and]
        exact decide_eq_decide.2 (by omega))
      have hlt' : ¬ (k : Int) < n := by omega
      clear hkn
      go_wp2_with fail
      go_ret
      exact ⟨by rw [HE.out]; rfl, hb⟩

theorem blk_pt {W : World} {g : Nat} {t : TypeId} {x y x' y' : Int} (h : Blk W g t #[.int .i64 x, .int .i64 y]) (e1 : x' = x) (e2 : y' = y) : Blk W g t #[.int .i64 x', .int .i64 y'] := by subst e1 e2; exact h
theorem min_if (a b : Int) : min a b = if b < a then b else a := by split <;> omega
theorem max_if (a b : Int) : max a b = if a < b then b else a := by split <;> omega
theorem res_box {tmps : Array Value} {W : World} {g tr g' tr' : Nat} {t t' : TypeId} {cs cs' : Array Value} {v0 v1 u0 u1 : Value} {fn : Func} (hB : Blk W g t cs) (hB' : Blk W g' t' cs') (hfn : fn.results = #[.cell tr 23, .cell tr' 23])
    (ht : tmps.getD tr undef = .pointer (some ⟨g, 0, none⟩)) (ht' : tmps.getD tr' undef = .pointer (some ⟨g', 0, none⟩))
    (h0 : cs = #[v0, v1]) (k0 : cs' = #[u0, u1]) : (results fn tmps).run Try.prog W = .ok (.tuple #[.agg #[v0, v1], .agg #[u0, u1]]) W := by
  subst h0 k0
  exact res_pt2 hB hB' hfn ht ht' rfl rfl rfl rfl

set_option maxRecDepth 100000 in
set_option maxHeartbeats 4000000 in
theorem box_any (a : Option Addr) (n c : Nat) (l : List (Int × Int)) (w : World) (hn : n ≤ 1000) (hl : RPts w w.heap.size a n l) :
    Calls Try.prog 14 #[.slice a n c] w fun e w' => e = .returned (.tuple #[.agg #[.int .i64 (boxK l).1.1, .int .i64 (boxK l).1.2], .agg #[.int .i64 (boxK l).2.1, .int .i64 (boxK l).2.2]]) ∧ Below w.heap.size w w' := by
  have hll := hl.1
  have HLL := Lib.hid hll
  have HL := Lib.hid hl
  clear hl hll
  have hL : Blk ((w.alloc (.cells #[.int .i64 0, .int .i64 0] 23)).alloc (.cells #[.int .i64 0, .int .i64 0] 23)) w.heap.size 23 #[.int .i64 0, .int .i64 0] := (Blk.new w 23 #[.int .i64 0, .int .i64 0]).alloc _
  have hH := Blk.new (w.alloc (.cells #[.int .i64 0, .int .i64 0] 23)) 23 #[.int .i64 0, .int .i64 0]
  rw [World.size_alloc] at hH
  have HLo := Lib.hid hL
  have HHi := Lib.hid hH
  clear hL hH
  go_enter Try.func14, Try.ntmps14
  go_wp2_with fail
  go_loopw [8] (fun i wr => ∃ k : Nat, k ≤ n ∧ i = .int .i64 k ∧ Blk wr w.heap.size 23 #[.int .i64 (boxAt l k).1.1, .int .i64 (boxAt l k).1.2] ∧ Blk wr (w.heap.size + 1) 23 #[.int .i64 (boxAt l k).2.1, .int .i64 (boxAt l k).2.2] ∧ Below w.heap.size w wr) (fun i _ => n - (intOf i).toNat)
  case atStart => exact ⟨0, Nat.zero_le _, rfl, HLo.out, HHi.out, by (repeat (first | exact Below.refl _ _ | assumption | refine Below.drew ?_ | refine Below.setCell ?_ (by simp; try omega) _ | refine Below.alloc ?_ (by simp; try omega) _))⟩
  case round =>
    clear HLo HHi
    obtain ⟨k, hk, rfl, fL, fH, hb⟩ := hrel
    by_cases hlt : k < n
    · have hlk : k < l.length := by rw [HLL.out]; exact hlt
      obtain ⟨b, off, ha, hbB, hc1, hc2⟩ := (HL.out.below hb).2 k l[k] (List.getElem?_eq_getElem hlk)
      subst ha
      have HS := Lib.hid (box_succ l k hlk)
      have hlt' : (k : Int) < n := by omega
      have hbw : b < wr.heap.size := by have := hb.size; omega
      generalize l[k] = q at *
      obtain ⟨qx, qy⟩ := q
      simp only at hc1 hc2
      have lL := fL.lt
      have lH := fH.lt
      have eL := fL.cell
      have eH := fH.cell
      have kL := fL.unfrozen
      have kH := fH.unfrozen
      have hLQ : wr.heap.size ≠ w.heap.size := by omega
      have hHQ : wr.heap.size ≠ w.heap.size + 1 := by omega
      by_cases hk0 : k = 0
      · have hkb : ((k : Int) == 0) = true := by subst hk0; rfl
        rw [if_pos hk0] at HS
        have HK0 := Lib.hid hk0
        clear hk0
        go_wp2_with fail
        have fQ := Blk.new wr 23 #[.int .i64 qx, .int .i64 qy]
        replace fL := fL.alloc (.cells #[.int .i64 qx, .int .i64 qy] 23)
        replace fH := fH.alloc (.cells #[.int .i64 qx, .int .i64 qy] 23)
        replace hb := hb.alloc hb.size (.cells #[.int .i64 qx, .int .i64 qy] 23)
        clear hc1 hc2 eL eH kL kH hbw
        generalize wr.alloc (.cells #[.int .i64 qx, .int .i64 qy] 23) = w1 at *
        generalize wr.heap.size = Q at *
        clear lL lH
        have eQ := fQ.cell
        have lQ := fQ.lt
        refine Reg.wp_region_R (fun b => b = Q) 4 rfl (by kernel_rfl) ?_
        refine Reg.wpR_hoist [0, 1] 2 rfl (by kernel_rfl) (by kernel_rfl) (fun u => ?_)
        simp only [Reg.pickL, List.drop]
        repeat (go_big_quiet_step ((first | fail)))
        refine wpQuiet_nil ?_
        refine Reg.wpR_main 2 (by kernel_rfl) (fun x1 hN => ?_)
        simp only [Reg.pickL, List.drop]
        replace fL := fL.grow hN
        replace fH := fH.grow hN
        replace fQ := fQ.grow hN
        replace hb := hb.trans (Below.mono hN hb.size)
        clear hN
        have eL := fL.cell
        have lL := fL.lt
        have kL := fL.unfrozen
        go_wp2_with fail
        refine ⟨rfl, Reg.Kp.trans (Reg.Kp.of_set _ (fun e => hLQ (Eq.symm e))) (Reg.Kp.of_set _ (fun e => hLQ (Eq.symm e))), ?_⟩
        clear eL lL kL
        replace fQ := Blk.far (b := w.heap.size) (i := 1) (Blk.far (b := w.heap.size) (i := 0) fQ (fun e => hLQ (Eq.symm e)) (.int .i64 qx)) (fun e => hLQ (Eq.symm e)) (.int .i64 qy)
        replace fH := Blk.far (b := w.heap.size) (i := 1) (Blk.far (b := w.heap.size) (i := 0) fH (by omega) (.int .i64 qx)) (by omega) (.int .i64 qy)
        replace hb := (hb.setCell (p := ⟨w.heap.size, 0, none⟩) (by simp) (.int .i64 qx)).setCell (p := ⟨w.heap.size, 1, none⟩) (by simp) (.int .i64 qy)
        replace fL := (fL.set 0 (.int .i64 qx)).set 1 (.int .i64 qy)
        refine Reg.wpR_main 3 (by kernel_rfl) (fun x2 hN => ?_)
        simp only [Reg.pickL, List.drop]
        replace fL := fL.grow hN
        replace fH := fH.grow hN
        replace fQ := fQ.grow hN
        replace hb := hb.trans (Below.mono hN hb.size)
        clear hN
        have eL := fH.cell
        have lL := fH.lt
        have kL := fH.unfrozen
        go_wp2_with fail
        refine ⟨rfl, Reg.Kp.trans (Reg.Kp.of_set _ (fun e => hHQ (Eq.symm e))) (Reg.Kp.of_set _ (fun e => hHQ (Eq.symm e))), ?_⟩
        clear eL lL kL
        replace fQ := Blk.far (b := w.heap.size + 1) (i := 1) (Blk.far (b := w.heap.size + 1) (i := 0) fQ (fun e => hHQ (Eq.symm e)) (.int .i64 qx)) (fun e => hHQ (Eq.symm e)) (.int .i64 qy)
        replace fL := Blk.far (b := w.heap.size + 1) (i := 1) (Blk.far (b := w.heap.size + 1) (i := 0) fL (by omega) (.int .i64 qx)) (by omega) (.int .i64 qy)
        replace hb := (hb.setCell (p := ⟨w.heap.size + 1, 0, none⟩) (by simp) (.int .i64 qx)).setCell (p := ⟨w.heap.size + 1, 1, none⟩) (by simp) (.int .i64 qy)
        replace fH := (fH.set 0 (.int .i64 qx)).set 1 (.int .i64 qy)
        refine Reg.wpR_end (by kernel_rfl) (fun x5 hN => ?_)
        replace fL := fL.grow hN
        replace fH := fH.grow hN
        replace fQ := fQ.grow hN
        replace hb := hb.trans (Below.mono hN hb.size)
        clear hN
        clear lQ eQ
        go_wp2_with fail
        have eQ := fQ.cell
        have lQ := fQ.lt
        refine Reg.wp_region_R (fun b => b = Q) 14 rfl (by kernel_rfl) ?_
        refine Reg.wpR_hoist [0, 2, 3, 5, 7, 8] 8 rfl (by kernel_rfl) (by kernel_rfl) (fun u => ?_)
        simp only [Reg.pickL, List.drop]
        repeat (go_big_quiet_step ((first | fail)))
        refine wpQuiet_nil ?_
        refine Reg.wpR_main2 1 6 (by kernel_rfl) (fun x1 hN => ?_) (fun x1 hN => ?_)
        · simp only [Reg.pickL, List.drop]
          replace fL := fL.grow hN
          replace fH := fH.grow hN
          replace fQ := fQ.grow hN
          replace hb := hb.trans (Below.mono hN hb.size)
          clear hN
          have eL := fL.cell
          have lL := fL.lt
          go_wp2_with fail
          refine ⟨rfl, Reg.Kp.refl _ _, ?_⟩
          clear eL lL
          refine Reg.wpR_hoist [4] 6 rfl (by kernel_rfl) (by kernel_rfl) (fun u => ?_)
          simp only [Reg.pickL, List.drop]
          repeat (go_big_quiet_step ((first | fail)))
          refine wpQuiet_nil ?_
          skip
          refine Reg.wpR_main 6 (by kernel_rfl) (fun x2 hN => ?_)
          simp only [Reg.pickL, List.drop]
          replace fL := fL.grow hN
          replace fH := fH.grow hN
          replace fQ := fQ.grow hN
          replace hb := hb.trans (Below.mono hN hb.size)
          clear hN
          have eL := fL.cell
          have lL := fL.lt
          go_wp2_with fail
          refine ⟨rfl, Reg.Kp.refl _ _, ?_⟩
          clear eL lL
          refine Reg.wpR_hoist [9, 10] 3 rfl (by kernel_rfl) (by kernel_rfl) (fun u => ?_)
          simp only [Reg.pickL, List.drop]
          repeat (go_big_quiet_step ((first | fail)))
          refine wpQuiet_nil ?_
          skip
          refine Reg.wpR_main 11 (by kernel_rfl) (fun x3 hN => ?_)
          simp only [Reg.pickL, List.drop]
          replace fL := fL.grow hN
          replace fH := fH.grow hN
          replace fQ := fQ.grow hN
          replace hb := hb.trans (Below.mono hN hb.size)
          clear hN
          have eL := fL.cell
          have lL := fL.lt
          have kL := fL.unfrozen
          go_wp2_with fail
          refine ⟨rfl, Reg.Kp.of_set _ (fun e => hLQ (Eq.symm e)), ?_⟩
          clear eL lL kL
          replace fQ := Blk.far (b := w.heap.size) (i := 0) fQ (fun e => hLQ (Eq.symm e)) (.int .i64 qx)
          replace fH := Blk.far (b := w.heap.size) (i := 0) fH (by omega) (.int .i64 qx)
          replace hb := hb.setCell (p := ⟨w.heap.size, 0, none⟩) (by simp) (.int .i64 qx)
          replace fL := fL.set 0 (.int .i64 qx)
          refine Reg.wpR_hoist [12] 1 rfl (by kernel_rfl) (by kernel_rfl) (fun u => ?_)
          simp only [Reg.pickL, List.drop]
          repeat (go_big_quiet_step ((first | fail)))
          refine wpQuiet_nil ?_
          refine Reg.wpR_main 13 (by kernel_rfl) (fun x4 hN => ?_)
          simp only [Reg.pickL, List.drop]
          replace fL := fL.grow hN
          replace fH := fH.grow hN
          replace fQ := fQ.grow hN
          replace hb := hb.trans (Below.mono hN hb.size)
          clear hN
          have eL := fL.cell
          have lL := fL.lt
          have kL := fL.unfrozen
          go_wp2_with fail
          refine ⟨rfl, Reg.Kp.of_set _ (fun e => hLQ (Eq.symm e)), ?_⟩
          clear eL lL kL
          replace fQ := Blk.far (b := w.heap.size) (i := 1) fQ (fun e => hLQ (Eq.symm e)) (.int .i64 qy)
          replace fH := Blk.far (b := w.heap.size) (i := 1) fH (by omega) (.int .i64 qy)
          replace hb := hb.setCell (p := ⟨w.heap.size, 1, none⟩) (by simp) (.int .i64 qy)
          replace fL := fL.set 1 (.int .i64 qy)
          refine Reg.wpR_end (by kernel_rfl) (fun x5 hN => ?_)
          replace fL := fL.grow hN
          replace fH := fH.grow hN
          replace fQ := fQ.grow hN
          replace hb := hb.trans (Below.mono hN hb.size)
          clear hN
          clear lQ eQ
          go_wp2_with fail
          have eQ := fQ.cell
          have lQ := fQ.lt
          refine Reg.wp_region_R (fun b => b = Q) 14 rfl (by kernel_rfl) ?_
          refine Reg.wpR_hoist [0, 2, 3, 5, 7, 8] 8 rfl (by kernel_rfl) (by kernel_rfl) (fun u => ?_)
          simp only [Reg.pickL, List.drop]
          repeat (go_big_quiet_step ((first | fail)))
          refine wpQuiet_nil ?_
          refine Reg.wpR_main2 1 6 (by kernel_rfl) (fun x1 hN => ?_) (fun x1 hN => ?_)
          · simp only [Reg.pickL, List.drop]
            replace fL := fL.grow hN
            replace fH := fH.grow hN
            replace fQ := fQ.grow hN
            replace hb := hb.trans (Below.mono hN hb.size)
            clear hN
            have eL := fH.cell
            have lL := fH.lt
            go_wp2_with fail
            refine ⟨rfl, Reg.Kp.refl _ _, ?_⟩
            clear eL lL
            refine Reg.wpR_hoist [4] 6 rfl (by kernel_rfl) (by kernel_rfl) (fun u => ?_)
            simp only [Reg.pickL, List.drop]
            repeat (go_big_quiet_step ((first | fail)))
            refine wpQuiet_nil ?_
            skip
            refine Reg.wpR_main 6 (by kernel_rfl) (fun x2 hN => ?_)
            simp only [Reg.pickL, List.drop]
            replace fL := fL.grow hN
            replace fH := fH.grow hN
            replace fQ := fQ.grow hN
            replace hb := hb.trans (Below.mono hN hb.size)
            clear hN
            have eL := fH.cell
            have lL := fH.lt
            go_wp2_with fail
            refine ⟨rfl, Reg.Kp.refl _ _, ?_⟩
            clear eL lL
            refine Reg.wpR_hoist [9, 10] 3 rfl (by kernel_rfl) (by kernel_rfl) (fun u => ?_)
            simp only [Reg.pickL, List.drop]
            repeat (go_big_quiet_step ((first | fail)))
            refine wpQuiet_nil ?_
            skip
            refine Reg.wpR_main 11 (by kernel_rfl) (fun x3 hN => ?_)
            simp only [Reg.pickL, List.drop]
            replace fL := fL.grow hN
            replace fH := fH.grow hN
            replace fQ := fQ.grow hN
            replace hb := hb.trans (Below.mono hN hb.size)
            clear hN
            have eL := fH.cell
            have lL := fH.lt
            have kL := fH.unfrozen
            go_wp2_with fail
            refine ⟨rfl, Reg.Kp.of_set _ (fun e => hHQ (Eq.symm e)), ?_⟩
            clear eL lL kL
            replace fQ := Blk.far (b := w.heap.size + 1) (i := 0) fQ (fun e => hHQ (Eq.symm e)) (.int .i64 qx)
            replace fL := Blk.far (b := w.heap.size + 1) (i := 0) fL (by omega) (.int .i64 qx)
            replace hb := hb.setCell (p := ⟨w.heap.size + 1, 0, none⟩) (by simp) (.int .i64 qx)
            replace fH := fH.set 0 (.int .i64 qx)
            refine Reg.wpR_hoist [12] 1 rfl (by kernel_rfl) (by kernel_rfl) (fun u => ?_)
            simp only [Reg.pickL, List.drop]
            repeat (go_big_quiet_step ((first | fail)))
            refine wpQuiet_nil ?_
            refine Reg.wpR_main 13 (by kernel_rfl) (fun x4 hN => ?_)
            simp only [Reg.pickL, List.drop]
            replace fL := fL.grow hN
            replace fH := fH.grow hN
            replace fQ := fQ.grow hN
            replace hb := hb.trans (Below.mono hN hb.size)
            clear hN
            have eL := fH.cell
            have lL := fH.lt
            have kL := fH.unfrozen
            go_wp2_with fail
            refine ⟨rfl, Reg.Kp.of_set _ (fun e => hHQ (Eq.symm e)), ?_⟩
            clear eL lL kL
            replace fQ := Blk.far (b := w.heap.size + 1) (i := 1) fQ (fun e => hHQ (Eq.symm e)) (.int .i64 qy)
            replace fL := Blk.far (b := w.heap.size + 1) (i := 1) fL (by omega) (.int .i64 qy)
            replace hb := hb.setCell (p := ⟨w.heap.size + 1, 1, none⟩) (by simp) (.int .i64 qy)
            replace fH := fH.set 1 (.int .i64 qy)
            refine Reg.wpR_end (by kernel_rfl) (fun x5 hN => ?_)
            replace fL := fL.grow hN
            replace fH := fH.grow hN
            replace fQ := fQ.grow hN
            replace hb := hb.trans (Below.mono hN hb.size)
            clear hN
            clear lQ eQ
            go_wp2_with fail
            exact ⟨⟨k + 1, by omega, by go_num, by rw [HS.out]; exact blk_pt fL (by simp only [boxStep]; omega) (by simp only [boxStep]; omega), by rw [HS.out]; exact blk_pt fH (by simp only [boxStep]; omega) (by simp only [boxStep]; omega), hb⟩, by simp [intOf]; omega⟩
          · simp only [Reg.pickL, List.drop]
            replace fL := fL.grow hN
            replace fH := fH.grow hN
            replace fQ := fQ.grow hN
            replace hb := hb.trans (Below.mono hN hb.size)
            clear hN
            have eL := fH.cell
            have lL := fH.lt
            go_wp2_with fail
            refine ⟨rfl, Reg.Kp.refl _ _, ?_⟩
            clear eL lL
            refine Reg.wpR_hoist [9] 6 rfl (by kernel_rfl) (by kernel_rfl) (fun u => ?_)
            simp only [Reg.pickL, List.drop]
            repeat (go_big_quiet_step ((first | fail)))
            refine wpQuiet_nil ?_
            skip
            refine Reg.wpR_main 1 (by kernel_rfl) (fun x2 hN => ?_)
            simp only [Reg.pickL, List.drop]
            replace fL := fL.grow hN
            replace fH := fH.grow hN
            replace fQ := fQ.grow hN
            replace hb := hb.trans (Below.mono hN hb.size)
            clear hN
            have eL := fH.cell
            have lL := fH.lt
            go_wp2_with fail
            refine ⟨rfl, Reg.Kp.refl _ _, ?_⟩
            clear eL lL
            refine Reg.wpR_hoist [4, 10] 3 rfl (by kernel_rfl) (by kernel_rfl) (fun u => ?_)
            simp only [Reg.pickL, List.drop]
            repeat (go_big_quiet_step ((first | fail)))
            refine wpQuiet_nil ?_
            skip
            refine Reg.wpR_main 11 (by kernel_rfl) (fun x3 hN => ?_)
            simp only [Reg.pickL, List.drop]
            replace fL := fL.grow hN
            replace fH := fH.grow hN
            replace fQ := fQ.grow hN
            replace hb := hb.trans (Below.mono hN hb.size)
            clear hN
            have eL := fH.cell
            have lL := fH.lt
            have kL := fH.unfrozen
            go_wp2_with fail
            refine ⟨rfl, Reg.Kp.of_set _ (fun e => hHQ (Eq.symm e)), ?_⟩
            clear eL lL kL
            replace fQ := Blk.far (b := w.heap.size + 1) (i := 0) fQ (fun e => hHQ (Eq.symm e)) (.int .i64 qx)
            replace fL := Blk.far (b := w.heap.size + 1) (i := 0) fL (by omega) (.int .i64 qx)
            replace hb := hb.setCell (p := ⟨w.heap.size + 1, 0, none⟩) (by simp) (.int .i64 qx)
            replace fH := fH.set 0 (.int .i64 qx)
            refine Reg.wpR_hoist [12] 1 rfl (by kernel_rfl) (by kernel_rfl) (fun u => ?_)
            simp only [Reg.pickL, List.drop]
            repeat (go_big_quiet_step ((first | fail)))
            refine wpQuiet_nil ?_
            refine Reg.wpR_main 13 (by kernel_rfl) (fun x4 hN => ?_)
            simp only [Reg.pickL, List.drop]
            replace fL := fL.grow hN
            replace fH := fH.grow hN
            replace fQ := fQ.grow hN
            replace hb := hb.trans (Below.mono hN hb.size)
            clear hN
            have eL := fH.cell
            have lL := fH.lt
            have kL := fH.unfrozen
            go_wp2_with fail
            refine ⟨rfl, Reg.Kp.of_set _ (fun e => hHQ (Eq.symm e)), ?_⟩
            clear eL lL kL
            replace fQ := Blk.far (b := w.heap.size + 1) (i := 1) fQ (fun e => hHQ (Eq.symm e)) (.int .i64 qy)
            replace fL := Blk.far (b := w.heap.size + 1) (i := 1) fL (by omega) (.int .i64 qy)
            replace hb := hb.setCell (p := ⟨w.heap.size + 1, 1, none⟩) (by simp) (.int .i64 qy)
            replace fH := fH.set 1 (.int .i64 qy)
            refine Reg.wpR_end (by kernel_rfl) (fun x5 hN => ?_)
            replace fL := fL.grow hN
            replace fH := fH.grow hN
            replace fQ := fQ.grow hN
            replace hb := hb.trans (Below.mono hN hb.size)
            clear hN
            clear lQ eQ
            go_wp2_with fail
            exact ⟨⟨k + 1, by omega, by go_num, by rw [HS.out]; exact blk_pt fL (by simp only [boxStep]; omega) (by simp only [boxStep]; omega), by rw [HS.out]; exact blk_pt fH (by simp only [boxStep]; omega) (by simp only [boxStep]; omega), hb⟩, by simp [intOf]; omega⟩
        · simp only [Reg.pickL, List.drop]
          replace fL := fL.grow hN
          replace fH := fH.grow hN
          replace fQ := fQ.grow hN
          replace hb := hb.trans (Below.mono hN hb.size)
          clear hN
          have eL := fL.cell
          have lL := fL.lt
          go_wp2_with fail
          refine ⟨rfl, Reg.Kp.refl _ _, ?_⟩
          clear eL lL
          refine Reg.wpR_hoist [9] 6 rfl (by kernel_rfl) (by kernel_rfl) (fun u => ?_)
          simp only [Reg.pickL, List.drop]
          repeat (go_big_quiet_step ((first | fail)))
          refine wpQuiet_nil ?_
          skip
          refine Reg.wpR_main 1 (by kernel_rfl) (fun x2 hN => ?_)
          simp only [Reg.pickL, List.drop]
          replace fL := fL.grow hN
          replace fH := fH.grow hN
          replace fQ := fQ.grow hN
          replace hb := hb.trans (Below.mono hN hb.size)
          clear hN
          have eL := fL.cell
          have lL := fL.lt
          go_wp2_with fail
          refine ⟨rfl, Reg.Kp.refl _ _, ?_⟩
          clear eL lL
          refine Reg.wpR_hoist [4, 10] 3 rfl (by kernel_rfl) (by kernel_rfl) (fun u => ?_)
          simp only [Reg.pickL, List.drop]
          repeat (go_big_quiet_step ((first | fail)))
          refine wpQuiet_nil ?_
          skip
          refine Reg.wpR_main 11 (by kernel_rfl) (fun x3 hN => ?_)
          simp only [Reg.pickL, List.drop]
          replace fL := fL.grow hN
          replace fH := fH.grow hN
          replace fQ := fQ.grow hN
          replace hb := hb.trans (Below.mono hN hb.size)
          clear hN
          have eL := fL.cell
          have lL := fL.lt
          have kL := fL.unfrozen
          go_wp2_with fail
          refine ⟨rfl, Reg.Kp.of_set _ (fun e => hLQ (Eq.symm e)), ?_⟩
          clear eL lL kL
          replace fQ := Blk.far (b := w.heap.size) (i := 0) fQ (fun e => hLQ (Eq.symm e)) (.int .i64 qx)
          replace fH := Blk.far (b := w.heap.size) (i := 0) fH (by omega) (.int .i64 qx)
          replace hb := hb.setCell (p := ⟨w.heap.size, 0, none⟩) (by simp) (.int .i64 qx)
          replace fL := fL.set 0 (.int .i64 qx)
          refine Reg.wpR_hoist [12] 1 rfl (by kernel_rfl) (by kernel_rfl) (fun u => ?_)
          simp only [Reg.pickL, List.drop]
          repeat (go_big_quiet_step ((first | fail)))
          refine wpQuiet_nil ?_
          refine Reg.wpR_main 13 (by kernel_rfl) (fun x4 hN => ?_)
          simp only [Reg.pickL, List.drop]
          replace fL := fL.grow hN
          replace fH := fH.grow hN
          replace fQ := fQ.grow hN
          replace hb := hb.trans (Below.mono hN hb.size)
          clear hN
          have eL := fL.cell
          have lL := fL.lt
          have kL := fL.unfrozen
          go_wp2_with fail
          refine ⟨rfl, Reg.Kp.of_set _ (fun e => hLQ (Eq.symm e)), ?_⟩
          clear eL lL kL
          replace fQ := Blk.far (b := w.heap.size) (i := 1) fQ (fun e => hLQ (Eq.symm e)) (.int .i64 qy)
          replace fH := Blk.far (b := w.heap.size) (i := 1) fH (by omega) (.int .i64 qy)
          replace hb := hb.setCell (p := ⟨w.heap.size, 1, none⟩) (by simp) (.int .i64 qy)
          replace fL := fL.set 1 (.int .i64 qy)
          refine Reg.wpR_end (by kernel_rfl) (fun x5 hN => ?_)
          replace fL := fL.grow hN
          replace fH := fH.grow hN
          replace fQ := fQ.grow hN
          replace hb := hb.trans (Below.mono hN hb.size)
          clear hN
          clear lQ eQ
          go_wp2_with fail
          have eQ := fQ.cell
          have lQ := fQ.lt
          refine Reg.wp_region_R (fun b => b = Q) 14 rfl (by kernel_rfl) ?_
          refine Reg.wpR_hoist [0, 2, 3, 5, 7, 8] 8 rfl (by kernel_rfl) (by kernel_rfl) (fun u => ?_)
          simp only [Reg.pickL, List.drop]
          repeat (go_big_quiet_step ((first | fail)))
          refine wpQuiet_nil ?_
          refine Reg.wpR_main2 1 6 (by kernel_rfl) (fun x1 hN => ?_) (fun x1 hN => ?_)
          · simp only [Reg.pickL, List.drop]
            replace fL := fL.grow hN
            replace fH := fH.grow hN
            replace fQ := fQ.grow hN
            replace hb := hb.trans (Below.mono hN hb.size)
            clear hN
            have eL := fH.cell
            have lL := fH.lt
            go_wp2_with fail
            refine ⟨rfl, Reg.Kp.refl _ _, ?_⟩
            clear eL lL
            refine Reg.wpR_hoist [4] 6 rfl (by kernel_rfl) (by kernel_rfl) (fun u => ?_)
            simp only [Reg.pickL, List.drop]
            repeat (go_big_quiet_step ((first | fail)))
            refine wpQuiet_nil ?_
            skip
            refine Reg.wpR_main 6 (by kernel_rfl) (fun x2 hN => ?_)
            simp only [Reg.pickL, List.drop]
            replace fL := fL.grow hN
            replace fH := fH.grow hN
            replace fQ := fQ.grow hN
            replace hb := hb.trans (Below.mono hN hb.size)
            clear hN
            have eL := fH.cell
            have lL := fH.lt
            go_wp2_with fail
            refine ⟨rfl, Reg.Kp.refl _ _, ?_⟩
            clear eL lL
            refine Reg.wpR_hoist [9, 10] 3 rfl (by kernel_rfl) (by kernel_rfl) (fun u => ?_)
            simp only [Reg.pickL, List.drop]
            repeat (go_big_quiet_step ((first | fail)))
            refine wpQuiet_nil ?_
            skip
            refine Reg.wpR_main 11 (by kernel_rfl) (fun x3 hN => ?_)
            simp only [Reg.pickL, List.drop]
            replace fL := fL.grow hN
            replace fH := fH.grow hN
            replace fQ := fQ.grow hN
            replace hb := hb.trans (Below.mono hN hb.size)
            clear hN
            have eL := fH.cell
            have lL := fH.lt
            have kL := fH.unfrozen
            go_wp2_with fail
            refine ⟨rfl, Reg.Kp.of_set _ (fun e => hHQ (Eq.symm e)), ?_⟩
            clear eL lL kL
            replace fQ := Blk.far (b := w.heap.size + 1) (i := 0) fQ (fun e => hHQ (Eq.symm e)) (.int .i64 qx)
            replace fL := Blk.far (b := w.heap.size + 1) (i := 0) fL (by omega) (.int .i64 qx)
            replace hb := hb.setCell (p := ⟨w.heap.size + 1, 0, none⟩) (by simp) (.int .i64 qx)
            replace fH := fH.set 0 (.int .i64 qx)
            refine Reg.wpR_hoist [12] 1 rfl (by kernel_rfl) (by kernel_rfl) (fun u => ?_)
            simp only [Reg.pickL, List.drop]
            repeat (go_big_quiet_step ((first | fail)))
            refine wpQuiet_nil ?_
            refine Reg.wpR_main 13 (by kernel_rfl) (fun x4 hN => ?_)
            simp only [Reg.pickL, List.drop]
            replace fL := fL.grow hN
            replace fH := fH.grow hN
            replace fQ := fQ.grow hN
            replace hb := hb.trans (Below.mono hN hb.size)
            clear hN
            have eL := fH.cell
            have lL := fH.lt
            have kL := fH.unfrozen
            go_wp2_with fail
            refine ⟨rfl, Reg.Kp.of_set _ (fun e => hHQ (Eq.symm e)), ?_⟩
            clear eL lL kL
            replace fQ := Blk.far (b := w.heap.size + 1) (i := 1) fQ (fun e => hHQ (Eq.symm e)) (.int .i64 qy)
            replace fL := Blk.far (b := w.heap.size + 1) (i := 1) fL (by omega) (.int .i64 qy)
            replace hb := hb.setCell (p := ⟨w.heap.size + 1, 1, none⟩) (by simp) (.int .i64 qy)
            replace fH := fH.set 1 (.int .i64 qy)
            refine Reg.wpR_end (by kernel_rfl) (fun x5 hN => ?_)
            replace fL := fL.grow hN
            replace fH := fH.grow hN
            replace fQ := fQ.grow hN
            replace hb := hb.trans (Below.mono hN hb.size)
            clear hN
            clear lQ eQ
            go_wp2_with fail
            exact ⟨⟨k + 1, by omega, by go_num, by rw [HS.out]; exact blk_pt fL (by simp only [boxStep]; omega) (by simp only [boxStep]; omega), by rw [HS.out]; exact blk_pt fH (by simp only [boxStep]; omega) (by simp only [boxStep]; omega), hb⟩, by simp [intOf]; omega⟩
          · simp only [Reg.pickL, List.drop]
            replace fL := fL.grow hN
            replace fH := fH.grow hN
            replace fQ := fQ.grow hN
            replace hb := hb.trans (Below.mono hN hb.size)
            clear hN
            have eL := fH.cell
            have lL := fH.lt
            go_wp2_with fail
            refine ⟨rfl, Reg.Kp.refl _ _, ?_⟩
            clear eL lL
            refine Reg.wpR_hoist [9] 6 rfl (by kernel_rfl) (by kernel_rfl) (fun u => ?_)
            simp only [Reg.pickL, List.drop]
            repeat (go_big_quiet_step ((first | fail)))
            refine wpQuiet_nil ?_
            skip
            refine Reg.wpR_main 1 (by kernel_rfl) (fun x2 hN => ?_)
            simp only [Reg.pickL, List.drop]
            replace fL := fL.grow hN
            replace fH := fH.grow hN
            replace fQ := fQ.grow hN
            replace hb := hb.trans (Below.mono hN hb.size)
            clear hN
            have eL := fH.cell
            have lL := fH.lt
            go_wp2_with fail
            refine ⟨rfl, Reg.Kp.refl _ _, ?_⟩
            clear eL lL
            refine Reg.wpR_hoist [4, 10] 3 rfl (by kernel_rfl) (by kernel_rfl) (fun u => ?_)
            simp only [Reg.pickL, List.drop]
            repeat (go_big_quiet_step ((first | fail)))
            refine wpQuiet_nil ?_
            skip
            refine Reg.wpR_main 11 (by kernel_rfl) (fun x3 hN => ?_)
            simp only [Reg.pickL, List.drop]
            replace fL := fL.grow hN
            replace fH := fH.grow hN
            replace fQ := fQ.grow hN
            replace hb := hb.trans (Below.mono hN hb.size)
            clear hN
            have eL := fH.cell
            have lL := fH.lt
            have kL := fH.unfrozen
            go_wp2_with fail
            refine ⟨rfl, Reg.Kp.of_set _ (fun e => hHQ (Eq.symm e)), ?_⟩
            clear eL lL kL
            replace fQ := Blk.far (b := w.heap.size + 1) (i := 0) fQ (fun e => hHQ (Eq.symm e)) (.int .i64 qx)
            replace fL := Blk.far (b := w.heap.size + 1) (i := 0) fL (by omega) (.int .i64 qx)
            replace hb := hb.setCell (p := ⟨w.heap.size + 1, 0, none⟩) (by simp) (.int .i64 qx)
            replace fH := fH.set 0 (.int .i64 qx)
            refine Reg.wpR_hoist [12] 1 rfl (by kernel_rfl) (by kernel_rfl) (fun u => ?_)
            simp only [Reg.pickL, List.drop]
            repeat (go_big_quiet_step ((first | fail)))
            refine wpQuiet_nil ?_
            refine Reg.wpR_main 13 (by kernel_rfl) (fun x4 hN => ?_)
            simp only [Reg.pickL, List.drop]
            replace fL := fL.grow hN
            replace fH := fH.grow hN
            replace fQ := fQ.grow hN
            replace hb := hb.trans (Below.mono hN hb.size)
            clear hN
            have eL := fH.cell
            have lL := fH.lt
            have kL := fH.unfrozen
            go_wp2_with fail
            refine ⟨rfl, Reg.Kp.of_set _ (fun e => hHQ (Eq.symm e)), ?_⟩
            clear eL lL kL
            replace fQ := Blk.far (b := w.heap.size + 1) (i := 1) fQ (fun e => hHQ (Eq.symm e)) (.int .i64 qy)
            replace fL := Blk.far (b := w.heap.size + 1) (i := 1) fL (by omega) (.int .i64 qy)
            replace hb := hb.setCell (p := ⟨w.heap.size + 1, 1, none⟩) (by simp) (.int .i64 qy)
            replace fH := fH.set 1 (.int .i64 qy)
            refine Reg.wpR_end (by kernel_rfl) (fun x5 hN => ?_)
            replace fL := fL.grow hN
            replace fH := fH.grow hN
            replace fQ := fQ.grow hN
            replace hb := hb.trans (Below.mono hN hb.size)
            clear hN
            clear lQ eQ
            go_wp2_with fail
            exact ⟨⟨k + 1, by omega, by go_num, by rw [HS.out]; exact blk_pt fL (by simp only [boxStep]; omega) (by simp only [boxStep]; omega), by rw [HS.out]; exact blk_pt fH (by simp only [boxStep]; omega) (by simp only [boxStep]; omega), hb⟩, by simp [intOf]; omega⟩
      · have hk0' : ¬ (k : Int) = 0 := by omega
        have hkb : ((k : Int) == 0) = false := by simpa using hk0
        rw [if_neg hk0] at HS
        generalize boxAt l k = s at *
        obtain ⟨⟨lx, ly⟩, ⟨hx, hy⟩⟩ := s
        simp only at fL fH eL eH
        go_wp2_with fail
        have fQ := Blk.new wr 23 #[.int .i64 qx, .int .i64 qy]
        replace fL := fL.alloc (.cells #[.int .i64 qx, .int .i64 qy] 23)
        replace fH := fH.alloc (.cells #[.int .i64 qx, .int .i64 qy] 23)
        replace hb := hb.alloc hb.size (.cells #[.int .i64 qx, .int .i64 qy] 23)
        clear hc1 hc2 eL eH kL kH hbw
        generalize wr.alloc (.cells #[.int .i64 qx, .int .i64 qy] 23) = w1 at *
        generalize wr.heap.size = Q at *
        clear lL lH
        have eQ := fQ.cell
        have lQ := fQ.lt
        refine Reg.wp_region_R (fun b => b = Q) 14 rfl (by kernel_rfl) ?_
        refine Reg.wpR_hoist [0, 2, 3, 5, 7, 8] 8 rfl (by kernel_rfl) (by kernel_rfl) (fun u => ?_)
        simp only [Reg.pickL, List.drop]
        repeat (go_big_quiet_step ((first | fail)))
        refine wpQuiet_nil ?_
        refine Reg.wpR_main2 1 6 (by kernel_rfl) (fun x1 hN => ?_) (fun x1 hN => ?_)
        · simp only [Reg.pickL, List.drop]
          replace fL := fL.grow hN
          replace fH := fH.grow hN
          replace fQ := fQ.grow hN
          replace hb := hb.trans (Below.mono hN hb.size)
          clear hN
          have eL := fL.cell
          have lL := fL.lt
          go_wp2_with fail
          refine ⟨rfl, Reg.Kp.refl _ _, ?_⟩
          clear eL lL
          refine Reg.wpR_hoist [4] 6 rfl (by kernel_rfl) (by kernel_rfl) (fun u => ?_)
          simp only [Reg.pickL, List.drop]
          repeat (go_big_quiet_step ((first | fail)))
          refine wpQuiet_nil ?_
          generalize hv1 : (if qx < lx then qx else lx) = v1; have HV1 := Lib.hid hv1; clear hv1
          refine Reg.wpR_main 6 (by kernel_rfl) (fun x2 hN => ?_)
          simp only [Reg.pickL, List.drop]
          replace fL := fL.grow hN
          replace fH := fH.grow hN
          replace fQ := fQ.grow hN
          replace hb := hb.trans (Below.mono hN hb.size)
          clear hN
          have eL := fL.cell
          have lL := fL.lt
          go_wp2_with fail
          refine ⟨rfl, Reg.Kp.refl _ _, ?_⟩
          clear eL lL
          refine Reg.wpR_hoist [9, 10] 3 rfl (by kernel_rfl) (by kernel_rfl) (fun u => ?_)
          simp only [Reg.pickL, List.drop]
          repeat (go_big_quiet_step ((first | fail)))
          refine wpQuiet_nil ?_
          generalize hv2 : (if qy < ly then qy else ly) = v2; have HV2 := Lib.hid hv2; clear hv2
          refine Reg.wpR_main 11 (by kernel_rfl) (fun x3 hN => ?_)
          simp only [Reg.pickL, List.drop]
          replace fL := fL.grow hN
          replace fH := fH.grow hN
          replace fQ := fQ.grow hN
          replace hb := hb.trans (Below.mono hN hb.size)
          clear hN
          have eL := fL.cell
          have lL := fL.lt
          have kL := fL.unfrozen
          go_wp2_with fail
          refine ⟨rfl, Reg.Kp.of_set _ (fun e => hLQ (Eq.symm e)), ?_⟩
          clear eL lL kL
          replace fQ := Blk.far (b := w.heap.size) (i := 0) fQ (fun e => hLQ (Eq.symm e)) (.int .i64 v1)
          replace fH := Blk.far (b := w.heap.size) (i := 0) fH (by omega) (.int .i64 v1)
          replace hb := hb.setCell (p := ⟨w.heap.size, 0, none⟩) (by simp) (.int .i64 v1)
          replace fL := fL.set 0 (.int .i64 v1)
          refine Reg.wpR_hoist [12] 1 rfl (by kernel_rfl) (by kernel_rfl) (fun u => ?_)
          simp only [Reg.pickL, List.drop]
          repeat (go_big_quiet_step ((first | fail)))
          refine wpQuiet_nil ?_
          refine Reg.wpR_main 13 (by kernel_rfl) (fun x4 hN => ?_)
          simp only [Reg.pickL, List.drop]
          replace fL := fL.grow hN
          replace fH := fH.grow hN
          replace fQ := fQ.grow hN
          replace hb := hb.trans (Below.mono hN hb.size)
          clear hN
          have eL := fL.cell
          have lL := fL.lt
          have kL := fL.unfrozen
          go_wp2_with fail
          refine ⟨rfl, Reg.Kp.of_set _ (fun e => hLQ (Eq.symm e)), ?_⟩
          clear eL lL kL
          replace fQ := Blk.far (b := w.heap.size) (i := 1) fQ (fun e => hLQ (Eq.symm e)) (.int .i64 v2)
          replace fH := Blk.far (b := w.heap.size) (i := 1) fH (by omega) (.int .i64 v2)
          replace hb := hb.setCell (p := ⟨w.heap.size, 1, none⟩) (by simp) (.int .i64 v2)
          replace fL := fL.set 1 (.int .i64 v2)
          refine Reg.wpR_end (by kernel_rfl) (fun x5 hN => ?_)
          replace fL := fL.grow hN
          replace fH := fH.grow hN
          replace fQ := fQ.grow hN
          replace hb := hb.trans (Below.mono hN hb.size)
          clear hN
          clear lQ eQ
          go_wp2_with fail
          have eQ := fQ.cell
          have lQ := fQ.lt
          refine Reg.wp_region_R (fun b => b = Q) 14 rfl (by kernel_rfl) ?_
          refine Reg.wpR_hoist [0, 2, 3, 5, 7, 8] 8 rfl (by kernel_rfl) (by kernel_rfl) (fun u => ?_)
          simp only [Reg.pickL, List.drop]
          repeat (go_big_quiet_step ((first | fail)))
          refine wpQuiet_nil ?_
          refine Reg.wpR_main2 1 6 (by kernel_rfl) (fun x1 hN => ?_) (fun x1 hN => ?_)
          · simp only [Reg.pickL, List.drop]
            replace fL := fL.grow hN
            replace fH := fH.grow hN
            replace fQ := fQ.grow hN
            replace hb := hb.trans (Below.mono hN hb.size)
            clear hN
            have eL := fH.cell
            have lL := fH.lt
            go_wp2_with fail
            refine ⟨rfl, Reg.Kp.refl _ _, ?_⟩
            clear eL lL
            refine Reg.wpR_hoist [4] 6 rfl (by kernel_rfl) (by kernel_rfl) (fun u => ?_)
            simp only [Reg.pickL, List.drop]
            repeat (go_big_quiet_step ((first | fail)))
            refine wpQuiet_nil ?_
            generalize hv3 : (if hx < qx then qx else hx) = v3; have HV3 := Lib.hid hv3; clear hv3
            refine Reg.wpR_main 6 (by kernel_rfl) (fun x2 hN => ?_)
            simp only [Reg.pickL, List.drop]
            replace fL := fL.grow hN
            replace fH := fH.grow hN
            replace fQ := fQ.grow hN
            replace hb := hb.trans (Below.mono hN hb.size)
            clear hN
            have eL := fH.cell
            have lL := fH.lt
            go_wp2_with fail
            refine ⟨rfl, Reg.Kp.refl _ _, ?_⟩
            clear eL lL
            refine Reg.wpR_hoist [9, 10] 3 rfl (by kernel_rfl) (by kernel_rfl) (fun u => ?_)
            simp only [Reg.pickL, List.drop]
            repeat (go_big_quiet_step ((first | fail)))
            refine wpQuiet_nil ?_
            generalize hv4 : (if hy < qy then qy else hy) = v4; have HV4 := Lib.hid hv4; clear hv4
            refine Reg.wpR_main 11 (by kernel_rfl) (fun x3 hN => ?_)
            simp only [Reg.pickL, List.drop]
            replace fL := fL.grow hN
            replace fH := fH.grow hN
            replace fQ := fQ.grow hN
            replace hb := hb.trans (Below.mono hN hb.size)
            clear hN
            have eL := fH.cell
            have lL := fH.lt
            have kL := fH.unfrozen
            go_wp2_with fail
            refine ⟨rfl, Reg.Kp.of_set _ (fun e => hHQ (Eq.symm e)), ?_⟩
            clear eL lL kL
            replace fQ := Blk.far (b := w.heap.size + 1) (i := 0) fQ (fun e => hHQ (Eq.symm e)) (.int .i64 v3)
            replace fL := Blk.far (b := w.heap.size + 1) (i := 0) fL (by omega) (.int .i64 v3)
            replace hb := hb.setCell (p := ⟨w.heap.size + 1, 0, none⟩) (by simp) (.int .i64 v3)
            replace fH := fH.set 0 (.int .i64 v3)
            refine Reg.wpR_hoist [12] 1 rfl (by kernel_rfl) (by kernel_rfl) (fun u => ?_)
            simp only [Reg.pickL, List.drop]
            repeat (go_big_quiet_step ((first | fail)))
            refine wpQuiet_nil ?_
            refine Reg.wpR_main 13 (by kernel_rfl) (fun x4 hN => ?_)
            simp only [Reg.pickL, List.drop]
            replace fL := fL.grow hN
            replace fH := fH.grow hN
            replace fQ := fQ.grow hN
            replace hb := hb.trans (Below.mono hN hb.size)
            clear hN
            have eL := fH.cell
            have lL := fH.lt
            have kL := fH.unfrozen
            go_wp2_with fail
            refine ⟨rfl, Reg.Kp.of_set _ (fun e => hHQ (Eq.symm e)), ?_⟩
            clear eL lL kL
            replace fQ := Blk.far (b := w.heap.size + 1) (i := 1) fQ (fun e => hHQ (Eq.symm e)) (.int .i64 v4)
            replace fL := Blk.far (b := w.heap.size + 1) (i := 1) fL (by omega) (.int .i64 v4)
            replace hb := hb.setCell (p := ⟨w.heap.size + 1, 1, none⟩) (by simp) (.int .i64 v4)
            replace fH := fH.set 1 (.int .i64 v4)
            refine Reg.wpR_end (by kernel_rfl) (fun x5 hN => ?_)
            replace fL := fL.grow hN
            replace fH := fH.grow hN
            replace fQ := fQ.grow hN
            replace hb := hb.trans (Below.mono hN hb.size)
            clear hN
            clear lQ eQ
            go_wp2_with fail
            exact ⟨⟨k + 1, by omega, by go_num, by rw [HS.out]; exact blk_pt fL ((min_if _ _).trans HV1.out) ((min_if _ _).trans HV2.out), by rw [HS.out]; exact blk_pt fH ((max_if _ _).trans HV3.out) ((max_if _ _).trans HV4.out), hb⟩, by simp [intOf]; omega⟩
          · simp only [Reg.pickL, List.drop]
            replace fL := fL.grow hN
            replace fH := fH.grow hN
            replace fQ := fQ.grow hN
            replace hb := hb.trans (Below.mono hN hb.size)
            clear hN
            have eL := fH.cell
            have lL := fH.lt
            go_wp2_with fail
            refine ⟨rfl, Reg.Kp.refl _ _, ?_⟩
            clear eL lL
            refine Reg.wpR_hoist [9] 6 rfl (by kernel_rfl) (by kernel_rfl) (fun u => ?_)
            simp only [Reg.pickL, List.drop]
            repeat (go_big_quiet_step ((first | fail)))
            refine wpQuiet_nil ?_
            generalize hv4 : (if hy < qy then qy else hy) = v4; have HV4 := Lib.hid hv4; clear hv4
            refine Reg.wpR_main 1 (by kernel_rfl) (fun x2 hN => ?_)
            simp only [Reg.pickL, List.drop]
            replace fL := fL.grow hN
            replace fH := fH.grow hN
            replace fQ := fQ.grow hN
            replace hb := hb.trans (Below.mono hN hb.size)
            clear hN
            have eL := fH.cell
            have lL := fH.lt
            go_wp2_with fail
            refine ⟨rfl, Reg.Kp.refl _ _, ?_⟩
            clear eL lL
            refine Reg.wpR_hoist [4, 10] 3 rfl (by kernel_rfl) (by kernel_rfl) (fun u => ?_)
            simp only [Reg.pickL, List.drop]
            repeat (go_big_quiet_step ((first | fail)))
            refine wpQuiet_nil ?_
            generalize hv3 : (if hx < qx then qx else hx) = v3; have HV3 := Lib.hid hv3; clear hv3
            refine Reg.wpR_main 11 (by kernel_rfl) (fun x3 hN => ?_)
            simp only [Reg.pickL, List.drop]
            replace fL := fL.grow hN
            replace fH := fH.grow hN
            replace fQ := fQ.grow hN
            replace hb := hb.trans (Below.mono hN hb.size)
            clear hN
            have eL := fH.cell
            have lL := fH.lt
            have kL := fH.unfrozen
            go_wp2_with fail
            refine ⟨rfl, Reg.Kp.of_set _ (fun e => hHQ (Eq.symm e)), ?_⟩
            clear eL lL kL
            replace fQ := Blk.far (b := w.heap.size + 1) (i := 0) fQ (fun e => hHQ (Eq.symm e)) (.int .i64 v3)
            replace fL := Blk.far (b := w.heap.size + 1) (i := 0) fL (by omega) (.int .i64 v3)
            replace hb := hb.setCell (p := ⟨w.heap.size + 1, 0, none⟩) (by simp) (.int .i64 v3)
            replace fH := fH.set 0 (.int .i64 v3)
            refine Reg.wpR_hoist [12] 1 rfl (by kernel_rfl) (by kernel_rfl) (fun u => ?_)
            simp only [Reg.pickL, List.drop]
            repeat (go_big_quiet_step ((first | fail)))
            refine wpQuiet_nil ?_
            refine Reg.wpR_main 13 (by kernel_rfl) (fun x4 hN => ?_)
            simp only [Reg.pickL, List.drop]
            replace fL := fL.grow hN
            replace fH := fH.grow hN
            replace fQ := fQ.grow hN
            replace hb := hb.trans (Below.mono hN hb.size)
            clear hN
            have eL := fH.cell
            have lL := fH.lt
            have kL := fH.unfrozen
            go_wp2_with fail
            refine ⟨rfl, Reg.Kp.of_set _ (fun e => hHQ (Eq.symm e)), ?_⟩
            clear eL lL kL
            replace fQ := Blk.far (b := w.heap.size + 1) (i := 1) fQ (fun e => hHQ (Eq.symm e)) (.int .i64 v4)
            replace fL := Blk.far (b := w.heap.size + 1) (i := 1) fL (by omega) (.int .i64 v4)
            replace hb := hb.setCell (p := ⟨w.heap.size + 1, 1, none⟩) (by simp) (.int .i64 v4)
            replace fH := fH.set 1 (.int .i64 v4)
            refine Reg.wpR_end (by kernel_rfl) (fun x5 hN => ?_)
            replace fL := fL.grow hN
            replace fH := fH.grow hN
            replace fQ := fQ.grow hN
            replace hb := hb.trans (Below.mono hN hb.size)
            clear hN
            clear lQ eQ
            go_wp2_with fail
            exact ⟨⟨k + 1, by omega, by go_num, by rw [HS.out]; exact blk_pt fL ((min_if _ _).trans HV1.out) ((min_if _ _).trans HV2.out), by rw [HS.out]; exact blk_pt fH ((max_if _ _).trans HV3.out) ((max_if _ _).trans HV4.out), hb⟩, by simp [intOf]; omega⟩
        · simp only [Reg.pickL, List.drop]
          replace fL := fL.grow hN
          replace fH := fH.grow hN
          replace fQ := fQ.grow hN
          replace hb := hb.trans (Below.mono hN hb.size)
          clear hN
          have eL := fL.cell
          have lL := fL.lt
          go_wp2_with fail
          refine ⟨rfl, Reg.Kp.refl _ _, ?_⟩
          clear eL lL
          refine Reg.wpR_hoist [9] 6 rfl (by kernel_rfl) (by kernel_rfl) (fun u => ?_)
          simp only [Reg.pickL, List.drop]
          repeat (go_big_quiet_step ((first | fail)))
          refine wpQuiet_nil ?_
          generalize hv2 : (if qy < ly then qy else ly) = v2; have HV2 := Lib.hid hv2; clear hv2
          refine Reg.wpR_main 1 (by kernel_rfl) (fun x2 hN => ?_)
          simp only [Reg.pickL, List.drop]
          replace fL := fL.grow hN
          replace fH := fH.grow hN
          replace fQ := fQ.grow hN
          replace hb := hb.trans (Below.mono hN hb.size)
          clear hN
          have eL := fL.cell
          have lL := fL.lt
          go_wp2_with fail
          refine ⟨rfl, Reg.Kp.refl _ _, ?_⟩
          clear eL lL
          refine Reg.wpR_hoist [4, 10] 3 rfl (by kernel_rfl) (by kernel_rfl) (fun u => ?_)
          simp only [Reg.pickL, List.drop]
          repeat (go_big_quiet_step ((first | fail)))
          refine wpQuiet_nil ?_
          generalize hv1 : (if qx < lx then qx else lx) = v1; have HV1 := Lib.hid hv1; clear hv1
          refine Reg.wpR_main 11 (by kernel_rfl) (fun x3 hN => ?_)
          simp only [Reg.pickL, List.drop]
          replace fL := fL.grow hN
          replace fH := fH.grow hN
          replace fQ := fQ.grow hN
          replace hb := hb.trans (Below.mono hN hb.size)
          clear hN
          have eL := fL.cell
          have lL := fL.lt
          have kL := fL.unfrozen
          go_wp2_with fail
          refine ⟨rfl, Reg.Kp.of_set _ (fun e => hLQ (Eq.symm e)), ?_⟩
          clear eL lL kL
          replace fQ := Blk.far (b := w.heap.size) (i := 0) fQ (fun e => hLQ (Eq.symm e)) (.int .i64 v1)
          replace fH := Blk.far (b := w.heap.size) (i := 0) fH (by omega) (.int .i64 v1)
          replace hb := hb.setCell (p := ⟨w.heap.size, 0, none⟩) (by simp) (.int .i64 v1)
          replace fL := fL.set 0 (.int .i64 v1)
          refine Reg.wpR_hoist [12] 1 rfl (by kernel_rfl) (by kernel_rfl) (fun u => ?_)
          simp only [Reg.pickL, List.drop]
          repeat (go_big_quiet_step ((first | fail)))
          refine wpQuiet_nil ?_
          refine Reg.wpR_main 13 (by kernel_rfl) (fun x4 hN => ?_)
          simp only [Reg.pickL, List.drop]
          replace fL := fL.grow hN
          replace fH := fH.grow hN
          replace fQ := fQ.grow hN
          replace hb := hb.trans (Below.mono hN hb.size)
          clear hN
          have eL := fL.cell
          have lL := fL.lt
          have kL := fL.unfrozen
          go_wp2_with fail
          refine ⟨rfl, Reg.Kp.of_set _ (fun e => hLQ (Eq.symm e)), ?_⟩
          clear eL lL kL
          replace fQ := Blk.far (b := w.heap.size) (i := 1) fQ (fun e => hLQ (Eq.symm e)) (.int .i64 v2)
          replace fH := Blk.far (b := w.heap.size) (i := 1) fH (by omega) (.int .i64 v2)
          replace hb := hb.setCell (p := ⟨w.heap.size, 1, none⟩) (by simp) (.int .i64 v2)
          replace fL := fL.set 1 (.int .i64 v2)
          refine Reg.wpR_end (by kernel_rfl) (fun x5 hN => ?_)
          replace fL := fL.grow hN
          replace fH := fH.grow hN
          replace fQ := fQ.grow hN
          replace hb := hb.trans (Below.mono hN hb.size)
          clear hN
          clear lQ eQ
          go_wp2_with fail
          have eQ := fQ.cell
          have lQ := fQ.lt
          refine Reg.wp_region_R (fun b => b = Q) 14 rfl (by kernel_rfl) ?_
          refine Reg.wpR_hoist [0, 2, 3, 5, 7, 8] 8 rfl (by kernel_rfl) (by kernel_rfl) (fun u => ?_)
          simp only [Reg.pickL, List.drop]
          repeat (go_big_quiet_step ((first | fail)))
          refine wpQuiet_nil ?_
          refine Reg.wpR_main2 1 6 (by kernel_rfl) (fun x1 hN => ?_) (fun x1 hN => ?_)
          · simp only [Reg.pickL, List.drop]
            replace fL := fL.grow hN
            replace fH := fH.grow hN
            replace fQ := fQ.grow hN
            replace hb := hb.trans (Below.mono hN hb.size)
            clear hN
            have eL := fH.cell
            have lL := fH.lt
            go_wp2_with fail
            refine ⟨rfl, Reg.Kp.refl _ _, ?_⟩
            clear eL lL
            refine Reg.wpR_hoist [4] 6 rfl (by kernel_rfl) (by kernel_rfl) (fun u => ?_)
            simp only [Reg.pickL, List.drop]
            repeat (go_big_quiet_step ((first | fail)))
            refine wpQuiet_nil ?_
            generalize hv3 : (if hx < qx then qx else hx) = v3; have HV3 := Lib.hid hv3; clear hv3
            refine Reg.wpR_main 6 (by kernel_rfl) (fun x2 hN => ?_)
            simp only [Reg.pickL, List.drop]
            replace fL := fL.grow hN
            replace fH := fH.grow hN
            replace fQ := fQ.grow hN
            replace hb := hb.trans (Below.mono hN hb.size)
            clear hN
            have eL := fH.cell
            have lL := fH.lt
            go_wp2_with fail
            refine ⟨rfl, Reg.Kp.refl _ _, ?_⟩
            clear eL lL
            refine Reg.wpR_hoist [9, 10] 3 rfl (by kernel_rfl) (by kernel_rfl) (fun u => ?_)
            simp only [Reg.pickL, List.drop]
            repeat (go_big_quiet_step ((first | fail)))
            refine wpQuiet_nil ?_
            generalize hv4 : (if hy < qy then qy else hy) = v4; have HV4 := Lib.hid hv4; clear hv4
            refine Reg.wpR_main 11 (by kernel_rfl) (fun x3 hN => ?_)
            simp only [Reg.pickL, List.drop]
            replace fL := fL.grow hN
            replace fH := fH.grow hN
            replace fQ := fQ.grow hN
            replace hb := hb.trans (Below.mono hN hb.size)
            clear hN
            have eL := fH.cell
            have lL := fH.lt
            have kL := fH.unfrozen
            go_wp2_with fail
            refine ⟨rfl, Reg.Kp.of_set _ (fun e => hHQ (Eq.symm e)), ?_⟩
            clear eL lL kL
            replace fQ := Blk.far (b := w.heap.size + 1) (i := 0) fQ (fun e => hHQ (Eq.symm e)) (.int .i64 v3)
            replace fL := Blk.far (b := w.heap.size + 1) (i := 0) fL (by omega) (.int .i64 v3)
            replace hb := hb.setCell (p := ⟨w.heap.size + 1, 0, none⟩) (by simp) (.int .i64 v3)
            replace fH := fH.set 0 (.int .i64 v3)
            refine Reg.wpR_hoist [12] 1 rfl (by kernel_rfl) (by kernel_rfl) (fun u => ?_)
            simp only [Reg.pickL, List.drop]
            repeat (go_big_quiet_step ((first | fail)))
            refine wpQuiet_nil ?_
            refine Reg.wpR_main 13 (by kernel_rfl) (fun x4 hN => ?_)
            simp only [Reg.pickL, List.drop]
            replace fL := fL.grow hN
            replace fH := fH.grow hN
            replace fQ := fQ.grow hN
            replace hb := hb.trans (Below.mono hN hb.size)
            clear hN
            have eL := fH.cell
            have lL := fH.lt
            have kL := fH.unfrozen
            go_wp2_with fail
            refine ⟨rfl, Reg.Kp.of_set _ (fun e => hHQ (Eq.symm e)), ?_⟩
            clear eL lL kL
            replace fQ := Blk.far (b := w.heap.size + 1) (i := 1) fQ (fun e => hHQ (Eq.symm e)) (.int .i64 v4)
            replace fL := Blk.far (b := w.heap.size + 1) (i := 1) fL (by omega) (.int .i64 v4)
            replace hb := hb.setCell (p := ⟨w.heap.size + 1, 1, none⟩) (by simp) (.int .i64 v4)
            replace fH := fH.set 1 (.int .i64 v4)
            refine Reg.wpR_end (by kernel_rfl) (fun x5 hN => ?_)
            replace fL := fL.grow hN
            replace fH := fH.grow hN
            replace fQ := fQ.grow hN
            replace hb := hb.trans (Below.mono hN hb.size)
            clear hN
            clear lQ eQ
            go_wp2_with fail
            exact ⟨⟨k + 1, by omega, by go_num, by rw [HS.out]; exact blk_pt fL ((min_if _ _).trans HV1.out) ((min_if _ _).trans HV2.out), by rw [HS.out]; exact blk_pt fH ((max_if _ _).trans HV3.out) ((max_if _ _).trans HV4.out), hb⟩, by simp [intOf]; omega⟩
          · simp only [Reg.pickL, List.drop]
            replace fL := fL.grow hN
            replace fH := fH.grow hN
            replace fQ := fQ.grow hN
            replace hb := hb.trans (Below.mono hN hb.size)
            clear hN
            have eL := fH.cell
            have lL := fH.lt
            go_wp2_with fail
            refine ⟨rfl, Reg.Kp.refl _ _, ?_⟩
            clear eL lL
            refine Reg.wpR_hoist [9] 6 rfl (by kernel_rfl) (by kernel_rfl) (fun u => ?_)
            simp only [Reg.pickL, List.drop]
            repeat (go_big_quiet_step ((first | fail)))
            refine wpQuiet_nil ?_
            generalize hv4 : (if hy < qy then qy else hy) = v4; have HV4 := Lib.hid hv4; clear hv4
            refine Reg.wpR_main 1 (by kernel_rfl) (fun x2 hN => ?_)
            simp only [Reg.pickL, List.drop]
            replace fL := fL.grow hN
            replace fH := fH.grow hN
            replace fQ := fQ.grow hN
            replace hb := hb.trans (Below.mono hN hb.size)
            clear hN
            have eL := fH.cell
            have lL := fH.lt
            go_wp2_with fail
            refine ⟨rfl, Reg.Kp.refl _ _, ?_⟩
            clear eL lL
            refine Reg.wpR_hoist [4, 10] 3 rfl (by kernel_rfl) (by kernel_rfl) (fun u => ?_)
            simp only [Reg.pickL, List.drop]
            repeat (go_big_quiet_step ((first | fail)))
            refine wpQuiet_nil ?_
            generalize hv3 : (if hx < qx then qx else hx) = v3; have HV3 := Lib.hid hv3; clear hv3
            refine Reg.wpR_main 11 (by kernel_rfl) (fun x3 hN => ?_)
            simp only [Reg.pickL, List.drop]
            replace fL := fL.grow hN
            replace fH := fH.grow hN
            replace fQ := fQ.grow hN
            replace hb := hb.trans (Below.mono hN hb.size)
            clear hN
            have eL := fH.cell
            have lL := fH.lt
            have kL := fH.unfrozen
            go_wp2_with fail
            refine ⟨rfl, Reg.Kp.of_set _ (fun e => hHQ (Eq.symm e)), ?_⟩
            clear eL lL kL
            replace fQ := Blk.far (b := w.heap.size + 1) (i := 0) fQ (fun e => hHQ (Eq.symm e)) (.int .i64 v3)
            replace fL := Blk.far (b := w.heap.size + 1) (i := 0) fL (by omega) (.int .i64 v3)
            replace hb := hb.setCell (p := ⟨w.heap.size + 1, 0, none⟩) (by simp) (.int .i64 v3)
            replace fH := fH.set 0 (.int .i64 v3)
            refine Reg.wpR_hoist [12] 1 rfl (by kernel_rfl) (by kernel_rfl) (fun u => ?_)
            simp only [Reg.pickL, List.drop]
            repeat (go_big_quiet_step ((first | fail)))
            refine wpQuiet_nil ?_
            refine Reg.wpR_main 13 (by kernel_rfl) (fun x4 hN => ?_)
            simp only [Reg.pickL, List.drop]
            replace fL := fL.grow hN
            replace fH := fH.grow hN
            replace fQ := fQ.grow hN
            replace hb := hb.trans (Below.mono hN hb.size)
            clear hN
            have eL := fH.cell
            have lL := fH.lt
            have kL := fH.unfrozen
            go_wp2_with fail
            refine ⟨rfl, Reg.Kp.of_set _ (fun e => hHQ (Eq.symm e)), ?_⟩
            clear eL lL kL
            replace fQ := Blk.far (b := w.heap.size + 1) (i := 1) fQ (fun e => hHQ (Eq.symm e)) (.int .i64 v4)
            replace fL := Blk.far (b := w.heap.size + 1) (i := 1) fL (by omega) (.int .i64 v4)
            replace hb := hb.setCell (p := ⟨w.heap.size + 1, 1, none⟩) (by simp) (.int .i64 v4)
            replace fH := fH.set 1 (.int .i64 v4)
            refine Reg.wpR_end (by kernel_rfl) (fun x5 hN => ?_)
            replace fL := fL.grow hN
            replace fH := fH.grow hN
            replace fQ := fQ.grow hN
            replace hb := hb.trans (Below.mono hN hb.size)
            clear hN
            clear lQ eQ
            go_wp2_with fail
            exact ⟨⟨k + 1, by omega, by go_num, by rw [HS.out]; exact blk_pt fL ((min_if _ _).trans HV1.out) ((min_if _ _).trans HV2.out), by rw [HS.out]; exact blk_pt fH ((max_if _ _).trans HV3.out) ((max_if _ _).trans HV4.out), hb⟩, by simp [intOf]; omega⟩
    · have hkn : k = n := by omega
      have hlt' : ¬ (k : Int) < n := by omega
      subst hkn
      have hbk : boxAt l k = boxK l := by unfold boxK; rw [HLL.out]
      rw [hbk] at fL fH
      have lL := fL.lt
      have lH := fH.lt
      have eL := fL.cell
      have eH := fH.cell
      have kL := fL.unfrozen
      have kH := fH.unfrozen
      obtain ⟨s, hs⟩ : ∃ s, boxK l = s := ⟨_, rfl⟩
      rw [hs] at fL fH
      simp only [hs] at eL eH
      have HBX := Lib.hid hs
      clear hbk hs
      obtain ⟨⟨lx, ly⟩, ⟨hx, hy⟩⟩ := s
      simp only at fL fH eL eH
      go_wp2_with fail
      refine Reg.wp_region_E (fun b => b = w.heap.size + 1) (fun j => decide (3 ≤ j)) 4 rfl (by kernel_rfl) ?_
      refine Reg.wpE_hoist [1] 3 rfl (by kernel_rfl) (by kernel_rfl) (by kernel_rfl) (fun u => ?_)
      simp only [Reg.pickL, List.drop]
      repeat (go_big_quiet_step ((first | fail)))
      refine wpQuiet_nil ?_
      clear eL eH kL kH lL lH
      refine Reg.wpE_main 0 (by kernel_rfl) (fun x1 hN => ?_)
      simp only [Reg.pickL, List.drop]
      replace fL := fL.grow hN
      replace fH := fH.grow hN
      replace hb := hb.trans (Below.mono hN hb.size)
      clear hN
      have eL := fL.cell
      have lL := fL.lt
      go_wp2_with fail
      refine ⟨rfl, .inr (Reg.Kp.refl _ _), ?_⟩
      clear eL lL
      refine Reg.wpE_main 2 (by kernel_rfl) (fun x2 hN => ?_)
      simp only [Reg.pickL, List.drop]
      replace fL := fL.grow hN
      replace fH := fH.grow hN
      replace hb := hb.trans (Below.mono hN hb.size)
      clear hN
      have eL := fL.cell
      have lL := fL.lt
      have kL := fL.unfrozen
      go_wp2_with fail
      refine ⟨rfl, .inr (Reg.Kp.trans (Reg.Kp.of_set _ (by omega)) (Reg.Kp.of_set _ (by omega))), ?_⟩
      clear eL lL kL
      replace fH := Blk.far (b := w.heap.size) (i := 1) (Blk.far (b := w.heap.size) (i := 0) fH (by omega) (.int .i64 lx)) (by omega) (.int .i64 ly)
      replace hb := (hb.setCell (p := ⟨w.heap.size, 0, none⟩) (by simp) (.int .i64 lx)).setCell (p := ⟨w.heap.size, 1, none⟩) (by simp) (.int .i64 ly)
      replace fL := (fL.set 0 (.int .i64 lx)).set 1 (.int .i64 ly)
      refine Reg.wpE_main 3 (by kernel_rfl) (fun x3 hN => ?_)
      simp only [Reg.pickL, List.drop]
      replace fL := fL.grow hN
      replace fH := fH.grow hN
      replace hb := hb.trans (Below.mono hN hb.size)
      clear hN
      have eL := fH.cell
      have lL := fH.lt
      have kL := fH.unfrozen
      go_wp2_with fail
      refine ⟨rfl, .inl rfl, ?_⟩
      clear eL lL kL
      replace fL := Blk.far (b := w.heap.size + 1) (i := 1) (Blk.far (b := w.heap.size + 1) (i := 0) fL (by omega) (.int .i64 hx)) (by omega) (.int .i64 hy)
      replace hb := (hb.setCell (p := ⟨w.heap.size + 1, 0, none⟩) (by simp) (.int .i64 hx)).setCell (p := ⟨w.heap.size + 1, 1, none⟩) (by simp) (.int .i64 hy)
      replace fH := (fH.set 0 (.int .i64 hx)).set 1 (.int .i64 hy)
      refine Reg.wpE_end (by kernel_rfl) (fun x4 hN => ?_)
      replace fL := fL.grow hN
      replace fH := fH.grow hN
      replace hb := hb.trans (Below.mono hN hb.size)
      clear hN
      go_wp2_with fail
      exact bodyPost_ret (res_box fL fH rfl rfl rfl rfl rfl) rfl ⟨by rw [HBX.out], hb⟩
end Go.Proofs.Ytljmhenhibhbfaa
