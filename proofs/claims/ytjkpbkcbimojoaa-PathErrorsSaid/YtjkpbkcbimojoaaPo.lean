/- PathErrors: the walk. Printed by generrors.py. -/
import Derived.Test.YtjkpbkcbimojoaaPl
import Derived.Test.YtjkpbkcbimojoaaPq
import Derived.Test.YtjkpbkcbimojoaaApp
import Derived.Test.YtjkpbkcbimojoaaRegc
import Derived.Deep.DeepCutAuto
namespace Go.Proofs.Ytjkpbkcbimojoaa
open Go.RowKit

theorem infoPt : (Try.prog.info? 44).map (fun i => (i.zero, i.size, i.bytes)) = some (some (.agg #[.int .i64 0, .int .i64 0]), 2, 16) := by kernel_rfl
theorem infoInt : (Try.prog.info? 3).map (fun i => (i.zero, i.size, i.bytes)) = some (some (.int .i64 0), 1, 8) := by kernel_rfl

/-- The path with one more point. -/
def ErrA (wS : World) (a : Option Addr) (n c m : Nat) (ps : List (Int × Int)) (v : Value) (wx : World) : Prop :=
  ∃ g a8 c8, v = .pointer (some ⟨g, 0, none⟩) ∧ Blk wx g 25 #[.slice a n c, .slice a8 (m + 1) c8] ∧ RPts wx wx.heap.size a8 (m + 1) (ps ++ [(0, 0)]) ∧ Below wS.heap.size wS wx ∧ wS.heap.size ≤ g

/-- The path with one more point and one more verb. -/
def ErrB (wT : World) (n m c8 : Nat) (a8 : Option Addr) (vs : List Int) (verb : Int) (v : Value) (wx : World) : Prop :=
  ∃ g a9 c9, v = .pointer (some ⟨g, 0, none⟩) ∧ Blk wx g 25 #[.slice a9 (n + 1) c9, .slice a8 (m + 1) c8] ∧ RInts wx wx.heap.size a9 (n + 1) (vs ++ [verb]) ∧ Below wT.heap.size wT wx ∧ wT.heap.size ≤ g
/-- The path with a line ahead. -/
def ErrC (wU : World) (n m d : Nat) (b : Option Addr) (vs : List Int) (v : Value) (wx : World) : Prop :=
  ∃ g a9 c9, v = .pointer (some ⟨g, 0, none⟩) ∧ Blk wx g 25 #[.slice a9 (1 + n) c9, .slice b m d] ∧ RInts wx wx.heap.size a9 (1 + n) (2 :: vs) ∧ Below wU.heap.size wU wx ∧ wU.heap.size ≤ g

set_option maxRecDepth 100000 in
set_option maxHeartbeats 20000000 in
theorem lerrors_main (a b : Option Addr) (n m c d : Nat) (verb : Int) (vs : List Int) (ps : List (Int × Int)) (w : World) (hnd : b = none → m = 0 ∧ d = 0) (hnc : a = none → n = 0 ∧ c = 0)
    (hn5 : n ≤ 500) (hm6 : m ≤ 1600) (hmd : m ≤ d) (hv : RInts w w.heap.size a n vs) (hp : RPts w w.heap.size b m ps) (hck : checkS vs ps = 0) :
    Calls Try.prog 5 #[.agg #[.slice a n c, .slice b m d], .int .i64 verb] w fun e w' => e = .returned (.bool true) ∧ Below w.heap.size w w' := by
  obtain ⟨iP, hiP, hz0P, hz1P, hz2P⟩ := info_parts infoPt
  obtain ⟨iI, hiI, hz0I, hz1I, hz2I⟩ := info_parts infoInt
  have KB := Lib.hid (fun W => bounded_any a b n m c d W (by omega) (by omega))
  have KC := Lib.hid (fun W (hW : Below w.heap.size w W) => check_any a b n m c d vs ps W (by omega) (hv.grow hW) (hp.grow hW))
  have hkb : Hid ((decide (n ≤ 520) && decide (m ≤ 1600)) = true) := Lib.hid (by simp; omega)
  have HML := Lib.hid hp.1
  have HNL := Lib.hid hv.1
  have HV := Lib.hid hv
  have HP := Lib.hid hp
  have HND := Lib.hid hnd
  have HNC := Lib.hid hnc
  have HCK := Lib.hid hck
  have s1 := Blk.new w 25 #[.slice a n c, .slice b m d]
  clear hv hp hnd hnc hck
  go_enter Try.func5, Try.ntmps5
  go_wp2_with fail
  refine (KB.out _).mono ?_
  rw [hkb.out]
  rintro e w2 ⟨rfl, hb2⟩
  have hx2 : Below w.heap.size w w2 := Below.trans (by (repeat (first | exact Below.refl _ _ | assumption | refine Below.drew ?_ | refine Below.setCell ?_ (by simp; try omega) _ | refine Below.alloc ?_ (by simp; try omega) _))) (hb2.mono (by simp))
  replace s1 := s1.grow hb2
  clear hb2
  have l1 := s1.lt
  have g0 : w2.cell? ⟨w.heap.size, 0, none⟩ = some (.slice a n c) := s1.cell 0
  have g1 : w2.cell? ⟨w.heap.size, 1, none⟩ = some (.slice b m d) := s1.cell 1
  go_wp2_with fail
  refine (KC.out _ hx2).mono ?_
  rw [HCK.out]
  rintro e w3 ⟨rfl, hb2⟩
  have hx3 := hx2.trans (hb2.mono hx2.size)
  replace s1 := s1.grow hb2
  clear hb2 hx2 g0 g1 l1
  go_wp2_with fail
  refine (shown_any _).mono ?_
  rintro e wS ⟨rfl, hb2⟩
  have hx := hx3.trans (hb2.mono hx3.size)
  replace s1 := s1.grow hb2
  clear hb2 hx3
  have hwS := hx.size
  have l1 := s1.lt
  have g0 : wS.cell? ⟨w.heap.size, 0, none⟩ = some (.slice a n c) := s1.cell 0
  have g1 : wS.cell? ⟨w.heap.size, 1, none⟩ = some (.slice b m d) := s1.cell 1
  have hS := Below.refl wS.heap.size wS
  go_upto_region 3 with (fail)
  go_cut [5] (fun v wx => ErrA wS a n c m ps v wx)
  case first =>
    go_wp2_with fail
    refine Reg.wp_region_R (fun b => b < wS.heap.size) 12 rfl (by kernel_rfl) ?_
    refine Reg.wpR_hoist [0, 1, 3, 4, 6] 7 rfl (by kernel_rfl) (by kernel_rfl) (fun u => ?_)
    simp only [Reg.pickL, List.drop]
    repeat (go_big_quiet_step ((first | fail)))
    refine wpQuiet_nil ?_
    refine Reg.wpR_main3 2 7 10 (by kernel_rfl) (fun x1 hN => ?_) (fun x2 hN => ?_) (fun x3 hN => ?_)
    · simp only [Reg.pickL, List.drop]
      replace hx := hx.trans (Below.mono hN hx.size)
      replace hS := hS.trans (Below.mono hN hS.size)
      clear hN
      have hsz := hS.size
      go_wp2_with fail
      refine ⟨rfl, Reg.Kp.of_gr ((Below.refl _ _).alloc (Nat.le_refl _) _), ?_⟩
      have f2 := own_empty x1 wS.heap.size 44 2 hsz
      replace hx := hx.alloc hx.size (.cells #[] 44)
      replace hS := hS.alloc hS.size (.cells #[] 44)
      clear hsz
      refine Reg.wpR_main3 5 7 10 (by kernel_rfl) (fun x4 hN => ?_) (fun x5 hN => ?_) (fun x6 hN => ?_)
      · simp only [Reg.pickL, List.drop]
        replace hx := hx.trans (Below.mono hN hx.size)
        replace hS := hS.trans (Below.mono hN hS.size)
        replace f2 := own_grow f2 hN
        clear hN
        refine wpList_append_src rfl _ _ 23 rfl wS.heap.size 44 iP _ 2 16 Try.underlying23 hiP hz0P hz1P hz2P rfl (by decide) (.slice (some ⟨x1.heap.size, 0, none⟩) 0 0) _ _ rfl f2 b m d (ptsV ps) rfl HND.out (by rw [ptsV_length, HML.out]) ((HP.out.below hx).news) (ptsV_one _) (by unfold maxLen; omega) (by omega) hS.size ?_
        have hlo := f2.lt
        have hsz := hS.size
        have hxz := hx.size
        intro va wa hown hg
        simp only [Nat.zero_add, List.nil_append] at hown
        obtain ⟨aa, ca, rfl, _⟩ := own_slice hown
        go_wp2_with fail
        refine ⟨rfl, Reg.Kp.of_grown hg (fun b hb => Nat.not_lt.2 (hlo b hb).1), ?_⟩
        replace hx := hx.grown hg hxz (fun k hk => Nat.le_trans hwS (hlo k hk).1)
        replace hS := hS.grown hg hsz (fun k hk => (hlo k hk).1)
        have f5 := hown
        clear hown hg hlo hsz hxz f2
        refine Reg.wpR_main2 7 10 (by kernel_rfl) (fun x7 hN => ?_) (fun x8 hN => ?_)
        · simp only [Reg.pickL, List.drop]
          replace hx := hx.trans (Below.mono hN hx.size)
          replace hS := hS.trans (Below.mono hN hS.size)
          replace f5 := own_grow f5 hN
          clear hN
          have hsz := hS.size
          go_wp2_with fail
          refine ⟨rfl, Reg.Kp.of_gr ((Below.refl _ _).alloc (Nat.le_refl _) _), ?_⟩
          replace f5 := f5.alloc (.cells #[.int .i64 0, .int .i64 0] 44)
          have f7 := Blk.new x7 44 #[.int .i64 0, .int .i64 0]
          replace hx := hx.alloc hx.size (.cells #[.int .i64 0, .int .i64 0] 44)
          replace hS := hS.alloc hS.size (.cells #[.int .i64 0, .int .i64 0] 44)
          clear hsz
          refine Reg.wpR_main2 8 10 (by kernel_rfl) (fun x9 hN => ?_) (fun x10 hN => ?_)
          · simp only [Reg.pickL, List.drop]
            replace hx := hx.trans (Below.mono hN hx.size)
            replace hS := hS.trans (Below.mono hN hS.size)
            replace f5 := own_grow f5 hN
            replace f7 := f7.grow hN
            clear hN
            refine wpList_append_src rfl _ _ 23 rfl wS.heap.size 44 iP _ 2 16 Try.underlying23 hiP hz0P hz1P hz2P rfl (by decide) (.slice aa m ca) _ _ rfl f5 (some ⟨x7.heap.size, 0, none⟩) 1 1 [.int .i64 0, .int .i64 0] rfl (by simp) rfl (fun j u hj => ⟨_, rfl, (Blk.news (l := [.int .i64 0, .int .i64 0]) f7) j u hj⟩) (by simp [Value.oneCell']) (by unfold maxLen; omega) (by omega) hS.size ?_
            have hlo := f5.lt
            have hsz := hS.size
            have hxz := hx.size
            intro va wa hown hg
            obtain ⟨aa, ca, rfl, _⟩ := own_slice hown
            go_wp2_with fail
            refine ⟨rfl, Reg.Kp.of_grown hg (fun b hb => Nat.not_lt.2 (hlo b hb).1), ?_⟩
            replace hx := hx.grown hg hxz (fun k hk => Nat.le_trans hwS (hlo k hk).1)
            replace hS := hS.grown hg hsz (fun k hk => (hlo k hk).1)
            have f8 := hown
            clear hown hg hlo hsz hxz f5
            refine Reg.wpR_hoist [9] 2 rfl (by kernel_rfl) (by kernel_rfl) (fun u => ?_)
            simp only [Reg.pickL, List.drop]
            repeat (go_big_quiet_step ((first | fail)))
            refine wpQuiet_nil ?_
            refine Reg.wpR_main 10 (by kernel_rfl) (fun x11 hN => ?_)
            simp only [Reg.pickL, List.drop]
            replace hx := hx.trans (Below.mono hN hx.size)
            replace hS := hS.trans (Below.mono hN hS.size)
            replace f8 := own_grow f8 hN
            clear hN
            have hsz := hS.size
            go_wp2_with fail
            refine ⟨rfl, Reg.Kp.of_gr ((Below.refl _ _).alloc (Nat.le_refl _) _), ?_⟩
            replace f8 := f8.alloc (.cells #[.slice none 0 0, .slice none 0 0] 25)
            have f10 := Blk.new x11 25 #[.slice none 0 0, .slice none 0 0]
            have bg : wS.heap.size ≤ x11.heap.size := hsz
            replace hx := hx.alloc hx.size (.cells #[.slice none 0 0, .slice none 0 0] 25)
            replace hS := hS.alloc hS.size (.cells #[.slice none 0 0, .slice none 0 0] 25)
            clear hsz
            refine Reg.wpR_main 11 (by kernel_rfl) (fun x12 hN => ?_)
            simp only [Reg.pickL, List.drop]
            replace hx := hx.trans (Below.mono hN hx.size)
            replace hS := hS.trans (Below.mono hN hS.size)
            replace f8 := own_grow f8 hN
            replace f10 := f10.grow hN
            clear hN
            have k0 := f10.cell 0
            have k1 := f10.cell 1
            have kf := f10.unfrozen
            have lg := f10.lt
            go_wp2_with fail
            refine ⟨rfl, Reg.Kp.trans (Reg.Kp.of_set _ (fun h => Nat.not_lt.2 bg h)) (Reg.Kp.of_set _ (fun h => Nat.not_lt.2 bg h)), ?_⟩
            replace f8 := own_far (i := 1) (own_far (i := 0) f8 f10 (by decide) (.slice a n c)) (f10.set 0 (.slice a n c)) (by decide) (.slice aa (m + 1) ca)
            replace f10 := (f10.set 0 (.slice a n c)).set 1 (.slice aa (m + 1) ca)
            replace hS := (hS.setCell (p := ⟨x11.heap.size, 0, none⟩) bg (.slice a n c)).setCell (p := ⟨x11.heap.size, 1, none⟩) bg (.slice aa (m + 1) ca)
            refine Reg.wpR_end (by kernel_rfl) (fun xq hN => ?_)
            replace hS := hS.trans (Below.mono hN hS.size)
            replace f8 := own_grow f8 hN
            replace f10 := f10.grow hN
            rw [show ptsV ps ++ [Value.int .i64 0, .int .i64 0] = ptsV (ps ++ [(0, 0)]) by rw [ptsV_append]; rfl] at f8
            go_wp2_with fail
            go_meet
            exact ⟨_, _, _, rfl, f10, own_pts f8, hS, bg⟩
          · simp only [Reg.pickL, List.drop]
            replace hx := hx.trans (Below.mono hN hx.size)
            replace hS := hS.trans (Below.mono hN hS.size)
            replace f5 := own_grow f5 hN
            replace f7 := f7.grow hN
            clear hN
            have hsz := hS.size
            go_wp2_with fail
            refine ⟨rfl, Reg.Kp.of_gr ((Below.refl _ _).alloc (Nat.le_refl _) _), ?_⟩
            replace f5 := f5.alloc (.cells #[.slice none 0 0, .slice none 0 0] 25)
            replace f7 := f7.alloc (.cells #[.slice none 0 0, .slice none 0 0] 25)
            have f10 := Blk.new x10 25 #[.slice none 0 0, .slice none 0 0]
            have bg : wS.heap.size ≤ x10.heap.size := hsz
            replace hx := hx.alloc hx.size (.cells #[.slice none 0 0, .slice none 0 0] 25)
            replace hS := hS.alloc hS.size (.cells #[.slice none 0 0, .slice none 0 0] 25)
            clear hsz
            refine Reg.wpR_main 8 (by kernel_rfl) (fun x13 hN => ?_)
            simp only [Reg.pickL, List.drop]
            replace hx := hx.trans (Below.mono hN hx.size)
            replace hS := hS.trans (Below.mono hN hS.size)
            replace f5 := own_grow f5 hN
            replace f7 := f7.grow hN
            replace f10 := f10.grow hN
            clear hN
            refine wpList_append_src rfl _ _ 23 rfl wS.heap.size 44 iP _ 2 16 Try.underlying23 hiP hz0P hz1P hz2P rfl (by decide) (.slice aa m ca) _ _ rfl f5 (some ⟨x7.heap.size, 0, none⟩) 1 1 [.int .i64 0, .int .i64 0] rfl (by simp) rfl (fun j u hj => ⟨_, rfl, (Blk.news (l := [.int .i64 0, .int .i64 0]) f7) j u hj⟩) (by simp [Value.oneCell']) (by unfold maxLen; omega) (by omega) hS.size ?_
            have hlo := f5.lt
            have hsz := hS.size
            have hxz := hx.size
            intro va wa hown hg
            obtain ⟨aa, ca, rfl, _⟩ := own_slice hown
            go_wp2_with fail
            refine ⟨rfl, Reg.Kp.of_grown hg (fun b hb => Nat.not_lt.2 (hlo b hb).1), ?_⟩
            replace f10 := f10.grown hg (own_apart_blk f5 f10 (by decide))
            replace hx := hx.grown hg hxz (fun k hk => Nat.le_trans hwS (hlo k hk).1)
            replace hS := hS.grown hg hsz (fun k hk => (hlo k hk).1)
            have f8 := hown
            clear hown hg hlo hsz hxz f5
            refine Reg.wpR_hoist [9] 1 rfl (by kernel_rfl) (by kernel_rfl) (fun u => ?_)
            simp only [Reg.pickL, List.drop]
            repeat (go_big_quiet_step ((first | fail)))
            refine wpQuiet_nil ?_
            refine Reg.wpR_main 11 (by kernel_rfl) (fun x14 hN => ?_)
            simp only [Reg.pickL, List.drop]
            replace hx := hx.trans (Below.mono hN hx.size)
            replace hS := hS.trans (Below.mono hN hS.size)
            replace f10 := f10.grow hN
            replace f8 := own_grow f8 hN
            clear hN
            have k0 := f10.cell 0
            have k1 := f10.cell 1
            have kf := f10.unfrozen
            have lg := f10.lt
            go_wp2_with fail
            refine ⟨rfl, Reg.Kp.trans (Reg.Kp.of_set _ (fun h => Nat.not_lt.2 bg h)) (Reg.Kp.of_set _ (fun h => Nat.not_lt.2 bg h)), ?_⟩
            replace f8 := own_far (i := 1) (own_far (i := 0) f8 f10 (by decide) (.slice a n c)) (f10.set 0 (.slice a n c)) (by decide) (.slice aa (m + 1) ca)
            replace f10 := (f10.set 0 (.slice a n c)).set 1 (.slice aa (m + 1) ca)
            replace hS := (hS.setCell (p := ⟨x10.heap.size, 0, none⟩) bg (.slice a n c)).setCell (p := ⟨x10.heap.size, 1, none⟩) bg (.slice aa (m + 1) ca)
            refine Reg.wpR_end (by kernel_rfl) (fun xq hN => ?_)
            replace hS := hS.trans (Below.mono hN hS.size)
            replace f8 := own_grow f8 hN
            replace f10 := f10.grow hN
            rw [show ptsV ps ++ [Value.int .i64 0, .int .i64 0] = ptsV (ps ++ [(0, 0)]) by rw [ptsV_append]; rfl] at f8
            go_wp2_with fail
            go_meet
            exact ⟨_, _, _, rfl, f10, own_pts f8, hS, bg⟩
        · simp only [Reg.pickL, List.drop]
          replace hx := hx.trans (Below.mono hN hx.size)
          replace hS := hS.trans (Below.mono hN hS.size)
          replace f5 := own_grow f5 hN
          clear hN
          have hsz := hS.size
          go_wp2_with fail
          refine ⟨rfl, Reg.Kp.of_gr ((Below.refl _ _).alloc (Nat.le_refl _) _), ?_⟩
          replace f5 := f5.alloc (.cells #[.slice none 0 0, .slice none 0 0] 25)
          have f10 := Blk.new x8 25 #[.slice none 0 0, .slice none 0 0]
          have bg : wS.heap.size ≤ x8.heap.size := hsz
          replace hx := hx.alloc hx.size (.cells #[.slice none 0 0, .slice none 0 0] 25)
          replace hS := hS.alloc hS.size (.cells #[.slice none 0 0, .slice none 0 0] 25)
          clear hsz
          refine Reg.wpR_main 7 (by kernel_rfl) (fun x15 hN => ?_)
          simp only [Reg.pickL, List.drop]
          replace hx := hx.trans (Below.mono hN hx.size)
          replace hS := hS.trans (Below.mono hN hS.size)
          replace f5 := own_grow f5 hN
          replace f10 := f10.grow hN
          clear hN
          have hsz := hS.size
          go_wp2_with fail
          refine ⟨rfl, Reg.Kp.of_gr ((Below.refl _ _).alloc (Nat.le_refl _) _), ?_⟩
          replace f5 := f5.alloc (.cells #[.int .i64 0, .int .i64 0] 44)
          replace f10 := f10.alloc (.cells #[.int .i64 0, .int .i64 0] 44)
          have f7 := Blk.new x15 44 #[.int .i64 0, .int .i64 0]
          replace hx := hx.alloc hx.size (.cells #[.int .i64 0, .int .i64 0] 44)
          replace hS := hS.alloc hS.size (.cells #[.int .i64 0, .int .i64 0] 44)
          clear hsz
          refine Reg.wpR_main 8 (by kernel_rfl) (fun x16 hN => ?_)
          simp only [Reg.pickL, List.drop]
          replace hx := hx.trans (Below.mono hN hx.size)
          replace hS := hS.trans (Below.mono hN hS.size)
          replace f5 := own_grow f5 hN
          replace f10 := f10.grow hN
          replace f7 := f7.grow hN
          clear hN
          refine wpList_append_src rfl _ _ 23 rfl wS.heap.size 44 iP _ 2 16 Try.underlying23 hiP hz0P hz1P hz2P rfl (by decide) (.slice aa m ca) _ _ rfl f5 (some ⟨x15.heap.size, 0, none⟩) 1 1 [.int .i64 0, .int .i64 0] rfl (by simp) rfl (fun j u hj => ⟨_, rfl, (Blk.news (l := [.int .i64 0, .int .i64 0]) f7) j u hj⟩) (by simp [Value.oneCell']) (by unfold maxLen; omega) (by omega) hS.size ?_
          have hlo := f5.lt
          have hsz := hS.size
          have hxz := hx.size
          intro va wa hown hg
          obtain ⟨aa, ca, rfl, _⟩ := own_slice hown
          go_wp2_with fail
          refine ⟨rfl, Reg.Kp.of_grown hg (fun b hb => Nat.not_lt.2 (hlo b hb).1), ?_⟩
          replace f10 := f10.grown hg (own_apart_blk f5 f10 (by decide))
          replace hx := hx.grown hg hxz (fun k hk => Nat.le_trans hwS (hlo k hk).1)
          replace hS := hS.grown hg hsz (fun k hk => (hlo k hk).1)
          have f8 := hown
          clear hown hg hlo hsz hxz f5
          refine Reg.wpR_hoist [9] 1 rfl (by kernel_rfl) (by kernel_rfl) (fun u => ?_)
          simp only [Reg.pickL, List.drop]
          repeat (go_big_quiet_step ((first | fail)))
          refine wpQuiet_nil ?_
          refine Reg.wpR_main 11 (by kernel_rfl) (fun x17 hN => ?_)
          simp only [Reg.pickL, List.drop]
          replace hx := hx.trans (Below.mono hN hx.size)
          replace hS := hS.trans (Below.mono hN hS.size)
          replace f10 := f10.grow hN
          replace f8 := own_grow f8 hN
          clear hN
          have k0 := f10.cell 0
          have k1 := f10.cell 1
          have kf := f10.unfrozen
          have lg := f10.lt
          go_wp2_with fail
          refine ⟨rfl, Reg.Kp.trans (Reg.Kp.of_set _ (fun h => Nat.not_lt.2 bg h)) (Reg.Kp.of_set _ (fun h => Nat.not_lt.2 bg h)), ?_⟩
          replace f8 := own_far (i := 1) (own_far (i := 0) f8 f10 (by decide) (.slice a n c)) (f10.set 0 (.slice a n c)) (by decide) (.slice aa (m + 1) ca)
          replace f10 := (f10.set 0 (.slice a n c)).set 1 (.slice aa (m + 1) ca)
          replace hS := (hS.setCell (p := ⟨x8.heap.size, 0, none⟩) bg (.slice a n c)).setCell (p := ⟨x8.heap.size, 1, none⟩) bg (.slice aa (m + 1) ca)
          refine Reg.wpR_end (by kernel_rfl) (fun xq hN => ?_)
          replace hS := hS.trans (Below.mono hN hS.size)
          replace f8 := own_grow f8 hN
          replace f10 := f10.grow hN
          rw [show ptsV ps ++ [Value.int .i64 0, .int .i64 0] = ptsV (ps ++ [(0, 0)]) by rw [ptsV_append]; rfl] at f8
          go_wp2_with fail
          go_meet
          exact ⟨_, _, _, rfl, f10, own_pts f8, hS, bg⟩
      · simp only [Reg.pickL, List.drop]
        replace hx := hx.trans (Below.mono hN hx.size)
        replace hS := hS.trans (Below.mono hN hS.size)
        replace f2 := own_grow f2 hN
        clear hN
        have hsz := hS.size
        go_wp2_with fail
        refine ⟨rfl, Reg.Kp.of_gr ((Below.refl _ _).alloc (Nat.le_refl _) _), ?_⟩
        have nn : x1.heap.size ≠ x5.heap.size := by have := (f2.lt (x1.heap.size) rfl).2; omega
        replace f2 := f2.alloc (.cells #[.int .i64 0, .int .i64 0] 44)
        have f7 := Blk.new x5 44 #[.int .i64 0, .int .i64 0]
        replace hx := hx.alloc hx.size (.cells #[.int .i64 0, .int .i64 0] 44)
        replace hS := hS.alloc hS.size (.cells #[.int .i64 0, .int .i64 0] 44)
        clear hsz
        refine Reg.wpR_main2 5 10 (by kernel_rfl) (fun x18 hN => ?_) (fun x19 hN => ?_)
        · simp only [Reg.pickL, List.drop]
          replace hx := hx.trans (Below.mono hN hx.size)
          replace hS := hS.trans (Below.mono hN hS.size)
          replace f2 := own_grow f2 hN
          replace f7 := f7.grow hN
          clear hN
          refine wpList_append_src rfl _ _ 23 rfl wS.heap.size 44 iP _ 2 16 Try.underlying23 hiP hz0P hz1P hz2P rfl (by decide) (.slice (some ⟨x1.heap.size, 0, none⟩) 0 0) _ _ rfl f2 b m d (ptsV ps) rfl HND.out (by rw [ptsV_length, HML.out]) ((HP.out.below hx).news) (ptsV_one _) (by unfold maxLen; omega) (by omega) hS.size ?_
          have hlo := f2.lt
          have hsz := hS.size
          have hxz := hx.size
          intro va wa hown hg
          simp only [Nat.zero_add, List.nil_append] at hown
          obtain ⟨aa, ca, rfl, _⟩ := own_slice hown
          go_wp2_with fail
          refine ⟨rfl, Reg.Kp.of_grown hg (fun b hb => Nat.not_lt.2 (hlo b hb).1), ?_⟩
          replace f7 := f7.grown hg (fun k hk => by simp [Value.ownBlock] at hk; subst hk; exact nn)
          replace hx := hx.grown hg hxz (fun k hk => Nat.le_trans hwS (hlo k hk).1)
          replace hS := hS.grown hg hsz (fun k hk => (hlo k hk).1)
          have f5 := hown
          clear hown hg hlo hsz hxz f2
          refine Reg.wpR_main2 8 10 (by kernel_rfl) (fun x20 hN => ?_) (fun x21 hN => ?_)
          · simp only [Reg.pickL, List.drop]
            replace hx := hx.trans (Below.mono hN hx.size)
            replace hS := hS.trans (Below.mono hN hS.size)
            replace f7 := f7.grow hN
            replace f5 := own_grow f5 hN
            clear hN
            refine wpList_append_src rfl _ _ 23 rfl wS.heap.size 44 iP _ 2 16 Try.underlying23 hiP hz0P hz1P hz2P rfl (by decide) (.slice aa m ca) _ _ rfl f5 (some ⟨x5.heap.size, 0, none⟩) 1 1 [.int .i64 0, .int .i64 0] rfl (by simp) rfl (fun j u hj => ⟨_, rfl, (Blk.news (l := [.int .i64 0, .int .i64 0]) f7) j u hj⟩) (by simp [Value.oneCell']) (by unfold maxLen; omega) (by omega) hS.size ?_
            have hlo := f5.lt
            have hsz := hS.size
            have hxz := hx.size
            intro va wa hown hg
            obtain ⟨aa, ca, rfl, _⟩ := own_slice hown
            go_wp2_with fail
            refine ⟨rfl, Reg.Kp.of_grown hg (fun b hb => Nat.not_lt.2 (hlo b hb).1), ?_⟩
            replace hx := hx.grown hg hxz (fun k hk => Nat.le_trans hwS (hlo k hk).1)
            replace hS := hS.grown hg hsz (fun k hk => (hlo k hk).1)
            have f8 := hown
            clear hown hg hlo hsz hxz f5
            refine Reg.wpR_hoist [9] 2 rfl (by kernel_rfl) (by kernel_rfl) (fun u => ?_)
            simp only [Reg.pickL, List.drop]
            repeat (go_big_quiet_step ((first | fail)))
            refine wpQuiet_nil ?_
            refine Reg.wpR_main 10 (by kernel_rfl) (fun x22 hN => ?_)
            simp only [Reg.pickL, List.drop]
            replace hx := hx.trans (Below.mono hN hx.size)
            replace hS := hS.trans (Below.mono hN hS.size)
            replace f8 := own_grow f8 hN
            clear hN
            have hsz := hS.size
            go_wp2_with fail
            refine ⟨rfl, Reg.Kp.of_gr ((Below.refl _ _).alloc (Nat.le_refl _) _), ?_⟩
            replace f8 := f8.alloc (.cells #[.slice none 0 0, .slice none 0 0] 25)
            have f10 := Blk.new x22 25 #[.slice none 0 0, .slice none 0 0]
            have bg : wS.heap.size ≤ x22.heap.size := hsz
            replace hx := hx.alloc hx.size (.cells #[.slice none 0 0, .slice none 0 0] 25)
            replace hS := hS.alloc hS.size (.cells #[.slice none 0 0, .slice none 0 0] 25)
            clear hsz
            refine Reg.wpR_main 11 (by kernel_rfl) (fun x23 hN => ?_)
            simp only [Reg.pickL, List.drop]
            replace hx := hx.trans (Below.mono hN hx.size)
            replace hS := hS.trans (Below.mono hN hS.size)
            replace f8 := own_grow f8 hN
            replace f10 := f10.grow hN
            clear hN
            have k0 := f10.cell 0
            have k1 := f10.cell 1
            have kf := f10.unfrozen
            have lg := f10.lt
            go_wp2_with fail
            refine ⟨rfl, Reg.Kp.trans (Reg.Kp.of_set _ (fun h => Nat.not_lt.2 bg h)) (Reg.Kp.of_set _ (fun h => Nat.not_lt.2 bg h)), ?_⟩
            replace f8 := own_far (i := 1) (own_far (i := 0) f8 f10 (by decide) (.slice a n c)) (f10.set 0 (.slice a n c)) (by decide) (.slice aa (m + 1) ca)
            replace f10 := (f10.set 0 (.slice a n c)).set 1 (.slice aa (m + 1) ca)
            replace hS := (hS.setCell (p := ⟨x22.heap.size, 0, none⟩) bg (.slice a n c)).setCell (p := ⟨x22.heap.size, 1, none⟩) bg (.slice aa (m + 1) ca)
            refine Reg.wpR_end (by kernel_rfl) (fun xq hN => ?_)
            replace hS := hS.trans (Below.mono hN hS.size)
            replace f8 := own_grow f8 hN
            replace f10 := f10.grow hN
            rw [show ptsV ps ++ [Value.int .i64 0, .int .i64 0] = ptsV (ps ++ [(0, 0)]) by rw [ptsV_append]; rfl] at f8
            go_wp2_with fail
            go_meet
            exact ⟨_, _, _, rfl, f10, own_pts f8, hS, bg⟩
          · simp only [Reg.pickL, List.drop]
            replace hx := hx.trans (Below.mono hN hx.size)
            replace hS := hS.trans (Below.mono hN hS.size)
            replace f7 := f7.grow hN
            replace f5 := own_grow f5 hN
            clear hN
            have hsz := hS.size
            go_wp2_with fail
            refine ⟨rfl, Reg.Kp.of_gr ((Below.refl _ _).alloc (Nat.le_refl _) _), ?_⟩
            replace f7 := f7.alloc (.cells #[.slice none 0 0, .slice none 0 0] 25)
            replace f5 := f5.alloc (.cells #[.slice none 0 0, .slice none 0 0] 25)
            have f10 := Blk.new x21 25 #[.slice none 0 0, .slice none 0 0]
            have bg : wS.heap.size ≤ x21.heap.size := hsz
            replace hx := hx.alloc hx.size (.cells #[.slice none 0 0, .slice none 0 0] 25)
            replace hS := hS.alloc hS.size (.cells #[.slice none 0 0, .slice none 0 0] 25)
            clear hsz
            refine Reg.wpR_main 8 (by kernel_rfl) (fun x24 hN => ?_)
            simp only [Reg.pickL, List.drop]
            replace hx := hx.trans (Below.mono hN hx.size)
            replace hS := hS.trans (Below.mono hN hS.size)
            replace f7 := f7.grow hN
            replace f5 := own_grow f5 hN
            replace f10 := f10.grow hN
            clear hN
            refine wpList_append_src rfl _ _ 23 rfl wS.heap.size 44 iP _ 2 16 Try.underlying23 hiP hz0P hz1P hz2P rfl (by decide) (.slice aa m ca) _ _ rfl f5 (some ⟨x5.heap.size, 0, none⟩) 1 1 [.int .i64 0, .int .i64 0] rfl (by simp) rfl (fun j u hj => ⟨_, rfl, (Blk.news (l := [.int .i64 0, .int .i64 0]) f7) j u hj⟩) (by simp [Value.oneCell']) (by unfold maxLen; omega) (by omega) hS.size ?_
            have hlo := f5.lt
            have hsz := hS.size
            have hxz := hx.size
            intro va wa hown hg
            obtain ⟨aa, ca, rfl, _⟩ := own_slice hown
            go_wp2_with fail
            refine ⟨rfl, Reg.Kp.of_grown hg (fun b hb => Nat.not_lt.2 (hlo b hb).1), ?_⟩
            replace f10 := f10.grown hg (own_apart_blk f5 f10 (by decide))
            replace hx := hx.grown hg hxz (fun k hk => Nat.le_trans hwS (hlo k hk).1)
            replace hS := hS.grown hg hsz (fun k hk => (hlo k hk).1)
            have f8 := hown
            clear hown hg hlo hsz hxz f5
            refine Reg.wpR_hoist [9] 1 rfl (by kernel_rfl) (by kernel_rfl) (fun u => ?_)
            simp only [Reg.pickL, List.drop]
            repeat (go_big_quiet_step ((first | fail)))
            refine wpQuiet_nil ?_
            refine Reg.wpR_main 11 (by kernel_rfl) (fun x25 hN => ?_)
            simp only [Reg.pickL, List.drop]
            replace hx := hx.trans (Below.mono hN hx.size)
            replace hS := hS.trans (Below.mono hN hS.size)
            replace f10 := f10.grow hN
            replace f8 := own_grow f8 hN
            clear hN
            have k0 := f10.cell 0
            have k1 := f10.cell 1
            have kf := f10.unfrozen
            have lg := f10.lt
            go_wp2_with fail
            refine ⟨rfl, Reg.Kp.trans (Reg.Kp.of_set _ (fun h => Nat.not_lt.2 bg h)) (Reg.Kp.of_set _ (fun h => Nat.not_lt.2 bg h)), ?_⟩
            replace f8 := own_far (i := 1) (own_far (i := 0) f8 f10 (by decide) (.slice a n c)) (f10.set 0 (.slice a n c)) (by decide) (.slice aa (m + 1) ca)
            replace f10 := (f10.set 0 (.slice a n c)).set 1 (.slice aa (m + 1) ca)
            replace hS := (hS.setCell (p := ⟨x21.heap.size, 0, none⟩) bg (.slice a n c)).setCell (p := ⟨x21.heap.size, 1, none⟩) bg (.slice aa (m + 1) ca)
            refine Reg.wpR_end (by kernel_rfl) (fun xq hN => ?_)
            replace hS := hS.trans (Below.mono hN hS.size)
            replace f8 := own_grow f8 hN
            replace f10 := f10.grow hN
            rw [show ptsV ps ++ [Value.int .i64 0, .int .i64 0] = ptsV (ps ++ [(0, 0)]) by rw [ptsV_append]; rfl] at f8
            go_wp2_with fail
            go_meet
            exact ⟨_, _, _, rfl, f10, own_pts f8, hS, bg⟩
        · simp only [Reg.pickL, List.drop]
          replace hx := hx.trans (Below.mono hN hx.size)
          replace hS := hS.trans (Below.mono hN hS.size)
          replace f2 := own_grow f2 hN
          replace f7 := f7.grow hN
          clear hN
          have hsz := hS.size
          go_wp2_with fail
          refine ⟨rfl, Reg.Kp.of_gr ((Below.refl _ _).alloc (Nat.le_refl _) _), ?_⟩
          replace f2 := f2.alloc (.cells #[.slice none 0 0, .slice none 0 0] 25)
          replace f7 := f7.alloc (.cells #[.slice none 0 0, .slice none 0 0] 25)
          have f10 := Blk.new x19 25 #[.slice none 0 0, .slice none 0 0]
          have bg : wS.heap.size ≤ x19.heap.size := hsz
          replace hx := hx.alloc hx.size (.cells #[.slice none 0 0, .slice none 0 0] 25)
          replace hS := hS.alloc hS.size (.cells #[.slice none 0 0, .slice none 0 0] 25)
          clear hsz
          refine Reg.wpR_main 5 (by kernel_rfl) (fun x26 hN => ?_)
          simp only [Reg.pickL, List.drop]
          replace hx := hx.trans (Below.mono hN hx.size)
          replace hS := hS.trans (Below.mono hN hS.size)
          replace f2 := own_grow f2 hN
          replace f7 := f7.grow hN
          replace f10 := f10.grow hN
          clear hN
          refine wpList_append_src rfl _ _ 23 rfl wS.heap.size 44 iP _ 2 16 Try.underlying23 hiP hz0P hz1P hz2P rfl (by decide) (.slice (some ⟨x1.heap.size, 0, none⟩) 0 0) _ _ rfl f2 b m d (ptsV ps) rfl HND.out (by rw [ptsV_length, HML.out]) ((HP.out.below hx).news) (ptsV_one _) (by unfold maxLen; omega) (by omega) hS.size ?_
          have hlo := f2.lt
          have hsz := hS.size
          have hxz := hx.size
          intro va wa hown hg
          simp only [Nat.zero_add, List.nil_append] at hown
          obtain ⟨aa, ca, rfl, _⟩ := own_slice hown
          go_wp2_with fail
          refine ⟨rfl, Reg.Kp.of_grown hg (fun b hb => Nat.not_lt.2 (hlo b hb).1), ?_⟩
          replace f7 := f7.grown hg (fun k hk => by simp [Value.ownBlock] at hk; subst hk; exact nn)
          replace f10 := f10.grown hg (own_apart_blk f2 f10 (by decide))
          replace hx := hx.grown hg hxz (fun k hk => Nat.le_trans hwS (hlo k hk).1)
          replace hS := hS.grown hg hsz (fun k hk => (hlo k hk).1)
          have f5 := hown
          clear hown hg hlo hsz hxz f2
          refine Reg.wpR_main 8 (by kernel_rfl) (fun x27 hN => ?_)
          simp only [Reg.pickL, List.drop]
          replace hx := hx.trans (Below.mono hN hx.size)
          replace hS := hS.trans (Below.mono hN hS.size)
          replace f7 := f7.grow hN
          replace f10 := f10.grow hN
          replace f5 := own_grow f5 hN
          clear hN
          refine wpList_append_src rfl _ _ 23 rfl wS.heap.size 44 iP _ 2 16 Try.underlying23 hiP hz0P hz1P hz2P rfl (by decide) (.slice aa m ca) _ _ rfl f5 (some ⟨x5.heap.size, 0, none⟩) 1 1 [.int .i64 0, .int .i64 0] rfl (by simp) rfl (fun j u hj => ⟨_, rfl, (Blk.news (l := [.int .i64 0, .int .i64 0]) f7) j u hj⟩) (by simp [Value.oneCell']) (by unfold maxLen; omega) (by omega) hS.size ?_
          have hlo := f5.lt
          have hsz := hS.size
          have hxz := hx.size
          intro va wa hown hg
          obtain ⟨aa, ca, rfl, _⟩ := own_slice hown
          go_wp2_with fail
          refine ⟨rfl, Reg.Kp.of_grown hg (fun b hb => Nat.not_lt.2 (hlo b hb).1), ?_⟩
          replace f10 := f10.grown hg (own_apart_blk f5 f10 (by decide))
          replace hx := hx.grown hg hxz (fun k hk => Nat.le_trans hwS (hlo k hk).1)
          replace hS := hS.grown hg hsz (fun k hk => (hlo k hk).1)
          have f8 := hown
          clear hown hg hlo hsz hxz f5
          refine Reg.wpR_hoist [9] 1 rfl (by kernel_rfl) (by kernel_rfl) (fun u => ?_)
          simp only [Reg.pickL, List.drop]
          repeat (go_big_quiet_step ((first | fail)))
          refine wpQuiet_nil ?_
          refine Reg.wpR_main 11 (by kernel_rfl) (fun x28 hN => ?_)
          simp only [Reg.pickL, List.drop]
          replace hx := hx.trans (Below.mono hN hx.size)
          replace hS := hS.trans (Below.mono hN hS.size)
          replace f10 := f10.grow hN
          replace f8 := own_grow f8 hN
          clear hN
          have k0 := f10.cell 0
          have k1 := f10.cell 1
          have kf := f10.unfrozen
          have lg := f10.lt
          go_wp2_with fail
          refine ⟨rfl, Reg.Kp.trans (Reg.Kp.of_set _ (fun h => Nat.not_lt.2 bg h)) (Reg.Kp.of_set _ (fun h => Nat.not_lt.2 bg h)), ?_⟩
          replace f8 := own_far (i := 1) (own_far (i := 0) f8 f10 (by decide) (.slice a n c)) (f10.set 0 (.slice a n c)) (by decide) (.slice aa (m + 1) ca)
          replace f10 := (f10.set 0 (.slice a n c)).set 1 (.slice aa (m + 1) ca)
          replace hS := (hS.setCell (p := ⟨x19.heap.size, 0, none⟩) bg (.slice a n c)).setCell (p := ⟨x19.heap.size, 1, none⟩) bg (.slice aa (m + 1) ca)
          refine Reg.wpR_end (by kernel_rfl) (fun xq hN => ?_)
          replace hS := hS.trans (Below.mono hN hS.size)
          replace f8 := own_grow f8 hN
          replace f10 := f10.grow hN
          rw [show ptsV ps ++ [Value.int .i64 0, .int .i64 0] = ptsV (ps ++ [(0, 0)]) by rw [ptsV_append]; rfl] at f8
          go_wp2_with fail
          go_meet
          exact ⟨_, _, _, rfl, f10, own_pts f8, hS, bg⟩
      · simp only [Reg.pickL, List.drop]
        replace hx := hx.trans (Below.mono hN hx.size)
        replace hS := hS.trans (Below.mono hN hS.size)
        replace f2 := own_grow f2 hN
        clear hN
        have hsz := hS.size
        go_wp2_with fail
        refine ⟨rfl, Reg.Kp.of_gr ((Below.refl _ _).alloc (Nat.le_refl _) _), ?_⟩
        replace f2 := f2.alloc (.cells #[.slice none 0 0, .slice none 0 0] 25)
        have f10 := Blk.new x6 25 #[.slice none 0 0, .slice none 0 0]
        have bg : wS.heap.size ≤ x6.heap.size := hsz
        replace hx := hx.alloc hx.size (.cells #[.slice none 0 0, .slice none 0 0] 25)
        replace hS := hS.alloc hS.size (.cells #[.slice none 0 0, .slice none 0 0] 25)
        clear hsz
        refine Reg.wpR_main2 5 7 (by kernel_rfl) (fun x29 hN => ?_) (fun x30 hN => ?_)
        · simp only [Reg.pickL, List.drop]
          replace hx := hx.trans (Below.mono hN hx.size)
          replace hS := hS.trans (Below.mono hN hS.size)
          replace f2 := own_grow f2 hN
          replace f10 := f10.grow hN
          clear hN
          refine wpList_append_src rfl _ _ 23 rfl wS.heap.size 44 iP _ 2 16 Try.underlying23 hiP hz0P hz1P hz2P rfl (by decide) (.slice (some ⟨x1.heap.size, 0, none⟩) 0 0) _ _ rfl f2 b m d (ptsV ps) rfl HND.out (by rw [ptsV_length, HML.out]) ((HP.out.below hx).news) (ptsV_one _) (by unfold maxLen; omega) (by omega) hS.size ?_
          have hlo := f2.lt
          have hsz := hS.size
          have hxz := hx.size
          intro va wa hown hg
          simp only [Nat.zero_add, List.nil_append] at hown
          obtain ⟨aa, ca, rfl, _⟩ := own_slice hown
          go_wp2_with fail
          refine ⟨rfl, Reg.Kp.of_grown hg (fun b hb => Nat.not_lt.2 (hlo b hb).1), ?_⟩
          replace f10 := f10.grown hg (own_apart_blk f2 f10 (by decide))
          replace hx := hx.grown hg hxz (fun k hk => Nat.le_trans hwS (hlo k hk).1)
          replace hS := hS.grown hg hsz (fun k hk => (hlo k hk).1)
          have f5 := hown
          clear hown hg hlo hsz hxz f2
          refine Reg.wpR_main 7 (by kernel_rfl) (fun x31 hN => ?_)
          simp only [Reg.pickL, List.drop]
          replace hx := hx.trans (Below.mono hN hx.size)
          replace hS := hS.trans (Below.mono hN hS.size)
          replace f10 := f10.grow hN
          replace f5 := own_grow f5 hN
          clear hN
          have hsz := hS.size
          go_wp2_with fail
          refine ⟨rfl, Reg.Kp.of_gr ((Below.refl _ _).alloc (Nat.le_refl _) _), ?_⟩
          replace f10 := f10.alloc (.cells #[.int .i64 0, .int .i64 0] 44)
          replace f5 := f5.alloc (.cells #[.int .i64 0, .int .i64 0] 44)
          have f7 := Blk.new x31 44 #[.int .i64 0, .int .i64 0]
          replace hx := hx.alloc hx.size (.cells #[.int .i64 0, .int .i64 0] 44)
          replace hS := hS.alloc hS.size (.cells #[.int .i64 0, .int .i64 0] 44)
          clear hsz
          refine Reg.wpR_main 8 (by kernel_rfl) (fun x32 hN => ?_)
          simp only [Reg.pickL, List.drop]
          replace hx := hx.trans (Below.mono hN hx.size)
          replace hS := hS.trans (Below.mono hN hS.size)
          replace f10 := f10.grow hN
          replace f5 := own_grow f5 hN
          replace f7 := f7.grow hN
          clear hN
          refine wpList_append_src rfl _ _ 23 rfl wS.heap.size 44 iP _ 2 16 Try.underlying23 hiP hz0P hz1P hz2P rfl (by decide) (.slice aa m ca) _ _ rfl f5 (some ⟨x31.heap.size, 0, none⟩) 1 1 [.int .i64 0, .int .i64 0] rfl (by simp) rfl (fun j u hj => ⟨_, rfl, (Blk.news (l := [.int .i64 0, .int .i64 0]) f7) j u hj⟩) (by simp [Value.oneCell']) (by unfold maxLen; omega) (by omega) hS.size ?_
          have hlo := f5.lt
          have hsz := hS.size
          have hxz := hx.size
          intro va wa hown hg
          obtain ⟨aa, ca, rfl, _⟩ := own_slice hown
          go_wp2_with fail
          refine ⟨rfl, Reg.Kp.of_grown hg (fun b hb => Nat.not_lt.2 (hlo b hb).1), ?_⟩
          replace f10 := f10.grown hg (own_apart_blk f5 f10 (by decide))
          replace hx := hx.grown hg hxz (fun k hk => Nat.le_trans hwS (hlo k hk).1)
          replace hS := hS.grown hg hsz (fun k hk => (hlo k hk).1)
          have f8 := hown
          clear hown hg hlo hsz hxz f5
          refine Reg.wpR_hoist [9] 1 rfl (by kernel_rfl) (by kernel_rfl) (fun u => ?_)
          simp only [Reg.pickL, List.drop]
          repeat (go_big_quiet_step ((first | fail)))
          refine wpQuiet_nil ?_
          refine Reg.wpR_main 11 (by kernel_rfl) (fun x33 hN => ?_)
          simp only [Reg.pickL, List.drop]
          replace hx := hx.trans (Below.mono hN hx.size)
          replace hS := hS.trans (Below.mono hN hS.size)
          replace f10 := f10.grow hN
          replace f8 := own_grow f8 hN
          clear hN
          have k0 := f10.cell 0
          have k1 := f10.cell 1
          have kf := f10.unfrozen
          have lg := f10.lt
          go_wp2_with fail
          refine ⟨rfl, Reg.Kp.trans (Reg.Kp.of_set _ (fun h => Nat.not_lt.2 bg h)) (Reg.Kp.of_set _ (fun h => Nat.not_lt.2 bg h)), ?_⟩
          replace f8 := own_far (i := 1) (own_far (i := 0) f8 f10 (by decide) (.slice a n c)) (f10.set 0 (.slice a n c)) (by decide) (.slice aa (m + 1) ca)
          replace f10 := (f10.set 0 (.slice a n c)).set 1 (.slice aa (m + 1) ca)
          replace hS := (hS.setCell (p := ⟨x6.heap.size, 0, none⟩) bg (.slice a n c)).setCell (p := ⟨x6.heap.size, 1, none⟩) bg (.slice aa (m + 1) ca)
          refine Reg.wpR_end (by kernel_rfl) (fun xq hN => ?_)
          replace hS := hS.trans (Below.mono hN hS.size)
          replace f8 := own_grow f8 hN
          replace f10 := f10.grow hN
          rw [show ptsV ps ++ [Value.int .i64 0, .int .i64 0] = ptsV (ps ++ [(0, 0)]) by rw [ptsV_append]; rfl] at f8
          go_wp2_with fail
          go_meet
          exact ⟨_, _, _, rfl, f10, own_pts f8, hS, bg⟩
        · simp only [Reg.pickL, List.drop]
          replace hx := hx.trans (Below.mono hN hx.size)
          replace hS := hS.trans (Below.mono hN hS.size)
          replace f2 := own_grow f2 hN
          replace f10 := f10.grow hN
          clear hN
          have hsz := hS.size
          go_wp2_with fail
          refine ⟨rfl, Reg.Kp.of_gr ((Below.refl _ _).alloc (Nat.le_refl _) _), ?_⟩
          have nn : x1.heap.size ≠ x30.heap.size := by have := (f2.lt (x1.heap.size) rfl).2; omega
          replace f2 := f2.alloc (.cells #[.int .i64 0, .int .i64 0] 44)
          replace f10 := f10.alloc (.cells #[.int .i64 0, .int .i64 0] 44)
          have f7 := Blk.new x30 44 #[.int .i64 0, .int .i64 0]
          replace hx := hx.alloc hx.size (.cells #[.int .i64 0, .int .i64 0] 44)
          replace hS := hS.alloc hS.size (.cells #[.int .i64 0, .int .i64 0] 44)
          clear hsz
          refine Reg.wpR_main 5 (by kernel_rfl) (fun x34 hN => ?_)
          simp only [Reg.pickL, List.drop]
          replace hx := hx.trans (Below.mono hN hx.size)
          replace hS := hS.trans (Below.mono hN hS.size)
          replace f2 := own_grow f2 hN
          replace f10 := f10.grow hN
          replace f7 := f7.grow hN
          clear hN
          refine wpList_append_src rfl _ _ 23 rfl wS.heap.size 44 iP _ 2 16 Try.underlying23 hiP hz0P hz1P hz2P rfl (by decide) (.slice (some ⟨x1.heap.size, 0, none⟩) 0 0) _ _ rfl f2 b m d (ptsV ps) rfl HND.out (by rw [ptsV_length, HML.out]) ((HP.out.below hx).news) (ptsV_one _) (by unfold maxLen; omega) (by omega) hS.size ?_
          have hlo := f2.lt
          have hsz := hS.size
          have hxz := hx.size
          intro va wa hown hg
          simp only [Nat.zero_add, List.nil_append] at hown
          obtain ⟨aa, ca, rfl, _⟩ := own_slice hown
          go_wp2_with fail
          refine ⟨rfl, Reg.Kp.of_grown hg (fun b hb => Nat.not_lt.2 (hlo b hb).1), ?_⟩
          replace f10 := f10.grown hg (own_apart_blk f2 f10 (by decide))
          replace f7 := f7.grown hg (fun k hk => by simp [Value.ownBlock] at hk; subst hk; exact nn)
          replace hx := hx.grown hg hxz (fun k hk => Nat.le_trans hwS (hlo k hk).1)
          replace hS := hS.grown hg hsz (fun k hk => (hlo k hk).1)
          have f5 := hown
          clear hown hg hlo hsz hxz f2
          refine Reg.wpR_main 8 (by kernel_rfl) (fun x35 hN => ?_)
          simp only [Reg.pickL, List.drop]
          replace hx := hx.trans (Below.mono hN hx.size)
          replace hS := hS.trans (Below.mono hN hS.size)
          replace f10 := f10.grow hN
          replace f7 := f7.grow hN
          replace f5 := own_grow f5 hN
          clear hN
          refine wpList_append_src rfl _ _ 23 rfl wS.heap.size 44 iP _ 2 16 Try.underlying23 hiP hz0P hz1P hz2P rfl (by decide) (.slice aa m ca) _ _ rfl f5 (some ⟨x30.heap.size, 0, none⟩) 1 1 [.int .i64 0, .int .i64 0] rfl (by simp) rfl (fun j u hj => ⟨_, rfl, (Blk.news (l := [.int .i64 0, .int .i64 0]) f7) j u hj⟩) (by simp [Value.oneCell']) (by unfold maxLen; omega) (by omega) hS.size ?_
          have hlo := f5.lt
          have hsz := hS.size
          have hxz := hx.size
          intro va wa hown hg
          obtain ⟨aa, ca, rfl, _⟩ := own_slice hown
          go_wp2_with fail
          refine ⟨rfl, Reg.Kp.of_grown hg (fun b hb => Nat.not_lt.2 (hlo b hb).1), ?_⟩
          replace f10 := f10.grown hg (own_apart_blk f5 f10 (by decide))
          replace hx := hx.grown hg hxz (fun k hk => Nat.le_trans hwS (hlo k hk).1)
          replace hS := hS.grown hg hsz (fun k hk => (hlo k hk).1)
          have f8 := hown
          clear hown hg hlo hsz hxz f5
          refine Reg.wpR_hoist [9] 1 rfl (by kernel_rfl) (by kernel_rfl) (fun u => ?_)
          simp only [Reg.pickL, List.drop]
          repeat (go_big_quiet_step ((first | fail)))
          refine wpQuiet_nil ?_
          refine Reg.wpR_main 11 (by kernel_rfl) (fun x36 hN => ?_)
          simp only [Reg.pickL, List.drop]
          replace hx := hx.trans (Below.mono hN hx.size)
          replace hS := hS.trans (Below.mono hN hS.size)
          replace f10 := f10.grow hN
          replace f8 := own_grow f8 hN
          clear hN
          have k0 := f10.cell 0
          have k1 := f10.cell 1
          have kf := f10.unfrozen
          have lg := f10.lt
          go_wp2_with fail
          refine ⟨rfl, Reg.Kp.trans (Reg.Kp.of_set _ (fun h => Nat.not_lt.2 bg h)) (Reg.Kp.of_set _ (fun h => Nat.not_lt.2 bg h)), ?_⟩
          replace f8 := own_far (i := 1) (own_far (i := 0) f8 f10 (by decide) (.slice a n c)) (f10.set 0 (.slice a n c)) (by decide) (.slice aa (m + 1) ca)
          replace f10 := (f10.set 0 (.slice a n c)).set 1 (.slice aa (m + 1) ca)
          replace hS := (hS.setCell (p := ⟨x6.heap.size, 0, none⟩) bg (.slice a n c)).setCell (p := ⟨x6.heap.size, 1, none⟩) bg (.slice aa (m + 1) ca)
          refine Reg.wpR_end (by kernel_rfl) (fun xq hN => ?_)
          replace hS := hS.trans (Below.mono hN hS.size)
          replace f8 := own_grow f8 hN
          replace f10 := f10.grow hN
          rw [show ptsV ps ++ [Value.int .i64 0, .int .i64 0] = ptsV (ps ++ [(0, 0)]) by rw [ptsV_append]; rfl] at f8
          go_wp2_with fail
          go_meet
          exact ⟨_, _, _, rfl, f10, own_pts f8, hS, bg⟩
    · simp only [Reg.pickL, List.drop]
      replace hx := hx.trans (Below.mono hN hx.size)
      replace hS := hS.trans (Below.mono hN hS.size)
      clear hN
      have hsz := hS.size
      go_wp2_with fail
      refine ⟨rfl, Reg.Kp.of_gr ((Below.refl _ _).alloc (Nat.le_refl _) _), ?_⟩
      have f7 := Blk.new x2 44 #[.int .i64 0, .int .i64 0]
      replace hx := hx.alloc hx.size (.cells #[.int .i64 0, .int .i64 0] 44)
      replace hS := hS.alloc hS.size (.cells #[.int .i64 0, .int .i64 0] 44)
      clear hsz
      refine Reg.wpR_main2 2 10 (by kernel_rfl) (fun x37 hN => ?_) (fun x38 hN => ?_)
      · simp only [Reg.pickL, List.drop]
        replace hx := hx.trans (Below.mono hN hx.size)
        replace hS := hS.trans (Below.mono hN hS.size)
        replace f7 := f7.grow hN
        clear hN
        have hsz := hS.size
        go_wp2_with fail
        refine ⟨rfl, Reg.Kp.of_gr ((Below.refl _ _).alloc (Nat.le_refl _) _), ?_⟩
        have nn : x37.heap.size ≠ x2.heap.size := by have := f7.lt; omega
        replace f7 := f7.alloc (.cells #[] 44)
        have f2 := own_empty x37 wS.heap.size 44 2 hsz
        replace hx := hx.alloc hx.size (.cells #[] 44)
        replace hS := hS.alloc hS.size (.cells #[] 44)
        clear hsz
        refine Reg.wpR_main2 5 10 (by kernel_rfl) (fun x39 hN => ?_) (fun x40 hN => ?_)
        · simp only [Reg.pickL, List.drop]
          replace hx := hx.trans (Below.mono hN hx.size)
          replace hS := hS.trans (Below.mono hN hS.size)
          replace f7 := f7.grow hN
          replace f2 := own_grow f2 hN
          clear hN
          refine wpList_append_src rfl _ _ 23 rfl wS.heap.size 44 iP _ 2 16 Try.underlying23 hiP hz0P hz1P hz2P rfl (by decide) (.slice (some ⟨x37.heap.size, 0, none⟩) 0 0) _ _ rfl f2 b m d (ptsV ps) rfl HND.out (by rw [ptsV_length, HML.out]) ((HP.out.below hx).news) (ptsV_one _) (by unfold maxLen; omega) (by omega) hS.size ?_
          have hlo := f2.lt
          have hsz := hS.size
          have hxz := hx.size
          intro va wa hown hg
          simp only [Nat.zero_add, List.nil_append] at hown
          obtain ⟨aa, ca, rfl, _⟩ := own_slice hown
          go_wp2_with fail
          refine ⟨rfl, Reg.Kp.of_grown hg (fun b hb => Nat.not_lt.2 (hlo b hb).1), ?_⟩
          replace f7 := f7.grown hg (fun k hk => by simp [Value.ownBlock] at hk; subst hk; exact nn)
          replace hx := hx.grown hg hxz (fun k hk => Nat.le_trans hwS (hlo k hk).1)
          replace hS := hS.grown hg hsz (fun k hk => (hlo k hk).1)
          have f5 := hown
          clear hown hg hlo hsz hxz f2
          refine Reg.wpR_main2 8 10 (by kernel_rfl) (fun x41 hN => ?_) (fun x42 hN => ?_)
          · simp only [Reg.pickL, List.drop]
            replace hx := hx.trans (Below.mono hN hx.size)
            replace hS := hS.trans (Below.mono hN hS.size)
            replace f7 := f7.grow hN
            replace f5 := own_grow f5 hN
            clear hN
            refine wpList_append_src rfl _ _ 23 rfl wS.heap.size 44 iP _ 2 16 Try.underlying23 hiP hz0P hz1P hz2P rfl (by decide) (.slice aa m ca) _ _ rfl f5 (some ⟨x2.heap.size, 0, none⟩) 1 1 [.int .i64 0, .int .i64 0] rfl (by simp) rfl (fun j u hj => ⟨_, rfl, (Blk.news (l := [.int .i64 0, .int .i64 0]) f7) j u hj⟩) (by simp [Value.oneCell']) (by unfold maxLen; omega) (by omega) hS.size ?_
            have hlo := f5.lt
            have hsz := hS.size
            have hxz := hx.size
            intro va wa hown hg
            obtain ⟨aa, ca, rfl, _⟩ := own_slice hown
            go_wp2_with fail
            refine ⟨rfl, Reg.Kp.of_grown hg (fun b hb => Nat.not_lt.2 (hlo b hb).1), ?_⟩
            replace hx := hx.grown hg hxz (fun k hk => Nat.le_trans hwS (hlo k hk).1)
            replace hS := hS.grown hg hsz (fun k hk => (hlo k hk).1)
            have f8 := hown
            clear hown hg hlo hsz hxz f5
            refine Reg.wpR_hoist [9] 2 rfl (by kernel_rfl) (by kernel_rfl) (fun u => ?_)
            simp only [Reg.pickL, List.drop]
            repeat (go_big_quiet_step ((first | fail)))
            refine wpQuiet_nil ?_
            refine Reg.wpR_main 10 (by kernel_rfl) (fun x43 hN => ?_)
            simp only [Reg.pickL, List.drop]
            replace hx := hx.trans (Below.mono hN hx.size)
            replace hS := hS.trans (Below.mono hN hS.size)
            replace f8 := own_grow f8 hN
            clear hN
            have hsz := hS.size
            go_wp2_with fail
            refine ⟨rfl, Reg.Kp.of_gr ((Below.refl _ _).alloc (Nat.le_refl _) _), ?_⟩
            replace f8 := f8.alloc (.cells #[.slice none 0 0, .slice none 0 0] 25)
            have f10 := Blk.new x43 25 #[.slice none 0 0, .slice none 0 0]
            have bg : wS.heap.size ≤ x43.heap.size := hsz
            replace hx := hx.alloc hx.size (.cells #[.slice none 0 0, .slice none 0 0] 25)
            replace hS := hS.alloc hS.size (.cells #[.slice none 0 0, .slice none 0 0] 25)
            clear hsz
            refine Reg.wpR_main 11 (by kernel_rfl) (fun x44 hN => ?_)
            simp only [Reg.pickL, List.drop]
            replace hx := hx.trans (Below.mono hN hx.size)
            replace hS := hS.trans (Below.mono hN hS.size)
            replace f8 := own_grow f8 hN
            replace f10 := f10.grow hN
            clear hN
            have k0 := f10.cell 0
            have k1 := f10.cell 1
            have kf := f10.unfrozen
            have lg := f10.lt
            go_wp2_with fail
            refine ⟨rfl, Reg.Kp.trans (Reg.Kp.of_set _ (fun h => Nat.not_lt.2 bg h)) (Reg.Kp.of_set _ (fun h => Nat.not_lt.2 bg h)), ?_⟩
            replace f8 := own_far (i := 1) (own_far (i := 0) f8 f10 (by decide) (.slice a n c)) (f10.set 0 (.slice a n c)) (by decide) (.slice aa (m + 1) ca)
            replace f10 := (f10.set 0 (.slice a n c)).set 1 (.slice aa (m + 1) ca)
            replace hS := (hS.setCell (p := ⟨x43.heap.size, 0, none⟩) bg (.slice a n c)).setCell (p := ⟨x43.heap.size, 1, none⟩) bg (.slice aa (m + 1) ca)
            refine Reg.wpR_end (by kernel_rfl) (fun xq hN => ?_)
            replace hS := hS.trans (Below.mono hN hS.size)
            replace f8 := own_grow f8 hN
            replace f10 := f10.grow hN
            rw [show ptsV ps ++ [Value.int .i64 0, .int .i64 0] = ptsV (ps ++ [(0, 0)]) by rw [ptsV_append]; rfl] at f8
            go_wp2_with fail
            go_meet
            exact ⟨_, _, _, rfl, f10, own_pts f8, hS, bg⟩
          · simp only [Reg.pickL, List.drop]
            replace hx := hx.trans (Below.mono hN hx.size)
            replace hS := hS.trans (Below.mono hN hS.size)
            replace f7 := f7.grow hN
            replace f5 := own_grow f5 hN
            clear hN
            have hsz := hS.size
            go_wp2_with fail
            refine ⟨rfl, Reg.Kp.of_gr ((Below.refl _ _).alloc (Nat.le_refl _) _), ?_⟩
            replace f7 := f7.alloc (.cells #[.slice none 0 0, .slice none 0 0] 25)
            replace f5 := f5.alloc (.cells #[.slice none 0 0, .slice none 0 0] 25)
            have f10 := Blk.new x42 25 #[.slice none 0 0, .slice none 0 0]
            have bg : wS.heap.size ≤ x42.heap.size := hsz
            replace hx := hx.alloc hx.size (.cells #[.slice none 0 0, .slice none 0 0] 25)
            replace hS := hS.alloc hS.size (.cells #[.slice none 0 0, .slice none 0 0] 25)
            clear hsz
            refine Reg.wpR_main 8 (by kernel_rfl) (fun x45 hN => ?_)
            simp only [Reg.pickL, List.drop]
            replace hx := hx.trans (Below.mono hN hx.size)
            replace hS := hS.trans (Below.mono hN hS.size)
            replace f7 := f7.grow hN
            replace f5 := own_grow f5 hN
            replace f10 := f10.grow hN
            clear hN
            refine wpList_append_src rfl _ _ 23 rfl wS.heap.size 44 iP _ 2 16 Try.underlying23 hiP hz0P hz1P hz2P rfl (by decide) (.slice aa m ca) _ _ rfl f5 (some ⟨x2.heap.size, 0, none⟩) 1 1 [.int .i64 0, .int .i64 0] rfl (by simp) rfl (fun j u hj => ⟨_, rfl, (Blk.news (l := [.int .i64 0, .int .i64 0]) f7) j u hj⟩) (by simp [Value.oneCell']) (by unfold maxLen; omega) (by omega) hS.size ?_
            have hlo := f5.lt
            have hsz := hS.size
            have hxz := hx.size
            intro va wa hown hg
            obtain ⟨aa, ca, rfl, _⟩ := own_slice hown
            go_wp2_with fail
            refine ⟨rfl, Reg.Kp.of_grown hg (fun b hb => Nat.not_lt.2 (hlo b hb).1), ?_⟩
            replace f10 := f10.grown hg (own_apart_blk f5 f10 (by decide))
            replace hx := hx.grown hg hxz (fun k hk => Nat.le_trans hwS (hlo k hk).1)
            replace hS := hS.grown hg hsz (fun k hk => (hlo k hk).1)
            have f8 := hown
            clear hown hg hlo hsz hxz f5
            refine Reg.wpR_hoist [9] 1 rfl (by kernel_rfl) (by kernel_rfl) (fun u => ?_)
            simp only [Reg.pickL, List.drop]
            repeat (go_big_quiet_step ((first | fail)))
            refine wpQuiet_nil ?_
            refine Reg.wpR_main 11 (by kernel_rfl) (fun x46 hN => ?_)
            simp only [Reg.pickL, List.drop]
            replace hx := hx.trans (Below.mono hN hx.size)
            replace hS := hS.trans (Below.mono hN hS.size)
            replace f10 := f10.grow hN
            replace f8 := own_grow f8 hN
            clear hN
            have k0 := f10.cell 0
            have k1 := f10.cell 1
            have kf := f10.unfrozen
            have lg := f10.lt
            go_wp2_with fail
            refine ⟨rfl, Reg.Kp.trans (Reg.Kp.of_set _ (fun h => Nat.not_lt.2 bg h)) (Reg.Kp.of_set _ (fun h => Nat.not_lt.2 bg h)), ?_⟩
            replace f8 := own_far (i := 1) (own_far (i := 0) f8 f10 (by decide) (.slice a n c)) (f10.set 0 (.slice a n c)) (by decide) (.slice aa (m + 1) ca)
            replace f10 := (f10.set 0 (.slice a n c)).set 1 (.slice aa (m + 1) ca)
            replace hS := (hS.setCell (p := ⟨x42.heap.size, 0, none⟩) bg (.slice a n c)).setCell (p := ⟨x42.heap.size, 1, none⟩) bg (.slice aa (m + 1) ca)
            refine Reg.wpR_end (by kernel_rfl) (fun xq hN => ?_)
            replace hS := hS.trans (Below.mono hN hS.size)
            replace f8 := own_grow f8 hN
            replace f10 := f10.grow hN
            rw [show ptsV ps ++ [Value.int .i64 0, .int .i64 0] = ptsV (ps ++ [(0, 0)]) by rw [ptsV_append]; rfl] at f8
            go_wp2_with fail
            go_meet
            exact ⟨_, _, _, rfl, f10, own_pts f8, hS, bg⟩
        · simp only [Reg.pickL, List.drop]
          replace hx := hx.trans (Below.mono hN hx.size)
          replace hS := hS.trans (Below.mono hN hS.size)
          replace f7 := f7.grow hN
          replace f2 := own_grow f2 hN
          clear hN
          have hsz := hS.size
          go_wp2_with fail
          refine ⟨rfl, Reg.Kp.of_gr ((Below.refl _ _).alloc (Nat.le_refl _) _), ?_⟩
          replace f7 := f7.alloc (.cells #[.slice none 0 0, .slice none 0 0] 25)
          replace f2 := f2.alloc (.cells #[.slice none 0 0, .slice none 0 0] 25)
          have f10 := Blk.new x40 25 #[.slice none 0 0, .slice none 0 0]
          have bg : wS.heap.size ≤ x40.heap.size := hsz
          replace hx := hx.alloc hx.size (.cells #[.slice none 0 0, .slice none 0 0] 25)
          replace hS := hS.alloc hS.size (.cells #[.slice none 0 0, .slice none 0 0] 25)
          clear hsz
          refine Reg.wpR_main 5 (by kernel_rfl) (fun x47 hN => ?_)
          simp only [Reg.pickL, List.drop]
          replace hx := hx.trans (Below.mono hN hx.size)
          replace hS := hS.trans (Below.mono hN hS.size)
          replace f7 := f7.grow hN
          replace f2 := own_grow f2 hN
          replace f10 := f10.grow hN
          clear hN
          refine wpList_append_src rfl _ _ 23 rfl wS.heap.size 44 iP _ 2 16 Try.underlying23 hiP hz0P hz1P hz2P rfl (by decide) (.slice (some ⟨x37.heap.size, 0, none⟩) 0 0) _ _ rfl f2 b m d (ptsV ps) rfl HND.out (by rw [ptsV_length, HML.out]) ((HP.out.below hx).news) (ptsV_one _) (by unfold maxLen; omega) (by omega) hS.size ?_
          have hlo := f2.lt
          have hsz := hS.size
          have hxz := hx.size
          intro va wa hown hg
          simp only [Nat.zero_add, List.nil_append] at hown
          obtain ⟨aa, ca, rfl, _⟩ := own_slice hown
          go_wp2_with fail
          refine ⟨rfl, Reg.Kp.of_grown hg (fun b hb => Nat.not_lt.2 (hlo b hb).1), ?_⟩
          replace f7 := f7.grown hg (fun k hk => by simp [Value.ownBlock] at hk; subst hk; exact nn)
          replace f10 := f10.grown hg (own_apart_blk f2 f10 (by decide))
          replace hx := hx.grown hg hxz (fun k hk => Nat.le_trans hwS (hlo k hk).1)
          replace hS := hS.grown hg hsz (fun k hk => (hlo k hk).1)
          have f5 := hown
          clear hown hg hlo hsz hxz f2
          refine Reg.wpR_main 8 (by kernel_rfl) (fun x48 hN => ?_)
          simp only [Reg.pickL, List.drop]
          replace hx := hx.trans (Below.mono hN hx.size)
          replace hS := hS.trans (Below.mono hN hS.size)
          replace f7 := f7.grow hN
          replace f10 := f10.grow hN
          replace f5 := own_grow f5 hN
          clear hN
          refine wpList_append_src rfl _ _ 23 rfl wS.heap.size 44 iP _ 2 16 Try.underlying23 hiP hz0P hz1P hz2P rfl (by decide) (.slice aa m ca) _ _ rfl f5 (some ⟨x2.heap.size, 0, none⟩) 1 1 [.int .i64 0, .int .i64 0] rfl (by simp) rfl (fun j u hj => ⟨_, rfl, (Blk.news (l := [.int .i64 0, .int .i64 0]) f7) j u hj⟩) (by simp [Value.oneCell']) (by unfold maxLen; omega) (by omega) hS.size ?_
          have hlo := f5.lt
          have hsz := hS.size
          have hxz := hx.size
          intro va wa hown hg
          obtain ⟨aa, ca, rfl, _⟩ := own_slice hown
          go_wp2_with fail
          refine ⟨rfl, Reg.Kp.of_grown hg (fun b hb => Nat.not_lt.2 (hlo b hb).1), ?_⟩
          replace f10 := f10.grown hg (own_apart_blk f5 f10 (by decide))
          replace hx := hx.grown hg hxz (fun k hk => Nat.le_trans hwS (hlo k hk).1)
          replace hS := hS.grown hg hsz (fun k hk => (hlo k hk).1)
          have f8 := hown
          clear hown hg hlo hsz hxz f5
          refine Reg.wpR_hoist [9] 1 rfl (by kernel_rfl) (by kernel_rfl) (fun u => ?_)
          simp only [Reg.pickL, List.drop]
          repeat (go_big_quiet_step ((first | fail)))
          refine wpQuiet_nil ?_
          refine Reg.wpR_main 11 (by kernel_rfl) (fun x49 hN => ?_)
          simp only [Reg.pickL, List.drop]
          replace hx := hx.trans (Below.mono hN hx.size)
          replace hS := hS.trans (Below.mono hN hS.size)
          replace f10 := f10.grow hN
          replace f8 := own_grow f8 hN
          clear hN
          have k0 := f10.cell 0
          have k1 := f10.cell 1
          have kf := f10.unfrozen
          have lg := f10.lt
          go_wp2_with fail
          refine ⟨rfl, Reg.Kp.trans (Reg.Kp.of_set _ (fun h => Nat.not_lt.2 bg h)) (Reg.Kp.of_set _ (fun h => Nat.not_lt.2 bg h)), ?_⟩
          replace f8 := own_far (i := 1) (own_far (i := 0) f8 f10 (by decide) (.slice a n c)) (f10.set 0 (.slice a n c)) (by decide) (.slice aa (m + 1) ca)
          replace f10 := (f10.set 0 (.slice a n c)).set 1 (.slice aa (m + 1) ca)
          replace hS := (hS.setCell (p := ⟨x40.heap.size, 0, none⟩) bg (.slice a n c)).setCell (p := ⟨x40.heap.size, 1, none⟩) bg (.slice aa (m + 1) ca)
          refine Reg.wpR_end (by kernel_rfl) (fun xq hN => ?_)
          replace hS := hS.trans (Below.mono hN hS.size)
          replace f8 := own_grow f8 hN
          replace f10 := f10.grow hN
          rw [show ptsV ps ++ [Value.int .i64 0, .int .i64 0] = ptsV (ps ++ [(0, 0)]) by rw [ptsV_append]; rfl] at f8
          go_wp2_with fail
          go_meet
          exact ⟨_, _, _, rfl, f10, own_pts f8, hS, bg⟩
      · simp only [Reg.pickL, List.drop]
        replace hx := hx.trans (Below.mono hN hx.size)
        replace hS := hS.trans (Below.mono hN hS.size)
        replace f7 := f7.grow hN
        clear hN
        have hsz := hS.size
        go_wp2_with fail
        refine ⟨rfl, Reg.Kp.of_gr ((Below.refl _ _).alloc (Nat.le_refl _) _), ?_⟩
        replace f7 := f7.alloc (.cells #[.slice none 0 0, .slice none 0 0] 25)
        have f10 := Blk.new x38 25 #[.slice none 0 0, .slice none 0 0]
        have bg : wS.heap.size ≤ x38.heap.size := hsz
        replace hx := hx.alloc hx.size (.cells #[.slice none 0 0, .slice none 0 0] 25)
        replace hS := hS.alloc hS.size (.cells #[.slice none 0 0, .slice none 0 0] 25)
        clear hsz
        refine Reg.wpR_main 2 (by kernel_rfl) (fun x50 hN => ?_)
        simp only [Reg.pickL, List.drop]
        replace hx := hx.trans (Below.mono hN hx.size)
        replace hS := hS.trans (Below.mono hN hS.size)
        replace f7 := f7.grow hN
        replace f10 := f10.grow hN
        clear hN
        have hsz := hS.size
        go_wp2_with fail
        refine ⟨rfl, Reg.Kp.of_gr ((Below.refl _ _).alloc (Nat.le_refl _) _), ?_⟩
        have nn : x50.heap.size ≠ x2.heap.size := by have := f7.lt; omega
        replace f7 := f7.alloc (.cells #[] 44)
        replace f10 := f10.alloc (.cells #[] 44)
        have f2 := own_empty x50 wS.heap.size 44 2 hsz
        replace hx := hx.alloc hx.size (.cells #[] 44)
        replace hS := hS.alloc hS.size (.cells #[] 44)
        clear hsz
        refine Reg.wpR_main 5 (by kernel_rfl) (fun x51 hN => ?_)
        simp only [Reg.pickL, List.drop]
        replace hx := hx.trans (Below.mono hN hx.size)
        replace hS := hS.trans (Below.mono hN hS.size)
        replace f7 := f7.grow hN
        replace f10 := f10.grow hN
        replace f2 := own_grow f2 hN
        clear hN
        refine wpList_append_src rfl _ _ 23 rfl wS.heap.size 44 iP _ 2 16 Try.underlying23 hiP hz0P hz1P hz2P rfl (by decide) (.slice (some ⟨x50.heap.size, 0, none⟩) 0 0) _ _ rfl f2 b m d (ptsV ps) rfl HND.out (by rw [ptsV_length, HML.out]) ((HP.out.below hx).news) (ptsV_one _) (by unfold maxLen; omega) (by omega) hS.size ?_
        have hlo := f2.lt
        have hsz := hS.size
        have hxz := hx.size
        intro va wa hown hg
        simp only [Nat.zero_add, List.nil_append] at hown
        obtain ⟨aa, ca, rfl, _⟩ := own_slice hown
        go_wp2_with fail
        refine ⟨rfl, Reg.Kp.of_grown hg (fun b hb => Nat.not_lt.2 (hlo b hb).1), ?_⟩
        replace f7 := f7.grown hg (fun k hk => by simp [Value.ownBlock] at hk; subst hk; exact nn)
        replace f10 := f10.grown hg (own_apart_blk f2 f10 (by decide))
        replace hx := hx.grown hg hxz (fun k hk => Nat.le_trans hwS (hlo k hk).1)
        replace hS := hS.grown hg hsz (fun k hk => (hlo k hk).1)
        have f5 := hown
        clear hown hg hlo hsz hxz f2
        refine Reg.wpR_main 8 (by kernel_rfl) (fun x52 hN => ?_)
        simp only [Reg.pickL, List.drop]
        replace hx := hx.trans (Below.mono hN hx.size)
        replace hS := hS.trans (Below.mono hN hS.size)
        replace f7 := f7.grow hN
        replace f10 := f10.grow hN
        replace f5 := own_grow f5 hN
        clear hN
        refine wpList_append_src rfl _ _ 23 rfl wS.heap.size 44 iP _ 2 16 Try.underlying23 hiP hz0P hz1P hz2P rfl (by decide) (.slice aa m ca) _ _ rfl f5 (some ⟨x2.heap.size, 0, none⟩) 1 1 [.int .i64 0, .int .i64 0] rfl (by simp) rfl (fun j u hj => ⟨_, rfl, (Blk.news (l := [.int .i64 0, .int .i64 0]) f7) j u hj⟩) (by simp [Value.oneCell']) (by unfold maxLen; omega) (by omega) hS.size ?_
        have hlo := f5.lt
        have hsz := hS.size
        have hxz := hx.size
        intro va wa hown hg
        obtain ⟨aa, ca, rfl, _⟩ := own_slice hown
        go_wp2_with fail
        refine ⟨rfl, Reg.Kp.of_grown hg (fun b hb => Nat.not_lt.2 (hlo b hb).1), ?_⟩
        replace f10 := f10.grown hg (own_apart_blk f5 f10 (by decide))
        replace hx := hx.grown hg hxz (fun k hk => Nat.le_trans hwS (hlo k hk).1)
        replace hS := hS.grown hg hsz (fun k hk => (hlo k hk).1)
        have f8 := hown
        clear hown hg hlo hsz hxz f5
        refine Reg.wpR_hoist [9] 1 rfl (by kernel_rfl) (by kernel_rfl) (fun u => ?_)
        simp only [Reg.pickL, List.drop]
        repeat (go_big_quiet_step ((first | fail)))
        refine wpQuiet_nil ?_
        refine Reg.wpR_main 11 (by kernel_rfl) (fun x53 hN => ?_)
        simp only [Reg.pickL, List.drop]
        replace hx := hx.trans (Below.mono hN hx.size)
        replace hS := hS.trans (Below.mono hN hS.size)
        replace f10 := f10.grow hN
        replace f8 := own_grow f8 hN
        clear hN
        have k0 := f10.cell 0
        have k1 := f10.cell 1
        have kf := f10.unfrozen
        have lg := f10.lt
        go_wp2_with fail
        refine ⟨rfl, Reg.Kp.trans (Reg.Kp.of_set _ (fun h => Nat.not_lt.2 bg h)) (Reg.Kp.of_set _ (fun h => Nat.not_lt.2 bg h)), ?_⟩
        replace f8 := own_far (i := 1) (own_far (i := 0) f8 f10 (by decide) (.slice a n c)) (f10.set 0 (.slice a n c)) (by decide) (.slice aa (m + 1) ca)
        replace f10 := (f10.set 0 (.slice a n c)).set 1 (.slice aa (m + 1) ca)
        replace hS := (hS.setCell (p := ⟨x38.heap.size, 0, none⟩) bg (.slice a n c)).setCell (p := ⟨x38.heap.size, 1, none⟩) bg (.slice aa (m + 1) ca)
        refine Reg.wpR_end (by kernel_rfl) (fun xq hN => ?_)
        replace hS := hS.trans (Below.mono hN hS.size)
        replace f8 := own_grow f8 hN
        replace f10 := f10.grow hN
        rw [show ptsV ps ++ [Value.int .i64 0, .int .i64 0] = ptsV (ps ++ [(0, 0)]) by rw [ptsV_append]; rfl] at f8
        go_wp2_with fail
        go_meet
        exact ⟨_, _, _, rfl, f10, own_pts f8, hS, bg⟩
    · simp only [Reg.pickL, List.drop]
      replace hx := hx.trans (Below.mono hN hx.size)
      replace hS := hS.trans (Below.mono hN hS.size)
      clear hN
      have hsz := hS.size
      go_wp2_with fail
      refine ⟨rfl, Reg.Kp.of_gr ((Below.refl _ _).alloc (Nat.le_refl _) _), ?_⟩
      have f10 := Blk.new x3 25 #[.slice none 0 0, .slice none 0 0]
      have bg : wS.heap.size ≤ x3.heap.size := hsz
      replace hx := hx.alloc hx.size (.cells #[.slice none 0 0, .slice none 0 0] 25)
      replace hS := hS.alloc hS.size (.cells #[.slice none 0 0, .slice none 0 0] 25)
      clear hsz
      refine Reg.wpR_main2 2 7 (by kernel_rfl) (fun x54 hN => ?_) (fun x55 hN => ?_)
      · simp only [Reg.pickL, List.drop]
        replace hx := hx.trans (Below.mono hN hx.size)
        replace hS := hS.trans (Below.mono hN hS.size)
        replace f10 := f10.grow hN
        clear hN
        have hsz := hS.size
        go_wp2_with fail
        refine ⟨rfl, Reg.Kp.of_gr ((Below.refl _ _).alloc (Nat.le_refl _) _), ?_⟩
        replace f10 := f10.alloc (.cells #[] 44)
        have f2 := own_empty x54 wS.heap.size 44 2 hsz
        replace hx := hx.alloc hx.size (.cells #[] 44)
        replace hS := hS.alloc hS.size (.cells #[] 44)
        clear hsz
        refine Reg.wpR_main2 5 7 (by kernel_rfl) (fun x56 hN => ?_) (fun x57 hN => ?_)
        · simp only [Reg.pickL, List.drop]
          replace hx := hx.trans (Below.mono hN hx.size)
          replace hS := hS.trans (Below.mono hN hS.size)
          replace f10 := f10.grow hN
          replace f2 := own_grow f2 hN
          clear hN
          refine wpList_append_src rfl _ _ 23 rfl wS.heap.size 44 iP _ 2 16 Try.underlying23 hiP hz0P hz1P hz2P rfl (by decide) (.slice (some ⟨x54.heap.size, 0, none⟩) 0 0) _ _ rfl f2 b m d (ptsV ps) rfl HND.out (by rw [ptsV_length, HML.out]) ((HP.out.below hx).news) (ptsV_one _) (by unfold maxLen; omega) (by omega) hS.size ?_
          have hlo := f2.lt
          have hsz := hS.size
          have hxz := hx.size
          intro va wa hown hg
          simp only [Nat.zero_add, List.nil_append] at hown
          obtain ⟨aa, ca, rfl, _⟩ := own_slice hown
          go_wp2_with fail
          refine ⟨rfl, Reg.Kp.of_grown hg (fun b hb => Nat.not_lt.2 (hlo b hb).1), ?_⟩
          replace f10 := f10.grown hg (own_apart_blk f2 f10 (by decide))
          replace hx := hx.grown hg hxz (fun k hk => Nat.le_trans hwS (hlo k hk).1)
          replace hS := hS.grown hg hsz (fun k hk => (hlo k hk).1)
          have f5 := hown
          clear hown hg hlo hsz hxz f2
          refine Reg.wpR_main 7 (by kernel_rfl) (fun x58 hN => ?_)
          simp only [Reg.pickL, List.drop]
          replace hx := hx.trans (Below.mono hN hx.size)
          replace hS := hS.trans (Below.mono hN hS.size)
          replace f10 := f10.grow hN
          replace f5 := own_grow f5 hN
          clear hN
          have hsz := hS.size
          go_wp2_with fail
          refine ⟨rfl, Reg.Kp.of_gr ((Below.refl _ _).alloc (Nat.le_refl _) _), ?_⟩
          replace f10 := f10.alloc (.cells #[.int .i64 0, .int .i64 0] 44)
          replace f5 := f5.alloc (.cells #[.int .i64 0, .int .i64 0] 44)
          have f7 := Blk.new x58 44 #[.int .i64 0, .int .i64 0]
          replace hx := hx.alloc hx.size (.cells #[.int .i64 0, .int .i64 0] 44)
          replace hS := hS.alloc hS.size (.cells #[.int .i64 0, .int .i64 0] 44)
          clear hsz
          refine Reg.wpR_main 8 (by kernel_rfl) (fun x59 hN => ?_)
          simp only [Reg.pickL, List.drop]
          replace hx := hx.trans (Below.mono hN hx.size)
          replace hS := hS.trans (Below.mono hN hS.size)
          replace f10 := f10.grow hN
          replace f5 := own_grow f5 hN
          replace f7 := f7.grow hN
          clear hN
          refine wpList_append_src rfl _ _ 23 rfl wS.heap.size 44 iP _ 2 16 Try.underlying23 hiP hz0P hz1P hz2P rfl (by decide) (.slice aa m ca) _ _ rfl f5 (some ⟨x58.heap.size, 0, none⟩) 1 1 [.int .i64 0, .int .i64 0] rfl (by simp) rfl (fun j u hj => ⟨_, rfl, (Blk.news (l := [.int .i64 0, .int .i64 0]) f7) j u hj⟩) (by simp [Value.oneCell']) (by unfold maxLen; omega) (by omega) hS.size ?_
          have hlo := f5.lt
          have hsz := hS.size
          have hxz := hx.size
          intro va wa hown hg
          obtain ⟨aa, ca, rfl, _⟩ := own_slice hown
          go_wp2_with fail
          refine ⟨rfl, Reg.Kp.of_grown hg (fun b hb => Nat.not_lt.2 (hlo b hb).1), ?_⟩
          replace f10 := f10.grown hg (own_apart_blk f5 f10 (by decide))
          replace hx := hx.grown hg hxz (fun k hk => Nat.le_trans hwS (hlo k hk).1)
          replace hS := hS.grown hg hsz (fun k hk => (hlo k hk).1)
          have f8 := hown
          clear hown hg hlo hsz hxz f5
          refine Reg.wpR_hoist [9] 1 rfl (by kernel_rfl) (by kernel_rfl) (fun u => ?_)
          simp only [Reg.pickL, List.drop]
          repeat (go_big_quiet_step ((first | fail)))
          refine wpQuiet_nil ?_
          refine Reg.wpR_main 11 (by kernel_rfl) (fun x60 hN => ?_)
          simp only [Reg.pickL, List.drop]
          replace hx := hx.trans (Below.mono hN hx.size)
          replace hS := hS.trans (Below.mono hN hS.size)
          replace f10 := f10.grow hN
          replace f8 := own_grow f8 hN
          clear hN
          have k0 := f10.cell 0
          have k1 := f10.cell 1
          have kf := f10.unfrozen
          have lg := f10.lt
          go_wp2_with fail
          refine ⟨rfl, Reg.Kp.trans (Reg.Kp.of_set _ (fun h => Nat.not_lt.2 bg h)) (Reg.Kp.of_set _ (fun h => Nat.not_lt.2 bg h)), ?_⟩
          replace f8 := own_far (i := 1) (own_far (i := 0) f8 f10 (by decide) (.slice a n c)) (f10.set 0 (.slice a n c)) (by decide) (.slice aa (m + 1) ca)
          replace f10 := (f10.set 0 (.slice a n c)).set 1 (.slice aa (m + 1) ca)
          replace hS := (hS.setCell (p := ⟨x3.heap.size, 0, none⟩) bg (.slice a n c)).setCell (p := ⟨x3.heap.size, 1, none⟩) bg (.slice aa (m + 1) ca)
          refine Reg.wpR_end (by kernel_rfl) (fun xq hN => ?_)
          replace hS := hS.trans (Below.mono hN hS.size)
          replace f8 := own_grow f8 hN
          replace f10 := f10.grow hN
          rw [show ptsV ps ++ [Value.int .i64 0, .int .i64 0] = ptsV (ps ++ [(0, 0)]) by rw [ptsV_append]; rfl] at f8
          go_wp2_with fail
          go_meet
          exact ⟨_, _, _, rfl, f10, own_pts f8, hS, bg⟩
        · simp only [Reg.pickL, List.drop]
          replace hx := hx.trans (Below.mono hN hx.size)
          replace hS := hS.trans (Below.mono hN hS.size)
          replace f10 := f10.grow hN
          replace f2 := own_grow f2 hN
          clear hN
          have hsz := hS.size
          go_wp2_with fail
          refine ⟨rfl, Reg.Kp.of_gr ((Below.refl _ _).alloc (Nat.le_refl _) _), ?_⟩
          have nn : x54.heap.size ≠ x57.heap.size := by have := (f2.lt (x54.heap.size) rfl).2; omega
          replace f10 := f10.alloc (.cells #[.int .i64 0, .int .i64 0] 44)
          replace f2 := f2.alloc (.cells #[.int .i64 0, .int .i64 0] 44)
          have f7 := Blk.new x57 44 #[.int .i64 0, .int .i64 0]
          replace hx := hx.alloc hx.size (.cells #[.int .i64 0, .int .i64 0] 44)
          replace hS := hS.alloc hS.size (.cells #[.int .i64 0, .int .i64 0] 44)
          clear hsz
          refine Reg.wpR_main 5 (by kernel_rfl) (fun x61 hN => ?_)
          simp only [Reg.pickL, List.drop]
          replace hx := hx.trans (Below.mono hN hx.size)
          replace hS := hS.trans (Below.mono hN hS.size)
          replace f10 := f10.grow hN
          replace f2 := own_grow f2 hN
          replace f7 := f7.grow hN
          clear hN
          refine wpList_append_src rfl _ _ 23 rfl wS.heap.size 44 iP _ 2 16 Try.underlying23 hiP hz0P hz1P hz2P rfl (by decide) (.slice (some ⟨x54.heap.size, 0, none⟩) 0 0) _ _ rfl f2 b m d (ptsV ps) rfl HND.out (by rw [ptsV_length, HML.out]) ((HP.out.below hx).news) (ptsV_one _) (by unfold maxLen; omega) (by omega) hS.size ?_
          have hlo := f2.lt
          have hsz := hS.size
          have hxz := hx.size
          intro va wa hown hg
          simp only [Nat.zero_add, List.nil_append] at hown
          obtain ⟨aa, ca, rfl, _⟩ := own_slice hown
          go_wp2_with fail
          refine ⟨rfl, Reg.Kp.of_grown hg (fun b hb => Nat.not_lt.2 (hlo b hb).1), ?_⟩
          replace f10 := f10.grown hg (own_apart_blk f2 f10 (by decide))
          replace f7 := f7.grown hg (fun k hk => by simp [Value.ownBlock] at hk; subst hk; exact nn)
          replace hx := hx.grown hg hxz (fun k hk => Nat.le_trans hwS (hlo k hk).1)
          replace hS := hS.grown hg hsz (fun k hk => (hlo k hk).1)
          have f5 := hown
          clear hown hg hlo hsz hxz f2
          refine Reg.wpR_main 8 (by kernel_rfl) (fun x62 hN => ?_)
          simp only [Reg.pickL, List.drop]
          replace hx := hx.trans (Below.mono hN hx.size)
          replace hS := hS.trans (Below.mono hN hS.size)
          replace f10 := f10.grow hN
          replace f7 := f7.grow hN
          replace f5 := own_grow f5 hN
          clear hN
          refine wpList_append_src rfl _ _ 23 rfl wS.heap.size 44 iP _ 2 16 Try.underlying23 hiP hz0P hz1P hz2P rfl (by decide) (.slice aa m ca) _ _ rfl f5 (some ⟨x57.heap.size, 0, none⟩) 1 1 [.int .i64 0, .int .i64 0] rfl (by simp) rfl (fun j u hj => ⟨_, rfl, (Blk.news (l := [.int .i64 0, .int .i64 0]) f7) j u hj⟩) (by simp [Value.oneCell']) (by unfold maxLen; omega) (by omega) hS.size ?_
          have hlo := f5.lt
          have hsz := hS.size
          have hxz := hx.size
          intro va wa hown hg
          obtain ⟨aa, ca, rfl, _⟩ := own_slice hown
          go_wp2_with fail
          refine ⟨rfl, Reg.Kp.of_grown hg (fun b hb => Nat.not_lt.2 (hlo b hb).1), ?_⟩
          replace f10 := f10.grown hg (own_apart_blk f5 f10 (by decide))
          replace hx := hx.grown hg hxz (fun k hk => Nat.le_trans hwS (hlo k hk).1)
          replace hS := hS.grown hg hsz (fun k hk => (hlo k hk).1)
          have f8 := hown
          clear hown hg hlo hsz hxz f5
          refine Reg.wpR_hoist [9] 1 rfl (by kernel_rfl) (by kernel_rfl) (fun u => ?_)
          simp only [Reg.pickL, List.drop]
          repeat (go_big_quiet_step ((first | fail)))
          refine wpQuiet_nil ?_
          refine Reg.wpR_main 11 (by kernel_rfl) (fun x63 hN => ?_)
          simp only [Reg.pickL, List.drop]
          replace hx := hx.trans (Below.mono hN hx.size)
          replace hS := hS.trans (Below.mono hN hS.size)
          replace f10 := f10.grow hN
          replace f8 := own_grow f8 hN
          clear hN
          have k0 := f10.cell 0
          have k1 := f10.cell 1
          have kf := f10.unfrozen
          have lg := f10.lt
          go_wp2_with fail
          refine ⟨rfl, Reg.Kp.trans (Reg.Kp.of_set _ (fun h => Nat.not_lt.2 bg h)) (Reg.Kp.of_set _ (fun h => Nat.not_lt.2 bg h)), ?_⟩
          replace f8 := own_far (i := 1) (own_far (i := 0) f8 f10 (by decide) (.slice a n c)) (f10.set 0 (.slice a n c)) (by decide) (.slice aa (m + 1) ca)
          replace f10 := (f10.set 0 (.slice a n c)).set 1 (.slice aa (m + 1) ca)
          replace hS := (hS.setCell (p := ⟨x3.heap.size, 0, none⟩) bg (.slice a n c)).setCell (p := ⟨x3.heap.size, 1, none⟩) bg (.slice aa (m + 1) ca)
          refine Reg.wpR_end (by kernel_rfl) (fun xq hN => ?_)
          replace hS := hS.trans (Below.mono hN hS.size)
          replace f8 := own_grow f8 hN
          replace f10 := f10.grow hN
          rw [show ptsV ps ++ [Value.int .i64 0, .int .i64 0] = ptsV (ps ++ [(0, 0)]) by rw [ptsV_append]; rfl] at f8
          go_wp2_with fail
          go_meet
          exact ⟨_, _, _, rfl, f10, own_pts f8, hS, bg⟩
      · simp only [Reg.pickL, List.drop]
        replace hx := hx.trans (Below.mono hN hx.size)
        replace hS := hS.trans (Below.mono hN hS.size)
        replace f10 := f10.grow hN
        clear hN
        have hsz := hS.size
        go_wp2_with fail
        refine ⟨rfl, Reg.Kp.of_gr ((Below.refl _ _).alloc (Nat.le_refl _) _), ?_⟩
        replace f10 := f10.alloc (.cells #[.int .i64 0, .int .i64 0] 44)
        have f7 := Blk.new x55 44 #[.int .i64 0, .int .i64 0]
        replace hx := hx.alloc hx.size (.cells #[.int .i64 0, .int .i64 0] 44)
        replace hS := hS.alloc hS.size (.cells #[.int .i64 0, .int .i64 0] 44)
        clear hsz
        refine Reg.wpR_main 2 (by kernel_rfl) (fun x64 hN => ?_)
        simp only [Reg.pickL, List.drop]
        replace hx := hx.trans (Below.mono hN hx.size)
        replace hS := hS.trans (Below.mono hN hS.size)
        replace f10 := f10.grow hN
        replace f7 := f7.grow hN
        clear hN
        have hsz := hS.size
        go_wp2_with fail
        refine ⟨rfl, Reg.Kp.of_gr ((Below.refl _ _).alloc (Nat.le_refl _) _), ?_⟩
        have nn : x64.heap.size ≠ x55.heap.size := by have := f7.lt; omega
        replace f10 := f10.alloc (.cells #[] 44)
        replace f7 := f7.alloc (.cells #[] 44)
        have f2 := own_empty x64 wS.heap.size 44 2 hsz
        replace hx := hx.alloc hx.size (.cells #[] 44)
        replace hS := hS.alloc hS.size (.cells #[] 44)
        clear hsz
        refine Reg.wpR_main 5 (by kernel_rfl) (fun x65 hN => ?_)
        simp only [Reg.pickL, List.drop]
        replace hx := hx.trans (Below.mono hN hx.size)
        replace hS := hS.trans (Below.mono hN hS.size)
        replace f10 := f10.grow hN
        replace f7 := f7.grow hN
        replace f2 := own_grow f2 hN
        clear hN
        refine wpList_append_src rfl _ _ 23 rfl wS.heap.size 44 iP _ 2 16 Try.underlying23 hiP hz0P hz1P hz2P rfl (by decide) (.slice (some ⟨x64.heap.size, 0, none⟩) 0 0) _ _ rfl f2 b m d (ptsV ps) rfl HND.out (by rw [ptsV_length, HML.out]) ((HP.out.below hx).news) (ptsV_one _) (by unfold maxLen; omega) (by omega) hS.size ?_
        have hlo := f2.lt
        have hsz := hS.size
        have hxz := hx.size
        intro va wa hown hg
        simp only [Nat.zero_add, List.nil_append] at hown
        obtain ⟨aa, ca, rfl, _⟩ := own_slice hown
        go_wp2_with fail
        refine ⟨rfl, Reg.Kp.of_grown hg (fun b hb => Nat.not_lt.2 (hlo b hb).1), ?_⟩
        replace f10 := f10.grown hg (own_apart_blk f2 f10 (by decide))
        replace f7 := f7.grown hg (fun k hk => by simp [Value.ownBlock] at hk; subst hk; exact nn)
        replace hx := hx.grown hg hxz (fun k hk => Nat.le_trans hwS (hlo k hk).1)
        replace hS := hS.grown hg hsz (fun k hk => (hlo k hk).1)
        have f5 := hown
        clear hown hg hlo hsz hxz f2
        refine Reg.wpR_main 8 (by kernel_rfl) (fun x66 hN => ?_)
        simp only [Reg.pickL, List.drop]
        replace hx := hx.trans (Below.mono hN hx.size)
        replace hS := hS.trans (Below.mono hN hS.size)
        replace f10 := f10.grow hN
        replace f7 := f7.grow hN
        replace f5 := own_grow f5 hN
        clear hN
        refine wpList_append_src rfl _ _ 23 rfl wS.heap.size 44 iP _ 2 16 Try.underlying23 hiP hz0P hz1P hz2P rfl (by decide) (.slice aa m ca) _ _ rfl f5 (some ⟨x55.heap.size, 0, none⟩) 1 1 [.int .i64 0, .int .i64 0] rfl (by simp) rfl (fun j u hj => ⟨_, rfl, (Blk.news (l := [.int .i64 0, .int .i64 0]) f7) j u hj⟩) (by simp [Value.oneCell']) (by unfold maxLen; omega) (by omega) hS.size ?_
        have hlo := f5.lt
        have hsz := hS.size
        have hxz := hx.size
        intro va wa hown hg
        obtain ⟨aa, ca, rfl, _⟩ := own_slice hown
        go_wp2_with fail
        refine ⟨rfl, Reg.Kp.of_grown hg (fun b hb => Nat.not_lt.2 (hlo b hb).1), ?_⟩
        replace f10 := f10.grown hg (own_apart_blk f5 f10 (by decide))
        replace hx := hx.grown hg hxz (fun k hk => Nat.le_trans hwS (hlo k hk).1)
        replace hS := hS.grown hg hsz (fun k hk => (hlo k hk).1)
        have f8 := hown
        clear hown hg hlo hsz hxz f5
        refine Reg.wpR_hoist [9] 1 rfl (by kernel_rfl) (by kernel_rfl) (fun u => ?_)
        simp only [Reg.pickL, List.drop]
        repeat (go_big_quiet_step ((first | fail)))
        refine wpQuiet_nil ?_
        refine Reg.wpR_main 11 (by kernel_rfl) (fun x67 hN => ?_)
        simp only [Reg.pickL, List.drop]
        replace hx := hx.trans (Below.mono hN hx.size)
        replace hS := hS.trans (Below.mono hN hS.size)
        replace f10 := f10.grow hN
        replace f8 := own_grow f8 hN
        clear hN
        have k0 := f10.cell 0
        have k1 := f10.cell 1
        have kf := f10.unfrozen
        have lg := f10.lt
        go_wp2_with fail
        refine ⟨rfl, Reg.Kp.trans (Reg.Kp.of_set _ (fun h => Nat.not_lt.2 bg h)) (Reg.Kp.of_set _ (fun h => Nat.not_lt.2 bg h)), ?_⟩
        replace f8 := own_far (i := 1) (own_far (i := 0) f8 f10 (by decide) (.slice a n c)) (f10.set 0 (.slice a n c)) (by decide) (.slice aa (m + 1) ca)
        replace f10 := (f10.set 0 (.slice a n c)).set 1 (.slice aa (m + 1) ca)
        replace hS := (hS.setCell (p := ⟨x3.heap.size, 0, none⟩) bg (.slice a n c)).setCell (p := ⟨x3.heap.size, 1, none⟩) bg (.slice aa (m + 1) ca)
        refine Reg.wpR_end (by kernel_rfl) (fun xq hN => ?_)
        replace hS := hS.trans (Below.mono hN hS.size)
        replace f8 := own_grow f8 hN
        replace f10 := f10.grow hN
        rw [show ptsV ps ++ [Value.int .i64 0, .int .i64 0] = ptsV (ps ++ [(0, 0)]) by rw [ptsV_append]; rfl] at f8
        go_wp2_with fail
        go_meet
        exact ⟨_, _, _, rfl, f10, own_pts f8, hS, bg⟩
  case rest =>
    obtain ⟨g5, a8, c8, rfl, q5, p5, hS5, hg5⟩ := hcut
    obtain ⟨wT, rfl⟩ : ∃ wT, wT = wc := ⟨_, rfl⟩
    replace hx := hx.trans (hS5.mono hwS)
    replace s1 := s1.grow hS5
    clear hS hS5 hg5 hwS l1 g0 g1
    have hwS := hx.size
    have l1 := s1.lt
    have l5 := q5.lt
    have g0 : wT.cell? ⟨w.heap.size, 0, none⟩ = some (.slice a n c) := s1.cell 0
    have g1 : wT.cell? ⟨w.heap.size, 1, none⟩ = some (.slice b m d) := s1.cell 1
    have g2 : wT.cell? ⟨g5, 1, none⟩ = some (.slice a8 (m + 1) c8) := q5.cell 1
    have hS := Below.refl wT.heap.size wT
    go_upto_region 4 with (fail)
    go_cut [6] (fun v wx => ErrB wT n m c8 a8 vs verb v wx)
    case first =>
      go_wp2_with fail
      refine Reg.wp_region_R (fun b => b < wT.heap.size) 12 rfl (by kernel_rfl) ?_
      refine Reg.wpR_hoist [1, 2, 4, 7, 8] 7 rfl (by kernel_rfl) (by kernel_rfl) (fun u => ?_)
      simp only [Reg.pickL, List.drop]
      repeat (go_big_quiet_step ((first | fail)))
      refine wpQuiet_nil ?_
      refine Reg.wpR_main3 0 5 10 (by kernel_rfl) (fun x1 hN => ?_) (fun x2 hN => ?_) (fun x3 hN => ?_)
      · simp only [Reg.pickL, List.drop]
        replace hx := hx.trans (Below.mono hN hx.size)
        replace hS := hS.trans (Below.mono hN hS.size)
        clear hN
        have hsz := hS.size
        go_wp2_with fail
        refine ⟨rfl, Reg.Kp.of_gr ((Below.refl _ _).alloc (Nat.le_refl _) _), ?_⟩
        have f0 := own_empty x1 wT.heap.size 3 1 hsz
        replace hx := hx.alloc hx.size (.cells #[] 3)
        replace hS := hS.alloc hS.size (.cells #[] 3)
        clear hsz
        refine Reg.wpR_main3 3 5 10 (by kernel_rfl) (fun x4 hN => ?_) (fun x5 hN => ?_) (fun x6 hN => ?_)
        · simp only [Reg.pickL, List.drop]
          replace hx := hx.trans (Below.mono hN hx.size)
          replace hS := hS.trans (Below.mono hN hS.size)
          replace f0 := own_grow f0 hN
          clear hN
          refine wpList_append_src rfl _ _ 22 rfl wT.heap.size 3 iI _ 1 8 Try.underlying22 hiI hz0I hz1I hz2I rfl (by decide) (.slice (some ⟨x1.heap.size, 0, none⟩) 0 0) _ _ rfl f0 a n c (intsV vs) rfl HNC.out (by unfold intsV; rw [List.length_map, HNL.out, Nat.mul_one]) ((HV.out.below hx).news) (intsV_one _) (by unfold maxLen; omega) (by omega) hS.size ?_
          have hlo := f0.lt
          have hsz := hS.size
          have hxz := hx.size
          intro va wa hown hg
          simp only [Nat.zero_add, List.nil_append] at hown
          obtain ⟨aa, ca, rfl, _⟩ := own_slice hown
          go_wp2_with fail
          refine ⟨rfl, Reg.Kp.of_grown hg (fun b hb => Nat.not_lt.2 (hlo b hb).1), ?_⟩
          replace hx := hx.grown hg hxz (fun k hk => Nat.le_trans hwS (hlo k hk).1)
          replace hS := hS.grown hg hsz (fun k hk => (hlo k hk).1)
          have f3 := hown
          clear hown hg hlo hsz hxz f0
          refine Reg.wpR_main2 5 10 (by kernel_rfl) (fun x7 hN => ?_) (fun x8 hN => ?_)
          · simp only [Reg.pickL, List.drop]
            replace hx := hx.trans (Below.mono hN hx.size)
            replace hS := hS.trans (Below.mono hN hS.size)
            replace f3 := own_grow f3 hN
            clear hN
            have hsz := hS.size
            go_wp2_with fail
            refine ⟨rfl, Reg.Kp.of_gr ((Below.refl _ _).alloc (Nat.le_refl _) _), ?_⟩
            replace f3 := f3.alloc (.cells #[.int .i64 verb] 3)
            have f5 := Blk.new x7 3 #[.int .i64 verb]
            replace hx := hx.alloc hx.size (.cells #[.int .i64 verb] 3)
            replace hS := hS.alloc hS.size (.cells #[.int .i64 verb] 3)
            clear hsz
            refine Reg.wpR_main2 6 10 (by kernel_rfl) (fun x9 hN => ?_) (fun x10 hN => ?_)
            · simp only [Reg.pickL, List.drop]
              replace hx := hx.trans (Below.mono hN hx.size)
              replace hS := hS.trans (Below.mono hN hS.size)
              replace f3 := own_grow f3 hN
              replace f5 := f5.grow hN
              clear hN
              refine wpList_append_src rfl _ _ 22 rfl wT.heap.size 3 iI _ 1 8 Try.underlying22 hiI hz0I hz1I hz2I rfl (by decide) (.slice aa n ca) _ _ rfl f3 (some ⟨x7.heap.size, 0, none⟩) 1 1 [.int .i64 verb] rfl (by simp) rfl (fun j u hj => ⟨_, rfl, (Blk.news (l := [.int .i64 verb]) f5) j u hj⟩) (by simp [Value.oneCell']) (by unfold maxLen; omega) (by omega) hS.size ?_
              have hlo := f3.lt
              have hsz := hS.size
              have hxz := hx.size
              intro va wa hown hg
              obtain ⟨aa, ca, rfl, _⟩ := own_slice hown
              go_wp2_with fail
              refine ⟨rfl, Reg.Kp.of_grown hg (fun b hb => Nat.not_lt.2 (hlo b hb).1), ?_⟩
              replace hx := hx.grown hg hxz (fun k hk => Nat.le_trans hwS (hlo k hk).1)
              replace hS := hS.grown hg hsz (fun k hk => (hlo k hk).1)
              have f6 := hown
              clear hown hg hlo hsz hxz f3
              refine Reg.wpR_hoist [9] 2 rfl (by kernel_rfl) (by kernel_rfl) (fun u => ?_)
              simp only [Reg.pickL, List.drop]
              repeat (go_big_quiet_step ((first | fail)))
              refine wpQuiet_nil ?_
              refine Reg.wpR_main 10 (by kernel_rfl) (fun x11 hN => ?_)
              simp only [Reg.pickL, List.drop]
              replace hx := hx.trans (Below.mono hN hx.size)
              replace hS := hS.trans (Below.mono hN hS.size)
              replace f6 := own_grow f6 hN
              clear hN
              have hsz := hS.size
              go_wp2_with fail
              refine ⟨rfl, Reg.Kp.of_gr ((Below.refl _ _).alloc (Nat.le_refl _) _), ?_⟩
              replace f6 := f6.alloc (.cells #[.slice none 0 0, .slice none 0 0] 25)
              have f10 := Blk.new x11 25 #[.slice none 0 0, .slice none 0 0]
              have bg : wT.heap.size ≤ x11.heap.size := hsz
              replace hx := hx.alloc hx.size (.cells #[.slice none 0 0, .slice none 0 0] 25)
              replace hS := hS.alloc hS.size (.cells #[.slice none 0 0, .slice none 0 0] 25)
              clear hsz
              refine Reg.wpR_main 11 (by kernel_rfl) (fun x12 hN => ?_)
              simp only [Reg.pickL, List.drop]
              replace hx := hx.trans (Below.mono hN hx.size)
              replace hS := hS.trans (Below.mono hN hS.size)
              replace f6 := own_grow f6 hN
              replace f10 := f10.grow hN
              clear hN
              have k0 := f10.cell 0
              have k1 := f10.cell 1
              have kf := f10.unfrozen
              have lg := f10.lt
              go_wp2_with fail
              refine ⟨rfl, Reg.Kp.trans (Reg.Kp.of_set _ (fun h => Nat.not_lt.2 bg h)) (Reg.Kp.of_set _ (fun h => Nat.not_lt.2 bg h)), ?_⟩
              replace f6 := own_far (i := 1) (own_far (i := 0) f6 f10 (by decide) (.slice aa (n + 1) ca)) (f10.set 0 (.slice aa (n + 1) ca)) (by decide) (.slice a8 (m + 1) c8)
              replace f10 := (f10.set 0 (.slice aa (n + 1) ca)).set 1 (.slice a8 (m + 1) c8)
              replace hS := (hS.setCell (p := ⟨x11.heap.size, 0, none⟩) bg (.slice aa (n + 1) ca)).setCell (p := ⟨x11.heap.size, 1, none⟩) bg (.slice a8 (m + 1) c8)
              refine Reg.wpR_end (by kernel_rfl) (fun xq hN => ?_)
              replace hS := hS.trans (Below.mono hN hS.size)
              replace f6 := own_grow f6 hN
              replace f10 := f10.grow hN
              rw [show intsV vs ++ [Value.int .i64 verb] = (vs ++ [verb]).map (Value.int .i64) by unfold intsV; rw [List.map_append]; rfl] at f6
              go_wp2_with fail
              go_meet
              exact ⟨_, _, _, rfl, f10, own_ints f6, hS, bg⟩
            · simp only [Reg.pickL, List.drop]
              replace hx := hx.trans (Below.mono hN hx.size)
              replace hS := hS.trans (Below.mono hN hS.size)
              replace f3 := own_grow f3 hN
              replace f5 := f5.grow hN
              clear hN
              have hsz := hS.size
              go_wp2_with fail
              refine ⟨rfl, Reg.Kp.of_gr ((Below.refl _ _).alloc (Nat.le_refl _) _), ?_⟩
              replace f3 := f3.alloc (.cells #[.slice none 0 0, .slice none 0 0] 25)
              replace f5 := f5.alloc (.cells #[.slice none 0 0, .slice none 0 0] 25)
              have f10 := Blk.new x10 25 #[.slice none 0 0, .slice none 0 0]
              have bg : wT.heap.size ≤ x10.heap.size := hsz
              replace hx := hx.alloc hx.size (.cells #[.slice none 0 0, .slice none 0 0] 25)
              replace hS := hS.alloc hS.size (.cells #[.slice none 0 0, .slice none 0 0] 25)
              clear hsz
              refine Reg.wpR_main 6 (by kernel_rfl) (fun x13 hN => ?_)
              simp only [Reg.pickL, List.drop]
              replace hx := hx.trans (Below.mono hN hx.size)
              replace hS := hS.trans (Below.mono hN hS.size)
              replace f3 := own_grow f3 hN
              replace f5 := f5.grow hN
              replace f10 := f10.grow hN
              clear hN
              refine wpList_append_src rfl _ _ 22 rfl wT.heap.size 3 iI _ 1 8 Try.underlying22 hiI hz0I hz1I hz2I rfl (by decide) (.slice aa n ca) _ _ rfl f3 (some ⟨x7.heap.size, 0, none⟩) 1 1 [.int .i64 verb] rfl (by simp) rfl (fun j u hj => ⟨_, rfl, (Blk.news (l := [.int .i64 verb]) f5) j u hj⟩) (by simp [Value.oneCell']) (by unfold maxLen; omega) (by omega) hS.size ?_
              have hlo := f3.lt
              have hsz := hS.size
              have hxz := hx.size
              intro va wa hown hg
              obtain ⟨aa, ca, rfl, _⟩ := own_slice hown
              go_wp2_with fail
              refine ⟨rfl, Reg.Kp.of_grown hg (fun b hb => Nat.not_lt.2 (hlo b hb).1), ?_⟩
              replace f10 := f10.grown hg (own_apart_blk f3 f10 (by decide))
              replace hx := hx.grown hg hxz (fun k hk => Nat.le_trans hwS (hlo k hk).1)
              replace hS := hS.grown hg hsz (fun k hk => (hlo k hk).1)
              have f6 := hown
              clear hown hg hlo hsz hxz f3
              refine Reg.wpR_hoist [9] 1 rfl (by kernel_rfl) (by kernel_rfl) (fun u => ?_)
              simp only [Reg.pickL, List.drop]
              repeat (go_big_quiet_step ((first | fail)))
              refine wpQuiet_nil ?_
              refine Reg.wpR_main 11 (by kernel_rfl) (fun x14 hN => ?_)
              simp only [Reg.pickL, List.drop]
              replace hx := hx.trans (Below.mono hN hx.size)
              replace hS := hS.trans (Below.mono hN hS.size)
              replace f10 := f10.grow hN
              replace f6 := own_grow f6 hN
              clear hN
              have k0 := f10.cell 0
              have k1 := f10.cell 1
              have kf := f10.unfrozen
              have lg := f10.lt
              go_wp2_with fail
              refine ⟨rfl, Reg.Kp.trans (Reg.Kp.of_set _ (fun h => Nat.not_lt.2 bg h)) (Reg.Kp.of_set _ (fun h => Nat.not_lt.2 bg h)), ?_⟩
              replace f6 := own_far (i := 1) (own_far (i := 0) f6 f10 (by decide) (.slice aa (n + 1) ca)) (f10.set 0 (.slice aa (n + 1) ca)) (by decide) (.slice a8 (m + 1) c8)
              replace f10 := (f10.set 0 (.slice aa (n + 1) ca)).set 1 (.slice a8 (m + 1) c8)
              replace hS := (hS.setCell (p := ⟨x10.heap.size, 0, none⟩) bg (.slice aa (n + 1) ca)).setCell (p := ⟨x10.heap.size, 1, none⟩) bg (.slice a8 (m + 1) c8)
              refine Reg.wpR_end (by kernel_rfl) (fun xq hN => ?_)
              replace hS := hS.trans (Below.mono hN hS.size)
              replace f6 := own_grow f6 hN
              replace f10 := f10.grow hN
              rw [show intsV vs ++ [Value.int .i64 verb] = (vs ++ [verb]).map (Value.int .i64) by unfold intsV; rw [List.map_append]; rfl] at f6
              go_wp2_with fail
              go_meet
              exact ⟨_, _, _, rfl, f10, own_ints f6, hS, bg⟩
          · simp only [Reg.pickL, List.drop]
            replace hx := hx.trans (Below.mono hN hx.size)
            replace hS := hS.trans (Below.mono hN hS.size)
            replace f3 := own_grow f3 hN
            clear hN
            have hsz := hS.size
            go_wp2_with fail
            refine ⟨rfl, Reg.Kp.of_gr ((Below.refl _ _).alloc (Nat.le_refl _) _), ?_⟩
            replace f3 := f3.alloc (.cells #[.slice none 0 0, .slice none 0 0] 25)
            have f10 := Blk.new x8 25 #[.slice none 0 0, .slice none 0 0]
            have bg : wT.heap.size ≤ x8.heap.size := hsz
            replace hx := hx.alloc hx.size (.cells #[.slice none 0 0, .slice none 0 0] 25)
            replace hS := hS.alloc hS.size (.cells #[.slice none 0 0, .slice none 0 0] 25)
            clear hsz
            refine Reg.wpR_main 5 (by kernel_rfl) (fun x15 hN => ?_)
            simp only [Reg.pickL, List.drop]
            replace hx := hx.trans (Below.mono hN hx.size)
            replace hS := hS.trans (Below.mono hN hS.size)
            replace f3 := own_grow f3 hN
            replace f10 := f10.grow hN
            clear hN
            have hsz := hS.size
            go_wp2_with fail
            refine ⟨rfl, Reg.Kp.of_gr ((Below.refl _ _).alloc (Nat.le_refl _) _), ?_⟩
            replace f3 := f3.alloc (.cells #[.int .i64 verb] 3)
            replace f10 := f10.alloc (.cells #[.int .i64 verb] 3)
            have f5 := Blk.new x15 3 #[.int .i64 verb]
            replace hx := hx.alloc hx.size (.cells #[.int .i64 verb] 3)
            replace hS := hS.alloc hS.size (.cells #[.int .i64 verb] 3)
            clear hsz
            refine Reg.wpR_main 6 (by kernel_rfl) (fun x16 hN => ?_)
            simp only [Reg.pickL, List.drop]
            replace hx := hx.trans (Below.mono hN hx.size)
            replace hS := hS.trans (Below.mono hN hS.size)
            replace f3 := own_grow f3 hN
            replace f10 := f10.grow hN
            replace f5 := f5.grow hN
            clear hN
            refine wpList_append_src rfl _ _ 22 rfl wT.heap.size 3 iI _ 1 8 Try.underlying22 hiI hz0I hz1I hz2I rfl (by decide) (.slice aa n ca) _ _ rfl f3 (some ⟨x15.heap.size, 0, none⟩) 1 1 [.int .i64 verb] rfl (by simp) rfl (fun j u hj => ⟨_, rfl, (Blk.news (l := [.int .i64 verb]) f5) j u hj⟩) (by simp [Value.oneCell']) (by unfold maxLen; omega) (by omega) hS.size ?_
            have hlo := f3.lt
            have hsz := hS.size
            have hxz := hx.size
            intro va wa hown hg
            obtain ⟨aa, ca, rfl, _⟩ := own_slice hown
            go_wp2_with fail
            refine ⟨rfl, Reg.Kp.of_grown hg (fun b hb => Nat.not_lt.2 (hlo b hb).1), ?_⟩
            replace f10 := f10.grown hg (own_apart_blk f3 f10 (by decide))
            replace hx := hx.grown hg hxz (fun k hk => Nat.le_trans hwS (hlo k hk).1)
            replace hS := hS.grown hg hsz (fun k hk => (hlo k hk).1)
            have f6 := hown
            clear hown hg hlo hsz hxz f3
            refine Reg.wpR_hoist [9] 1 rfl (by kernel_rfl) (by kernel_rfl) (fun u => ?_)
            simp only [Reg.pickL, List.drop]
            repeat (go_big_quiet_step ((first | fail)))
            refine wpQuiet_nil ?_
            refine Reg.wpR_main 11 (by kernel_rfl) (fun x17 hN => ?_)
            simp only [Reg.pickL, List.drop]
            replace hx := hx.trans (Below.mono hN hx.size)
            replace hS := hS.trans (Below.mono hN hS.size)
            replace f10 := f10.grow hN
            replace f6 := own_grow f6 hN
            clear hN
            have k0 := f10.cell 0
            have k1 := f10.cell 1
            have kf := f10.unfrozen
            have lg := f10.lt
            go_wp2_with fail
            refine ⟨rfl, Reg.Kp.trans (Reg.Kp.of_set _ (fun h => Nat.not_lt.2 bg h)) (Reg.Kp.of_set _ (fun h => Nat.not_lt.2 bg h)), ?_⟩
            replace f6 := own_far (i := 1) (own_far (i := 0) f6 f10 (by decide) (.slice aa (n + 1) ca)) (f10.set 0 (.slice aa (n + 1) ca)) (by decide) (.slice a8 (m + 1) c8)
            replace f10 := (f10.set 0 (.slice aa (n + 1) ca)).set 1 (.slice a8 (m + 1) c8)
            replace hS := (hS.setCell (p := ⟨x8.heap.size, 0, none⟩) bg (.slice aa (n + 1) ca)).setCell (p := ⟨x8.heap.size, 1, none⟩) bg (.slice a8 (m + 1) c8)
            refine Reg.wpR_end (by kernel_rfl) (fun xq hN => ?_)
            replace hS := hS.trans (Below.mono hN hS.size)
            replace f6 := own_grow f6 hN
            replace f10 := f10.grow hN
            rw [show intsV vs ++ [Value.int .i64 verb] = (vs ++ [verb]).map (Value.int .i64) by unfold intsV; rw [List.map_append]; rfl] at f6
            go_wp2_with fail
            go_meet
            exact ⟨_, _, _, rfl, f10, own_ints f6, hS, bg⟩
        · simp only [Reg.pickL, List.drop]
          replace hx := hx.trans (Below.mono hN hx.size)
          replace hS := hS.trans (Below.mono hN hS.size)
          replace f0 := own_grow f0 hN
          clear hN
          have hsz := hS.size
          go_wp2_with fail
          refine ⟨rfl, Reg.Kp.of_gr ((Below.refl _ _).alloc (Nat.le_refl _) _), ?_⟩
          have nn : x1.heap.size ≠ x5.heap.size := by have := (f0.lt (x1.heap.size) rfl).2; omega
          replace f0 := f0.alloc (.cells #[.int .i64 verb] 3)
          have f5 := Blk.new x5 3 #[.int .i64 verb]
          replace hx := hx.alloc hx.size (.cells #[.int .i64 verb] 3)
          replace hS := hS.alloc hS.size (.cells #[.int .i64 verb] 3)
          clear hsz
          refine Reg.wpR_main2 3 10 (by kernel_rfl) (fun x18 hN => ?_) (fun x19 hN => ?_)
          · simp only [Reg.pickL, List.drop]
            replace hx := hx.trans (Below.mono hN hx.size)
            replace hS := hS.trans (Below.mono hN hS.size)
            replace f0 := own_grow f0 hN
            replace f5 := f5.grow hN
            clear hN
            refine wpList_append_src rfl _ _ 22 rfl wT.heap.size 3 iI _ 1 8 Try.underlying22 hiI hz0I hz1I hz2I rfl (by decide) (.slice (some ⟨x1.heap.size, 0, none⟩) 0 0) _ _ rfl f0 a n c (intsV vs) rfl HNC.out (by unfold intsV; rw [List.length_map, HNL.out, Nat.mul_one]) ((HV.out.below hx).news) (intsV_one _) (by unfold maxLen; omega) (by omega) hS.size ?_
            have hlo := f0.lt
            have hsz := hS.size
            have hxz := hx.size
            intro va wa hown hg
            simp only [Nat.zero_add, List.nil_append] at hown
            obtain ⟨aa, ca, rfl, _⟩ := own_slice hown
            go_wp2_with fail
            refine ⟨rfl, Reg.Kp.of_grown hg (fun b hb => Nat.not_lt.2 (hlo b hb).1), ?_⟩
            replace f5 := f5.grown hg (fun k hk => by simp [Value.ownBlock] at hk; subst hk; exact nn)
            replace hx := hx.grown hg hxz (fun k hk => Nat.le_trans hwS (hlo k hk).1)
            replace hS := hS.grown hg hsz (fun k hk => (hlo k hk).1)
            have f3 := hown
            clear hown hg hlo hsz hxz f0
            refine Reg.wpR_main2 6 10 (by kernel_rfl) (fun x20 hN => ?_) (fun x21 hN => ?_)
            · simp only [Reg.pickL, List.drop]
              replace hx := hx.trans (Below.mono hN hx.size)
              replace hS := hS.trans (Below.mono hN hS.size)
              replace f5 := f5.grow hN
              replace f3 := own_grow f3 hN
              clear hN
              refine wpList_append_src rfl _ _ 22 rfl wT.heap.size 3 iI _ 1 8 Try.underlying22 hiI hz0I hz1I hz2I rfl (by decide) (.slice aa n ca) _ _ rfl f3 (some ⟨x5.heap.size, 0, none⟩) 1 1 [.int .i64 verb] rfl (by simp) rfl (fun j u hj => ⟨_, rfl, (Blk.news (l := [.int .i64 verb]) f5) j u hj⟩) (by simp [Value.oneCell']) (by unfold maxLen; omega) (by omega) hS.size ?_
              have hlo := f3.lt
              have hsz := hS.size
              have hxz := hx.size
              intro va wa hown hg
              obtain ⟨aa, ca, rfl, _⟩ := own_slice hown
              go_wp2_with fail
              refine ⟨rfl, Reg.Kp.of_grown hg (fun b hb => Nat.not_lt.2 (hlo b hb).1), ?_⟩
              replace hx := hx.grown hg hxz (fun k hk => Nat.le_trans hwS (hlo k hk).1)
              replace hS := hS.grown hg hsz (fun k hk => (hlo k hk).1)
              have f6 := hown
              clear hown hg hlo hsz hxz f3
              refine Reg.wpR_hoist [9] 2 rfl (by kernel_rfl) (by kernel_rfl) (fun u => ?_)
              simp only [Reg.pickL, List.drop]
              repeat (go_big_quiet_step ((first | fail)))
              refine wpQuiet_nil ?_
              refine Reg.wpR_main 10 (by kernel_rfl) (fun x22 hN => ?_)
              simp only [Reg.pickL, List.drop]
              replace hx := hx.trans (Below.mono hN hx.size)
              replace hS := hS.trans (Below.mono hN hS.size)
              replace f6 := own_grow f6 hN
              clear hN
              have hsz := hS.size
              go_wp2_with fail
              refine ⟨rfl, Reg.Kp.of_gr ((Below.refl _ _).alloc (Nat.le_refl _) _), ?_⟩
              replace f6 := f6.alloc (.cells #[.slice none 0 0, .slice none 0 0] 25)
              have f10 := Blk.new x22 25 #[.slice none 0 0, .slice none 0 0]
              have bg : wT.heap.size ≤ x22.heap.size := hsz
              replace hx := hx.alloc hx.size (.cells #[.slice none 0 0, .slice none 0 0] 25)
              replace hS := hS.alloc hS.size (.cells #[.slice none 0 0, .slice none 0 0] 25)
              clear hsz
              refine Reg.wpR_main 11 (by kernel_rfl) (fun x23 hN => ?_)
              simp only [Reg.pickL, List.drop]
              replace hx := hx.trans (Below.mono hN hx.size)
              replace hS := hS.trans (Below.mono hN hS.size)
              replace f6 := own_grow f6 hN
              replace f10 := f10.grow hN
              clear hN
              have k0 := f10.cell 0
              have k1 := f10.cell 1
              have kf := f10.unfrozen
              have lg := f10.lt
              go_wp2_with fail
              refine ⟨rfl, Reg.Kp.trans (Reg.Kp.of_set _ (fun h => Nat.not_lt.2 bg h)) (Reg.Kp.of_set _ (fun h => Nat.not_lt.2 bg h)), ?_⟩
              replace f6 := own_far (i := 1) (own_far (i := 0) f6 f10 (by decide) (.slice aa (n + 1) ca)) (f10.set 0 (.slice aa (n + 1) ca)) (by decide) (.slice a8 (m + 1) c8)
              replace f10 := (f10.set 0 (.slice aa (n + 1) ca)).set 1 (.slice a8 (m + 1) c8)
              replace hS := (hS.setCell (p := ⟨x22.heap.size, 0, none⟩) bg (.slice aa (n + 1) ca)).setCell (p := ⟨x22.heap.size, 1, none⟩) bg (.slice a8 (m + 1) c8)
              refine Reg.wpR_end (by kernel_rfl) (fun xq hN => ?_)
              replace hS := hS.trans (Below.mono hN hS.size)
              replace f6 := own_grow f6 hN
              replace f10 := f10.grow hN
              rw [show intsV vs ++ [Value.int .i64 verb] = (vs ++ [verb]).map (Value.int .i64) by unfold intsV; rw [List.map_append]; rfl] at f6
              go_wp2_with fail
              go_meet
              exact ⟨_, _, _, rfl, f10, own_ints f6, hS, bg⟩
            · simp only [Reg.pickL, List.drop]
              replace hx := hx.trans (Below.mono hN hx.size)
              replace hS := hS.trans (Below.mono hN hS.size)
              replace f5 := f5.grow hN
              replace f3 := own_grow f3 hN
              clear hN
              have hsz := hS.size
              go_wp2_with fail
              refine ⟨rfl, Reg.Kp.of_gr ((Below.refl _ _).alloc (Nat.le_refl _) _), ?_⟩
              replace f5 := f5.alloc (.cells #[.slice none 0 0, .slice none 0 0] 25)
              replace f3 := f3.alloc (.cells #[.slice none 0 0, .slice none 0 0] 25)
              have f10 := Blk.new x21 25 #[.slice none 0 0, .slice none 0 0]
              have bg : wT.heap.size ≤ x21.heap.size := hsz
              replace hx := hx.alloc hx.size (.cells #[.slice none 0 0, .slice none 0 0] 25)
              replace hS := hS.alloc hS.size (.cells #[.slice none 0 0, .slice none 0 0] 25)
              clear hsz
              refine Reg.wpR_main 6 (by kernel_rfl) (fun x24 hN => ?_)
              simp only [Reg.pickL, List.drop]
              replace hx := hx.trans (Below.mono hN hx.size)
              replace hS := hS.trans (Below.mono hN hS.size)
              replace f5 := f5.grow hN
              replace f3 := own_grow f3 hN
              replace f10 := f10.grow hN
              clear hN
              refine wpList_append_src rfl _ _ 22 rfl wT.heap.size 3 iI _ 1 8 Try.underlying22 hiI hz0I hz1I hz2I rfl (by decide) (.slice aa n ca) _ _ rfl f3 (some ⟨x5.heap.size, 0, none⟩) 1 1 [.int .i64 verb] rfl (by simp) rfl (fun j u hj => ⟨_, rfl, (Blk.news (l := [.int .i64 verb]) f5) j u hj⟩) (by simp [Value.oneCell']) (by unfold maxLen; omega) (by omega) hS.size ?_
              have hlo := f3.lt
              have hsz := hS.size
              have hxz := hx.size
              intro va wa hown hg
              obtain ⟨aa, ca, rfl, _⟩ := own_slice hown
              go_wp2_with fail
              refine ⟨rfl, Reg.Kp.of_grown hg (fun b hb => Nat.not_lt.2 (hlo b hb).1), ?_⟩
              replace f10 := f10.grown hg (own_apart_blk f3 f10 (by decide))
              replace hx := hx.grown hg hxz (fun k hk => Nat.le_trans hwS (hlo k hk).1)
              replace hS := hS.grown hg hsz (fun k hk => (hlo k hk).1)
              have f6 := hown
              clear hown hg hlo hsz hxz f3
              refine Reg.wpR_hoist [9] 1 rfl (by kernel_rfl) (by kernel_rfl) (fun u => ?_)
              simp only [Reg.pickL, List.drop]
              repeat (go_big_quiet_step ((first | fail)))
              refine wpQuiet_nil ?_
              refine Reg.wpR_main 11 (by kernel_rfl) (fun x25 hN => ?_)
              simp only [Reg.pickL, List.drop]
              replace hx := hx.trans (Below.mono hN hx.size)
              replace hS := hS.trans (Below.mono hN hS.size)
              replace f10 := f10.grow hN
              replace f6 := own_grow f6 hN
              clear hN
              have k0 := f10.cell 0
              have k1 := f10.cell 1
              have kf := f10.unfrozen
              have lg := f10.lt
              go_wp2_with fail
              refine ⟨rfl, Reg.Kp.trans (Reg.Kp.of_set _ (fun h => Nat.not_lt.2 bg h)) (Reg.Kp.of_set _ (fun h => Nat.not_lt.2 bg h)), ?_⟩
              replace f6 := own_far (i := 1) (own_far (i := 0) f6 f10 (by decide) (.slice aa (n + 1) ca)) (f10.set 0 (.slice aa (n + 1) ca)) (by decide) (.slice a8 (m + 1) c8)
              replace f10 := (f10.set 0 (.slice aa (n + 1) ca)).set 1 (.slice a8 (m + 1) c8)
              replace hS := (hS.setCell (p := ⟨x21.heap.size, 0, none⟩) bg (.slice aa (n + 1) ca)).setCell (p := ⟨x21.heap.size, 1, none⟩) bg (.slice a8 (m + 1) c8)
              refine Reg.wpR_end (by kernel_rfl) (fun xq hN => ?_)
              replace hS := hS.trans (Below.mono hN hS.size)
              replace f6 := own_grow f6 hN
              replace f10 := f10.grow hN
              rw [show intsV vs ++ [Value.int .i64 verb] = (vs ++ [verb]).map (Value.int .i64) by unfold intsV; rw [List.map_append]; rfl] at f6
              go_wp2_with fail
              go_meet
              exact ⟨_, _, _, rfl, f10, own_ints f6, hS, bg⟩
          · simp only [Reg.pickL, List.drop]
            replace hx := hx.trans (Below.mono hN hx.size)
            replace hS := hS.trans (Below.mono hN hS.size)
            replace f0 := own_grow f0 hN
            replace f5 := f5.grow hN
            clear hN
            have hsz := hS.size
            go_wp2_with fail
            refine ⟨rfl, Reg.Kp.of_gr ((Below.refl _ _).alloc (Nat.le_refl _) _), ?_⟩
            replace f0 := f0.alloc (.cells #[.slice none 0 0, .slice none 0 0] 25)
            replace f5 := f5.alloc (.cells #[.slice none 0 0, .slice none 0 0] 25)
            have f10 := Blk.new x19 25 #[.slice none 0 0, .slice none 0 0]
            have bg : wT.heap.size ≤ x19.heap.size := hsz
            replace hx := hx.alloc hx.size (.cells #[.slice none 0 0, .slice none 0 0] 25)
            replace hS := hS.alloc hS.size (.cells #[.slice none 0 0, .slice none 0 0] 25)
            clear hsz
            refine Reg.wpR_main 3 (by kernel_rfl) (fun x26 hN => ?_)
            simp only [Reg.pickL, List.drop]
            replace hx := hx.trans (Below.mono hN hx.size)
            replace hS := hS.trans (Below.mono hN hS.size)
            replace f0 := own_grow f0 hN
            replace f5 := f5.grow hN
            replace f10 := f10.grow hN
            clear hN
            refine wpList_append_src rfl _ _ 22 rfl wT.heap.size 3 iI _ 1 8 Try.underlying22 hiI hz0I hz1I hz2I rfl (by decide) (.slice (some ⟨x1.heap.size, 0, none⟩) 0 0) _ _ rfl f0 a n c (intsV vs) rfl HNC.out (by unfold intsV; rw [List.length_map, HNL.out, Nat.mul_one]) ((HV.out.below hx).news) (intsV_one _) (by unfold maxLen; omega) (by omega) hS.size ?_
            have hlo := f0.lt
            have hsz := hS.size
            have hxz := hx.size
            intro va wa hown hg
            simp only [Nat.zero_add, List.nil_append] at hown
            obtain ⟨aa, ca, rfl, _⟩ := own_slice hown
            go_wp2_with fail
            refine ⟨rfl, Reg.Kp.of_grown hg (fun b hb => Nat.not_lt.2 (hlo b hb).1), ?_⟩
            replace f5 := f5.grown hg (fun k hk => by simp [Value.ownBlock] at hk; subst hk; exact nn)
            replace f10 := f10.grown hg (own_apart_blk f0 f10 (by decide))
            replace hx := hx.grown hg hxz (fun k hk => Nat.le_trans hwS (hlo k hk).1)
            replace hS := hS.grown hg hsz (fun k hk => (hlo k hk).1)
            have f3 := hown
            clear hown hg hlo hsz hxz f0
            refine Reg.wpR_main 6 (by kernel_rfl) (fun x27 hN => ?_)
            simp only [Reg.pickL, List.drop]
            replace hx := hx.trans (Below.mono hN hx.size)
            replace hS := hS.trans (Below.mono hN hS.size)
            replace f5 := f5.grow hN
            replace f10 := f10.grow hN
            replace f3 := own_grow f3 hN
            clear hN
            refine wpList_append_src rfl _ _ 22 rfl wT.heap.size 3 iI _ 1 8 Try.underlying22 hiI hz0I hz1I hz2I rfl (by decide) (.slice aa n ca) _ _ rfl f3 (some ⟨x5.heap.size, 0, none⟩) 1 1 [.int .i64 verb] rfl (by simp) rfl (fun j u hj => ⟨_, rfl, (Blk.news (l := [.int .i64 verb]) f5) j u hj⟩) (by simp [Value.oneCell']) (by unfold maxLen; omega) (by omega) hS.size ?_
            have hlo := f3.lt
            have hsz := hS.size
            have hxz := hx.size
            intro va wa hown hg
            obtain ⟨aa, ca, rfl, _⟩ := own_slice hown
            go_wp2_with fail
            refine ⟨rfl, Reg.Kp.of_grown hg (fun b hb => Nat.not_lt.2 (hlo b hb).1), ?_⟩
            replace f10 := f10.grown hg (own_apart_blk f3 f10 (by decide))
            replace hx := hx.grown hg hxz (fun k hk => Nat.le_trans hwS (hlo k hk).1)
            replace hS := hS.grown hg hsz (fun k hk => (hlo k hk).1)
            have f6 := hown
            clear hown hg hlo hsz hxz f3
            refine Reg.wpR_hoist [9] 1 rfl (by kernel_rfl) (by kernel_rfl) (fun u => ?_)
            simp only [Reg.pickL, List.drop]
            repeat (go_big_quiet_step ((first | fail)))
            refine wpQuiet_nil ?_
            refine Reg.wpR_main 11 (by kernel_rfl) (fun x28 hN => ?_)
            simp only [Reg.pickL, List.drop]
            replace hx := hx.trans (Below.mono hN hx.size)
            replace hS := hS.trans (Below.mono hN hS.size)
            replace f10 := f10.grow hN
            replace f6 := own_grow f6 hN
            clear hN
            have k0 := f10.cell 0
            have k1 := f10.cell 1
            have kf := f10.unfrozen
            have lg := f10.lt
            go_wp2_with fail
            refine ⟨rfl, Reg.Kp.trans (Reg.Kp.of_set _ (fun h => Nat.not_lt.2 bg h)) (Reg.Kp.of_set _ (fun h => Nat.not_lt.2 bg h)), ?_⟩
            replace f6 := own_far (i := 1) (own_far (i := 0) f6 f10 (by decide) (.slice aa (n + 1) ca)) (f10.set 0 (.slice aa (n + 1) ca)) (by decide) (.slice a8 (m + 1) c8)
            replace f10 := (f10.set 0 (.slice aa (n + 1) ca)).set 1 (.slice a8 (m + 1) c8)
            replace hS := (hS.setCell (p := ⟨x19.heap.size, 0, none⟩) bg (.slice aa (n + 1) ca)).setCell (p := ⟨x19.heap.size, 1, none⟩) bg (.slice a8 (m + 1) c8)
            refine Reg.wpR_end (by kernel_rfl) (fun xq hN => ?_)
            replace hS := hS.trans (Below.mono hN hS.size)
            replace f6 := own_grow f6 hN
            replace f10 := f10.grow hN
            rw [show intsV vs ++ [Value.int .i64 verb] = (vs ++ [verb]).map (Value.int .i64) by unfold intsV; rw [List.map_append]; rfl] at f6
            go_wp2_with fail
            go_meet
            exact ⟨_, _, _, rfl, f10, own_ints f6, hS, bg⟩
        · simp only [Reg.pickL, List.drop]
          replace hx := hx.trans (Below.mono hN hx.size)
          replace hS := hS.trans (Below.mono hN hS.size)
          replace f0 := own_grow f0 hN
          clear hN
          have hsz := hS.size
          go_wp2_with fail
          refine ⟨rfl, Reg.Kp.of_gr ((Below.refl _ _).alloc (Nat.le_refl _) _), ?_⟩
          replace f0 := f0.alloc (.cells #[.slice none 0 0, .slice none 0 0] 25)
          have f10 := Blk.new x6 25 #[.slice none 0 0, .slice none 0 0]
          have bg : wT.heap.size ≤ x6.heap.size := hsz
          replace hx := hx.alloc hx.size (.cells #[.slice none 0 0, .slice none 0 0] 25)
          replace hS := hS.alloc hS.size (.cells #[.slice none 0 0, .slice none 0 0] 25)
          clear hsz
          refine Reg.wpR_main2 3 5 (by kernel_rfl) (fun x29 hN => ?_) (fun x30 hN => ?_)
          · simp only [Reg.pickL, List.drop]
            replace hx := hx.trans (Below.mono hN hx.size)
            replace hS := hS.trans (Below.mono hN hS.size)
            replace f0 := own_grow f0 hN
            replace f10 := f10.grow hN
            clear hN
            refine wpList_append_src rfl _ _ 22 rfl wT.heap.size 3 iI _ 1 8 Try.underlying22 hiI hz0I hz1I hz2I rfl (by decide) (.slice (some ⟨x1.heap.size, 0, none⟩) 0 0) _ _ rfl f0 a n c (intsV vs) rfl HNC.out (by unfold intsV; rw [List.length_map, HNL.out, Nat.mul_one]) ((HV.out.below hx).news) (intsV_one _) (by unfold maxLen; omega) (by omega) hS.size ?_
            have hlo := f0.lt
            have hsz := hS.size
            have hxz := hx.size
            intro va wa hown hg
            simp only [Nat.zero_add, List.nil_append] at hown
            obtain ⟨aa, ca, rfl, _⟩ := own_slice hown
            go_wp2_with fail
            refine ⟨rfl, Reg.Kp.of_grown hg (fun b hb => Nat.not_lt.2 (hlo b hb).1), ?_⟩
            replace f10 := f10.grown hg (own_apart_blk f0 f10 (by decide))
            replace hx := hx.grown hg hxz (fun k hk => Nat.le_trans hwS (hlo k hk).1)
            replace hS := hS.grown hg hsz (fun k hk => (hlo k hk).1)
            have f3 := hown
            clear hown hg hlo hsz hxz f0
            refine Reg.wpR_main 5 (by kernel_rfl) (fun x31 hN => ?_)
            simp only [Reg.pickL, List.drop]
            replace hx := hx.trans (Below.mono hN hx.size)
            replace hS := hS.trans (Below.mono hN hS.size)
            replace f10 := f10.grow hN
            replace f3 := own_grow f3 hN
            clear hN
            have hsz := hS.size
            go_wp2_with fail
            refine ⟨rfl, Reg.Kp.of_gr ((Below.refl _ _).alloc (Nat.le_refl _) _), ?_⟩
            replace f10 := f10.alloc (.cells #[.int .i64 verb] 3)
            replace f3 := f3.alloc (.cells #[.int .i64 verb] 3)
            have f5 := Blk.new x31 3 #[.int .i64 verb]
            replace hx := hx.alloc hx.size (.cells #[.int .i64 verb] 3)
            replace hS := hS.alloc hS.size (.cells #[.int .i64 verb] 3)
            clear hsz
            refine Reg.wpR_main 6 (by kernel_rfl) (fun x32 hN => ?_)
            simp only [Reg.pickL, List.drop]
            replace hx := hx.trans (Below.mono hN hx.size)
            replace hS := hS.trans (Below.mono hN hS.size)
            replace f10 := f10.grow hN
            replace f3 := own_grow f3 hN
            replace f5 := f5.grow hN
            clear hN
            refine wpList_append_src rfl _ _ 22 rfl wT.heap.size 3 iI _ 1 8 Try.underlying22 hiI hz0I hz1I hz2I rfl (by decide) (.slice aa n ca) _ _ rfl f3 (some ⟨x31.heap.size, 0, none⟩) 1 1 [.int .i64 verb] rfl (by simp) rfl (fun j u hj => ⟨_, rfl, (Blk.news (l := [.int .i64 verb]) f5) j u hj⟩) (by simp [Value.oneCell']) (by unfold maxLen; omega) (by omega) hS.size ?_
            have hlo := f3.lt
            have hsz := hS.size
            have hxz := hx.size
            intro va wa hown hg
            obtain ⟨aa, ca, rfl, _⟩ := own_slice hown
            go_wp2_with fail
            refine ⟨rfl, Reg.Kp.of_grown hg (fun b hb => Nat.not_lt.2 (hlo b hb).1), ?_⟩
            replace f10 := f10.grown hg (own_apart_blk f3 f10 (by decide))
            replace hx := hx.grown hg hxz (fun k hk => Nat.le_trans hwS (hlo k hk).1)
            replace hS := hS.grown hg hsz (fun k hk => (hlo k hk).1)
            have f6 := hown
            clear hown hg hlo hsz hxz f3
            refine Reg.wpR_hoist [9] 1 rfl (by kernel_rfl) (by kernel_rfl) (fun u => ?_)
            simp only [Reg.pickL, List.drop]
            repeat (go_big_quiet_step ((first | fail)))
            refine wpQuiet_nil ?_
            refine Reg.wpR_main 11 (by kernel_rfl) (fun x33 hN => ?_)
            simp only [Reg.pickL, List.drop]
            replace hx := hx.trans (Below.mono hN hx.size)
            replace hS := hS.trans (Below.mono hN hS.size)
            replace f10 := f10.grow hN
            replace f6 := own_grow f6 hN
            clear hN
            have k0 := f10.cell 0
            have k1 := f10.cell 1
            have kf := f10.unfrozen
            have lg := f10.lt
            go_wp2_with fail
            refine ⟨rfl, Reg.Kp.trans (Reg.Kp.of_set _ (fun h => Nat.not_lt.2 bg h)) (Reg.Kp.of_set _ (fun h => Nat.not_lt.2 bg h)), ?_⟩
            replace f6 := own_far (i := 1) (own_far (i := 0) f6 f10 (by decide) (.slice aa (n + 1) ca)) (f10.set 0 (.slice aa (n + 1) ca)) (by decide) (.slice a8 (m + 1) c8)
            replace f10 := (f10.set 0 (.slice aa (n + 1) ca)).set 1 (.slice a8 (m + 1) c8)
            replace hS := (hS.setCell (p := ⟨x6.heap.size, 0, none⟩) bg (.slice aa (n + 1) ca)).setCell (p := ⟨x6.heap.size, 1, none⟩) bg (.slice a8 (m + 1) c8)
            refine Reg.wpR_end (by kernel_rfl) (fun xq hN => ?_)
            replace hS := hS.trans (Below.mono hN hS.size)
            replace f6 := own_grow f6 hN
            replace f10 := f10.grow hN
            rw [show intsV vs ++ [Value.int .i64 verb] = (vs ++ [verb]).map (Value.int .i64) by unfold intsV; rw [List.map_append]; rfl] at f6
            go_wp2_with fail
            go_meet
            exact ⟨_, _, _, rfl, f10, own_ints f6, hS, bg⟩
          · simp only [Reg.pickL, List.drop]
            replace hx := hx.trans (Below.mono hN hx.size)
            replace hS := hS.trans (Below.mono hN hS.size)
            replace f0 := own_grow f0 hN
            replace f10 := f10.grow hN
            clear hN
            have hsz := hS.size
            go_wp2_with fail
            refine ⟨rfl, Reg.Kp.of_gr ((Below.refl _ _).alloc (Nat.le_refl _) _), ?_⟩
            have nn : x1.heap.size ≠ x30.heap.size := by have := (f0.lt (x1.heap.size) rfl).2; omega
            replace f0 := f0.alloc (.cells #[.int .i64 verb] 3)
            replace f10 := f10.alloc (.cells #[.int .i64 verb] 3)
            have f5 := Blk.new x30 3 #[.int .i64 verb]
            replace hx := hx.alloc hx.size (.cells #[.int .i64 verb] 3)
            replace hS := hS.alloc hS.size (.cells #[.int .i64 verb] 3)
            clear hsz
            refine Reg.wpR_main 3 (by kernel_rfl) (fun x34 hN => ?_)
            simp only [Reg.pickL, List.drop]
            replace hx := hx.trans (Below.mono hN hx.size)
            replace hS := hS.trans (Below.mono hN hS.size)
            replace f0 := own_grow f0 hN
            replace f10 := f10.grow hN
            replace f5 := f5.grow hN
            clear hN
            refine wpList_append_src rfl _ _ 22 rfl wT.heap.size 3 iI _ 1 8 Try.underlying22 hiI hz0I hz1I hz2I rfl (by decide) (.slice (some ⟨x1.heap.size, 0, none⟩) 0 0) _ _ rfl f0 a n c (intsV vs) rfl HNC.out (by unfold intsV; rw [List.length_map, HNL.out, Nat.mul_one]) ((HV.out.below hx).news) (intsV_one _) (by unfold maxLen; omega) (by omega) hS.size ?_
            have hlo := f0.lt
            have hsz := hS.size
            have hxz := hx.size
            intro va wa hown hg
            simp only [Nat.zero_add, List.nil_append] at hown
            obtain ⟨aa, ca, rfl, _⟩ := own_slice hown
            go_wp2_with fail
            refine ⟨rfl, Reg.Kp.of_grown hg (fun b hb => Nat.not_lt.2 (hlo b hb).1), ?_⟩
            replace f10 := f10.grown hg (own_apart_blk f0 f10 (by decide))
            replace f5 := f5.grown hg (fun k hk => by simp [Value.ownBlock] at hk; subst hk; exact nn)
            replace hx := hx.grown hg hxz (fun k hk => Nat.le_trans hwS (hlo k hk).1)
            replace hS := hS.grown hg hsz (fun k hk => (hlo k hk).1)
            have f3 := hown
            clear hown hg hlo hsz hxz f0
            refine Reg.wpR_main 6 (by kernel_rfl) (fun x35 hN => ?_)
            simp only [Reg.pickL, List.drop]
            replace hx := hx.trans (Below.mono hN hx.size)
            replace hS := hS.trans (Below.mono hN hS.size)
            replace f10 := f10.grow hN
            replace f5 := f5.grow hN
            replace f3 := own_grow f3 hN
            clear hN
            refine wpList_append_src rfl _ _ 22 rfl wT.heap.size 3 iI _ 1 8 Try.underlying22 hiI hz0I hz1I hz2I rfl (by decide) (.slice aa n ca) _ _ rfl f3 (some ⟨x30.heap.size, 0, none⟩) 1 1 [.int .i64 verb] rfl (by simp) rfl (fun j u hj => ⟨_, rfl, (Blk.news (l := [.int .i64 verb]) f5) j u hj⟩) (by simp [Value.oneCell']) (by unfold maxLen; omega) (by omega) hS.size ?_
            have hlo := f3.lt
            have hsz := hS.size
            have hxz := hx.size
            intro va wa hown hg
            obtain ⟨aa, ca, rfl, _⟩ := own_slice hown
            go_wp2_with fail
            refine ⟨rfl, Reg.Kp.of_grown hg (fun b hb => Nat.not_lt.2 (hlo b hb).1), ?_⟩
            replace f10 := f10.grown hg (own_apart_blk f3 f10 (by decide))
            replace hx := hx.grown hg hxz (fun k hk => Nat.le_trans hwS (hlo k hk).1)
            replace hS := hS.grown hg hsz (fun k hk => (hlo k hk).1)
            have f6 := hown
            clear hown hg hlo hsz hxz f3
            refine Reg.wpR_hoist [9] 1 rfl (by kernel_rfl) (by kernel_rfl) (fun u => ?_)
            simp only [Reg.pickL, List.drop]
            repeat (go_big_quiet_step ((first | fail)))
            refine wpQuiet_nil ?_
            refine Reg.wpR_main 11 (by kernel_rfl) (fun x36 hN => ?_)
            simp only [Reg.pickL, List.drop]
            replace hx := hx.trans (Below.mono hN hx.size)
            replace hS := hS.trans (Below.mono hN hS.size)
            replace f10 := f10.grow hN
            replace f6 := own_grow f6 hN
            clear hN
            have k0 := f10.cell 0
            have k1 := f10.cell 1
            have kf := f10.unfrozen
            have lg := f10.lt
            go_wp2_with fail
            refine ⟨rfl, Reg.Kp.trans (Reg.Kp.of_set _ (fun h => Nat.not_lt.2 bg h)) (Reg.Kp.of_set _ (fun h => Nat.not_lt.2 bg h)), ?_⟩
            replace f6 := own_far (i := 1) (own_far (i := 0) f6 f10 (by decide) (.slice aa (n + 1) ca)) (f10.set 0 (.slice aa (n + 1) ca)) (by decide) (.slice a8 (m + 1) c8)
            replace f10 := (f10.set 0 (.slice aa (n + 1) ca)).set 1 (.slice a8 (m + 1) c8)
            replace hS := (hS.setCell (p := ⟨x6.heap.size, 0, none⟩) bg (.slice aa (n + 1) ca)).setCell (p := ⟨x6.heap.size, 1, none⟩) bg (.slice a8 (m + 1) c8)
            refine Reg.wpR_end (by kernel_rfl) (fun xq hN => ?_)
            replace hS := hS.trans (Below.mono hN hS.size)
            replace f6 := own_grow f6 hN
            replace f10 := f10.grow hN
            rw [show intsV vs ++ [Value.int .i64 verb] = (vs ++ [verb]).map (Value.int .i64) by unfold intsV; rw [List.map_append]; rfl] at f6
            go_wp2_with fail
            go_meet
            exact ⟨_, _, _, rfl, f10, own_ints f6, hS, bg⟩
      · simp only [Reg.pickL, List.drop]
        replace hx := hx.trans (Below.mono hN hx.size)
        replace hS := hS.trans (Below.mono hN hS.size)
        clear hN
        have hsz := hS.size
        go_wp2_with fail
        refine ⟨rfl, Reg.Kp.of_gr ((Below.refl _ _).alloc (Nat.le_refl _) _), ?_⟩
        have f5 := Blk.new x2 3 #[.int .i64 verb]
        replace hx := hx.alloc hx.size (.cells #[.int .i64 verb] 3)
        replace hS := hS.alloc hS.size (.cells #[.int .i64 verb] 3)
        clear hsz
        refine Reg.wpR_main2 0 10 (by kernel_rfl) (fun x37 hN => ?_) (fun x38 hN => ?_)
        · simp only [Reg.pickL, List.drop]
          replace hx := hx.trans (Below.mono hN hx.size)
          replace hS := hS.trans (Below.mono hN hS.size)
          replace f5 := f5.grow hN
          clear hN
          have hsz := hS.size
          go_wp2_with fail
          refine ⟨rfl, Reg.Kp.of_gr ((Below.refl _ _).alloc (Nat.le_refl _) _), ?_⟩
          have nn : x37.heap.size ≠ x2.heap.size := by have := f5.lt; omega
          replace f5 := f5.alloc (.cells #[] 3)
          have f0 := own_empty x37 wT.heap.size 3 1 hsz
          replace hx := hx.alloc hx.size (.cells #[] 3)
          replace hS := hS.alloc hS.size (.cells #[] 3)
          clear hsz
          refine Reg.wpR_main2 3 10 (by kernel_rfl) (fun x39 hN => ?_) (fun x40 hN => ?_)
          · simp only [Reg.pickL, List.drop]
            replace hx := hx.trans (Below.mono hN hx.size)
            replace hS := hS.trans (Below.mono hN hS.size)
            replace f5 := f5.grow hN
            replace f0 := own_grow f0 hN
            clear hN
            refine wpList_append_src rfl _ _ 22 rfl wT.heap.size 3 iI _ 1 8 Try.underlying22 hiI hz0I hz1I hz2I rfl (by decide) (.slice (some ⟨x37.heap.size, 0, none⟩) 0 0) _ _ rfl f0 a n c (intsV vs) rfl HNC.out (by unfold intsV; rw [List.length_map, HNL.out, Nat.mul_one]) ((HV.out.below hx).news) (intsV_one _) (by unfold maxLen; omega) (by omega) hS.size ?_
            have hlo := f0.lt
            have hsz := hS.size
            have hxz := hx.size
            intro va wa hown hg
            simp only [Nat.zero_add, List.nil_append] at hown
            obtain ⟨aa, ca, rfl, _⟩ := own_slice hown
            go_wp2_with fail
            refine ⟨rfl, Reg.Kp.of_grown hg (fun b hb => Nat.not_lt.2 (hlo b hb).1), ?_⟩
            replace f5 := f5.grown hg (fun k hk => by simp [Value.ownBlock] at hk; subst hk; exact nn)
            replace hx := hx.grown hg hxz (fun k hk => Nat.le_trans hwS (hlo k hk).1)
            replace hS := hS.grown hg hsz (fun k hk => (hlo k hk).1)
            have f3 := hown
            clear hown hg hlo hsz hxz f0
            refine Reg.wpR_main2 6 10 (by kernel_rfl) (fun x41 hN => ?_) (fun x42 hN => ?_)
            · simp only [Reg.pickL, List.drop]
              replace hx := hx.trans (Below.mono hN hx.size)
              replace hS := hS.trans (Below.mono hN hS.size)
              replace f5 := f5.grow hN
              replace f3 := own_grow f3 hN
              clear hN
              refine wpList_append_src rfl _ _ 22 rfl wT.heap.size 3 iI _ 1 8 Try.underlying22 hiI hz0I hz1I hz2I rfl (by decide) (.slice aa n ca) _ _ rfl f3 (some ⟨x2.heap.size, 0, none⟩) 1 1 [.int .i64 verb] rfl (by simp) rfl (fun j u hj => ⟨_, rfl, (Blk.news (l := [.int .i64 verb]) f5) j u hj⟩) (by simp [Value.oneCell']) (by unfold maxLen; omega) (by omega) hS.size ?_
              have hlo := f3.lt
              have hsz := hS.size
              have hxz := hx.size
              intro va wa hown hg
              obtain ⟨aa, ca, rfl, _⟩ := own_slice hown
              go_wp2_with fail
              refine ⟨rfl, Reg.Kp.of_grown hg (fun b hb => Nat.not_lt.2 (hlo b hb).1), ?_⟩
              replace hx := hx.grown hg hxz (fun k hk => Nat.le_trans hwS (hlo k hk).1)
              replace hS := hS.grown hg hsz (fun k hk => (hlo k hk).1)
              have f6 := hown
              clear hown hg hlo hsz hxz f3
              refine Reg.wpR_hoist [9] 2 rfl (by kernel_rfl) (by kernel_rfl) (fun u => ?_)
              simp only [Reg.pickL, List.drop]
              repeat (go_big_quiet_step ((first | fail)))
              refine wpQuiet_nil ?_
              refine Reg.wpR_main 10 (by kernel_rfl) (fun x43 hN => ?_)
              simp only [Reg.pickL, List.drop]
              replace hx := hx.trans (Below.mono hN hx.size)
              replace hS := hS.trans (Below.mono hN hS.size)
              replace f6 := own_grow f6 hN
              clear hN
              have hsz := hS.size
              go_wp2_with fail
              refine ⟨rfl, Reg.Kp.of_gr ((Below.refl _ _).alloc (Nat.le_refl _) _), ?_⟩
              replace f6 := f6.alloc (.cells #[.slice none 0 0, .slice none 0 0] 25)
              have f10 := Blk.new x43 25 #[.slice none 0 0, .slice none 0 0]
              have bg : wT.heap.size ≤ x43.heap.size := hsz
              replace hx := hx.alloc hx.size (.cells #[.slice none 0 0, .slice none 0 0] 25)
              replace hS := hS.alloc hS.size (.cells #[.slice none 0 0, .slice none 0 0] 25)
              clear hsz
              refine Reg.wpR_main 11 (by kernel_rfl) (fun x44 hN => ?_)
              simp only [Reg.pickL, List.drop]
              replace hx := hx.trans (Below.mono hN hx.size)
              replace hS := hS.trans (Below.mono hN hS.size)
              replace f6 := own_grow f6 hN
              replace f10 := f10.grow hN
              clear hN
              have k0 := f10.cell 0
              have k1 := f10.cell 1
              have kf := f10.unfrozen
              have lg := f10.lt
              go_wp2_with fail
              refine ⟨rfl, Reg.Kp.trans (Reg.Kp.of_set _ (fun h => Nat.not_lt.2 bg h)) (Reg.Kp.of_set _ (fun h => Nat.not_lt.2 bg h)), ?_⟩
              replace f6 := own_far (i := 1) (own_far (i := 0) f6 f10 (by decide) (.slice aa (n + 1) ca)) (f10.set 0 (.slice aa (n + 1) ca)) (by decide) (.slice a8 (m + 1) c8)
              replace f10 := (f10.set 0 (.slice aa (n + 1) ca)).set 1 (.slice a8 (m + 1) c8)
              replace hS := (hS.setCell (p := ⟨x43.heap.size, 0, none⟩) bg (.slice aa (n + 1) ca)).setCell (p := ⟨x43.heap.size, 1, none⟩) bg (.slice a8 (m + 1) c8)
              refine Reg.wpR_end (by kernel_rfl) (fun xq hN => ?_)
              replace hS := hS.trans (Below.mono hN hS.size)
              replace f6 := own_grow f6 hN
              replace f10 := f10.grow hN
              rw [show intsV vs ++ [Value.int .i64 verb] = (vs ++ [verb]).map (Value.int .i64) by unfold intsV; rw [List.map_append]; rfl] at f6
              go_wp2_with fail
              go_meet
              exact ⟨_, _, _, rfl, f10, own_ints f6, hS, bg⟩
            · simp only [Reg.pickL, List.drop]
              replace hx := hx.trans (Below.mono hN hx.size)
              replace hS := hS.trans (Below.mono hN hS.size)
              replace f5 := f5.grow hN
              replace f3 := own_grow f3 hN
              clear hN
              have hsz := hS.size
              go_wp2_with fail
              refine ⟨rfl, Reg.Kp.of_gr ((Below.refl _ _).alloc (Nat.le_refl _) _), ?_⟩
              replace f5 := f5.alloc (.cells #[.slice none 0 0, .slice none 0 0] 25)
              replace f3 := f3.alloc (.cells #[.slice none 0 0, .slice none 0 0] 25)
              have f10 := Blk.new x42 25 #[.slice none 0 0, .slice none 0 0]
              have bg : wT.heap.size ≤ x42.heap.size := hsz
              replace hx := hx.alloc hx.size (.cells #[.slice none 0 0, .slice none 0 0] 25)
              replace hS := hS.alloc hS.size (.cells #[.slice none 0 0, .slice none 0 0] 25)
              clear hsz
              refine Reg.wpR_main 6 (by kernel_rfl) (fun x45 hN => ?_)
              simp only [Reg.pickL, List.drop]
              replace hx := hx.trans (Below.mono hN hx.size)
              replace hS := hS.trans (Below.mono hN hS.size)
              replace f5 := f5.grow hN
              replace f3 := own_grow f3 hN
              replace f10 := f10.grow hN
              clear hN
              refine wpList_append_src rfl _ _ 22 rfl wT.heap.size 3 iI _ 1 8 Try.underlying22 hiI hz0I hz1I hz2I rfl (by decide) (.slice aa n ca) _ _ rfl f3 (some ⟨x2.heap.size, 0, none⟩) 1 1 [.int .i64 verb] rfl (by simp) rfl (fun j u hj => ⟨_, rfl, (Blk.news (l := [.int .i64 verb]) f5) j u hj⟩) (by simp [Value.oneCell']) (by unfold maxLen; omega) (by omega) hS.size ?_
              have hlo := f3.lt
              have hsz := hS.size
              have hxz := hx.size
              intro va wa hown hg
              obtain ⟨aa, ca, rfl, _⟩ := own_slice hown
              go_wp2_with fail
              refine ⟨rfl, Reg.Kp.of_grown hg (fun b hb => Nat.not_lt.2 (hlo b hb).1), ?_⟩
              replace f10 := f10.grown hg (own_apart_blk f3 f10 (by decide))
              replace hx := hx.grown hg hxz (fun k hk => Nat.le_trans hwS (hlo k hk).1)
              replace hS := hS.grown hg hsz (fun k hk => (hlo k hk).1)
              have f6 := hown
              clear hown hg hlo hsz hxz f3
              refine Reg.wpR_hoist [9] 1 rfl (by kernel_rfl) (by kernel_rfl) (fun u => ?_)
              simp only [Reg.pickL, List.drop]
              repeat (go_big_quiet_step ((first | fail)))
              refine wpQuiet_nil ?_
              refine Reg.wpR_main 11 (by kernel_rfl) (fun x46 hN => ?_)
              simp only [Reg.pickL, List.drop]
              replace hx := hx.trans (Below.mono hN hx.size)
              replace hS := hS.trans (Below.mono hN hS.size)
              replace f10 := f10.grow hN
              replace f6 := own_grow f6 hN
              clear hN
              have k0 := f10.cell 0
              have k1 := f10.cell 1
              have kf := f10.unfrozen
              have lg := f10.lt
              go_wp2_with fail
              refine ⟨rfl, Reg.Kp.trans (Reg.Kp.of_set _ (fun h => Nat.not_lt.2 bg h)) (Reg.Kp.of_set _ (fun h => Nat.not_lt.2 bg h)), ?_⟩
              replace f6 := own_far (i := 1) (own_far (i := 0) f6 f10 (by decide) (.slice aa (n + 1) ca)) (f10.set 0 (.slice aa (n + 1) ca)) (by decide) (.slice a8 (m + 1) c8)
              replace f10 := (f10.set 0 (.slice aa (n + 1) ca)).set 1 (.slice a8 (m + 1) c8)
              replace hS := (hS.setCell (p := ⟨x42.heap.size, 0, none⟩) bg (.slice aa (n + 1) ca)).setCell (p := ⟨x42.heap.size, 1, none⟩) bg (.slice a8 (m + 1) c8)
              refine Reg.wpR_end (by kernel_rfl) (fun xq hN => ?_)
              replace hS := hS.trans (Below.mono hN hS.size)
              replace f6 := own_grow f6 hN
              replace f10 := f10.grow hN
              rw [show intsV vs ++ [Value.int .i64 verb] = (vs ++ [verb]).map (Value.int .i64) by unfold intsV; rw [List.map_append]; rfl] at f6
              go_wp2_with fail
              go_meet
              exact ⟨_, _, _, rfl, f10, own_ints f6, hS, bg⟩
          · simp only [Reg.pickL, List.drop]
            replace hx := hx.trans (Below.mono hN hx.size)
            replace hS := hS.trans (Below.mono hN hS.size)
            replace f5 := f5.grow hN
            replace f0 := own_grow f0 hN
            clear hN
            have hsz := hS.size
            go_wp2_with fail
            refine ⟨rfl, Reg.Kp.of_gr ((Below.refl _ _).alloc (Nat.le_refl _) _), ?_⟩
            replace f5 := f5.alloc (.cells #[.slice none 0 0, .slice none 0 0] 25)
            replace f0 := f0.alloc (.cells #[.slice none 0 0, .slice none 0 0] 25)
            have f10 := Blk.new x40 25 #[.slice none 0 0, .slice none 0 0]
            have bg : wT.heap.size ≤ x40.heap.size := hsz
            replace hx := hx.alloc hx.size (.cells #[.slice none 0 0, .slice none 0 0] 25)
            replace hS := hS.alloc hS.size (.cells #[.slice none 0 0, .slice none 0 0] 25)
            clear hsz
            refine Reg.wpR_main 3 (by kernel_rfl) (fun x47 hN => ?_)
            simp only [Reg.pickL, List.drop]
            replace hx := hx.trans (Below.mono hN hx.size)
            replace hS := hS.trans (Below.mono hN hS.size)
            replace f5 := f5.grow hN
            replace f0 := own_grow f0 hN
            replace f10 := f10.grow hN
            clear hN
            refine wpList_append_src rfl _ _ 22 rfl wT.heap.size 3 iI _ 1 8 Try.underlying22 hiI hz0I hz1I hz2I rfl (by decide) (.slice (some ⟨x37.heap.size, 0, none⟩) 0 0) _ _ rfl f0 a n c (intsV vs) rfl HNC.out (by unfold intsV; rw [List.length_map, HNL.out, Nat.mul_one]) ((HV.out.below hx).news) (intsV_one _) (by unfold maxLen; omega) (by omega) hS.size ?_
            have hlo := f0.lt
            have hsz := hS.size
            have hxz := hx.size
            intro va wa hown hg
            simp only [Nat.zero_add, List.nil_append] at hown
            obtain ⟨aa, ca, rfl, _⟩ := own_slice hown
            go_wp2_with fail
            refine ⟨rfl, Reg.Kp.of_grown hg (fun b hb => Nat.not_lt.2 (hlo b hb).1), ?_⟩
            replace f5 := f5.grown hg (fun k hk => by simp [Value.ownBlock] at hk; subst hk; exact nn)
            replace f10 := f10.grown hg (own_apart_blk f0 f10 (by decide))
            replace hx := hx.grown hg hxz (fun k hk => Nat.le_trans hwS (hlo k hk).1)
            replace hS := hS.grown hg hsz (fun k hk => (hlo k hk).1)
            have f3 := hown
            clear hown hg hlo hsz hxz f0
            refine Reg.wpR_main 6 (by kernel_rfl) (fun x48 hN => ?_)
            simp only [Reg.pickL, List.drop]
            replace hx := hx.trans (Below.mono hN hx.size)
            replace hS := hS.trans (Below.mono hN hS.size)
            replace f5 := f5.grow hN
            replace f10 := f10.grow hN
            replace f3 := own_grow f3 hN
            clear hN
            refine wpList_append_src rfl _ _ 22 rfl wT.heap.size 3 iI _ 1 8 Try.underlying22 hiI hz0I hz1I hz2I rfl (by decide) (.slice aa n ca) _ _ rfl f3 (some ⟨x2.heap.size, 0, none⟩) 1 1 [.int .i64 verb] rfl (by simp) rfl (fun j u hj => ⟨_, rfl, (Blk.news (l := [.int .i64 verb]) f5) j u hj⟩) (by simp [Value.oneCell']) (by unfold maxLen; omega) (by omega) hS.size ?_
            have hlo := f3.lt
            have hsz := hS.size
            have hxz := hx.size
            intro va wa hown hg
            obtain ⟨aa, ca, rfl, _⟩ := own_slice hown
            go_wp2_with fail
            refine ⟨rfl, Reg.Kp.of_grown hg (fun b hb => Nat.not_lt.2 (hlo b hb).1), ?_⟩
            replace f10 := f10.grown hg (own_apart_blk f3 f10 (by decide))
            replace hx := hx.grown hg hxz (fun k hk => Nat.le_trans hwS (hlo k hk).1)
            replace hS := hS.grown hg hsz (fun k hk => (hlo k hk).1)
            have f6 := hown
            clear hown hg hlo hsz hxz f3
            refine Reg.wpR_hoist [9] 1 rfl (by kernel_rfl) (by kernel_rfl) (fun u => ?_)
            simp only [Reg.pickL, List.drop]
            repeat (go_big_quiet_step ((first | fail)))
            refine wpQuiet_nil ?_
            refine Reg.wpR_main 11 (by kernel_rfl) (fun x49 hN => ?_)
            simp only [Reg.pickL, List.drop]
            replace hx := hx.trans (Below.mono hN hx.size)
            replace hS := hS.trans (Below.mono hN hS.size)
            replace f10 := f10.grow hN
            replace f6 := own_grow f6 hN
            clear hN
            have k0 := f10.cell 0
            have k1 := f10.cell 1
            have kf := f10.unfrozen
            have lg := f10.lt
            go_wp2_with fail
            refine ⟨rfl, Reg.Kp.trans (Reg.Kp.of_set _ (fun h => Nat.not_lt.2 bg h)) (Reg.Kp.of_set _ (fun h => Nat.not_lt.2 bg h)), ?_⟩
            replace f6 := own_far (i := 1) (own_far (i := 0) f6 f10 (by decide) (.slice aa (n + 1) ca)) (f10.set 0 (.slice aa (n + 1) ca)) (by decide) (.slice a8 (m + 1) c8)
            replace f10 := (f10.set 0 (.slice aa (n + 1) ca)).set 1 (.slice a8 (m + 1) c8)
            replace hS := (hS.setCell (p := ⟨x40.heap.size, 0, none⟩) bg (.slice aa (n + 1) ca)).setCell (p := ⟨x40.heap.size, 1, none⟩) bg (.slice a8 (m + 1) c8)
            refine Reg.wpR_end (by kernel_rfl) (fun xq hN => ?_)
            replace hS := hS.trans (Below.mono hN hS.size)
            replace f6 := own_grow f6 hN
            replace f10 := f10.grow hN
            rw [show intsV vs ++ [Value.int .i64 verb] = (vs ++ [verb]).map (Value.int .i64) by unfold intsV; rw [List.map_append]; rfl] at f6
            go_wp2_with fail
            go_meet
            exact ⟨_, _, _, rfl, f10, own_ints f6, hS, bg⟩
        · simp only [Reg.pickL, List.drop]
          replace hx := hx.trans (Below.mono hN hx.size)
          replace hS := hS.trans (Below.mono hN hS.size)
          replace f5 := f5.grow hN
          clear hN
          have hsz := hS.size
          go_wp2_with fail
          refine ⟨rfl, Reg.Kp.of_gr ((Below.refl _ _).alloc (Nat.le_refl _) _), ?_⟩
          replace f5 := f5.alloc (.cells #[.slice none 0 0, .slice none 0 0] 25)
          have f10 := Blk.new x38 25 #[.slice none 0 0, .slice none 0 0]
          have bg : wT.heap.size ≤ x38.heap.size := hsz
          replace hx := hx.alloc hx.size (.cells #[.slice none 0 0, .slice none 0 0] 25)
          replace hS := hS.alloc hS.size (.cells #[.slice none 0 0, .slice none 0 0] 25)
          clear hsz
          refine Reg.wpR_main 0 (by kernel_rfl) (fun x50 hN => ?_)
          simp only [Reg.pickL, List.drop]
          replace hx := hx.trans (Below.mono hN hx.size)
          replace hS := hS.trans (Below.mono hN hS.size)
          replace f5 := f5.grow hN
          replace f10 := f10.grow hN
          clear hN
          have hsz := hS.size
          go_wp2_with fail
          refine ⟨rfl, Reg.Kp.of_gr ((Below.refl _ _).alloc (Nat.le_refl _) _), ?_⟩
          have nn : x50.heap.size ≠ x2.heap.size := by have := f5.lt; omega
          replace f5 := f5.alloc (.cells #[] 3)
          replace f10 := f10.alloc (.cells #[] 3)
          have f0 := own_empty x50 wT.heap.size 3 1 hsz
          replace hx := hx.alloc hx.size (.cells #[] 3)
          replace hS := hS.alloc hS.size (.cells #[] 3)
          clear hsz
          refine Reg.wpR_main 3 (by kernel_rfl) (fun x51 hN => ?_)
          simp only [Reg.pickL, List.drop]
          replace hx := hx.trans (Below.mono hN hx.size)
          replace hS := hS.trans (Below.mono hN hS.size)
          replace f5 := f5.grow hN
          replace f10 := f10.grow hN
          replace f0 := own_grow f0 hN
          clear hN
          refine wpList_append_src rfl _ _ 22 rfl wT.heap.size 3 iI _ 1 8 Try.underlying22 hiI hz0I hz1I hz2I rfl (by decide) (.slice (some ⟨x50.heap.size, 0, none⟩) 0 0) _ _ rfl f0 a n c (intsV vs) rfl HNC.out (by unfold intsV; rw [List.length_map, HNL.out, Nat.mul_one]) ((HV.out.below hx).news) (intsV_one _) (by unfold maxLen; omega) (by omega) hS.size ?_
          have hlo := f0.lt
          have hsz := hS.size
          have hxz := hx.size
          intro va wa hown hg
          simp only [Nat.zero_add, List.nil_append] at hown
          obtain ⟨aa, ca, rfl, _⟩ := own_slice hown
          go_wp2_with fail
          refine ⟨rfl, Reg.Kp.of_grown hg (fun b hb => Nat.not_lt.2 (hlo b hb).1), ?_⟩
          replace f5 := f5.grown hg (fun k hk => by simp [Value.ownBlock] at hk; subst hk; exact nn)
          replace f10 := f10.grown hg (own_apart_blk f0 f10 (by decide))
          replace hx := hx.grown hg hxz (fun k hk => Nat.le_trans hwS (hlo k hk).1)
          replace hS := hS.grown hg hsz (fun k hk => (hlo k hk).1)
          have f3 := hown
          clear hown hg hlo hsz hxz f0
          refine Reg.wpR_main 6 (by kernel_rfl) (fun x52 hN => ?_)
          simp only [Reg.pickL, List.drop]
          replace hx := hx.trans (Below.mono hN hx.size)
          replace hS := hS.trans (Below.mono hN hS.size)
          replace f5 := f5.grow hN
          replace f10 := f10.grow hN
          replace f3 := own_grow f3 hN
          clear hN
          refine wpList_append_src rfl _ _ 22 rfl wT.heap.size 3 iI _ 1 8 Try.underlying22 hiI hz0I hz1I hz2I rfl (by decide) (.slice aa n ca) _ _ rfl f3 (some ⟨x2.heap.size, 0, none⟩) 1 1 [.int .i64 verb] rfl (by simp) rfl (fun j u hj => ⟨_, rfl, (Blk.news (l := [.int .i64 verb]) f5) j u hj⟩) (by simp [Value.oneCell']) (by unfold maxLen; omega) (by omega) hS.size ?_
          have hlo := f3.lt
          have hsz := hS.size
          have hxz := hx.size
          intro va wa hown hg
          obtain ⟨aa, ca, rfl, _⟩ := own_slice hown
          go_wp2_with fail
          refine ⟨rfl, Reg.Kp.of_grown hg (fun b hb => Nat.not_lt.2 (hlo b hb).1), ?_⟩
          replace f10 := f10.grown hg (own_apart_blk f3 f10 (by decide))
          replace hx := hx.grown hg hxz (fun k hk => Nat.le_trans hwS (hlo k hk).1)
          replace hS := hS.grown hg hsz (fun k hk => (hlo k hk).1)
          have f6 := hown
          clear hown hg hlo hsz hxz f3
          refine Reg.wpR_hoist [9] 1 rfl (by kernel_rfl) (by kernel_rfl) (fun u => ?_)
          simp only [Reg.pickL, List.drop]
          repeat (go_big_quiet_step ((first | fail)))
          refine wpQuiet_nil ?_
          refine Reg.wpR_main 11 (by kernel_rfl) (fun x53 hN => ?_)
          simp only [Reg.pickL, List.drop]
          replace hx := hx.trans (Below.mono hN hx.size)
          replace hS := hS.trans (Below.mono hN hS.size)
          replace f10 := f10.grow hN
          replace f6 := own_grow f6 hN
          clear hN
          have k0 := f10.cell 0
          have k1 := f10.cell 1
          have kf := f10.unfrozen
          have lg := f10.lt
          go_wp2_with fail
          refine ⟨rfl, Reg.Kp.trans (Reg.Kp.of_set _ (fun h => Nat.not_lt.2 bg h)) (Reg.Kp.of_set _ (fun h => Nat.not_lt.2 bg h)), ?_⟩
          replace f6 := own_far (i := 1) (own_far (i := 0) f6 f10 (by decide) (.slice aa (n + 1) ca)) (f10.set 0 (.slice aa (n + 1) ca)) (by decide) (.slice a8 (m + 1) c8)
          replace f10 := (f10.set 0 (.slice aa (n + 1) ca)).set 1 (.slice a8 (m + 1) c8)
          replace hS := (hS.setCell (p := ⟨x38.heap.size, 0, none⟩) bg (.slice aa (n + 1) ca)).setCell (p := ⟨x38.heap.size, 1, none⟩) bg (.slice a8 (m + 1) c8)
          refine Reg.wpR_end (by kernel_rfl) (fun xq hN => ?_)
          replace hS := hS.trans (Below.mono hN hS.size)
          replace f6 := own_grow f6 hN
          replace f10 := f10.grow hN
          rw [show intsV vs ++ [Value.int .i64 verb] = (vs ++ [verb]).map (Value.int .i64) by unfold intsV; rw [List.map_append]; rfl] at f6
          go_wp2_with fail
          go_meet
          exact ⟨_, _, _, rfl, f10, own_ints f6, hS, bg⟩
      · simp only [Reg.pickL, List.drop]
        replace hx := hx.trans (Below.mono hN hx.size)
        replace hS := hS.trans (Below.mono hN hS.size)
        clear hN
        have hsz := hS.size
        go_wp2_with fail
        refine ⟨rfl, Reg.Kp.of_gr ((Below.refl _ _).alloc (Nat.le_refl _) _), ?_⟩
        have f10 := Blk.new x3 25 #[.slice none 0 0, .slice none 0 0]
        have bg : wT.heap.size ≤ x3.heap.size := hsz
        replace hx := hx.alloc hx.size (.cells #[.slice none 0 0, .slice none 0 0] 25)
        replace hS := hS.alloc hS.size (.cells #[.slice none 0 0, .slice none 0 0] 25)
        clear hsz
        refine Reg.wpR_main2 0 5 (by kernel_rfl) (fun x54 hN => ?_) (fun x55 hN => ?_)
        · simp only [Reg.pickL, List.drop]
          replace hx := hx.trans (Below.mono hN hx.size)
          replace hS := hS.trans (Below.mono hN hS.size)
          replace f10 := f10.grow hN
          clear hN
          have hsz := hS.size
          go_wp2_with fail
          refine ⟨rfl, Reg.Kp.of_gr ((Below.refl _ _).alloc (Nat.le_refl _) _), ?_⟩
          replace f10 := f10.alloc (.cells #[] 3)
          have f0 := own_empty x54 wT.heap.size 3 1 hsz
          replace hx := hx.alloc hx.size (.cells #[] 3)
          replace hS := hS.alloc hS.size (.cells #[] 3)
          clear hsz
          refine Reg.wpR_main2 3 5 (by kernel_rfl) (fun x56 hN => ?_) (fun x57 hN => ?_)
          · simp only [Reg.pickL, List.drop]
            replace hx := hx.trans (Below.mono hN hx.size)
            replace hS := hS.trans (Below.mono hN hS.size)
            replace f10 := f10.grow hN
            replace f0 := own_grow f0 hN
            clear hN
            refine wpList_append_src rfl _ _ 22 rfl wT.heap.size 3 iI _ 1 8 Try.underlying22 hiI hz0I hz1I hz2I rfl (by decide) (.slice (some ⟨x54.heap.size, 0, none⟩) 0 0) _ _ rfl f0 a n c (intsV vs) rfl HNC.out (by unfold intsV; rw [List.length_map, HNL.out, Nat.mul_one]) ((HV.out.below hx).news) (intsV_one _) (by unfold maxLen; omega) (by omega) hS.size ?_
            have hlo := f0.lt
            have hsz := hS.size
            have hxz := hx.size
            intro va wa hown hg
            simp only [Nat.zero_add, List.nil_append] at hown
            obtain ⟨aa, ca, rfl, _⟩ := own_slice hown
            go_wp2_with fail
            refine ⟨rfl, Reg.Kp.of_grown hg (fun b hb => Nat.not_lt.2 (hlo b hb).1), ?_⟩
            replace f10 := f10.grown hg (own_apart_blk f0 f10 (by decide))
            replace hx := hx.grown hg hxz (fun k hk => Nat.le_trans hwS (hlo k hk).1)
            replace hS := hS.grown hg hsz (fun k hk => (hlo k hk).1)
            have f3 := hown
            clear hown hg hlo hsz hxz f0
            refine Reg.wpR_main 5 (by kernel_rfl) (fun x58 hN => ?_)
            simp only [Reg.pickL, List.drop]
            replace hx := hx.trans (Below.mono hN hx.size)
            replace hS := hS.trans (Below.mono hN hS.size)
            replace f10 := f10.grow hN
            replace f3 := own_grow f3 hN
            clear hN
            have hsz := hS.size
            go_wp2_with fail
            refine ⟨rfl, Reg.Kp.of_gr ((Below.refl _ _).alloc (Nat.le_refl _) _), ?_⟩
            replace f10 := f10.alloc (.cells #[.int .i64 verb] 3)
            replace f3 := f3.alloc (.cells #[.int .i64 verb] 3)
            have f5 := Blk.new x58 3 #[.int .i64 verb]
            replace hx := hx.alloc hx.size (.cells #[.int .i64 verb] 3)
            replace hS := hS.alloc hS.size (.cells #[.int .i64 verb] 3)
            clear hsz
            refine Reg.wpR_main 6 (by kernel_rfl) (fun x59 hN => ?_)
            simp only [Reg.pickL, List.drop]
            replace hx := hx.trans (Below.mono hN hx.size)
            replace hS := hS.trans (Below.mono hN hS.size)
            replace f10 := f10.grow hN
            replace f3 := own_grow f3 hN
            replace f5 := f5.grow hN
            clear hN
            refine wpList_append_src rfl _ _ 22 rfl wT.heap.size 3 iI _ 1 8 Try.underlying22 hiI hz0I hz1I hz2I rfl (by decide) (.slice aa n ca) _ _ rfl f3 (some ⟨x58.heap.size, 0, none⟩) 1 1 [.int .i64 verb] rfl (by simp) rfl (fun j u hj => ⟨_, rfl, (Blk.news (l := [.int .i64 verb]) f5) j u hj⟩) (by simp [Value.oneCell']) (by unfold maxLen; omega) (by omega) hS.size ?_
            have hlo := f3.lt
            have hsz := hS.size
            have hxz := hx.size
            intro va wa hown hg
            obtain ⟨aa, ca, rfl, _⟩ := own_slice hown
            go_wp2_with fail
            refine ⟨rfl, Reg.Kp.of_grown hg (fun b hb => Nat.not_lt.2 (hlo b hb).1), ?_⟩
            replace f10 := f10.grown hg (own_apart_blk f3 f10 (by decide))
            replace hx := hx.grown hg hxz (fun k hk => Nat.le_trans hwS (hlo k hk).1)
            replace hS := hS.grown hg hsz (fun k hk => (hlo k hk).1)
            have f6 := hown
            clear hown hg hlo hsz hxz f3
            refine Reg.wpR_hoist [9] 1 rfl (by kernel_rfl) (by kernel_rfl) (fun u => ?_)
            simp only [Reg.pickL, List.drop]
            repeat (go_big_quiet_step ((first | fail)))
            refine wpQuiet_nil ?_
            refine Reg.wpR_main 11 (by kernel_rfl) (fun x60 hN => ?_)
            simp only [Reg.pickL, List.drop]
            replace hx := hx.trans (Below.mono hN hx.size)
            replace hS := hS.trans (Below.mono hN hS.size)
            replace f10 := f10.grow hN
            replace f6 := own_grow f6 hN
            clear hN
            have k0 := f10.cell 0
            have k1 := f10.cell 1
            have kf := f10.unfrozen
            have lg := f10.lt
            go_wp2_with fail
            refine ⟨rfl, Reg.Kp.trans (Reg.Kp.of_set _ (fun h => Nat.not_lt.2 bg h)) (Reg.Kp.of_set _ (fun h => Nat.not_lt.2 bg h)), ?_⟩
            replace f6 := own_far (i := 1) (own_far (i := 0) f6 f10 (by decide) (.slice aa (n + 1) ca)) (f10.set 0 (.slice aa (n + 1) ca)) (by decide) (.slice a8 (m + 1) c8)
            replace f10 := (f10.set 0 (.slice aa (n + 1) ca)).set 1 (.slice a8 (m + 1) c8)
            replace hS := (hS.setCell (p := ⟨x3.heap.size, 0, none⟩) bg (.slice aa (n + 1) ca)).setCell (p := ⟨x3.heap.size, 1, none⟩) bg (.slice a8 (m + 1) c8)
            refine Reg.wpR_end (by kernel_rfl) (fun xq hN => ?_)
            replace hS := hS.trans (Below.mono hN hS.size)
            replace f6 := own_grow f6 hN
            replace f10 := f10.grow hN
            rw [show intsV vs ++ [Value.int .i64 verb] = (vs ++ [verb]).map (Value.int .i64) by unfold intsV; rw [List.map_append]; rfl] at f6
            go_wp2_with fail
            go_meet
            exact ⟨_, _, _, rfl, f10, own_ints f6, hS, bg⟩
          · simp only [Reg.pickL, List.drop]
            replace hx := hx.trans (Below.mono hN hx.size)
            replace hS := hS.trans (Below.mono hN hS.size)
            replace f10 := f10.grow hN
            replace f0 := own_grow f0 hN
            clear hN
            have hsz := hS.size
            go_wp2_with fail
            refine ⟨rfl, Reg.Kp.of_gr ((Below.refl _ _).alloc (Nat.le_refl _) _), ?_⟩
            have nn : x54.heap.size ≠ x57.heap.size := by have := (f0.lt (x54.heap.size) rfl).2; omega
            replace f10 := f10.alloc (.cells #[.int .i64 verb] 3)
            replace f0 := f0.alloc (.cells #[.int .i64 verb] 3)
            have f5 := Blk.new x57 3 #[.int .i64 verb]
            replace hx := hx.alloc hx.size (.cells #[.int .i64 verb] 3)
            replace hS := hS.alloc hS.size (.cells #[.int .i64 verb] 3)
            clear hsz
            refine Reg.wpR_main 3 (by kernel_rfl) (fun x61 hN => ?_)
            simp only [Reg.pickL, List.drop]
            replace hx := hx.trans (Below.mono hN hx.size)
            replace hS := hS.trans (Below.mono hN hS.size)
            replace f10 := f10.grow hN
            replace f0 := own_grow f0 hN
            replace f5 := f5.grow hN
            clear hN
            refine wpList_append_src rfl _ _ 22 rfl wT.heap.size 3 iI _ 1 8 Try.underlying22 hiI hz0I hz1I hz2I rfl (by decide) (.slice (some ⟨x54.heap.size, 0, none⟩) 0 0) _ _ rfl f0 a n c (intsV vs) rfl HNC.out (by unfold intsV; rw [List.length_map, HNL.out, Nat.mul_one]) ((HV.out.below hx).news) (intsV_one _) (by unfold maxLen; omega) (by omega) hS.size ?_
            have hlo := f0.lt
            have hsz := hS.size
            have hxz := hx.size
            intro va wa hown hg
            simp only [Nat.zero_add, List.nil_append] at hown
            obtain ⟨aa, ca, rfl, _⟩ := own_slice hown
            go_wp2_with fail
            refine ⟨rfl, Reg.Kp.of_grown hg (fun b hb => Nat.not_lt.2 (hlo b hb).1), ?_⟩
            replace f10 := f10.grown hg (own_apart_blk f0 f10 (by decide))
            replace f5 := f5.grown hg (fun k hk => by simp [Value.ownBlock] at hk; subst hk; exact nn)
            replace hx := hx.grown hg hxz (fun k hk => Nat.le_trans hwS (hlo k hk).1)
            replace hS := hS.grown hg hsz (fun k hk => (hlo k hk).1)
            have f3 := hown
            clear hown hg hlo hsz hxz f0
            refine Reg.wpR_main 6 (by kernel_rfl) (fun x62 hN => ?_)
            simp only [Reg.pickL, List.drop]
            replace hx := hx.trans (Below.mono hN hx.size)
            replace hS := hS.trans (Below.mono hN hS.size)
            replace f10 := f10.grow hN
            replace f5 := f5.grow hN
            replace f3 := own_grow f3 hN
            clear hN
            refine wpList_append_src rfl _ _ 22 rfl wT.heap.size 3 iI _ 1 8 Try.underlying22 hiI hz0I hz1I hz2I rfl (by decide) (.slice aa n ca) _ _ rfl f3 (some ⟨x57.heap.size, 0, none⟩) 1 1 [.int .i64 verb] rfl (by simp) rfl (fun j u hj => ⟨_, rfl, (Blk.news (l := [.int .i64 verb]) f5) j u hj⟩) (by simp [Value.oneCell']) (by unfold maxLen; omega) (by omega) hS.size ?_
            have hlo := f3.lt
            have hsz := hS.size
            have hxz := hx.size
            intro va wa hown hg
            obtain ⟨aa, ca, rfl, _⟩ := own_slice hown
            go_wp2_with fail
            refine ⟨rfl, Reg.Kp.of_grown hg (fun b hb => Nat.not_lt.2 (hlo b hb).1), ?_⟩
            replace f10 := f10.grown hg (own_apart_blk f3 f10 (by decide))
            replace hx := hx.grown hg hxz (fun k hk => Nat.le_trans hwS (hlo k hk).1)
            replace hS := hS.grown hg hsz (fun k hk => (hlo k hk).1)
            have f6 := hown
            clear hown hg hlo hsz hxz f3
            refine Reg.wpR_hoist [9] 1 rfl (by kernel_rfl) (by kernel_rfl) (fun u => ?_)
            simp only [Reg.pickL, List.drop]
            repeat (go_big_quiet_step ((first | fail)))
            refine wpQuiet_nil ?_
            refine Reg.wpR_main 11 (by kernel_rfl) (fun x63 hN => ?_)
            simp only [Reg.pickL, List.drop]
            replace hx := hx.trans (Below.mono hN hx.size)
            replace hS := hS.trans (Below.mono hN hS.size)
            replace f10 := f10.grow hN
            replace f6 := own_grow f6 hN
            clear hN
            have k0 := f10.cell 0
            have k1 := f10.cell 1
            have kf := f10.unfrozen
            have lg := f10.lt
            go_wp2_with fail
            refine ⟨rfl, Reg.Kp.trans (Reg.Kp.of_set _ (fun h => Nat.not_lt.2 bg h)) (Reg.Kp.of_set _ (fun h => Nat.not_lt.2 bg h)), ?_⟩
            replace f6 := own_far (i := 1) (own_far (i := 0) f6 f10 (by decide) (.slice aa (n + 1) ca)) (f10.set 0 (.slice aa (n + 1) ca)) (by decide) (.slice a8 (m + 1) c8)
            replace f10 := (f10.set 0 (.slice aa (n + 1) ca)).set 1 (.slice a8 (m + 1) c8)
            replace hS := (hS.setCell (p := ⟨x3.heap.size, 0, none⟩) bg (.slice aa (n + 1) ca)).setCell (p := ⟨x3.heap.size, 1, none⟩) bg (.slice a8 (m + 1) c8)
            refine Reg.wpR_end (by kernel_rfl) (fun xq hN => ?_)
            replace hS := hS.trans (Below.mono hN hS.size)
            replace f6 := own_grow f6 hN
            replace f10 := f10.grow hN
            rw [show intsV vs ++ [Value.int .i64 verb] = (vs ++ [verb]).map (Value.int .i64) by unfold intsV; rw [List.map_append]; rfl] at f6
            go_wp2_with fail
            go_meet
            exact ⟨_, _, _, rfl, f10, own_ints f6, hS, bg⟩
        · simp only [Reg.pickL, List.drop]
          replace hx := hx.trans (Below.mono hN hx.size)
          replace hS := hS.trans (Below.mono hN hS.size)
          replace f10 := f10.grow hN
          clear hN
          have hsz := hS.size
          go_wp2_with fail
          refine ⟨rfl, Reg.Kp.of_gr ((Below.refl _ _).alloc (Nat.le_refl _) _), ?_⟩
          replace f10 := f10.alloc (.cells #[.int .i64 verb] 3)
          have f5 := Blk.new x55 3 #[.int .i64 verb]
          replace hx := hx.alloc hx.size (.cells #[.int .i64 verb] 3)
          replace hS := hS.alloc hS.size (.cells #[.int .i64 verb] 3)
          clear hsz
          refine Reg.wpR_main 0 (by kernel_rfl) (fun x64 hN => ?_)
          simp only [Reg.pickL, List.drop]
          replace hx := hx.trans (Below.mono hN hx.size)
          replace hS := hS.trans (Below.mono hN hS.size)
          replace f10 := f10.grow hN
          replace f5 := f5.grow hN
          clear hN
          have hsz := hS.size
          go_wp2_with fail
          refine ⟨rfl, Reg.Kp.of_gr ((Below.refl _ _).alloc (Nat.le_refl _) _), ?_⟩
          have nn : x64.heap.size ≠ x55.heap.size := by have := f5.lt; omega
          replace f10 := f10.alloc (.cells #[] 3)
          replace f5 := f5.alloc (.cells #[] 3)
          have f0 := own_empty x64 wT.heap.size 3 1 hsz
          replace hx := hx.alloc hx.size (.cells #[] 3)
          replace hS := hS.alloc hS.size (.cells #[] 3)
          clear hsz
          refine Reg.wpR_main 3 (by kernel_rfl) (fun x65 hN => ?_)
          simp only [Reg.pickL, List.drop]
          replace hx := hx.trans (Below.mono hN hx.size)
          replace hS := hS.trans (Below.mono hN hS.size)
          replace f10 := f10.grow hN
          replace f5 := f5.grow hN
          replace f0 := own_grow f0 hN
          clear hN
          refine wpList_append_src rfl _ _ 22 rfl wT.heap.size 3 iI _ 1 8 Try.underlying22 hiI hz0I hz1I hz2I rfl (by decide) (.slice (some ⟨x64.heap.size, 0, none⟩) 0 0) _ _ rfl f0 a n c (intsV vs) rfl HNC.out (by unfold intsV; rw [List.length_map, HNL.out, Nat.mul_one]) ((HV.out.below hx).news) (intsV_one _) (by unfold maxLen; omega) (by omega) hS.size ?_
          have hlo := f0.lt
          have hsz := hS.size
          have hxz := hx.size
          intro va wa hown hg
          simp only [Nat.zero_add, List.nil_append] at hown
          obtain ⟨aa, ca, rfl, _⟩ := own_slice hown
          go_wp2_with fail
          refine ⟨rfl, Reg.Kp.of_grown hg (fun b hb => Nat.not_lt.2 (hlo b hb).1), ?_⟩
          replace f10 := f10.grown hg (own_apart_blk f0 f10 (by decide))
          replace f5 := f5.grown hg (fun k hk => by simp [Value.ownBlock] at hk; subst hk; exact nn)
          replace hx := hx.grown hg hxz (fun k hk => Nat.le_trans hwS (hlo k hk).1)
          replace hS := hS.grown hg hsz (fun k hk => (hlo k hk).1)
          have f3 := hown
          clear hown hg hlo hsz hxz f0
          refine Reg.wpR_main 6 (by kernel_rfl) (fun x66 hN => ?_)
          simp only [Reg.pickL, List.drop]
          replace hx := hx.trans (Below.mono hN hx.size)
          replace hS := hS.trans (Below.mono hN hS.size)
          replace f10 := f10.grow hN
          replace f5 := f5.grow hN
          replace f3 := own_grow f3 hN
          clear hN
          refine wpList_append_src rfl _ _ 22 rfl wT.heap.size 3 iI _ 1 8 Try.underlying22 hiI hz0I hz1I hz2I rfl (by decide) (.slice aa n ca) _ _ rfl f3 (some ⟨x55.heap.size, 0, none⟩) 1 1 [.int .i64 verb] rfl (by simp) rfl (fun j u hj => ⟨_, rfl, (Blk.news (l := [.int .i64 verb]) f5) j u hj⟩) (by simp [Value.oneCell']) (by unfold maxLen; omega) (by omega) hS.size ?_
          have hlo := f3.lt
          have hsz := hS.size
          have hxz := hx.size
          intro va wa hown hg
          obtain ⟨aa, ca, rfl, _⟩ := own_slice hown
          go_wp2_with fail
          refine ⟨rfl, Reg.Kp.of_grown hg (fun b hb => Nat.not_lt.2 (hlo b hb).1), ?_⟩
          replace f10 := f10.grown hg (own_apart_blk f3 f10 (by decide))
          replace hx := hx.grown hg hxz (fun k hk => Nat.le_trans hwS (hlo k hk).1)
          replace hS := hS.grown hg hsz (fun k hk => (hlo k hk).1)
          have f6 := hown
          clear hown hg hlo hsz hxz f3
          refine Reg.wpR_hoist [9] 1 rfl (by kernel_rfl) (by kernel_rfl) (fun u => ?_)
          simp only [Reg.pickL, List.drop]
          repeat (go_big_quiet_step ((first | fail)))
          refine wpQuiet_nil ?_
          refine Reg.wpR_main 11 (by kernel_rfl) (fun x67 hN => ?_)
          simp only [Reg.pickL, List.drop]
          replace hx := hx.trans (Below.mono hN hx.size)
          replace hS := hS.trans (Below.mono hN hS.size)
          replace f10 := f10.grow hN
          replace f6 := own_grow f6 hN
          clear hN
          have k0 := f10.cell 0
          have k1 := f10.cell 1
          have kf := f10.unfrozen
          have lg := f10.lt
          go_wp2_with fail
          refine ⟨rfl, Reg.Kp.trans (Reg.Kp.of_set _ (fun h => Nat.not_lt.2 bg h)) (Reg.Kp.of_set _ (fun h => Nat.not_lt.2 bg h)), ?_⟩
          replace f6 := own_far (i := 1) (own_far (i := 0) f6 f10 (by decide) (.slice aa (n + 1) ca)) (f10.set 0 (.slice aa (n + 1) ca)) (by decide) (.slice a8 (m + 1) c8)
          replace f10 := (f10.set 0 (.slice aa (n + 1) ca)).set 1 (.slice a8 (m + 1) c8)
          replace hS := (hS.setCell (p := ⟨x3.heap.size, 0, none⟩) bg (.slice aa (n + 1) ca)).setCell (p := ⟨x3.heap.size, 1, none⟩) bg (.slice a8 (m + 1) c8)
          refine Reg.wpR_end (by kernel_rfl) (fun xq hN => ?_)
          replace hS := hS.trans (Below.mono hN hS.size)
          replace f6 := own_grow f6 hN
          replace f10 := f10.grow hN
          rw [show intsV vs ++ [Value.int .i64 verb] = (vs ++ [verb]).map (Value.int .i64) by unfold intsV; rw [List.map_append]; rfl] at f6
          go_wp2_with fail
          go_meet
          exact ⟨_, _, _, rfl, f10, own_ints f6, hS, bg⟩
    case rest =>
      obtain ⟨g6, a9, c9, rfl, q6, p6, hS6, hg6⟩ := hcut
      obtain ⟨wU, rfl⟩ : ∃ wU, wU = wc := ⟨_, rfl⟩
      replace hx := hx.trans (hS6.mono hwS)
      replace s1 := s1.grow hS6
      replace q5 := q5.grow hS6
      replace p5 := p5.grow hS6
      clear hS hS6 hg6 hwS l1 l5 g0 g1 g2
      have hwS := hx.size
      have l1 := s1.lt
      have g0 : wU.cell? ⟨w.heap.size, 0, none⟩ = some (.slice a n c) := s1.cell 0
      have g1 : wU.cell? ⟨w.heap.size, 1, none⟩ = some (.slice b m d) := s1.cell 1
      have hS := Below.refl wU.heap.size wU
      go_upto_region 5 with (fail)
      go_cut [7] (fun v wx => ErrC wU n m d b vs v wx)
      case first =>
        go_wp2_with fail
        refine Reg.wp_region_R (fun b => b < wU.heap.size) 9 rfl (by kernel_rfl) ?_
        refine Reg.wpR_hoist [1, 2, 4, 5] 5 rfl (by kernel_rfl) (by kernel_rfl) (fun u => ?_)
        simp only [Reg.pickL, List.drop]
        repeat (go_big_quiet_step ((first | fail)))
        refine wpQuiet_nil ?_
        refine Reg.wpR_main2 0 7 (by kernel_rfl) (fun x1 hN => ?_) (fun x2 hN => ?_)
        · simp only [Reg.pickL, List.drop]
          replace hx := hx.trans (Below.mono hN hx.size)
          replace hS := hS.trans (Below.mono hN hS.size)
          clear hN
          have hsz := hS.size
          go_wp2_with fail
          refine ⟨rfl, Reg.Kp.of_gr ((Below.refl _ _).alloc (Nat.le_refl _) _), ?_⟩
          have f0 := World.ownsRow_lit (base := wU.heap.size) (e := 3) (size := 1) x1 #[.int .i64 2] 1 hsz (by unfold maxLen; omega) (by simp)
          replace hx := hx.alloc hx.size (.cells #[.int .i64 2] 3)
          replace hS := hS.alloc hS.size (.cells #[.int .i64 2] 3)
          clear hsz
          refine Reg.wpR_main2 3 7 (by kernel_rfl) (fun x3 hN => ?_) (fun x4 hN => ?_)
          · simp only [Reg.pickL, List.drop]
            replace hx := hx.trans (Below.mono hN hx.size)
            replace hS := hS.trans (Below.mono hN hS.size)
            replace f0 := own_grow f0 hN
            clear hN
            refine wpList_append_src rfl _ _ 22 rfl wU.heap.size 3 iI _ 1 8 Try.underlying22 hiI hz0I hz1I hz2I rfl (by decide) (.slice (some ⟨x1.heap.size, 0, none⟩) 1 1) _ _ rfl f0 a n c (intsV vs) rfl HNC.out (by unfold intsV; rw [List.length_map, HNL.out, Nat.mul_one]) ((HV.out.below hx).news) (intsV_one _) (by unfold maxLen; omega) (by omega) hS.size ?_
            have hlo := f0.lt
            have hsz := hS.size
            have hxz := hx.size
            intro va wa hown hg
            obtain ⟨aa, ca, rfl, _⟩ := own_slice hown
            go_wp2_with fail
            refine ⟨rfl, Reg.Kp.of_grown hg (fun b hb => Nat.not_lt.2 (hlo b hb).1), ?_⟩
            replace hx := hx.grown hg hxz (fun k hk => Nat.le_trans hwS (hlo k hk).1)
            replace hS := hS.grown hg hsz (fun k hk => (hlo k hk).1)
            have f3 := hown
            clear hown hg hlo hsz hxz f0
            refine Reg.wpR_hoist [6] 2 rfl (by kernel_rfl) (by kernel_rfl) (fun u => ?_)
            simp only [Reg.pickL, List.drop]
            repeat (go_big_quiet_step ((first | fail)))
            refine wpQuiet_nil ?_
            refine Reg.wpR_main 7 (by kernel_rfl) (fun x5 hN => ?_)
            simp only [Reg.pickL, List.drop]
            replace hx := hx.trans (Below.mono hN hx.size)
            replace hS := hS.trans (Below.mono hN hS.size)
            replace f3 := own_grow f3 hN
            clear hN
            have hsz := hS.size
            go_wp2_with fail
            refine ⟨rfl, Reg.Kp.of_gr ((Below.refl _ _).alloc (Nat.le_refl _) _), ?_⟩
            replace f3 := f3.alloc (.cells #[.slice none 0 0, .slice none 0 0] 25)
            have f7 := Blk.new x5 25 #[.slice none 0 0, .slice none 0 0]
            have bg : wU.heap.size ≤ x5.heap.size := hsz
            replace hx := hx.alloc hx.size (.cells #[.slice none 0 0, .slice none 0 0] 25)
            replace hS := hS.alloc hS.size (.cells #[.slice none 0 0, .slice none 0 0] 25)
            clear hsz
            refine Reg.wpR_main 8 (by kernel_rfl) (fun x6 hN => ?_)
            simp only [Reg.pickL, List.drop]
            replace hx := hx.trans (Below.mono hN hx.size)
            replace hS := hS.trans (Below.mono hN hS.size)
            replace f3 := own_grow f3 hN
            replace f7 := f7.grow hN
            clear hN
            have k0 := f7.cell 0
            have k1 := f7.cell 1
            have kf := f7.unfrozen
            have lg := f7.lt
            go_wp2_with fail
            refine ⟨rfl, Reg.Kp.trans (Reg.Kp.of_set _ (fun h => Nat.not_lt.2 bg h)) (Reg.Kp.of_set _ (fun h => Nat.not_lt.2 bg h)), ?_⟩
            replace f3 := own_far (i := 1) (own_far (i := 0) f3 f7 (by decide) (.slice aa (1 + n) ca)) (f7.set 0 (.slice aa (1 + n) ca)) (by decide) (.slice b m d)
            replace f7 := (f7.set 0 (.slice aa (1 + n) ca)).set 1 (.slice b m d)
            replace hS := (hS.setCell (p := ⟨x5.heap.size, 0, none⟩) bg (.slice aa (1 + n) ca)).setCell (p := ⟨x5.heap.size, 1, none⟩) bg (.slice b m d)
            refine Reg.wpR_end (by kernel_rfl) (fun xq hN => ?_)
            replace hS := hS.trans (Below.mono hN hS.size)
            replace f3 := own_grow f3 hN
            replace f7 := f7.grow hN
            rw [show #[Value.int .i64 2].toList ++ intsV vs = (2 :: vs).map (Value.int .i64) by rfl] at f3
            go_wp2_with fail
            go_meet
            exact ⟨_, _, _, rfl, f7, own_ints f3, hS, bg⟩
          · simp only [Reg.pickL, List.drop]
            replace hx := hx.trans (Below.mono hN hx.size)
            replace hS := hS.trans (Below.mono hN hS.size)
            replace f0 := own_grow f0 hN
            clear hN
            have hsz := hS.size
            go_wp2_with fail
            refine ⟨rfl, Reg.Kp.of_gr ((Below.refl _ _).alloc (Nat.le_refl _) _), ?_⟩
            replace f0 := f0.alloc (.cells #[.slice none 0 0, .slice none 0 0] 25)
            have f7 := Blk.new x4 25 #[.slice none 0 0, .slice none 0 0]
            have bg : wU.heap.size ≤ x4.heap.size := hsz
            replace hx := hx.alloc hx.size (.cells #[.slice none 0 0, .slice none 0 0] 25)
            replace hS := hS.alloc hS.size (.cells #[.slice none 0 0, .slice none 0 0] 25)
            clear hsz
            refine Reg.wpR_main 3 (by kernel_rfl) (fun x7 hN => ?_)
            simp only [Reg.pickL, List.drop]
            replace hx := hx.trans (Below.mono hN hx.size)
            replace hS := hS.trans (Below.mono hN hS.size)
            replace f0 := own_grow f0 hN
            replace f7 := f7.grow hN
            clear hN
            refine wpList_append_src rfl _ _ 22 rfl wU.heap.size 3 iI _ 1 8 Try.underlying22 hiI hz0I hz1I hz2I rfl (by decide) (.slice (some ⟨x1.heap.size, 0, none⟩) 1 1) _ _ rfl f0 a n c (intsV vs) rfl HNC.out (by unfold intsV; rw [List.length_map, HNL.out, Nat.mul_one]) ((HV.out.below hx).news) (intsV_one _) (by unfold maxLen; omega) (by omega) hS.size ?_
            have hlo := f0.lt
            have hsz := hS.size
            have hxz := hx.size
            intro va wa hown hg
            obtain ⟨aa, ca, rfl, _⟩ := own_slice hown
            go_wp2_with fail
            refine ⟨rfl, Reg.Kp.of_grown hg (fun b hb => Nat.not_lt.2 (hlo b hb).1), ?_⟩
            replace f7 := f7.grown hg (own_apart_blk f0 f7 (by decide))
            replace hx := hx.grown hg hxz (fun k hk => Nat.le_trans hwS (hlo k hk).1)
            replace hS := hS.grown hg hsz (fun k hk => (hlo k hk).1)
            have f3 := hown
            clear hown hg hlo hsz hxz f0
            refine Reg.wpR_hoist [6] 1 rfl (by kernel_rfl) (by kernel_rfl) (fun u => ?_)
            simp only [Reg.pickL, List.drop]
            repeat (go_big_quiet_step ((first | fail)))
            refine wpQuiet_nil ?_
            refine Reg.wpR_main 8 (by kernel_rfl) (fun x8 hN => ?_)
            simp only [Reg.pickL, List.drop]
            replace hx := hx.trans (Below.mono hN hx.size)
            replace hS := hS.trans (Below.mono hN hS.size)
            replace f7 := f7.grow hN
            replace f3 := own_grow f3 hN
            clear hN
            have k0 := f7.cell 0
            have k1 := f7.cell 1
            have kf := f7.unfrozen
            have lg := f7.lt
            go_wp2_with fail
            refine ⟨rfl, Reg.Kp.trans (Reg.Kp.of_set _ (fun h => Nat.not_lt.2 bg h)) (Reg.Kp.of_set _ (fun h => Nat.not_lt.2 bg h)), ?_⟩
            replace f3 := own_far (i := 1) (own_far (i := 0) f3 f7 (by decide) (.slice aa (1 + n) ca)) (f7.set 0 (.slice aa (1 + n) ca)) (by decide) (.slice b m d)
            replace f7 := (f7.set 0 (.slice aa (1 + n) ca)).set 1 (.slice b m d)
            replace hS := (hS.setCell (p := ⟨x4.heap.size, 0, none⟩) bg (.slice aa (1 + n) ca)).setCell (p := ⟨x4.heap.size, 1, none⟩) bg (.slice b m d)
            refine Reg.wpR_end (by kernel_rfl) (fun xq hN => ?_)
            replace hS := hS.trans (Below.mono hN hS.size)
            replace f3 := own_grow f3 hN
            replace f7 := f7.grow hN
            rw [show #[Value.int .i64 2].toList ++ intsV vs = (2 :: vs).map (Value.int .i64) by rfl] at f3
            go_wp2_with fail
            go_meet
            exact ⟨_, _, _, rfl, f7, own_ints f3, hS, bg⟩
        · simp only [Reg.pickL, List.drop]
          replace hx := hx.trans (Below.mono hN hx.size)
          replace hS := hS.trans (Below.mono hN hS.size)
          clear hN
          have hsz := hS.size
          go_wp2_with fail
          refine ⟨rfl, Reg.Kp.of_gr ((Below.refl _ _).alloc (Nat.le_refl _) _), ?_⟩
          have f7 := Blk.new x2 25 #[.slice none 0 0, .slice none 0 0]
          have bg : wU.heap.size ≤ x2.heap.size := hsz
          replace hx := hx.alloc hx.size (.cells #[.slice none 0 0, .slice none 0 0] 25)
          replace hS := hS.alloc hS.size (.cells #[.slice none 0 0, .slice none 0 0] 25)
          clear hsz
          refine Reg.wpR_main 0 (by kernel_rfl) (fun x9 hN => ?_)
          simp only [Reg.pickL, List.drop]
          replace hx := hx.trans (Below.mono hN hx.size)
          replace hS := hS.trans (Below.mono hN hS.size)
          replace f7 := f7.grow hN
          clear hN
          have hsz := hS.size
          go_wp2_with fail
          refine ⟨rfl, Reg.Kp.of_gr ((Below.refl _ _).alloc (Nat.le_refl _) _), ?_⟩
          replace f7 := f7.alloc (.cells #[.int .i64 2] 3)
          have f0 := World.ownsRow_lit (base := wU.heap.size) (e := 3) (size := 1) x9 #[.int .i64 2] 1 hsz (by unfold maxLen; omega) (by simp)
          replace hx := hx.alloc hx.size (.cells #[.int .i64 2] 3)
          replace hS := hS.alloc hS.size (.cells #[.int .i64 2] 3)
          clear hsz
          refine Reg.wpR_main 3 (by kernel_rfl) (fun x10 hN => ?_)
          simp only [Reg.pickL, List.drop]
          replace hx := hx.trans (Below.mono hN hx.size)
          replace hS := hS.trans (Below.mono hN hS.size)
          replace f7 := f7.grow hN
          replace f0 := own_grow f0 hN
          clear hN
          refine wpList_append_src rfl _ _ 22 rfl wU.heap.size 3 iI _ 1 8 Try.underlying22 hiI hz0I hz1I hz2I rfl (by decide) (.slice (some ⟨x9.heap.size, 0, none⟩) 1 1) _ _ rfl f0 a n c (intsV vs) rfl HNC.out (by unfold intsV; rw [List.length_map, HNL.out, Nat.mul_one]) ((HV.out.below hx).news) (intsV_one _) (by unfold maxLen; omega) (by omega) hS.size ?_
          have hlo := f0.lt
          have hsz := hS.size
          have hxz := hx.size
          intro va wa hown hg
          obtain ⟨aa, ca, rfl, _⟩ := own_slice hown
          go_wp2_with fail
          refine ⟨rfl, Reg.Kp.of_grown hg (fun b hb => Nat.not_lt.2 (hlo b hb).1), ?_⟩
          replace f7 := f7.grown hg (own_apart_blk f0 f7 (by decide))
          replace hx := hx.grown hg hxz (fun k hk => Nat.le_trans hwS (hlo k hk).1)
          replace hS := hS.grown hg hsz (fun k hk => (hlo k hk).1)
          have f3 := hown
          clear hown hg hlo hsz hxz f0
          refine Reg.wpR_hoist [6] 1 rfl (by kernel_rfl) (by kernel_rfl) (fun u => ?_)
          simp only [Reg.pickL, List.drop]
          repeat (go_big_quiet_step ((first | fail)))
          refine wpQuiet_nil ?_
          refine Reg.wpR_main 8 (by kernel_rfl) (fun x11 hN => ?_)
          simp only [Reg.pickL, List.drop]
          replace hx := hx.trans (Below.mono hN hx.size)
          replace hS := hS.trans (Below.mono hN hS.size)
          replace f7 := f7.grow hN
          replace f3 := own_grow f3 hN
          clear hN
          have k0 := f7.cell 0
          have k1 := f7.cell 1
          have kf := f7.unfrozen
          have lg := f7.lt
          go_wp2_with fail
          refine ⟨rfl, Reg.Kp.trans (Reg.Kp.of_set _ (fun h => Nat.not_lt.2 bg h)) (Reg.Kp.of_set _ (fun h => Nat.not_lt.2 bg h)), ?_⟩
          replace f3 := own_far (i := 1) (own_far (i := 0) f3 f7 (by decide) (.slice aa (1 + n) ca)) (f7.set 0 (.slice aa (1 + n) ca)) (by decide) (.slice b m d)
          replace f7 := (f7.set 0 (.slice aa (1 + n) ca)).set 1 (.slice b m d)
          replace hS := (hS.setCell (p := ⟨x2.heap.size, 0, none⟩) bg (.slice aa (1 + n) ca)).setCell (p := ⟨x2.heap.size, 1, none⟩) bg (.slice b m d)
          refine Reg.wpR_end (by kernel_rfl) (fun xq hN => ?_)
          replace hS := hS.trans (Below.mono hN hS.size)
          replace f3 := own_grow f3 hN
          replace f7 := f7.grow hN
          rw [show #[Value.int .i64 2].toList ++ intsV vs = (2 :: vs).map (Value.int .i64) by rfl] at f3
          go_wp2_with fail
          go_meet
          exact ⟨_, _, _, rfl, f7, own_ints f3, hS, bg⟩
      case rest =>
        obtain ⟨g7, a10, c10, rfl, q7, p7, hS7, hg7⟩ := hcut
        obtain ⟨wV, rfl⟩ : ∃ wV, wV = wc := ⟨_, rfl⟩
        replace hx := hx.trans (hS7.mono hwS)
        replace s1 := s1.grow hS7
        replace q5 := q5.grow hS7
        replace p5 := p5.grow hS7
        replace q6 := q6.grow hS7
        replace p6 := p6.grow hS7
        clear hS hS7 hg7 hwS l1 g0 g1
        have hwS := hx.size
        have l1 := s1.lt
        have g0 : wV.cell? ⟨w.heap.size, 0, none⟩ = some (.slice a n c) := s1.cell 0
        have g1 : wV.cell? ⟨w.heap.size, 1, none⟩ = some (.slice b m d) := s1.cell 1
        have k5 : ∀ W, Below wV.heap.size wV W → Calls Try.prog 16 #[.agg #[.slice a n c, .slice a8 (m + 1) c8]] W fun e w' => e = .returned (.int .i64 71) ∧ Below W.heap.size W w' := fun W hW => by
          have h := check_any a a8 n (m + 1) c c8 vs (ps ++ [(0, 0)]) W (by omega) (HV.out.grow (hx.trans (hW.mono hwS))) (p5.grow hW)
          rw [err_more HCK.out] at h
          exact h
        have k6 : ∀ W, Below wV.heap.size wV W → Calls Try.prog 16 #[.agg #[.slice a9 (n + 1) c9, .slice a8 (m + 1) c8]] W fun e w' => e = .returned (.int .i64 (checkS (vs ++ [verb]) (ps ++ [(0, 0)]))) ∧ Below W.heap.size W w' := fun W hW =>
          check_any a9 a8 (n + 1) (m + 1) c9 c8 (vs ++ [verb]) (ps ++ [(0, 0)]) W (by omega) (p6.grow hW) (p5.grow hW)
        have k7 : ∀ W, Below wV.heap.size wV W → Calls Try.prog 16 #[.agg #[.slice a10 (1 + n) c10, .slice b m d]] W fun e w' => e = .returned (.int .i64 70) ∧ Below W.heap.size W w' := fun W hW => by
          have h := check_any a10 b (1 + n) m c10 d (2 :: vs) ps W (by omega) (p7.grow hW) (HP.out.grow (hx.trans (hW.mono hwS)))
          rw [err_line (by rw [HNL.out]; exact hn5)] at h
          exact h
        have K5 := Lib.hid k5
        have K6 := Lib.hid k6
        have K7 := Lib.hid k7
        have hbad := err_bad (qs := ps ++ [(0, 0)]) HCK.out (by rw [HNL.out]; exact hn5) verb
        have HBAD := Lib.hid hbad
        clear k5 k6 k7 p5 p6 p7 hbad
        generalize checkS (vs ++ [verb]) (ps ++ [(0, 0)]) = cb at *
        go_upto_if 59 with (fail)
        go_cut [] (fun wx => Below wV.heap.size wV wx)
        case first =>
          by_cases hm0 : m = 0
          · have hmi : ¬ (0 : Int) < (m : Int) := by omega
            have HM0 := Lib.hid hm0
            clear hm0
            go_wp2_with fail
            go_meet
            exact Below.refl _ _
          · have hmi : (0 : Int) < m := by omega
            have hm1 : 1 ≤ m := by omega
            obtain ⟨bb, off, rfl⟩ : ∃ bb off, b = some ⟨bb, off, none⟩ := by
              obtain ⟨bb, off, e, _⟩ := HP.out.2 0 (ps[0]'(by have := HML.out; omega)) (List.getElem?_eq_getElem _)
              exact ⟨bb, off, e⟩
            have kf : ∀ (off' d' k : Nat) W, k = m - 1 → Below w.heap.size w W → RPts w w.heap.size (some ⟨bb, off', none⟩) k (ps.drop 1) → Calls Try.prog 16 #[.agg #[.slice a n c, .slice (some ⟨bb, off', none⟩) k d']] W fun e w' => e = .returned (.int .i64 71) ∧ Below W.heap.size W w' := fun off' d' k W hk hW hr => by
              have h := check_any a (some ⟨bb, off', none⟩) n k c d' vs (ps.drop 1) W (by omega) (HV.out.grow hW) (hr.grow hW)
              rw [err_pts HCK.out (by rw [List.length_drop]; have := HML.out; omega)] at h
              exact h
            have KF := Lib.hid kf
            clear kf
            by_cases hd1 : d = 1
            · have hmm1 : m - 1 = 0 := by omega
              have HMM1 := Lib.hid hmm1
              have hd2 : ¬ 2 ≤ d := by omega
              subst hd1
              clear hmm1
              go_wp2_with fail
              refine Reg.wp_region_R (fun b => b < wV.heap.size) 8 rfl (by kernel_rfl) ?_
              refine Reg.wpR_hoist [0, 1, 2, 3, 4, 5] 2 rfl (by kernel_rfl) (by kernel_rfl) (fun u => ?_)
              simp only [Reg.pickL, List.drop]
              repeat (go_big_quiet_step ((first | fail)))
              refine wpQuiet_nil ?_
              refine Reg.wpR_main 6 (by kernel_rfl) (fun y1 h1 => ?_)
              simp only [Reg.pickL, List.drop]
              go_wp2_with fail
              refine ⟨rfl, Reg.Kp.of_gr ((Below.refl _ _).alloc (Nat.le_refl _) _), ?_⟩
              have f1 := Blk.new y1 25 #[.slice none 0 0, .slice none 0 0]
              have hb1 := Below.alloc h1 (Below.size h1) (.cells #[.slice none 0 0, .slice none 0 0] 25)
              have bg : wV.heap.size ≤ y1.heap.size := Below.size h1
              refine Reg.wpR_main 7 (by kernel_rfl) (fun y2 h2 => ?_)
              simp only [Reg.pickL, List.drop]
              replace f1 := f1.grow h2
              have hb2 := hb1.trans (Below.mono h2 hb1.size)
              have e0 := f1.cell 0
              have e1 := f1.cell 1
              have kfz := f1.unfrozen
              have lf1 := f1.lt
              go_wp2_with fail
              refine ⟨rfl, Reg.Kp.trans (Reg.Kp.of_set _ (fun h => Nat.not_lt.2 bg h)) (Reg.Kp.of_set _ (fun h => Nat.not_lt.2 bg h)), ?_⟩
              replace f1 := (f1.set 0 (.slice a n c)).set 1 (.slice (some ⟨bb, off, none⟩) 0 0)
              replace hb2 := (hb2.setCell (p := ⟨y1.heap.size, 0, none⟩) bg (.slice a n c)).setCell (p := ⟨y1.heap.size, 1, none⟩) bg (.slice (some ⟨bb, off, none⟩) 0 0)
              refine Reg.wpR_end (by kernel_rfl) (fun y3 h3 => ?_)
              replace f1 := f1.grow h3
              replace hb2 := hb2.trans (Below.mono h3 hb2.size)
              clear e0 e1 kfz lf1 hb1 h1 h2 h3
              have e0 := f1.cell 0
              have e1 := f1.cell 1
              have lf1 := f1.lt
              go_wp2_with fail
              refine (KF.out off 0 0 _ (by have := HMM1.out; omega) (hx.trans (hb2.mono hwS)) (RPts.none_left (by rw [List.length_drop, HML.out]; exact HMM1.out) rfl)).mono ?_
              rintro e wz ⟨rfl, hbz⟩
              go_wp2_with fail
              go_meet
              exact hb2.trans (hbz.mono hb2.size)
            · have hd2 : 2 ≤ d := by omega
              have hdd : ¬ d - 1 = 0 := by omega
              go_wp2_with fail
              refine Reg.wp_region_R (fun b => b < wV.heap.size) 8 rfl (by kernel_rfl) ?_
              refine Reg.wpR_hoist [0, 1, 2, 3, 4, 5] 2 rfl (by kernel_rfl) (by kernel_rfl) (fun u => ?_)
              simp only [Reg.pickL, List.drop]
              repeat (go_big_quiet_step ((first | fail)))
              refine wpQuiet_nil ?_
              refine Reg.wpR_main 6 (by kernel_rfl) (fun y1 h1 => ?_)
              simp only [Reg.pickL, List.drop]
              go_wp2_with fail
              refine ⟨rfl, Reg.Kp.of_gr ((Below.refl _ _).alloc (Nat.le_refl _) _), ?_⟩
              have f1 := Blk.new y1 25 #[.slice none 0 0, .slice none 0 0]
              have hb1 := Below.alloc h1 (Below.size h1) (.cells #[.slice none 0 0, .slice none 0 0] 25)
              have bg : wV.heap.size ≤ y1.heap.size := Below.size h1
              refine Reg.wpR_main 7 (by kernel_rfl) (fun y2 h2 => ?_)
              simp only [Reg.pickL, List.drop]
              replace f1 := f1.grow h2
              have hb2 := hb1.trans (Below.mono h2 hb1.size)
              have e0 := f1.cell 0
              have e1 := f1.cell 1
              have kfz := f1.unfrozen
              have lf1 := f1.lt
              go_wp2_with fail
              refine ⟨rfl, Reg.Kp.trans (Reg.Kp.of_set _ (fun h => Nat.not_lt.2 bg h)) (Reg.Kp.of_set _ (fun h => Nat.not_lt.2 bg h)), ?_⟩
              replace f1 := (f1.set 0 (.slice a n c)).set 1 (.slice (some ⟨bb, off + 2, none⟩) (m - 1) (d - 1))
              replace hb2 := (hb2.setCell (p := ⟨y1.heap.size, 0, none⟩) bg (.slice a n c)).setCell (p := ⟨y1.heap.size, 1, none⟩) bg (.slice (some ⟨bb, off + 2, none⟩) (m - 1) (d - 1))
              refine Reg.wpR_end (by kernel_rfl) (fun y3 h3 => ?_)
              replace f1 := f1.grow h3
              replace hb2 := hb2.trans (Below.mono h3 hb2.size)
              clear e0 e1 kfz lf1 hb1 h1 h2 h3
              have e0 := f1.cell 0
              have e1 := f1.cell 1
              have lf1 := f1.lt
              go_wp2_with fail
              refine (KF.out (off + 2) _ (m - 1) _ rfl (hx.trans (hb2.mono hwS)) (HP.out.from 1)).mono ?_
              rintro e wz ⟨rfl, hbz⟩
              go_wp2_with fail
              go_meet
              exact hb2.trans (hbz.mono hb2.size)
        case rest =>
          have hx2 := hx.trans (hcut.mono hwS)
          replace q5 := q5.grow hcut
          replace q6 := q6.grow hcut
          replace q7 := q7.grow hcut
          have l5 := q5.lt
          have l6 := q6.lt
          have l7 := q7.lt
          have r0 : wc.cell? ⟨g5, 0, none⟩ = some (.slice a n c) := q5.cell 0
          have r1 : wc.cell? ⟨g5, 1, none⟩ = some (.slice a8 (m + 1) c8) := q5.cell 1
          have hvc : (verb < 1 ∧ noneB verb = true) ∨ (¬ verb < 1 ∧ 5 < verb ∧ noneB verb = true) ∨ (¬ verb < 1 ∧ ¬ 5 < verb ∧ noneB verb = false) := by
            unfold noneB
            by_cases h1 : verb < 1 <;> by_cases h2 : 5 < verb <;> simp [h1, h2]
          rcases hvc with ⟨v1, hnb⟩ | ⟨v1, v2, hnb⟩ | ⟨v1, v2, hnb⟩
          all_goals
            have hcb := HBAD.out
            rw [hnb] at hcb
            clear hnb
            go_wp2_with fail
            refine (K5.out _ hcut).mono ?_
            rintro e z1 ⟨rfl, hb1⟩
            have hz1 := hcut.trans (hb1.mono hcut.size)
            have t6 := q6.grow hb1
            have t7 := q7.grow hb1
            have u0 : z1.cell? ⟨g6, 0, none⟩ = some (.slice a9 (n + 1) c9) := t6.cell 0
            have u1 : z1.cell? ⟨g6, 1, none⟩ = some (.slice a8 (m + 1) c8) := t6.cell 1
            go_wp2_with fail
            refine (K6.out _ hz1).mono ?_
            rintro e z2 ⟨rfl, hb2⟩
            have hz2 := hz1.trans (hb2.mono hz1.size)
            replace t7 := t7.grow hb2
            have u2 : z2.cell? ⟨g7, 0, none⟩ = some (.slice a10 (1 + n) c10) := t7.cell 0
            have u3 : z2.cell? ⟨g7, 1, none⟩ = some (.slice b m d) := t7.cell 1
            go_wp2_with fail
            refine (K7.out _ hz2).mono ?_
            rintro e z3 ⟨rfl, hb3⟩
            have hz3 := hz2.trans (hb3.mono hz2.size)
            go_wp2_with fail
            go_ret
            exact ⟨rfl, hx.trans (hz3.mono hwS)⟩
end Go.Proofs.Ytjkpbkcbimojoaa
