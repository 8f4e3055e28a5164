/- PathTells: whether any path may be, and its subpaths, are the document's. -/
import Derived.Test.YtjkpbkcbimojoaaPx
import Derived.Test.YtjkpbkcbimojoaaPt
import Derived.Test.YtjkpbkcbimojoaaPl
import Derived.Test.YtjkpbkcbimojoaaOpenc
namespace Go.Proofs.Ytjkpbkcbimojoaa
open Go.RowKit

set_option maxRecDepth 100000 in
set_option maxHeartbeats 4000000 in
theorem ltells_any (a b : Option Addr) (n m c d : Nat) (verb : Int) (vs : List Int) (ps : List (Int × Int)) (w : World) (hmd : m ≤ d) (hd : d ≤ maxLen) (hn : n ≤ 9223372036854775807)
    (hm : m ≤ 9223372036854775807) (hv : RInts w w.heap.size a n vs) (hp : RPts w w.heap.size b m ps) :
    Calls Try.prog 3 #[.agg #[.slice a n c, .slice b m d], .int .i64 verb] w fun e w' => e = .returned (.bool true) ∧ Below w.heap.size w w' := by
  have KB := Lib.hid (fun W => bounded_any a b n m c d W hn hm)
  cases hbd : decide (n ≤ 520) && decide (m ≤ 1600)
  · rw [hbd] at KB
    go_enter Try.func3, Try.ntmps3
    go_wp2_with (first | (go_at_call 9; refine (calls_from (by first | assumption | exact Below.refl _ _) (KB.out _)).mono ?_; rintro e w2 ⟨rfl, hb2⟩; have hc2 := (bcell hb2).1; have hf2 := (bcell hb2).2) | (go_at_call 10; refine (calls_from (by first | assumption | exact Below.refl _ _) (shown_any _)).mono ?_; rintro e w2 ⟨rfl, hb2⟩; have hc2 := (bcell hb2).1; have hf2 := (bcell hb2).2))
    go_ret
    exact ⟨rfl, by (first | ((repeat (first | exact Below.refl _ _ | assumption | refine Below.drew ?_ | refine Below.setCell ?_ (by simp; try omega) _ | refine Below.alloc ?_ (by simp; try omega) _)); done) | exact Below.trans (by (repeat (first | exact Below.refl _ _ | assumption | refine Below.drew ?_ | refine Below.setCell ?_ (by simp; try omega) _ | refine Below.alloc ?_ (by simp; try omega) _))) (hb2.mono (by simp; try omega)))⟩
  rw [hbd] at KB
  have hbd2 := hbd
  simp only [Bool.and_eq_true, decide_eq_true_eq] at hbd2
  have KS := Lib.hid (fun W (hW : Below w.heap.size w W) => split_any a b n m c d vs ps W hmd hd (by omega) (hv.grow hW) (hp.grow hW))
  have KR := Lib.hid (fun W (hW : Below w.heap.size w W) => rsplit_any a b n m c d vs ps W hmd hd (by omega) (hv.grow hW) (hp.grow hW))
  have KC := Lib.hid (fun W (hW : Below w.heap.size w W) => check_any a b n m c d vs ps W (by omega) (hv.grow hW) (hp.grow hW))
  have KD := Lib.hid (fun W (hW : Below w.heap.size w W) => rcheck_any a b n m c d vs ps W (by omega) (hv.grow hW) (hp.grow hW))
  clear hbd2 hbd
  obtain ⟨hsl, hsg⟩ := split_small vs ps
  have HSG := Lib.hid hsg
  have s1 := Blk.new w 25 #[.slice a n c, .slice b m d]
  generalize splitS vs ps = sl at *
  generalize checkS vs ps = er at *
  clear hv hp hsg
  go_enter Try.func3, Try.ntmps3
  go_wp2_with fail
  refine (KB.out _).mono ?_
  rintro e w2 ⟨rfl, hb2⟩
  have hx2 : Below w.heap.size w w2 := Below.trans (by (repeat (first | exact Below.refl _ _ | assumption | refine Below.drew ?_ | refine Below.setCell ?_ (by simp; try omega) _ | refine Below.alloc ?_ (by simp; try omega) _))) (hb2.mono (by simp))
  replace s1 := s1.grow hb2
  clear hb2
  go_wp2_with fail
  refine (shown_any _).mono ?_
  rintro e w3 ⟨rfl, hb2⟩
  have hx3 := hx2.trans (hb2.mono hx2.size)
  replace s1 := s1.grow hb2
  clear hb2 hx2
  have l1 := s1.lt
  have g0 : w3.cell? ⟨w.heap.size, 0, none⟩ = some (.slice a n c) := s1.cell 0
  have g1 : w3.cell? ⟨w.heap.size, 1, none⟩ = some (.slice b m d) := s1.cell 1
  go_wp2_with fail
  refine (KS.out _ hx3).mono ?_
  rintro e w4 ⟨la, lc, rfl, hlc, hr, hb2⟩
  have hx4 := hx3.trans (hb2.mono hx3.size)
  replace s1 := s1.grow hb2
  clear hb2 hx3 g0 g1 l1 KB KS
  have l1 := s1.lt
  have g0 : w4.cell? ⟨w.heap.size, 0, none⟩ = some (.slice a n c) := s1.cell 0
  have g1 : w4.cell? ⟨w.heap.size, 1, none⟩ = some (.slice b m d) := s1.cell 1
  have HR := Lib.hid hr
  clear hr
  go_wp2_with fail
  refine (its_any _ _ _ _ _ _ _ _ _ rfl rfl).mono ?_
  rintro e w5 ⟨rfl, hb2⟩
  have hx5 := hx4.trans (hb2.mono hx4.size)
  replace s1 := s1.grow hb2
  have HR5 := Lib.hid (HR.out.grow hb2)
  clear hb2 hx4 g0 g1 l1 HR
  go_wp2_with fail
  refine (KR.out _ hx5).mono ?_
  rintro e w6 ⟨ra, rc, rfl, hrc, hr, hb2⟩
  have hx6 := hx5.trans (hb2.mono hx5.size)
  replace s1 := s1.grow hb2
  have HR6 := Lib.hid (HR5.out.grow hb2)
  have HM := Lib.hid hr
  clear hb2 hx5 HR5 hr KR
  have l1 := s1.lt
  have g0 : w6.cell? ⟨w.heap.size, 0, none⟩ = some (.slice a n c) := s1.cell 0
  have g1 : w6.cell? ⟨w.heap.size, 1, none⟩ = some (.slice b m d) := s1.cell 1
  go_wp2_with fail
  refine Reg.wp_region_R (fun _ => True) 25 rfl (by kernel_rfl) ?_
  refine Reg.wpR_hoist [0, 1, 2, 3, 4, 5, 6, 7, 8, 9, 10, 11, 12, 13, 14, 16] 9 rfl (by kernel_rfl) (by kernel_rfl) (fun u => ?_)
  simp only [Reg.pickL, List.drop]
  repeat (go_big_quiet_step ((first | (go_at_call 14; exact Reg.calls_aftK (takes_any verb _)) | (go_at_call 15; exact Reg.calls_aftK_same (rtakes_any verb _)) | (go_at_call 16; exact Reg.calls_aftK (KC.out _ (hx6.trans (Below.mono (Reg.aftT_below _ _ _) hx6.size)))) | (go_at_call 13; exact Reg.calls_aftK (its_any _ _ _ _ _ _ _ _ _ rfl rfl)) | (go_at_call 17; exact Reg.calls_aftK (KD.out _ (hx6.trans (Below.mono (Reg.aftT_below _ _ _) hx6.size)))))))
  refine wpQuiet_nil ?_
  refine Reg.wpR_main 15 (by kernel_rfl) (fun x1 hN => ?_)
  simp only [Reg.pickL, List.drop]
  have hx7 := hx6.trans (Below.mono hN hx6.size)
  have HR7 := Lib.hid (HR6.out.grow hN)
  have HM7 := Lib.hid (HM.out.grow hN)
  clear hN hx6 HR6 HM g0 g1 l1 s1
  go_wp2_with fail
  refine (subs_any la sl.length lc sl _ (by omega) HR7.out (fun s hs => by have := HSG.out s hs; omega)).mono ?_
  rintro e w7 ⟨sa, sc, rfl, hsc, hr, hb2⟩
  have hx8 := hx7.trans (hb2.mono hx7.size)
  have HM8 := Lib.hid (HM7.out.grow hb2)
  have HS8 := Lib.hid hr
  go_wp2_with fail
  refine ⟨rfl, Reg.Kp.of_gr hb2, ?_⟩
  clear hb2 hr hx7 HR7 HM7
  refine Reg.wpR_main 17 (by kernel_rfl) (fun x2 hN => ?_)
  simp only [Reg.pickL, List.drop]
  have hx9 := hx8.trans (Below.mono hN hx8.size)
  have HM9 := Lib.hid (HM8.out.grow hN)
  have HS9 := Lib.hid (HS8.out.grow hN)
  clear hN hx8 HM8 HS8
  go_wp2_with fail
  refine (same_any sa ra sl.length sl.length sc rc sl _ (by omega) HS9.out HM9.out (fun s hs => by have := HSG.out s hs; omega)).mono ?_
  rintro e w8 ⟨rfl, hb2⟩
  have hx10 := hx9.trans (hb2.mono hx9.size)
  go_wp2_with fail
  refine ⟨rfl, Reg.Kp.of_gr hb2, ?_⟩
  clear hb2 hx9 HM9 HS9
  refine Reg.wpR_hoist [18, 19, 20, 21, 22, 23, 24] 0 rfl (by kernel_rfl) (by kernel_rfl) (fun u => ?_)
  simp only [Reg.pickL, List.drop]
  repeat (go_big_quiet_step ((first | fail)))
  refine wpQuiet_nil ?_
  refine Reg.wpR_end (by kernel_rfl) (fun x3 hN => ?_)
  go_wp2_with fail
  go_ret
  exact ⟨rfl, hx10.trans (Below.mono hN hx10.size)⟩

namespace ptells
open Go.ChangeShapes Go.WideShapes Go.ChangeAt

theorem contract {H : Type} (enc : TypeId × Value → H) (W : World) (base : Nat) (args : Array Value) (ds : List (DataW H)) (ps : List MemPlace)
    (hval : ∀ (j : Nat) t v, Try.f3.params[j]? = some t → args[j]? = some v → Value.okWide Try.checked.prog W .any base t v)
    (hA : DataW.TrodAll enc Try.checked.prog W 0 (fun _ => true) true Try.f3.params.toList args.toList ds ps) (hlt : ∀ x ∈ ps, x.block < W.heap.size) :
    Calls Try.checked.prog 3 args W fun e W' => e = .returned (.bool true) ∧ Below W.heap.size W W' := by
  rw [Try.params3] at hA hval
  obtain ⟨v0, vs0, d0, ds0, p0, q0, ea, rfl, rfl, h0, hA⟩ := trodAll_cons hA
  obtain ⟨v1, vs1, d1, ds1, p1, q1, rfl, rfl, rfl, h1, hA⟩ := trodAll_cons hA
  obtain ⟨rfl, rfl, rfl⟩ := trodAll_nil hA
  obtain rfl : args = #[v0, v1] := by cases args; simp_all
  have _ := hlt
  obtain ⟨a, b, n, m, c, d, vs, ps, rfl, h1, h2, h3, h4, h5, h6, _, _⟩ := open_path (hval 0 _ _ rfl rfl) h0
  obtain ⟨i, rfl⟩ := okWide_int Try.underlying3 (hval 1 _ _ rfl rfl)
  unfold maxLen at h2 h4
  exact ltells_any a b n m c d i vs ps W h3 (by unfold maxLen; omega) (by omega) (by omega) h5 h6

set_option maxRecDepth 100000 in
theorem lifted (os : Os) (started : os.Started) (H : Type) (enc : TypeId × Value → H) :
    ReturnsInHanded {} Try.checked os 3 .any (Rows.pathTellsSpec.pre6 enc Try.prog Try.f3 [] false) (Rows.pathTellsSpec.post enc Try.prog Try.f3 false true false false) :=
  law_lift (bT := 4) started (by kernel_rfl) Try.func3 rfl (by kernel_rfl) (by kernel_rfl) (by kernel_rfl) (fun ds h => by match ds, h with | [_, _], _ => rfl)
    (ChangeSpec.witness6 (enc := enc) (C := Try.checked) false ⟨#[], #[.agg #[.slice none 0 0, .slice none 0 0], .int .i64 0], []⟩ 8 (by kernel_rfl) (by kernel_rfl) (by kernel_rfl) (by kernel_rfl))
    (fun W base args ds ps hval hA hlt => contract enc W base args ds ps hval hA hlt)

theorem holds : Rows.PathTellsSaid :=
  OpenClaim.holds_of_wide 3 Try.f3 rfl rfl rfl rfl rfl rfl rfl ⟨rfl, rfl, rfl, rfl, rfl⟩ rfl rfl rfl rfl rfl (by kernel_rfl) Try.func3 (by kernel_rfl)
    (of_decide_eq_true (by kernel_rfl)) (by unfold Func.isWrapper; first | (rw [if_pos (by decide +kernel)]; kernel_rfl) | (rw [if_neg (by decide +kernel)]; exact ⟨rfl, rfl⟩))
    (fun os started H enc _ => lifted os started H enc)
end ptells
end Go.Proofs.Ytjkpbkcbimojoaa
