/- PathBack: the subpaths of a path, joined, split into the same ones. -/
import Derived.Test.YtjkpbkcbimojoaaPz
import Derived.Test.YtjkpbkcbimojoaaPj
import Derived.Test.YtjkpbkcbimojoaaPl
import Derived.Test.YtjkpbkcbimojoaaOpenc
namespace Go.Proofs.Ytjkpbkcbimojoaa
open Go.RowKit

set_option maxRecDepth 100000 in
set_option maxHeartbeats 4000000 in
theorem lback_any (a b : Option Addr) (n m c d : Nat) (vs : List Int) (ps : List (Int × Int)) (w : World) (hmd : m ≤ d) (hd : d ≤ maxLen) (hn : n ≤ 9223372036854775807)
    (hm : m ≤ 9223372036854775807) (hv : RInts w w.heap.size a n vs) (hp : RPts w w.heap.size b m ps) :
    Calls Try.prog 6 #[.agg #[.slice a n c, .slice b m d]] w fun e w' => e = .returned (.bool true) ∧ Below w.heap.size w w' := by
  have KB := Lib.hid (fun W => bounded_any a b n m c d W hn hm)
  cases hbd : decide (n ≤ 520) && decide (m ≤ 1600)
  · rw [hbd] at KB
    go_enter Try.func6, Try.ntmps6
    go_wp2_with (first | (go_at_call 9; refine (calls_from (by first | assumption | exact Below.refl _ _) (KB.out _)).mono ?_; rintro e w2 ⟨rfl, hb2⟩; have hc2 := (bcell hb2).1; have hf2 := (bcell hb2).2) | (go_at_call 10; refine (calls_from (by first | assumption | exact Below.refl _ _) (shown_any _)).mono ?_; rintro e w2 ⟨rfl, hb2⟩; have hc2 := (bcell hb2).1; have hf2 := (bcell hb2).2))
    go_ret
    exact ⟨rfl, by (first | ((repeat (first | exact Below.refl _ _ | assumption | refine Below.drew ?_ | refine Below.setCell ?_ (by simp; try omega) _ | refine Below.alloc ?_ (by simp; try omega) _)); done) | exact Below.trans (by (repeat (first | exact Below.refl _ _ | assumption | refine Below.drew ?_ | refine Below.setCell ?_ (by simp; try omega) _ | refine Below.alloc ?_ (by simp; try omega) _))) (hb2.mono (by simp; try omega)))⟩
  rw [hbd] at KB
  have hbd2 := hbd
  simp only [Bool.and_eq_true, decide_eq_true_eq] at hbd2
  obtain ⟨hb1, hb2⟩ := hbd2
  by_cases hl : (250 : Int) < n
  · have hl2 : ¬ (n : Int) ≤ 250 := by omega
    go_enter Try.func6, Try.ntmps6
    go_wp2_with (first | (go_at_call 9; refine (calls_from (by first | assumption | exact Below.refl _ _) (KB.out _)).mono ?_; rintro e w2 ⟨rfl, hb2⟩; have hc2 := (bcell hb2).1; have hf2 := (bcell hb2).2) | (go_at_call 10; refine (calls_from (by first | assumption | exact Below.refl _ _) (shown_any _)).mono ?_; rintro e w2 ⟨rfl, hb2⟩; have hc2 := (bcell hb2).1; have hf2 := (bcell hb2).2))
    go_ret
    exact ⟨rfl, by (first | ((repeat (first | exact Below.refl _ _ | assumption | refine Below.drew ?_ | refine Below.setCell ?_ (by simp; try omega) _ | refine Below.alloc ?_ (by simp; try omega) _)); done) | exact Below.trans (by (repeat (first | exact Below.refl _ _ | assumption | refine Below.drew ?_ | refine Below.setCell ?_ (by simp; try omega) _ | refine Below.alloc ?_ (by simp; try omega) _))) (hb2.mono (by simp; try omega)))⟩
  have hl2 : (n : Int) ≤ 250 := by omega
  have KS := Lib.hid (fun W (hW : Below w.heap.size w W) => split_any a b n m c d vs ps W hmd hd (by omega) (hv.grow hW) (hp.grow hW))
  have HSJ := Lib.hid (split_join (vs := vs) (ps := ps) (by have := hv.1; omega))
  obtain ⟨hsl, hsg⟩ := split_small vs ps
  have HSG := Lib.hid hsg
  have hse : checkS vs ps ≠ 0 → splitS vs ps = [] := fun h => by unfold splitS; rw [if_neg h]
  generalize splitS vs ps = sl at *
  generalize checkS vs ps = er at *
  clear hv hp hsg hbd hb1 hb2
  go_enter Try.func6, Try.ntmps6
  go_wp2_with fail
  refine (KB.out _).mono ?_
  rintro e w2 ⟨rfl, hb2⟩
  have hx2 : Below w.heap.size w w2 := Below.trans (by (repeat (first | exact Below.refl _ _ | assumption | refine Below.drew ?_ | refine Below.setCell ?_ (by simp; try omega) _ | refine Below.alloc ?_ (by simp; try omega) _))) (hb2.mono (by simp))
  have s1 := (Blk.new w 25 #[.slice a n c, .slice b m d]).grow hb2
  clear hb2
  have l1 := s1.lt
  have g0 : w2.cell? ⟨w.heap.size, 0, none⟩ = some (.slice a n c) := s1.cell 0
  have g1 : w2.cell? ⟨w.heap.size, 1, none⟩ = some (.slice b m d) := s1.cell 1
  go_wp2_with fail
  refine (shown_any _).mono ?_
  rintro e w3 ⟨rfl, hb2⟩
  have hx3 := hx2.trans (hb2.mono hx2.size)
  replace s1 := s1.grow hb2
  clear hb2 hx2 g0 g1 l1
  have l1 := s1.lt
  have g0 : w3.cell? ⟨w.heap.size, 0, none⟩ = some (.slice a n c) := s1.cell 0
  have g1 : w3.cell? ⟨w.heap.size, 1, none⟩ = some (.slice b m d) := s1.cell 1
  go_wp2_with fail
  refine (KS.out _ hx3).mono ?_
  rintro e w4 ⟨la, lc, rfl, hlc, hr, hb2⟩
  have hx4 := hx3.trans (hb2.mono hx3.size)
  have HR := Lib.hid hr
  clear hb2 hx3 g0 g1 l1 s1 KB KS hr
  by_cases her : er = 0
  · subst her
    clear hse
    go_wp2_with fail
    refine (join_any la sl.length lc sl _ (by omega) HR.out (fun s hs => by have := HSG.out s hs; omega)).mono ?_
    rintro e w5 ⟨va, vc, pa, pc, rfl, hvc, hpc, hpm, hv, hp, hb2⟩
    have hx5 := hx4.trans (hb2.mono hx4.size)
    have HR5 := Lib.hid (HR.out.grow hb2)
    clear hb2 hx4 HR
    have KS := Lib.hid (split_any va pa (joinVs sl).length (joinPs sl).length vc pc (joinVs sl) (joinPs sl) w5 hpc hpm (by have := (join_le sl (fun s hs => by have := HSG.out s hs; omega)).2; omega) hv hp)
    rw [HSJ.out.1, HSJ.out.2] at KS
    clear hv hp HSJ
    go_wp2_with fail
    refine KS.out.mono ?_
    rintro e w6 ⟨ra, rc, rfl, hrc, hr, hb2⟩
    have hx6 := hx5.trans (hb2.mono hx5.size)
    have HR6 := Lib.hid (HR5.out.grow hb2)
    have HM6 := Lib.hid hr
    clear hb2 hx5 HR5 hr KS
    go_wp2_with fail
    refine (subs_any la sl.length lc sl _ (by omega) HR6.out (fun s hs => by have := HSG.out s hs; omega)).mono ?_
    rintro e w7 ⟨sa, sc, rfl, hsc, hr, hb2⟩
    have hx7 := hx6.trans (hb2.mono hx6.size)
    have HM7 := Lib.hid (HM6.out.grow hb2)
    have HS7 := Lib.hid hr
    clear hb2 hx6 HR6 HM6 hr
    go_wp2_with fail
    refine (subs_any ra sl.length rc sl _ (by omega) HM7.out (fun s hs => by have := HSG.out s hs; omega)).mono ?_
    rintro e w8 ⟨ta, tc, rfl, htc, hr, hb2⟩
    have hx8 := hx7.trans (hb2.mono hx7.size)
    have HS8 := Lib.hid (HS7.out.grow hb2)
    have HT8 := Lib.hid hr
    clear hb2 hx7 HS7 HM7 hr
    go_wp2_with fail
    refine (same_any sa ta sl.length sl.length sc tc sl _ (by omega) HS8.out HT8.out (fun s hs => by have := HSG.out s hs; omega)).mono ?_
    rintro e w9 ⟨rfl, hb2⟩
    have hx9 := hx8.trans (hb2.mono hx8.size)
    clear hb2 hx8 HS8 HT8
    go_wp2_with fail
    go_ret
    exact ⟨rfl, hx9⟩
  · have hs0 := hse her
    subst hs0
    have her2 : (er == 0) = false := by simpa using her
    go_wp2_with fail
    go_ret
    exact ⟨rfl, hx4⟩

namespace pback
open Go.ChangeShapes Go.WideShapes Go.ChangeAt

theorem contract {H : Type} (enc : TypeId × Value → H) (W : World) (base : Nat) (args : Array Value) (ds : List (DataW H)) (ps : List MemPlace)
    (hval : ∀ (j : Nat) t v, Try.f6.params[j]? = some t → args[j]? = some v → Value.okWide Try.checked.prog W .any base t v)
    (hA : DataW.TrodAll enc Try.checked.prog W 0 (fun _ => true) true Try.f6.params.toList args.toList ds ps) (hlt : ∀ x ∈ ps, x.block < W.heap.size) :
    Calls Try.checked.prog 6 args W fun e W' => e = .returned (.bool true) ∧ Below W.heap.size W W' := by
  rw [Try.params6] at hA hval
  obtain ⟨v0, vs0, d0, ds0, p0, q0, ea, rfl, rfl, h0, hA⟩ := trodAll_cons hA
  obtain ⟨rfl, rfl, rfl⟩ := trodAll_nil hA
  obtain rfl : args = #[v0] := by cases args; simp_all
  have _ := hlt
  obtain ⟨a, b, n, m, c, d, vs, ps, rfl, h1, h2, h3, h4, h5, h6, _, _⟩ := open_path (hval 0 _ _ rfl rfl) h0
  unfold maxLen at h2 h4
  exact lback_any a b n m c d vs ps W h3 (by unfold maxLen; omega) (by omega) (by omega) h5 h6

set_option maxRecDepth 100000 in
theorem lifted (os : Os) (started : os.Started) (H : Type) (enc : TypeId × Value → H) :
    ReturnsInHanded {} Try.checked os 6 .any (Rows.pathBackSpec.pre6 enc Try.prog Try.f6 [] false) (Rows.pathBackSpec.post enc Try.prog Try.f6 false true false false) :=
  law_lift (bT := 4) started (by kernel_rfl) Try.func6 rfl (by kernel_rfl) (by kernel_rfl) (by kernel_rfl) (fun ds h => by match ds, h with | [_], _ => rfl)
    (ChangeSpec.witness6 (enc := enc) (C := Try.checked) false ⟨#[], #[.agg #[.slice none 0 0, .slice none 0 0]], []⟩ 8 (by kernel_rfl) (by kernel_rfl) (by kernel_rfl) (by kernel_rfl))
    (fun W base args ds ps hval hA hlt => contract enc W base args ds ps hval hA hlt)

theorem holds : Rows.PathBackSaid :=
  OpenClaim.holds_of_wide 6 Try.f6 rfl rfl rfl rfl rfl rfl rfl ⟨rfl, rfl, rfl, rfl, rfl⟩ rfl rfl rfl rfl rfl (by kernel_rfl) Try.func6 (by kernel_rfl)
    (of_decide_eq_true (by kernel_rfl)) (by unfold Func.isWrapper; first | (rw [if_pos (by decide +kernel)]; kernel_rfl) | (rw [if_neg (by decide +kernel)]; exact ⟨rfl, rfl⟩))
    (fun os started H enc _ => lifted os started H enc)
end pback
end Go.Proofs.Ytjkpbkcbimojoaa
