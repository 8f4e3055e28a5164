/- PathErrors: of a path that may be, a point less, and one more, are too few, too many; a verb that is none, and one that begins no subpath, are told ahead of these. -/
import Derived.Test.YtjkpbkcbimojoaaPo
import Derived.Test.YtjkpbkcbimojoaaOpenc
namespace Go.Proofs.Ytjkpbkcbimojoaa
open Go.RowKit

set_option maxRecDepth 100000 in
set_option maxHeartbeats 4000000 in
theorem lerrors_any (a b : Option Addr) (n m c d : Nat) (verb : Int) (vs : List Int) (ps : List (Int × Int)) (w : World) (hnd : b = none → m = 0 ∧ d = 0) (hnc : a = none → n = 0 ∧ c = 0)
    (hn : n ≤ 9223372036854775807) (hm : m ≤ 9223372036854775807) (hmd : m ≤ d) (hv : RInts w w.heap.size a n vs) (hp : RPts w w.heap.size b m ps) :
    Calls Try.prog 5 #[.agg #[.slice a n c, .slice b m d], .int .i64 verb] w fun e w' => e = .returned (.bool true) ∧ Below w.heap.size w w' := by
  have KB := Lib.hid (fun W => bounded_any a b n m c d W hn hm)
  cases hbd : decide (n ≤ 520) && decide (m ≤ 1600)
  · rw [hbd] at KB
    clear hnd hnc hv hp
    go_enter Try.func5, Try.ntmps5
    go_wp2_with (first | (go_at_call 9; refine (calls_from (by first | assumption | exact Below.refl _ _) (KB.out _)).mono ?_; rintro e w2 ⟨rfl, hb2⟩; have hc2 := (bcell hb2).1; have hf2 := (bcell hb2).2) | (go_at_call 10; refine (calls_from (by first | assumption | exact Below.refl _ _) (shown_any _)).mono ?_; rintro e w2 ⟨rfl, hb2⟩; have hc2 := (bcell hb2).1; have hf2 := (bcell hb2).2))
    go_ret
    exact ⟨rfl, by (first | ((repeat (first | exact Below.refl _ _ | assumption | refine Below.drew ?_ | refine Below.setCell ?_ (by simp; try omega) _ | refine Below.alloc ?_ (by simp; try omega) _)); done) | exact Below.trans (by (repeat (first | exact Below.refl _ _ | assumption | refine Below.drew ?_ | refine Below.setCell ?_ (by simp; try omega) _ | refine Below.alloc ?_ (by simp; try omega) _))) (hb2.mono (by simp; try omega)))⟩
  rw [hbd] at KB
  have hbd2 := hbd
  simp only [Bool.and_eq_true, decide_eq_true_eq] at hbd2
  obtain ⟨hn5, hm6⟩ := hbd2
  clear hbd
  by_cases h5 : n ≤ 500
  · by_cases hck : checkS vs ps = 0
    · exact lerrors_main a b n m c d verb vs ps w hnd hnc h5 hm6 hmd hv hp hck
    · have hc1 : (checkS vs ps != 0) = true := by simpa using hck
      have KC := Lib.hid (fun W (hW : Below w.heap.size w W) => check_any a b n m c d vs ps W (by omega) (hv.grow hW) (hp.grow hW))
      have s1 := Blk.new w 25 #[.slice a n c, .slice b m d]
      clear hnd hnc hv hp hck
      go_enter Try.func5, Try.ntmps5
      go_wp2_with fail
      refine (KB.out _).mono ?_
      rintro e w2 ⟨rfl, hb2⟩
      have hx2 : Below w.heap.size w w2 := Below.trans (by (repeat (first | exact Below.refl _ _ | assumption | refine Below.drew ?_ | refine Below.setCell ?_ (by simp; try omega) _ | refine Below.alloc ?_ (by simp; try omega) _))) (hb2.mono (by simp))
      replace s1 := s1.grow hb2
      clear hb2
      have l1 := s1.lt
      have g0 : w2.cell? ⟨w.heap.size, 0, none⟩ = some (.slice a n c) := s1.cell 0
      have g1 : w2.cell? ⟨w.heap.size, 1, none⟩ = some (.slice b m d) := s1.cell 1
      go_wp2_with fail
      refine (KC.out _ hx2).mono ?_
      rintro e w3 ⟨rfl, hb2⟩
      have hx3 := hx2.trans (hb2.mono hx2.size)
      clear hb2 hx2 g0 g1 l1
      go_wp2_with fail
      refine (shown_any _).mono ?_
      rintro e w4 ⟨rfl, hb2⟩
      go_wp2_with fail
      go_ret
      exact ⟨rfl, hx3.trans (hb2.mono hx3.size)⟩
  · have h5' : (500 : Int) < n := by omega
    have s1 := Blk.new w 25 #[.slice a n c, .slice b m d]
    clear hnd hnc hv hp h5
    go_enter Try.func5, Try.ntmps5
    go_wp2_with fail
    refine (KB.out _).mono ?_
    rintro e w2 ⟨rfl, hb2⟩
    have hx2 : Below w.heap.size w w2 := Below.trans (by (repeat (first | exact Below.refl _ _ | assumption | refine Below.drew ?_ | refine Below.setCell ?_ (by simp; try omega) _ | refine Below.alloc ?_ (by simp; try omega) _))) (hb2.mono (by simp))
    replace s1 := s1.grow hb2
    clear hb2
    have l1 := s1.lt
    have g0 : w2.cell? ⟨w.heap.size, 0, none⟩ = some (.slice a n c) := s1.cell 0
    go_wp2_with fail
    refine (shown_any _).mono ?_
    rintro e w4 ⟨rfl, hb2⟩
    go_wp2_with fail
    go_ret
    exact ⟨rfl, hx2.trans (hb2.mono hx2.size)⟩

namespace perrors
open Go.ChangeShapes Go.WideShapes Go.ChangeAt

theorem contract {H : Type} (enc : TypeId × Value → H) (W : World) (base : Nat) (args : Array Value) (ds : List (DataW H)) (ps : List MemPlace)
    (hval : ∀ (j : Nat) t v, Try.f5.params[j]? = some t → args[j]? = some v → Value.okWide Try.checked.prog W .any base t v)
    (hA : DataW.TrodAll enc Try.checked.prog W 0 (fun _ => true) true Try.f5.params.toList args.toList ds ps) (hlt : ∀ x ∈ ps, x.block < W.heap.size) :
    Calls Try.checked.prog 5 args W fun e W' => e = .returned (.bool true) ∧ Below W.heap.size W W' := by
  rw [Try.params5] at hA hval
  obtain ⟨v0, vs0, d0, ds0, p0, q0, ea, rfl, rfl, h0, hA⟩ := trodAll_cons hA
  obtain ⟨v1, vs1, d1, ds1, p1, q1, rfl, rfl, rfl, h1, hA⟩ := trodAll_cons hA
  obtain ⟨rfl, rfl, rfl⟩ := trodAll_nil hA
  obtain rfl : args = #[v0, v1] := by cases args; simp_all
  have _ := hlt
  obtain ⟨a, b, n, m, c, d, vs, ps, rfl, h1, h2, h3, h4, h5, h6, h7, h8⟩ := open_path (hval 0 _ _ rfl rfl) h0
  obtain ⟨i, rfl⟩ := okWide_int Try.underlying3 (hval 1 _ _ rfl rfl)
  unfold maxLen at h2 h4
  exact lerrors_any a b n m c d i vs ps W h8 h7 (by omega) (by omega) h3 h5 h6

set_option maxRecDepth 100000 in
theorem lifted (os : Os) (started : os.Started) (H : Type) (enc : TypeId × Value → H) :
    ReturnsInHanded {} Try.checked os 5 .any (Rows.pathErrorsSpec.pre6 enc Try.prog Try.f5 [] false) (Rows.pathErrorsSpec.post enc Try.prog Try.f5 false true false false) :=
  law_lift (bT := 4) started (by kernel_rfl) Try.func5 rfl (by kernel_rfl) (by kernel_rfl) (by kernel_rfl) (fun ds h => by match ds, h with | [_, _], _ => rfl)
    (ChangeSpec.witness6 (enc := enc) (C := Try.checked) false ⟨#[], #[.agg #[.slice none 0 0, .slice none 0 0], .int .i64 0], []⟩ 8 (by kernel_rfl) (by kernel_rfl) (by kernel_rfl) (by kernel_rfl))
    (fun W base args ds ps hval hA hlt => contract enc W base args ds ps hval hA hlt)

theorem holds : Rows.PathErrorsSaid :=
  OpenClaim.holds_of_wide 5 Try.f5 rfl rfl rfl rfl rfl rfl rfl ⟨rfl, rfl, rfl, rfl, rfl⟩ rfl rfl rfl rfl rfl (by kernel_rfl) Try.func5 (by kernel_rfl)
    (of_decide_eq_true (by kernel_rfl)) (by unfold Func.isWrapper; first | (rw [if_pos (by decide +kernel)]; kernel_rfl) | (rw [if_neg (by decide +kernel)]; exact ⟨rfl, rfl⟩))
    (fun os started H enc _ => lifted os started H enc)
end perrors
end Go.Proofs.Ytjkpbkcbimojoaa
