/- Contracts: the sums of points, slices.Clone of numbers and of points. -/
import Derived.Test.YtjkpbkcbimojoaaQa
import Derived.Test.YtjkpbkcbimojoaaApp
import Derived.Test.YtjkpbkcbimojoaaRegd
import Derived.WalkSpells
namespace Go.Proofs.Ytjkpbkcbimojoaa
open Go.RowKit

theorem infoI2 : (Try.prog.info? 3).map (fun i => (i.zero, i.size, i.bytes)) = some (some (.int .i64 0), 1, 8) := by kernel_rfl
theorem infoP2 : (Try.prog.info? 44).map (fun i => (i.zero, i.size, i.bytes)) = some (some (.agg #[.int .i64 0, .int .i64 0]), 2, 16) := by kernel_rfl

set_option maxHeartbeats 400000 in
theorem vadd_any (x y x' y' : Int) (w : World) (h1 : -1073741824 ≤ x) (h2 : x ≤ 1073741824) (h3 : -1073741824 ≤ y) (h4 : y ≤ 1073741824)
    (k1 : -1073741824 ≤ x') (k2 : x' ≤ 1073741824) (k3 : -1073741824 ≤ y') (k4 : y' ≤ 1073741824) :
    Calls Try.prog 39 #[.agg #[.int .i64 x, .int .i64 y], .agg #[.int .i64 x', .int .i64 y']] w fun e w' => e = .returned (.agg #[.int .i64 (x + x'), .int .i64 (y + y')]) ∧ Below w.heap.size w w' := by
  go_enter Try.func39, Try.ntmps39
  go_wp2
  refine bodyPost_ret (v := .agg #[.int .i64 (x + x'), .int .i64 (y + y')]) (by simp [results, Try.results39, go_sem]) rfl ⟨rfl, by (repeat (first | exact Below.refl _ _ | assumption | refine Below.drew ?_ | refine Below.setCell ?_ (by simp; try omega) _ | refine Below.alloc ?_ (by simp; try omega) _))⟩
set_option maxHeartbeats 400000 in
theorem radd_any (x y x' y' : Int) (w : World) (h1 : -1073741824 ≤ x) (h2 : x ≤ 1073741824) (h3 : -1073741824 ≤ y) (h4 : y ≤ 1073741824)
    (k1 : -1073741824 ≤ x') (k2 : x' ≤ 1073741824) (k3 : -1073741824 ≤ y') (k4 : y' ≤ 1073741824) :
    Calls Try.prog 24 #[.agg #[.int .i64 x, .int .i64 y], .agg #[.int .i64 x', .int .i64 y']] w fun e w' => e = .returned (.agg #[.int .i64 (x + x'), .int .i64 (y + y')]) ∧ Below w.heap.size w w' := by
  go_enter Try.func24, Try.ntmps24
  go_wp2
  refine bodyPost_ret (v := .agg #[.int .i64 (x + x'), .int .i64 (y + y')]) (by simp [results, Try.results24, go_sem]) rfl ⟨rfl, by (repeat (first | exact Below.refl _ _ | assumption | refine Below.drew ?_ | refine Below.setCell ?_ (by simp; try omega) _ | refine Below.alloc ?_ (by simp; try omega) _))⟩

set_option maxHeartbeats 2000000 in
theorem clonei_any (a : Option Addr) (n c : Nat) (vs : List Int) (w : World) (hn : n ≤ 1000000) (hnil : a = none → n = 0 ∧ c = 0) (hv : RInts w w.heap.size a n vs) :
    Calls Try.prog 37 #[.slice a n c] w fun e w' => ∃ v, e = .returned v ∧ w'.ownsRow w.heap.size 3 1 v n (intsV vs) ∧ Below w.heap.size w w' := by
  obtain ⟨iI, hiI, hz0I, hz1I, hz2I⟩ := info_parts infoI2
  have hnl := hv.1
  have HV := Lib.hid hv
  have HN := Lib.hid hnil
  clear hv hnil
  cases a with
  | none =>
    obtain ⟨rfl, rfl⟩ := HN.out rfl
    have hvs : vs = [] := List.eq_nil_of_length_eq_zero hnl
    subst hvs
    have qn : ∀ w : World, (binOp .eql 22 (.slice none 0 0) (.slice none 0 0)).run Try.prog w = .ok (.bool true) w := fun w => Lib.run_eql_slice_nil w _ 3 none 0 0 0 0 Try.underlying22
    go_enter Try.func37, Try.ntmps37
    go_wp2_with fail
    go_ret
    exact ⟨_, rfl, World.ownsRow_nil _ _ _ _, by (repeat (first | exact Below.refl _ _ | assumption | refine Below.drew ?_ | refine Below.setCell ?_ (by simp; try omega) _ | refine Below.alloc ?_ (by simp; try omega) _))⟩
  | some ad =>
    have qn : ∀ w : World, (binOp .eql 22 (.slice (some ad) n c) (.slice none 0 0)).run Try.prog w = .ok (.bool false) w := fun w => Lib.run_eql_slice_nil w _ 3 (some ad) n c 0 0 Try.underlying22
    go_enter Try.func37, Try.ntmps37
    go_wp2_with (at_builtin; refine wpList_append_src rfl _ _ 22 rfl w.heap.size 3 iI _ 1 8 Try.underlying22 hiI hz0I hz1I hz2I rfl (by decide) _ _ _ rfl (own_empty w w.heap.size 3 1 (Nat.le_refl _)) (some ad) n c (intsV vs) rfl HN.out ?c0 ?c1 ?c2 ?c3 ?c4 ?c5 ?_)
    case c0 => simp [intsV, hnl]
    case c1 => exact (HV.out.below ((Below.refl _ w).alloc (Nat.le_refl _) (.cells #[] 3))).news
    case c2 => exact intsV_one _
    case c3 => unfold maxLen; omega
    case c4 => omega
    case c5 => simp
    intro v' w8 hown hg
    obtain ⟨a8, c8, rfl, _⟩ := own_slice hown
    have hb := ((Below.refl w.heap.size w).alloc (Nat.le_refl _) (.cells #[] 3)).grown hg (by simp) (fun q hq => by simp [Value.ownBlock] at hq; omega)
    have HO := Lib.hid hown
    clear hown hg
    go_wp2_with fail
    go_ret
    exact ⟨_, rfl, HO.out, hb⟩
set_option maxHeartbeats 2000000 in
theorem clonep_any (a : Option Addr) (n c : Nat) (ps : List (Int × Int)) (w : World) (hn : n ≤ 1000000) (hnil : a = none → n = 0 ∧ c = 0) (hv : RPts w w.heap.size a n ps) :
    Calls Try.prog 38 #[.slice a n c] w fun e w' => ∃ v, e = .returned v ∧ w'.ownsRow w.heap.size 44 2 v n (ptsV ps) ∧ Below w.heap.size w w' := by
  obtain ⟨iI, hiI, hz0I, hz1I, hz2I⟩ := info_parts infoP2
  have hnl := hv.1
  have HV := Lib.hid hv
  have HN := Lib.hid hnil
  clear hv hnil
  cases a with
  | none =>
    obtain ⟨rfl, rfl⟩ := HN.out rfl
    have hvs : ps = [] := List.eq_nil_of_length_eq_zero hnl
    subst hvs
    have qn : ∀ w : World, (binOp .eql 23 (.slice none 0 0) (.slice none 0 0)).run Try.prog w = .ok (.bool true) w := fun w => Lib.run_eql_slice_nil w _ 44 none 0 0 0 0 Try.underlying23
    go_enter Try.func38, Try.ntmps38
    go_wp2_with fail
    go_ret
    exact ⟨_, rfl, World.ownsRow_nil _ _ _ _, by (repeat (first | exact Below.refl _ _ | assumption | refine Below.drew ?_ | refine Below.setCell ?_ (by simp; try omega) _ | refine Below.alloc ?_ (by simp; try omega) _))⟩
  | some ad =>
    have qn : ∀ w : World, (binOp .eql 23 (.slice (some ad) n c) (.slice none 0 0)).run Try.prog w = .ok (.bool false) w := fun w => Lib.run_eql_slice_nil w _ 44 (some ad) n c 0 0 Try.underlying23
    go_enter Try.func38, Try.ntmps38
    go_wp2_with (at_builtin; refine wpList_append_src rfl _ _ 23 rfl w.heap.size 44 iI _ 2 16 Try.underlying23 hiI hz0I hz1I hz2I rfl (by decide) _ _ _ rfl (own_empty w w.heap.size 44 2 (Nat.le_refl _)) (some ad) n c (ptsV ps) rfl HN.out ?c0 ?c1 ?c2 ?c3 ?c4 ?c5 ?_)
    case c0 => rw [ptsV_length, hnl]
    case c1 => exact (HV.out.below ((Below.refl _ w).alloc (Nat.le_refl _) (.cells #[] 44))).news
    case c2 => exact ptsV_one _
    case c3 => unfold maxLen; omega
    case c4 => omega
    case c5 => simp
    intro v' w8 hown hg
    obtain ⟨a8, c8, rfl, _⟩ := own_slice hown
    have hb := ((Below.refl w.heap.size w).alloc (Nat.le_refl _) (.cells #[] 44)).grown hg (by simp) (fun q hq => by simp [Value.ownBlock] at hq; omega)
    have HO := Lib.hid hown
    clear hown hg
    go_wp2_with fail
    go_ret
    exact ⟨_, rfl, HO.out, hb⟩
end Go.Proofs.Ytjkpbkcbimojoaa
