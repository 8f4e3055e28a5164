/- Contract of the reference's Split, for every path. -/
import Derived.Test.YtjkpbkcbimojoaaPv
namespace Go.Proofs.Ytjkpbkcbimojoaa
open Go.RowKit

theorem Reg.aftT_below (w : World) (u : Option World) (z : World) : Below w.heap.size w (Reg.aftK (fun _ => True) w u z) := by
  have h := Reg.kp_aft (fun _ => True) w u z
  exact ⟨h.os, h.tape, h.output, h.size, fun k hk => h.block k hk trivial⟩

set_option maxHeartbeats 1000000 in
theorem rsplit_any (a b : Option Addr) (n m c d : Nat) (vs : List Int) (ps : List (Int × Int)) (w : World) (hmd : m ≤ d) (hd : d ≤ maxLen)
    (hm : m ≤ 9223372036854775807 / 2) (hv : RInts w w.heap.size a n vs) (hp : RPts w w.heap.size b m ps) :
    Calls Try.prog 12 #[.agg #[.slice a n c, .slice b m d]] w (SplitPost w (splitS vs ps) (checkS vs ps)) := by
  by_cases h0 : checkS vs ps = 0
  · exact rsplit_ok a b n m c d vs ps w hmd hd hm hv hp h0
  · have KC := Lib.hid (fun W (hW : Below w.heap.size w W) => rcheck_any a b n m c d vs ps W hm (hv.grow hW) (hp.grow hW))
    have HE : Hid (splitS vs ps = []) := Lib.hid (by unfold splitS; rw [if_neg h0])
    have h1 : (checkS vs ps != 0) = true := by simpa using h0
    clear h0
    go_enter Try.func12, Try.ntmps12
    go_wp2_with fail
    refine (KC.out _ ((Below.refl _ w).alloc (Nat.le_refl _) (.cells #[.slice a n c, .slice b m d] 35))).mono ?_
    rintro e w2 ⟨rfl, hb2⟩
    go_wp2_with fail
    go_ret2
    exact ⟨none, 0, by rw [HE.out]; rfl, by rw [HE.out]; exact Nat.le_refl _, by rw [HE.out]; exact RSubs.nil _ _ _, ((Below.refl _ w).alloc (Nat.le_refl _) (.cells #[.slice a n c, .slice b m d] 35)).trans (hb2.mono (by simp))⟩
end Go.Proofs.Ytjkpbkcbimojoaa
