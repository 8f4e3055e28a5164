/- Contracts of package tangent, sixth part: the iterator over a segment's legs. -/
import Derived.RangeFuncNested
import Derived.RangeFuncBound
import Derived.RangeFuncCalls
import Derived.RangeFuncLeaves
import Derived.Shelf.Abstract
import Derived.Shelf.RegionOpen
import Derived.WalkKit
import Derived.OwnWalkIn
import Derived.TacticsInMore
import Derived.LoopNIn
import Derived.LoopIn
import Derived.Test.YtpfeegmifcodfaaTb
namespace Go.Proofs.Ytpfeegmifcodfaa
open Go.RowKit Go.Shelf
attribute [local go_sem] Oper.semAt_some

/-- A leg: where it ends, and its vector. -/
abbrev Leg := (Int × Int) × (Int × Int)
def LegOK (x : Leg) : Prop := (C28 x.1.1 ∧ C28 x.1.2) ∧ (-536870912 ≤ x.2.1 ∧ x.2.1 ≤ 536870912) ∧ (-536870912 ≤ x.2.2 ∧ x.2.2 ≤ 536870912)
/-- A leg whose numbers are bounded. -/
abbrev SLeg := { x : Leg // LegOK x }
abbrev legEnc (x : Leg) : Array Value := #[.agg #[.int .i64 x.1.1, .int .i64 x.1.2], .agg #[.int .i64 x.2.1, .int .i64 x.2.2]]
def legAt (px py : Nat → Int) (k : Nat) : Leg := ((px (k + 1), py (k + 1)), (px (k + 1) - px k, py (k + 1) - py k))
theorem legAt_ok {px py : Nat → Int} (hC : ∀ k, C28 (px k) ∧ C28 (py k)) (k : Nat) : LegOK (legAt px py k) := by
  have h1 := hC k
  have h2 := hC (k + 1)
  unfold LegOK legAt C28 at *
  simp only
  omega
def legS (px py : Nat → Int) (hC : ∀ k, C28 (px k) ∧ C28 (py k)) (k : Nat) : SLeg := ⟨legAt px py k, legAt_ok hC k⟩
def legsF (px py : Nat → Int) (hC : ∀ k, C28 (px k) ∧ C28 (py k)) (n : Nat) : List SLeg := (List.range (n - 1)).map (legS px py hC)
def segF (px py : Nat → Int) (n : Nat) : Array Value := segC n (px 0) (py 0) (px 1) (py 1) (px 2) (py 2) (px 3) (py 3)
theorem legsF_take (px py : Nat → Int) (hC : ∀ k, C28 (px k) ∧ C28 (py k)) (n k : Nat) (hk : k < n - 1) : (legsF px py hC n).take (k + 1) = (legsF px py hC n).take k ++ [legS px py hC k] := by
  rw [take_snoc _ k (by simp [legsF]; omega)]
  simp [legsF]
theorem segF_cell {W : World} {g : Nat} {t : TypeId} {px py : Nat → Int} {n : Nat} (h : Blk W g t (segF px py n)) (k : Nat) (hk : k ≤ 3) : W.cell? ⟨g, k * 2, none⟩ = some (.int .i64 (px k)) ∧ W.cell? ⟨g, k * 2 + 1, none⟩ = some (.int .i64 (py k)) := by
  have e : k = 0 ∨ k = 1 ∨ k = 2 ∨ k = 3 := by omega
  rcases e with rfl | rfl | rfl | rfl
  · exact ⟨h.cell 0, h.cell 1⟩
  · exact ⟨h.cell 2, h.cell 3⟩
  · exact ⟨h.cell 4, h.cell 5⟩
  · exact ⟨h.cell 6, h.cell 7⟩

theorem grownBy_below {A B : World} (h : Below A.heap.size A B) : A.grownBy B none := ⟨h.os, h.tape, h.output, h.size, fun k hk _ => h.block k hk⟩
theorem abides_below {β : Type} {B : Nat} {J : β → World → Prop} (hJ : AbidesFrom B J) {s : β} {X Y : World} (h : J s X) (hb : Below X.heap.size X Y) : J s Y :=
  hJ s X Y none h (grownBy_below hb) (fun _ e => by cases e)

/-- What a round that goes on keeps: one block. -/
def Kept (g : Nat) (A B : World) : Prop := A.heap.size ≤ B.heap.size ∧ B.heap[g]? = A.heap[g]?
theorem kept_t {g : Nat} {A B C : World} (h : Kept g A B) (k : Kept g B C) : Kept g A C := ⟨Nat.le_trans h.1 k.1, k.2.trans h.2⟩
theorem kept_b {g : Nat} {w : World} (hg : g < w.heap.size) (W : World) (l : Nat) (o o' : Obj) (hl : w.heap.size ≤ l) (_ : W.heap[l]? = some o) (_ : o.isCells = false) (_ : o.isWalk = false) : Kept g W (W.putObj l o') :=
  ⟨by simp, World.putObj_heap_other (by omega)⟩

/-- What a round hands back, told by one Bool. -/
def Hands (Y N : World → Prop) (e : Ending) (W' : World) : Prop := ∃ b : Bool, e = .returned (.bool b) ∧ ((b = true → Y W') ∧ (b = false → N W'))

theorem yield_hands {F : Fence} {m : Nat} {P : Program} {l : Nat} {args : Array Value} {W : World} {Y N : World → Prop}
    (h : YieldAt F m P l args W fun e W' => (e = .returned (.bool true) ∧ Y W') ∨ (e = .returned (.bool false) ∧ N W')) : YieldAt F m P l args W (Hands Y N) :=
  h.mono fun e W' h => by
    rcases h with ⟨he, h⟩ | ⟨he, h⟩
    · exact ⟨true, he, fun _ => h, (fun h => by cases h)⟩
    · exact ⟨false, he, (fun h => by cases h), fun _ => h⟩

set_option maxRecDepth 100000 in
set_option maxHeartbeats 2000000 in
theorem legs1_in (m : Nat) (hm : 1 ≤ m) (l Bs n : Nat) (hn2 : 2 ≤ n) (hn4 : n ≤ 4) (px py : Nat → Int) (hC : ∀ k, C28 (px k) ∧ C28 (py k)) (J Jx : List SLeg → World → Prop)
    (hJ : ∀ s X Y, J s X → Below X.heap.size X Y → J s Y)
    (hY : ∀ pre x W, J pre W → pre.length < n - 1 → YieldAt Fence.wide (m - 1) Try.prog l (legEnc x.1) W fun e W' =>
      (e = .returned (.bool true) ∧ J (pre ++ [x]) W' ∧ Kept Bs W W') ∨ (e = .returned (.bool false) ∧ Jx (pre ++ [x]) W'))
    (W : World) (hS : Blk W Bs 26 (segF px py n)) (h0 : J [] W) :
    CallsIn Fence.wide m Try.prog 38 #[.func (.yield l) #[] #[], .pointer (some ⟨Bs, 0, none⟩)] W fun e W' => (∃ v, e = .returned v) ∧
      ((∃ ys, ys = legsF px py hC n ∧ J ys W') ∨ (∃ pre, pre <+: legsF px py hC n ∧ Jx pre W')) := by
  have g8 : W.cell? ⟨Bs, 8, none⟩ = some (.int .i64 n) := hS.cell 8
  have hi1 : (1 : Int) ≤ (n : Int) := by omega
  have hi2 : (n : Int) ≤ 4 := by omega
  refine callsIn_of_wp Try.func38 rfl trivial ?_ rfl
  simp only [Try.ntmps38, List.size_toArray, List.length_cons, List.length_nil, Nat.reduceAdd, Nat.reduceSub, Array.replicate_succ, Array.replicate_zero, List.push_toArray, List.append_toArray, List.nil_append, List.cons_append]
  gi_wp2
  clear g8
  have HY := Lib.hid hY
  have HJ := Lib.hid hJ
  have HC := Lib.hid hC
  clear hY hJ
  gi_loopw [10] (fun i wr => ∃ k : Nat, k ≤ n - 1 ∧ i = .int .i64 k ∧ J ((legsF px py hC n).take k) wr ∧ Blk wr Bs 26 (segF px py n)) (fun i _ => (n - 1) - (intOf i).toNat)
  case atStart => exact ⟨0, Nat.zero_le _, rfl, h0, hS⟩
  case round =>
    clear hS h0
    obtain ⟨k, hk, rfl, hJs, hS⟩ := hrel
    have hlS := hS.lt
    by_cases hlt : k < n - 1
    · obtain ⟨gx, gy⟩ := segF_cell hS (k + 1) (by omega)
      obtain ⟨px', py'⟩ := segF_cell hS k (by omega)
      have e2 : (k + 1) * 2 = 2 + k * 2 := by omega
      rw [e2] at gx gy
      clear e2
      obtain ⟨⟨c1, c2⟩, ⟨c3, c4⟩⟩ := HC.out k
      obtain ⟨⟨c5, c6⟩, ⟨c7, c8⟩⟩ := HC.out (k + 1)
      have HT := Lib.hid (legsF_take px py hC n k hlt)
      have hlen : ((legsF px py hC n).take k).length < n - 1 := by rw [List.length_take]; omega
      have hmx : Try.prog.follows .mixedOrders = true := by kernel_rfl
      have hk4 : (k : Int) < 4 := by omega
      have hk0 : (0 : Int) ≤ (k : Int) := by omega
      gi_wp2
      gi_region_with_o (first
        | (refine ⟨trivial, ?_⟩
           gi_at_call 29
           refine (callsIn_wide.2 (sub_any _ _ _ _ _ (by omega) (by omega) (by omega) (by omega) (by omega) (by omega) (by omega) (by omega))).mono ?_
           rintro e w2 ⟨rfl, hb2⟩
           obtain ⟨hc2, hf2⟩ := bcell hb2
           have hb4 : Below wr.heap.size wr w2 := Below.trans (by (repeat (first | exact Below.refl _ _ | assumption | refine Below.drew ?_ | refine Below.setCell ?_ (by simp; try omega) _ | refine Below.alloc ?_ (by simp; try omega) _))) (hb2.mono (by simp))
           obtain ⟨fn, tmps, assign, body, hy, hR2⟩ := yield_hands (HY.out _ (legS px py hC k) w2 (HJ.out _ _ _ hJs hb4) hlen)
           dsimp only [legEnc, legS, legAt] at hy)
        | (refine hR2.mono ?_
           clear hR2
           rintro e W3 ⟨bb, rfl, hh⟩))
      all_goals
        cases bb
        · have hN := hh.2 rfl
          clear hh
          gi_wp2
          refine bodyPost_ret (results_none rfl _ _ _) rfl ?_
          exact ⟨⟨_, rfl⟩, .inr ⟨_, by rw [← HT.out]; exact List.take_prefix _ _, hN⟩⟩
        · obtain ⟨hJ3, hk3⟩ := hh.1 rfl
          clear hh
          gi_wp2
          refine ⟨⟨k + 1, by omega, by go_num, by rw [HT.out]; exact hJ3, ?_⟩, by simp [intOf]; omega⟩
          exact hk3.2.trans (hS.grow hb4)
    · have hkn : k = n - 1 := by omega
      subst hkn
      gi_wp2
      go_end0
      refine ⟨⟨_, rfl⟩, .inl ⟨_, rfl, ?_⟩⟩
      rw [List.take_of_length_le (by simp [legsF])] at hJs
      exact hJs

end Go.Proofs.Ytpfeegmifcodfaa
