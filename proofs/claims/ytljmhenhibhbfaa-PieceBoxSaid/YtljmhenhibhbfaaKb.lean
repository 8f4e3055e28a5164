/- Contracts: the iterator over a piece's sides. -/
import Derived.RangeFuncNested
import Derived.RangeFuncBound
import Derived.RangeFuncCalls
import Derived.RangeFuncLeaves
import Derived.Shelf.Abstract
import Derived.Shelf.RegionOpen
import Derived.WalkKit
import Derived.OwnWalkIn
import Derived.TacticsInMore
import Derived.LoopNIn
import Derived.LoopIn
import Derived.Test.YtljmhenhibhbfaaKa
import Derived.Test.YtljmhenhibhbfaaBlk
namespace Go.Proofs.Ytljmhenhibhbfaa
open Go.RowKit Go.Shelf
attribute [local go_sem] Oper.semAt_some

abbrev Pt2 := (Int × Int) × (Int × Int)
/-- A side whose numbers are bounded. -/
abbrev SSide := { x : Pt2 // nearK x.1 ∧ nearK x.2 }
abbrev sideEnc (x : Pt2) : Array Value := #[.agg #[.int .i64 x.1.1, .int .i64 x.1.2], .agg #[.int .i64 x.2.1, .int .i64 x.2.2]]
theorem ptK_near {l : List (Int × Int)} (h : ∀ q ∈ l, nearK q) (i : Nat) : nearK (ptK l i) := by
  rcases Nat.lt_or_ge i l.length with k | k
  · exact h _ (ptK_mem k)
  · unfold ptK
    rw [List.getD_eq_getElem?_getD, List.getElem?_eq_none k]
    exact ⟨⟨by decide, by decide⟩, ⟨by decide, by decide⟩⟩
def sideN (l : List (Int × Int)) (hC : ∀ q ∈ l, nearK q) (k : Nat) : SSide := ⟨sideK l k, ptK_near hC _, ptK_near hC _⟩
def sidesN (l : List (Int × Int)) (hC : ∀ q ∈ l, nearK q) : List SSide := (List.range l.length).map (sideN l hC)
theorem sidesN_take (l : List (Int × Int)) (hC : ∀ q ∈ l, nearK q) (k : Nat) (hk : k < l.length) : (sidesN l hC).take (k + 1) = (sidesN l hC).take k ++ [sideN l hC k] := by
  rw [take_snoc _ k (by simp [sidesN]; omega)]
  simp [sidesN]
theorem sidesN_val (l : List (Int × Int)) (hC : ∀ q ∈ l, nearK q) : (sidesN l hC).map (fun x => x.1) = sidesK l := by simp [sidesN, sidesK, sideN]

theorem grownBy_below {A B : World} (h : Below A.heap.size A B) : A.grownBy B none := ⟨h.os, h.tape, h.output, h.size, fun k hk _ => h.block k hk⟩
theorem abides_below {β : Type} {B : Nat} {J : β → World → Prop} (hJ : AbidesFrom B J) {s : β} {X Y : World} (h : J s X) (hb : Below X.heap.size X Y) : J s Y :=
  hJ s X Y none h (grownBy_below hb) (fun _ e => by cases e)

/-- What a round that goes on keeps: the blocks below B, and one more. -/
def Kept (B g : Nat) (X Y : World) : Prop := X.heap.size ≤ Y.heap.size ∧ (∀ k, k < B → Y.heap[k]? = X.heap[k]?) ∧ Y.heap[g]? = X.heap[g]?
theorem kept_t {B g : Nat} {X Y Z : World} (h : Kept B g X Y) (k : Kept B g Y Z) : Kept B g X Z := ⟨Nat.le_trans h.1 k.1, fun i hi => (k.2.1 i hi).trans (h.2.1 i hi), k.2.2.trans h.2.2⟩
theorem kept_b {B g : Nat} {w : World} (hg : g < w.heap.size) (hB : B ≤ w.heap.size) (W : World) (l : Nat) (o o' : Obj) (hl : w.heap.size ≤ l) (_ : W.heap[l]? = some o) (_ : o.isCells = false) (_ : o.isWalk = false) : Kept B g W (W.putObj l o') :=
  ⟨by simp, fun k hk => World.putObj_heap_other (by omega), World.putObj_heap_other (by omega)⟩
theorem RPts.kept {B g : Nat} {X Y : World} {a : Option Addr} {n : Nat} {l : List (Int × Int)} (h : RPts X B a n l) (hk : Kept B g X Y) : RPts Y B a n l :=
  ⟨h.1, fun k p hp => by
    obtain ⟨b, off, h1, h2, h3, h4⟩ := h.2 k p hp
    have e := hk.2.1 b h2
    refine ⟨b, off, h1, h2, ?_, ?_⟩
    · rw [← h3]; unfold World.cell?; simp only [e]
    · rw [← h4]; unfold World.cell?; simp only [e]⟩

/-- What a round hands back, told by one Bool. -/
def Hands (Y N : World → Prop) (e : Ending) (W' : World) : Prop := ∃ b : Bool, e = .returned (.bool b) ∧ ((b = true → Y W') ∧ (b = false → N W'))

theorem yield_hands {F : Fence} {m : Nat} {P : Program} {l : Nat} {args : Array Value} {W : World} {Y N : World → Prop}
    (h : YieldAt F m P l args W fun e W' => (e = .returned (.bool true) ∧ Y W') ∨ (e = .returned (.bool false) ∧ N W')) : YieldAt F m P l args W (Hands Y N) :=
  h.mono fun e W' h => by
    rcases h with ⟨he, h⟩ | ⟨he, h⟩
    · exact ⟨true, he, fun _ => h, (fun h => by cases h)⟩
    · exact ⟨false, he, (fun h => by cases h), fun _ => h⟩
theorem RPts.at_ {w : World} {B n : Nat} {a : Option Addr} {l : List (Int × Int)} (h : RPts w B a n l) (k : Nat) (hk : k < l.length) :
    ∃ b off, a = some ⟨b, off, none⟩ ∧ b < B ∧ w.cell? ⟨b, off + k * 2, none⟩ = some (.int .i64 (ptK l k).1) ∧ w.cell? ⟨b, off + k * 2 + 1, none⟩ = some (.int .i64 (ptK l k).2) := by
  have e : ptK l k = l[k] := by unfold ptK; rw [List.getD_eq_getElem?_getD, List.getElem?_eq_getElem hk]; rfl
  rw [e]
  exact h.2 k _ (List.getElem?_eq_getElem hk)

set_option maxRecDepth 100000 in
set_option maxHeartbeats 2000000 in
theorem sides1_in (m : Nat) (hm : 1 ≤ m) (lp Bs B n c : Nat) (a : Option Addr) (l : List (Int × Int)) (hn : n ≤ 1000) (hC : ∀ q ∈ l, nearK q) (J Jx : List SSide → World → Prop)
    (hJ : ∀ s X Y, J s X → Below X.heap.size X Y → J s Y)
    (hY : ∀ pre x W, J pre W → pre.length < n → YieldAt Fence.wide (m - 1) Try.prog lp (sideEnc x.1) W fun e W' =>
      (e = .returned (.bool true) ∧ J (pre ++ [x]) W' ∧ Kept B Bs W W') ∨ (e = .returned (.bool false) ∧ Jx (pre ++ [x]) W'))
    (W : World) (hS : Blk W Bs 31 #[.slice a n c]) (hl : RPts W B a n l) (hB : B ≤ W.heap.size) (h0 : J [] W) :
    CallsIn Fence.wide m Try.prog 32 #[.func (.yield lp) #[] #[], .pointer (some ⟨Bs, 0, none⟩)] W fun e W' => (∃ v, e = .returned v) ∧
      ((∃ ys, ys = sidesN l hC ∧ J ys W') ∨ (∃ pre, pre <+: sidesN l hC ∧ Jx pre W')) := by
  have hll := hl.1
  have g0 : W.cell? ⟨Bs, 0, none⟩ = some (.slice a n c) := hS.cell 0
  refine callsIn_of_wp Try.func32 rfl trivial ?_ rfl
  simp only [Try.ntmps32, List.size_toArray, List.length_cons, List.length_nil, Nat.reduceAdd, Nat.reduceSub, Array.replicate_succ, Array.replicate_zero, List.push_toArray, List.append_toArray, List.nil_append, List.cons_append]
  gi_wp2
  clear g0
  have HY := Lib.hid hY
  have HJ := Lib.hid hJ
  have HC := Lib.hid hC
  have HLL := Lib.hid hll
  clear hY hJ hll
  gi_loopw [8] (fun i wr => ∃ k : Nat, k ≤ n ∧ i = .int .i64 k ∧ J ((sidesN l hC).take k) wr ∧ Blk wr Bs 31 #[.slice a n c] ∧ RPts wr B a n l ∧ B ≤ wr.heap.size) (fun i _ => n - (intOf i).toNat)
  case atStart => exact ⟨0, Nat.zero_le _, rfl, h0, hS, hl, hB⟩
  case round =>
    clear hS h0 hl hB
    obtain ⟨k, hk, rfl, hJs, hS, hl, hB⟩ := hrel
    have hlS := hS.lt
    by_cases hlt : k < n
    · have hlk : k < l.length := by rw [HLL.out]; exact hlt
      obtain ⟨pb, po, ha, hpB, c1, c2⟩ := hl.at_ k hlk
      obtain ⟨nj, hnj⟩ : ∃ nj : Nat, (k + 1) % l.length = nj := ⟨_, rfl⟩
      have hnjl : nj < l.length := by rw [← hnj]; exact Nat.mod_lt _ (by omega)
      obtain ⟨pb', po', ha', hpB', d1, d2⟩ := hl.at_ nj hnjl
      subst ha
      simp only [Option.some.injEq, Addr.mk.injEq] at ha'
      obtain ⟨rfl, rfl, -⟩ := ha'
      have m2 : ((k : Int) + 1) % n = nj := by rw [← hnj, HLL.out, Int.natCast_emod, Int.natCast_add]; rfl
      have hnjn : (nj : Int) < n := by have := HLL.out; omega
      have hn0 : (n : Int) ≠ 0 := by omega
      have hpw : pb < wr.heap.size := by omega
      have g0 : wr.cell? ⟨Bs, 0, none⟩ = some (.slice (some ⟨pb, po, none⟩) n c) := hS.cell 0
      have hmx : Try.prog.follows .mixedOrders = true := by kernel_rfl
      have hsn : (sideN l hC k).1 = (ptK l k, ptK l nj) := by unfold sideN sideK; simp only [hnj]
      have HT := Lib.hid (sidesN_take l hC k hlk)
      have hlen : ((sidesN l hC).take k).length < n := by rw [List.length_take]; omega
      have n1 := ptK_near hC k
      have n2 := ptK_near hC nj
      generalize ptK l k = u at *
      generalize ptK l nj = v at *
      generalize sideN l hC k = sd at *
      obtain ⟨sv, sh⟩ := sd
      simp only at hsn
      subst hsn
      obtain ⟨u1, u2⟩ := u
      obtain ⟨v1, v2⟩ := v
      simp only at c1 c2 d1 d2
      clear hnj
      gi_wp2
      gi_region
      have hb4 : Below wr.heap.size wr ((wr.alloc (.cells #[.int .i64 u1, .int .i64 u2] 23)).alloc (.cells #[.int .i64 v1, .int .i64 v2] 23)).drew := by (repeat (first | exact Below.refl _ _ | assumption | refine Below.drew ?_ | refine Below.setCell ?_ (by simp; try omega) _ | refine Below.alloc ?_ (by simp; try omega) _))
      have hS4 := hS.grow hb4
      have hl4 := hl.below (hb4.mono hB)
      have hJ4 := HJ.out _ _ _ hJs hb4
      have hB4 : B ≤ ((wr.alloc (.cells #[.int .i64 u1, .int .i64 u2] 23)).alloc (.cells #[.int .i64 v1, .int .i64 v2] 23)).drew.heap.size := Nat.le_trans hB hb4.size
      have f0 := (Blk.new wr 23 #[.int .i64 u1, .int .i64 u2]).grow (((Below.refl _ _).alloc (Nat.le_refl _) (.cells #[.int .i64 v1, .int .i64 v2] 23)).drew)
      have f1 := (Blk.new (wr.alloc (.cells #[.int .i64 u1, .int .i64 u2] 23)) 23 #[.int .i64 v1, .int .i64 v2]).grow ((Below.refl _ _).drew)
      rw [World.size_alloc] at f1
      clear c1 c2 d1 d2 hS hl hJs g0 hlS hpw hb4
      generalize ((wr.alloc (.cells #[.int .i64 u1, .int .i64 u2] 23)).alloc (.cells #[.int .i64 v1, .int .i64 v2] 23)).drew = w4 at *
      obtain ⟨fn, tmps, assign, body, hy, hR2⟩ := yield_hands (HY.out _ ⟨((u1, u2), (v1, v2)), sh⟩ w4 hJ4 hlen)
      dsimp only [sideEnc] at hy
      have k0 := f0.cell
      have k1 := f1.cell
      have l0 := f0.lt
      have l1 := f1.lt
      gi_wp2
      refine hR2.mono ?_
      clear hR2 hy k0 k1 l0 l1 f0 f1
      rintro e W3 ⟨bb, rfl, hh⟩
      cases bb
      · have hN := hh.2 rfl
        clear hh
        gi_wp2
        refine bodyPost_ret (results_none rfl _ _ _) rfl ?_
        exact ⟨⟨_, rfl⟩, .inr ⟨_, by rw [← HT.out]; exact List.take_prefix _ _, hN⟩⟩
      · obtain ⟨hJ3, hk3⟩ := hh.1 rfl
        clear hh
        gi_wp2
        refine ⟨⟨k + 1, by omega, by go_num, by rw [HT.out]; exact hJ3, hk3.2.2.trans hS4, hl4.kept hk3, Nat.le_trans hB4 hk3.1⟩, by simp [intOf]; omega⟩
    · have hkn : k = n := by omega
      subst hkn
      gi_wp2
      go_end0
      refine ⟨⟨_, rfl⟩, .inl ⟨_, rfl, ?_⟩⟩
      rw [List.take_of_length_le (by simp [sidesN]; rw [HLL.out]; exact Nat.le_refl _)] at hJs
      exact hJs

end Go.Proofs.Ytljmhenhibhbfaa
