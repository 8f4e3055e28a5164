/- Contracts of piece.Convex and piece.Has. -/
import Derived.Test.YtljmhenhibhbfaaKd
namespace Go.Proofs.Ytljmhenhibhbfaa
open Go.RowKit

set_option maxHeartbeats 400000 in
theorem pindexFunc_any (p : Int × Int → Bool) (cap : Array Value) (fid : FuncId) (a : Option Addr) (n c : Nat) (l : List (Int × Int)) (w : World)
    (hn : n ≤ 9223372036854775807) (hl : RPts w w.heap.size a n l) (hcf : ∀ (xs : Array Value) (W : World), Sem.run Try.prog (callFunc fid xs) W = .ok (.enter fid xs) W)
    (hp : ∀ q ∈ l, ∀ W, Below w.heap.size w W → Calls Try.prog fid (#[.agg #[.int .i64 q.1, .int .i64 q.2]] ++ cap) W fun e w' => e = .returned (.bool (p q)) ∧ Below W.heap.size W w') :
    Calls Try.prog 34 #[.slice a n c, .func (.func fid) #[] cap] w fun e w' =>
      ∃ i : Int, e = .returned (.int .i64 i) ∧ (decide (0 ≤ i) = l.any p) ∧ Below w.heap.size w w' := by
  go_enter Try.func34, Try.ntmps34
  go_wp2_with fail
  go_loopw [8] (fun i wr => ∃ k : Nat, k ≤ n ∧ i = .int .i64 k ∧ (∀ q ∈ l.take k, p q = false) ∧ Below w.heap.size w wr) (fun i _ => n - (intOf i).toNat)
  case atStart => exact ⟨0, Nat.zero_le _, rfl, by simp, Below.refl _ _⟩
  case round =>
    obtain ⟨k, hk, rfl, hq, hb⟩ := hrel
    by_cases hlt : k < n
    · have hlk : k < l.length := by rw [hl.1]; exact hlt
      obtain ⟨b, off, ha, hbB, hc1, hc2⟩ := hl.2 k l[k] (List.getElem?_eq_getElem hlk)
      subst ha
      have hd1 := (hb.cell (p := ⟨b, off + k * 2, none⟩) hbB).trans hc1
      have hd2 := (hb.cell (p := ⟨b, off + k * 2 + 1, none⟩) hbB).trans hc2
      clear hc1 hc2
      have Htake : Hid (l.take (k + 1) = l.take k ++ [l[k]]) := Lib.hid (List.take_succ_eq_append_getElem hlk)
      have Hp := Lib.hid (hp l[k] (List.getElem_mem hlk))
      have Hq := Lib.hid hq
      have Hl := Lib.hid hl
      clear hp hq hl
      go_wp2_with fail
      refine (Hp.out _ hb).mono ?_
      rintro e w2 ⟨rfl, hb2⟩
      cases hpk : p l[k]
      · have Hpk := Lib.hid hpk
        clear hpk
        go_wp2_with fail
        go_roundw
        case rel => exact ⟨k + 1, by omega, by go_num, fun q hq => by
          rw [Htake.out] at hq
          rcases List.mem_append.1 hq with h | h
          · exact Hq.out q h
          · rw [List.mem_singleton.1 h]; exact Hpk.out, hb.trans (hb2.mono hb.size)⟩
        case measure => simp [intOf]; omega
      · have Hpk := Lib.hid hpk
        clear hpk
        go_wp2_with fail
        go_ret
        exact ⟨k, rfl, by rw [decide_eq_true (by omega)]; exact (List.any_eq_true.2 ⟨_, List.getElem_mem hlk, Hpk.out⟩).symm, hb.trans (hb2.mono hb.size)⟩
    · have hkn : k = n := by omega
      subst hkn
      have Hp := Lib.hid hp
      have Hq := Lib.hid hq
      clear hp hq
      go_wp2_with fail
      go_ret
      refine ⟨-1, rfl, ?_, hb⟩
      rw [show decide ((0 : Int) ≤ -1) = false from rfl]
      symm
      rw [List.any_eq_false]
      intro q hq
      have := Hq.out q (by rw [List.take_of_length_le (by rw [hl.1]; exact Nat.le_refl _)]; exact hq)
      simp [this]

set_option maxHeartbeats 400000 in
theorem pcontainsFunc_any (p : Int × Int → Bool) (cap : Array Value) (fid : FuncId) (a : Option Addr) (n c : Nat) (l : List (Int × Int)) (w : World)
    (hn : n ≤ 9223372036854775807) (hl : RPts w w.heap.size a n l) (hcf : ∀ (xs : Array Value) (W : World), Sem.run Try.prog (callFunc fid xs) W = .ok (.enter fid xs) W)
    (hp : ∀ q ∈ l, ∀ W, Below w.heap.size w W → Calls Try.prog fid (#[.agg #[.int .i64 q.1, .int .i64 q.2]] ++ cap) W fun e w' => e = .returned (.bool (p q)) ∧ Below W.heap.size W w') :
    Calls Try.prog 26 #[.slice a n c, .func (.func fid) #[] cap] w fun e w' =>
      e = .returned (.bool (l.any p)) ∧ Below w.heap.size w w' := by
  have Hc := Lib.hid (pindexFunc_any p cap fid a n c l w hn hl hcf hp)
  clear hn hl hcf hp
  go_enter Try.func26, Try.ntmps26
  go_wp2_with fail
  refine Hc.out.mono ?_
  rintro e w2 ⟨i, rfl, hi, hb⟩
  have Hi := Lib.hid hi
  clear hi Hc
  go_wp2_with fail
  go_ret
  exact ⟨ret_bool Hi.out, hb⟩
theorem cf_convex1 (xs : Array Value) (W : World) : Sem.run Try.prog (callFunc 27 xs) W = .ok (.enter 27 xs) W := by kernel_rfl

set_option maxHeartbeats 400000 in
theorem convex1_any (g : Nat) (a : Option Addr) (n c : Nat) (l : List (Int × Int)) (qx qy : Int) (w : World) (hn : n ≤ 1000) (hC : ∀ q ∈ l, nearK q) (hq : nearK (qx, qy)) (hS : Blk w g 31 #[.slice a n c]) (hl : RPts w w.heap.size a n l) :
    Calls Try.prog 27 #[.agg #[.int .i64 qx, .int .i64 qy], .pointer (some ⟨g, 0, none⟩)] w fun e w' => e = .returned (.bool (!leftB l (qx, qy))) ∧ Below w.heap.size w w' := by
  have g0 : w.cell? ⟨g, 0, none⟩ = some (.slice a n c) := hS.cell 0
  have lg := hS.lt
  have KL := Lib.hid (left_any a n c l qx qy (w.alloc (.cells #[.int .i64 qx, .int .i64 qy] 23)) hn hC hq (hl.grow ((Below.refl _ _).alloc (Nat.le_refl _) _)))
  clear hS hl hC hq
  go_enter Try.func27, Try.ntmps27
  go_wp2_with fail
  refine KL.out.mono ?_
  rintro e w2 ⟨rfl, hb2⟩
  have hx : Below w.heap.size w w2 := Below.trans (by (repeat (first | exact Below.refl _ _ | assumption | refine Below.drew ?_ | refine Below.setCell ?_ (by simp; try omega) _ | refine Below.alloc ?_ (by simp; try omega) _))) (hb2.mono (by simp))
  go_wp2_with fail
  go_ret
  exact ⟨rfl, hx⟩

theorem convex_if {l : List (Int × Int)} : convexB l = (decide (3 ≤ l.length) && (decide (0 < areaK l) && !(l.any fun q => !leftB l q))) := by
  unfold convexB
  rw [Bool.and_assoc]
  congr 2
  rw [List.all_eq_not_any_not]

set_option maxHeartbeats 1000000 in
theorem convex_any (a : Option Addr) (n c : Nat) (l : List (Int × Int)) (w : World) (hn : n ≤ 1000) (hC : ∀ q ∈ l, nearK q) (hl : RPts w w.heap.size a n l) :
    Calls Try.prog 13 #[.slice a n c] w fun e w' => e = .returned (.bool (convexB l)) ∧ Below w.heap.size w w' := by
  have hll := hl.1
  have HE := Lib.hid (convex_if (l := l))
  rw [hll] at HE
  have KA := Lib.hid (fun W (hW : Below w.heap.size w W) => area_any a n c l W hn hC (hl.grow hW))
  have KC := Lib.hid (fun W (hW : Below w.heap.size w W) (hS : Blk W w.heap.size 31 #[.slice a n c]) => pcontainsFunc_any (fun q => !leftB l q) #[.pointer (some ⟨w.heap.size, 0, none⟩)] 27 a n c l W (by omega) (hl.grow hW) cf_convex1
    (fun q hq W' hW' => convex1_any w.heap.size a n c l q.1 q.2 W' hn hC (hC q hq) (hS.grow hW') ((hl.grow hW).grow hW')))
  have hB := Blk.new w 31 #[.slice a n c]
  have hx : Below w.heap.size w (w.alloc (.cells #[.slice a n c] 31)) := by (repeat (first | exact Below.refl _ _ | assumption | refine Below.drew ?_ | refine Below.setCell ?_ (by simp; try omega) _ | refine Below.alloc ?_ (by simp; try omega) _))
  have HB := Lib.hid hB
  have HX := Lib.hid hx
  clear hl hC hB hx hll
  by_cases h3 : 3 ≤ n
  · have h3' : (3 : Int) ≤ n := by omega
    have HE3 : Hid (decide (3 ≤ n) = true) := Lib.hid (decide_eq_true h3)
    by_cases hA : 0 < areaK l
    · have HEA : Hid (decide (0 < areaK l) = true) := Lib.hid (decide_eq_true hA)
      generalize areaK l = ar at *
      go_enter Try.func13, Try.ntmps13
      go_wp2_with fail
      refine (KA.out _ HX.out).mono ?_
      rintro e w2 ⟨rfl, hb2⟩
      have hx2 := HX.out.trans (hb2.mono HX.out.size)
      have hB2 := HB.out.grow hb2
      have g0 : w2.cell? ⟨w.heap.size, 0, none⟩ = some (.slice a n c) := hB2.cell 0
      have l0 := hB2.lt
      have HB2 := Lib.hid hB2
      clear hB2 hb2
      go_wp2_with fail
      refine (KC.out _ hx2 HB2.out).mono ?_
      rintro e w3 ⟨rfl, hb3⟩
      have hx3 := hx2.trans (hb3.mono hx2.size)
      go_wp2_with fail
      go_ret
      exact ⟨ret_bool (by rw [HE.out, HE3.out, HEA.out]; rfl), hx3⟩
    · have HEA : Hid (decide (0 < areaK l) = false) := Lib.hid (decide_eq_false hA)
      generalize areaK l = ar at *
      go_enter Try.func13, Try.ntmps13
      go_wp2_with fail
      refine (KA.out _ HX.out).mono ?_
      rintro e w2 ⟨rfl, hb2⟩
      have hx2 := HX.out.trans (hb2.mono HX.out.size)
      go_wp2_with fail
      go_ret
      exact ⟨ret_bool (by rw [HE.out, HE3.out, HEA.out]; rfl), hx2⟩
  · have h3' : ¬ (3 : Int) ≤ n := by omega
    have HE3 : Hid (decide (3 ≤ n) = false) := Lib.hid (decide_eq_false h3)
    go_enter Try.func13, Try.ntmps13
    go_wp2_with fail
    go_ret
    exact ⟨ret_bool (by rw [HE.out, HE3.out]; rfl), HX.out⟩

set_option maxHeartbeats 1000000 in
theorem has_any (a : Option Addr) (n c : Nat) (l : List (Int × Int)) (qx qy : Int) (w : World) (hn : n ≤ 1000) (hC : ∀ q ∈ l, nearK q) (hq : nearK (qx, qy)) (hl : RPts w w.heap.size a n l) :
    Calls Try.prog 10 #[.slice a n c, .agg #[.int .i64 qx, .int .i64 qy]] w fun e w' => e = .returned (.bool (hasB l (qx, qy))) ∧ Below w.heap.size w w' := by
  have HE : Hid (hasB l (qx, qy) = (convexB l && leftB l (qx, qy))) := Lib.hid rfl
  have KC := Lib.hid (fun W (hW : Below w.heap.size w W) => convex_any a n c l W hn hC (hl.grow hW))
  have KL := Lib.hid (fun W (hW : Below w.heap.size w W) => left_any a n c l qx qy W hn hC hq (hl.grow hW))
  have HX : Hid (Below w.heap.size w (w.alloc (.cells #[.int .i64 qx, .int .i64 qy] 23))) := Lib.hid (by (repeat (first | exact Below.refl _ _ | assumption | refine Below.drew ?_ | refine Below.setCell ?_ (by simp; try omega) _ | refine Below.alloc ?_ (by simp; try omega) _)))
  have HB := Lib.hid (Blk.new w 23 #[.int .i64 qx, .int .i64 qy])
  clear hl hC hq
  cases hc : convexB l
  · rw [hc] at KC HE
    go_enter Try.func10, Try.ntmps10
    go_wp2_with fail
    refine (KC.out _ HX.out).mono ?_
    rintro e w2 ⟨rfl, hb2⟩
    have hx2 := HX.out.trans (hb2.mono HX.out.size)
    go_wp2_with fail
    go_ret
    exact ⟨ret_bool (by rw [HE.out]; rfl), hx2⟩
  · rw [hc] at KC HE
    go_enter Try.func10, Try.ntmps10
    go_wp2_with fail
    refine (KC.out _ HX.out).mono ?_
    rintro e w2 ⟨rfl, hb2⟩
    have hx2 := HX.out.trans (hb2.mono HX.out.size)
    have hB2 := HB.out.grow hb2
    have g0 : w2.cell? ⟨w.heap.size, 0, none⟩ = some (.int .i64 qx) := hB2.cell 0
    have g1 : w2.cell? ⟨w.heap.size, 1, none⟩ = some (.int .i64 qy) := hB2.cell 1
    have l0 := hB2.lt
    clear hB2 hb2
    go_wp2_with fail
    refine (KL.out _ hx2).mono ?_
    rintro e w3 ⟨rfl, hb3⟩
    have hx3 := hx2.trans (hb3.mono hx2.size)
    go_wp2_with fail
    go_ret
    exact ⟨ret_bool (by rw [HE.out]; rfl), hx3⟩
end Go.Proofs.Ytljmhenhibhbfaa
