/- Contracts: whether a slice of points holds one that a test accepts. -/
import Derived.Test.YtjkpbkcbimojoaaPa
namespace Go.Proofs.Ytjkpbkcbimojoaa
open Go.RowKit

set_option maxHeartbeats 400000 in
theorem far1_any (x y : Int) (w : World) :
    Calls Try.prog 33 #[.agg #[.int .i64 x, .int .i64 y]] w fun e w' => e = .returned (.bool (!nearC x || !nearC y)) ∧ Below w.heap.size w w' := by
  cases hx : nearC x <;> cases hy : nearC y
  all_goals
    go_enter Try.func33, Try.ntmps33
    go_wp2_with (go_at_call 34; refine (near_any _ _).mono ?_; rintro e w' ⟨rfl, rfl⟩)
    go_ret
    exact ⟨rfl, (Below.refl _ _).alloc (Nat.le_refl _) _⟩

set_option maxHeartbeats 400000 in
theorem indexFunc_any (p : Int → Int → Bool) (cap : Array Value) (fid : FuncId) (a : Option Addr) (n c : Nat) (l : List (Int × Int)) (w : World)
    (hn : n ≤ 9223372036854775807) (hl : RPts w w.heap.size a n l) (hcf : ∀ (xs : Array Value) (W : World), Sem.run Try.prog (callFunc fid xs) W = .ok (.enter fid xs) W)
    (hp : ∀ (x y : Int) (W : World), Below w.heap.size w W → Calls Try.prog fid (#[.agg #[.int .i64 x, .int .i64 y]] ++ cap) W fun e w' => e = .returned (.bool (p x y)) ∧ Below W.heap.size W w') :
    Calls Try.prog 43 #[.slice a n c, .func (.func fid) #[] cap] w fun e w' =>
      ∃ i : Int, e = .returned (.int .i64 i) ∧ (decide (0 ≤ i) = l.any fun q => p q.1 q.2) ∧ Below w.heap.size w w' := by
  go_enter Try.func43, Try.ntmps43
  go_wp2_with fail
  go_outline
  go_loopw [8] (fun i wr => ∃ k : Nat, k ≤ n ∧ i = .int .i64 k ∧ (∀ q ∈ l.take k, p q.1 q.2 = false) ∧ Below w.heap.size w wr) (fun i _ => n - (intOf i).toNat)
  case atStart => exact ⟨0, Nat.zero_le _, rfl, by simp, Below.refl _ _⟩
  case round =>
    obtain ⟨k, hk, rfl, hq, hb⟩ := hrel
    by_cases hlt : k < n
    · have hlk : k < l.length := by rw [hl.1]; exact hlt
      obtain ⟨b, off, ha, hbB, hc1, hc2⟩ := hl.2 k l[k] (List.getElem?_eq_getElem hlk)
      subst ha
      have hd1 := (hb.cell (p := ⟨b, off + k * 2, none⟩) hbB).trans hc1
      have hd2 := (hb.cell (p := ⟨b, off + k * 2 + 1, none⟩) hbB).trans hc2
      clear hc1 hc2
      have Htake : Hid (l.take (k + 1) = l.take k ++ [l[k]]) := Lib.hid (List.take_succ_eq_append_getElem hlk)
      have Hp := Lib.hid hp
      have Hq := Lib.hid hq
      have Hl := Lib.hid hl
      clear hp hq hl
      go_wp2_with fail
      refine (Hp.out _ _ _ hb).mono ?_
      rintro e w2 ⟨rfl, hb2⟩
      cases hpk : p l[k].1 l[k].2
      · have Hpk := Lib.hid hpk
        clear hpk
        go_wp2_with fail
        go_roundw
        case rel => exact ⟨k + 1, by omega, by go_num, fun q hq => by
          rw [Htake.out] at hq
          rcases List.mem_append.1 hq with h | h
          · exact Hq.out q h
          · rw [List.mem_singleton.1 h]; exact Hpk.out, hb.trans (hb2.mono hb.size)⟩
        case measure => simp [intOf]; omega
      · have Hpk := Lib.hid hpk
        clear hpk
        go_wp2_with fail
        go_ret
        exact ⟨k, rfl, by rw [decide_eq_true (by omega)]; exact (List.any_eq_true.2 ⟨_, List.getElem_mem hlk, Hpk.out⟩).symm, hb.trans (hb2.mono hb.size)⟩
    · have hkn : k = n := by omega
      subst hkn
      have Hp := Lib.hid hp
      have Hq := Lib.hid hq
      clear hp hq
      go_wp2_with fail
      go_ret
      refine ⟨-1, rfl, ?_, hb⟩
      rw [show decide ((0 : Int) ≤ -1) = false from rfl]
      symm
      rw [List.any_eq_false]
      intro q hq
      have := Hq.out q (by rw [List.take_of_length_le (by rw [hl.1]; exact Nat.le_refl _)]; exact hq)
      simp [this]

set_option maxHeartbeats 400000 in
theorem containsFunc_any (p : Int → Int → Bool) (cap : Array Value) (fid : FuncId) (a : Option Addr) (n c : Nat) (l : List (Int × Int)) (w : World)
    (hn : n ≤ 9223372036854775807) (hl : RPts w w.heap.size a n l) (hcf : ∀ (xs : Array Value) (W : World), Sem.run Try.prog (callFunc fid xs) W = .ok (.enter fid xs) W)
    (hp : ∀ (x y : Int) (W : World), Below w.heap.size w W → Calls Try.prog fid (#[.agg #[.int .i64 x, .int .i64 y]] ++ cap) W fun e w' => e = .returned (.bool (p x y)) ∧ Below W.heap.size W w') :
    Calls Try.prog 32 #[.slice a n c, .func (.func fid) #[] cap] w fun e w' =>
      e = .returned (.bool (l.any fun q => p q.1 q.2)) ∧ Below w.heap.size w w' := by
  have Hc := Lib.hid (indexFunc_any p cap fid a n c l w hn hl hcf hp)
  clear hn hl hcf hp
  go_enter Try.func32, Try.ntmps32
  go_wp2_with fail
  refine Hc.out.mono ?_
  rintro e w2 ⟨i, rfl, hi, hb⟩
  have Hi := Lib.hid hi
  clear hi Hc
  go_wp2_with fail
  go_ret
  exact ⟨ret_bool Hi.out, hb⟩

theorem cf_far1 (xs : Array Value) (W : World) : Sem.run Try.prog (callFunc 33 xs) W = .ok (.enter 33 xs) W := by kernel_rfl

end Go.Proofs.Ytjkpbkcbimojoaa
