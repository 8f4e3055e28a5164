/- Contracts of the law's test of a chain, and of its copy for the reference. -/
import Derived.Test.YtpfeegmifcodfaaLawk
namespace Go.Proofs.Ytpfeegmifcodfaa
open Go.RowKit

def halvesB (l : List (Int × Int)) : Bool := l.all fun q => halfB q.1 q.2

set_option maxHeartbeats 1000000 in
theorem lbounded_any (closed : Bool) (a : Option Addr) (n c : Nat) (l : List (Int × Int)) (w : World) (hn : n ≤ 9223372036854775807) (hl : RPts w w.heap.size a n l) :
    Calls Try.prog 18 #[.agg #[.slice a n c, .bool closed]] w
      fun e w' => e = .returned (.bool (halvesB l && decide (n ≤ 100))) ∧ Below w.heap.size w w' := by
  have hll := hl.1
  have HL := Lib.hid hl
  clear hl
  go_enter Try.func18, Try.ntmps18
  go_wp2_with fail
  go_loopw [3] (fun i wr => ∃ k : Nat, k ≤ n ∧ i = .int .i64 k ∧ (∀ q ∈ l.take k, halfB q.1 q.2 = true) ∧ Blk wr w.heap.size 36 #[.slice a n c, .bool closed] ∧ Below w.heap.size w wr) (fun i _ => n - (intOf i).toNat)
  case atStart => exact ⟨0, Nat.zero_le _, rfl, by simp, Blk.new w _ _, by (repeat (first | exact Below.refl _ _ | assumption | refine Below.drew ?_ | refine Below.setCell ?_ (by simp; try omega) _ | refine Below.alloc ?_ (by simp; try omega) _))⟩
  case round =>
    obtain ⟨k, hk, rfl, hq, hS, hb⟩ := hrel
    have HQ := Lib.hid hq
    clear hq
    have g0 : wr.cell? ⟨w.heap.size, 0, none⟩ = some (.slice a n c) := hS.cell 0
    by_cases hlt : k < n
    · have hlk : k < l.length := by omega
      obtain ⟨b, off, ha, hbB, hc1, hc2⟩ := HL.out.2 k l[k] (List.getElem?_eq_getElem hlk)
      subst ha
      have hd1 := (hb.cell (p := ⟨b, off + k * 2, none⟩) hbB).trans hc1
      have hd2 := (hb.cell (p := ⟨b, off + k * 2 + 1, none⟩) hbB).trans hc2
      clear hc1 hc2
      have HM : Hid (l.take (k + 1) = l.take k ++ [l[k]]) := Lib.hid (take_snoc l k hlk)
      have HI : Hid (l[k] ∈ l) := Lib.hid (List.getElem_mem hlk)
      generalize l[k] = q at *
      obtain ⟨x, y⟩ := q
      simp only at hd1 hd2
      cases hh : halfB x y
      · have HH := Lib.hid hh
        go_wp2_with (go_at_call 17; refine (lhalf_any _ _ _).mono ?_; rintro e w2 ⟨rfl, hb2⟩)
        go_ret
        refine ⟨ret_bool ?_, hb.trans (hb2.mono hb.size)⟩
        have e : halvesB l = false := by
          unfold halvesB
          rw [List.all_eq_false]
          exact ⟨_, HI.out, by simp [HH.out]⟩
        rw [e]; rfl
      · have HH := Lib.hid hh
        go_wp2_with (go_at_call 17; refine (lhalf_any _ _ _).mono ?_; rintro e w2 ⟨rfl, hb2⟩)
        refine ⟨⟨k + 1, by omega, by go_num, ?_, hS.grow hb2, hb.trans (hb2.mono hb.size)⟩, by simp [intOf]; omega⟩
        intro q hq
        rw [HM.out] at hq
        rcases List.mem_append.1 hq with h | h
        · exact HQ.out q h
        · rw [List.mem_singleton.1 h]; exact HH.out
    · have hkn : k = n := by omega
      subst hkn
      have e : halvesB l = true := by
        unfold halvesB
        rw [List.all_eq_true]
        intro q hq
        exact HQ.out q (by rw [List.take_of_length_le (by omega)]; exact hq)
      have HE := Lib.hid e
      clear e
      by_cases h100 : k ≤ 100
      · go_wp2_with fail
        go_ret
        exact ⟨ret_bool (by first | (rw [HE.out, Bool.true_and, decide_eq_decide]; omega) | (rw [HE.out]; simp; omega) | (rw [HE.out]; simp [h100])), hb⟩
      · go_wp2_with fail
        go_ret
        exact ⟨ret_bool (by first | (rw [HE.out, Bool.true_and, decide_eq_decide]; omega) | (rw [HE.out]; simp; omega) | (rw [HE.out]; simp [h100])), hb⟩
theorem halves_half {l : List (Int × Int)} (h : halvesB l = true) : ∀ p ∈ l, HalfP p := by
  intro p hp
  unfold halvesB at h
  exact (halfB_iff p).1 (List.all_eq_true.1 h p hp)

end Go.Proofs.Ytpfeegmifcodfaa
