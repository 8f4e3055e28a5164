/- The statements of layer 5: what they share: near, shown, and facts on sides. -/
import Derived.Test.YtklnedcakgfbmaaSignc
import Derived.Test.YtklnedcakgfbmaaRefd
namespace Go.Proofs.Ytklnedcakgfbmaa
open Go.RowKit

set_option maxHeartbeats 400000 in
theorem lnear_any (a : Option Addr) (n c : Nat) (l : List (Int × Int)) (w : World) (hn : n ≤ 9223372036854775807) (hl : RPts w w.heap.size a n l) :
    Calls Try.prog 10 #[.slice a n c] w fun e w' => e = .returned (.bool (l.all fun q => nearP q.1 q.2)) ∧ Below w.heap.size w w' := by
  have hll := hl.1
  have Hl := Lib.hid hl
  clear hl
  go_enter Try.func10, Try.ntmps10
  go_wp2_with fail
  go_loopw [3] (fun i wr => ∃ k : Nat, k ≤ n ∧ i = .int .i64 k ∧ (∀ q ∈ l.take k, nearP q.1 q.2 = true) ∧ Below w.heap.size w wr) (fun i _ => n - (intOf i).toNat)
  case atStart => exact ⟨0, Nat.zero_le _, rfl, by simp, Below.refl _ _⟩
  case round =>
    obtain ⟨k, hk, rfl, hq, hb⟩ := hrel
    have Hq := Lib.hid hq
    clear hq
    have hsz := hb.size
    obtain ⟨hc, hf⟩ := bcell hb
    by_cases hlt : k < n
    · have hlk : k < l.length := by omega
      obtain ⟨b, off, ha, hbB, hc1, hc2⟩ := Hl.out.2 k l[k] (List.getElem?_eq_getElem hlk)
      subst ha
      have HM : Hid (l.take (k + 1) = l.take k ++ [l[k]]) := Lib.hid (take_snoc l k hlk)
      have Hmem : Hid (l[k] ∈ l) := Lib.hid (List.getElem_mem hlk)
      generalize l[k] = q at *
      obtain ⟨qx, qy⟩ := q
      simp only at hc1 hc2
      cases hp : nearP qx qy
      · have Hp := Lib.hid hp
        go_wp2_with (go_at_call 31; refine (r4near_any _ _ _).mono ?_; rintro e w2 ⟨rfl, hb2⟩)
        go_ret
        exact ⟨ret_bool (by symm; rw [List.all_eq_false]; exact ⟨_, Hmem.out, by rw [Hp.out]; simp⟩), hb.trans (hb2.mono hsz)⟩
      · have Hp := Lib.hid hp
        go_wp2_with (go_at_call 31; refine (r4near_any _ _ _).mono ?_; rintro e w2 ⟨rfl, hb2⟩)
        refine ⟨⟨k + 1, by omega, by go_num, fun x hx => by
          rw [HM.out] at hx
          rcases List.mem_append.1 hx with h | h
          · exact Hq.out x h
          · rw [List.mem_singleton.1 h]; exact Hp.out, hb.trans (hb2.mono hsz)⟩, by simp [intOf]; omega⟩
    · have hkn : k = n := by omega
      subst hkn
      go_wp2_with fail
      go_ret
      exact ⟨ret_bool (by symm; rw [List.all_eq_true]; exact fun q hq => Hq.out q (by rw [List.take_of_length_le (by omega)]; exact hq)), hb⟩

set_option maxHeartbeats 1000000 in
theorem shown_any (w : World) : Calls Try.prog 11 #[] w fun e w' => e = .returned (.bool true) ∧ Below w.heap.size w w' := by
  have e1 : sideS 0 0 4 0 0 4 = 1 := by decide
  have e2 : withinB 0 0 4 0 0 4 1 1 = true := by decide
  have e3 : withinB 0 0 4 0 0 4 3 3 = false := by decide
  have e4 : beforeB 4 0 0 4 = true := by decide
  have e5 : quarterS 0 4 = 1 := by decide
  have e6 : miterB 4 0 4 0 1 = true := by decide
  have e7 : miterB 4 0 0 4 1 = false := by decide
  go_enter Try.func11, Try.ntmps11
  go_wp2_with (first | (go_at_call 12; refine (calls_from (by first | assumption | exact Below.refl _ _) (side_any _ _ _ _ _ _ _ (by omega) (by omega) (by omega) (by omega) (by omega) (by omega) (by omega) (by omega) (by omega) (by omega) (by omega) (by omega))).mono ?_; rintro e w2 ⟨rfl, hb2⟩; have hc2 := (bcell hb2).1; have hf2 := (bcell hb2).2) | (go_at_call 13; refine (calls_from (by first | assumption | exact Below.refl _ _) (within_any _ _ _ _ _ _ _ _ _ (by omega) (by omega) (by omega) (by omega) (by omega) (by omega) (by omega) (by omega) (by omega) (by omega) (by omega) (by omega) (by omega) (by omega) (by omega) (by omega))).mono ?_; rintro e w2 ⟨rfl, hb2⟩; have hc2 := (bcell hb2).1; have hf2 := (bcell hb2).2) | (go_at_call 17; refine (calls_from (by first | assumption | exact Below.refl _ _) (before_any _ _ _ _ _ (by omega) (by omega) (by omega) (by omega) (by omega) (by omega) (by omega) (by omega))).mono ?_; rintro e w2 ⟨rfl, hb2⟩; have hc2 := (bcell hb2).1; have hf2 := (bcell hb2).2) | (go_at_call 26; refine (calls_from (by first | assumption | exact Below.refl _ _) (quarter_any _ _ _)).mono ?_; rintro e w2 ⟨rfl, hb2⟩; have hc2 := (bcell hb2).1; have hf2 := (bcell hb2).2) | (go_at_call 18; refine (calls_from (by first | assumption | exact Below.refl _ _) (miter_any _ _ _ _ _ _ (by omega) (by omega) (by omega) (by omega) (by omega) (by omega) (by omega) (by omega) (by omega) (by omega))).mono ?_; rintro e w2 ⟨rfl, hb2⟩; have hc2 := (bcell hb2).1; have hf2 := (bcell hb2).2))
  go_ret
  exact ⟨rfl, by (first | ((repeat (first | exact Below.refl _ _ | assumption | refine Below.drew ?_ | refine Below.setCell ?_ (by simp; try omega) _ | refine Below.alloc ?_ (by simp; try omega) _)); done) | exact Below.trans (by (repeat (first | exact Below.refl _ _ | assumption | refine Below.drew ?_ | refine Below.setCell ?_ (by simp; try omega) _ | refine Below.alloc ?_ (by simp; try omega) _))) (hb2.mono (by simp; try omega)))⟩

/-! Sides. -/
theorem crossD_turn (ax ay bx py cx cy : Int) : crossD bx py cx cy ax ay = crossD ax ay bx py cx cy := by unfold crossD; simp only [Int.mul_sub, Int.mul_comm]; omega
theorem crossD_swap (ax ay bx py cx cy : Int) : crossD bx py ax ay cx cy = -crossD ax ay bx py cx cy := by unfold crossD; simp only [Int.mul_sub, Int.mul_comm]; omega
theorem crossD_same (ax ay cx cy : Int) : crossD ax ay ax ay cx cy = 0 := by unfold crossD; simp
theorem crossD_back (ax ay bx py : Int) : crossD ax ay bx py ax ay = 0 := by unfold crossD; simp
theorem sgn_neg (x : Int) : sgn (-x) = -sgn x := by
  have h := sgn_cases x
  have k := sgn_cases (-x)
  omega
theorem sideS_turn (ax ay bx py cx cy : Int) : sideS bx py cx cy ax ay = sideS ax ay bx py cx cy := by unfold sideS; rw [crossD_turn]
theorem sideS_turn2 (ax ay bx py cx cy : Int) : sideS cx cy ax ay bx py = sideS ax ay bx py cx cy := by rw [← sideS_turn cx cy ax ay bx py]
theorem sideS_swap (ax ay bx py cx cy : Int) : sideS bx py ax ay cx cy = -sideS ax ay bx py cx cy := by unfold sideS; rw [crossD_swap, sgn_neg]
theorem sideS_swap2 (ax ay bx py cx cy : Int) : sideS ax ay cx cy bx py = -sideS ax ay bx py cx cy := by rw [← sideS_turn2 ax ay cx cy bx py, sideS_swap, sideS_turn2]
theorem sideS_same (ax ay cx cy : Int) : sideS ax ay ax ay cx cy = 0 := by unfold sideS; rw [crossD_same]; rfl
theorem sideS_back (ax ay bx py : Int) : sideS ax ay bx py ax ay = 0 := by unfold sideS; rw [crossD_back]; rfl
theorem sideS_same2 (ax ay bx py : Int) : sideS ax ay bx py bx py = 0 := by rw [← sideS_turn, sideS_same]
theorem sideS_range (ax ay bx py cx cy : Int) : -1 ≤ sideS ax ay bx py cx cy ∧ sideS ax ay bx py cx cy ≤ 1 := by
  have := sgn_cases (crossD ax ay bx py cx cy)
  unfold sideS
  omega

end Go.Proofs.Ytklnedcakgfbmaa
