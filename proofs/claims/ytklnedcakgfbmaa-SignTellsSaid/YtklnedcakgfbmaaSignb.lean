/- Contracts of package sign, second part: signs, Within, Dot, Cross, Sharp, Miter, Quarter, Before. -/
import Derived.Test.YtklnedcakgfbmaaSign
namespace Go.Proofs.Ytklnedcakgfbmaa
open Go.RowKit

def anyPos (l : List Int) : Bool := l.any fun s => decide (0 < s)
def anyNeg (l : List Int) : Bool := l.any fun s => decide (s < 0)
theorem anyPos_snoc (l : List Int) (s : Int) : anyPos (l ++ [s]) = (anyPos l || decide (0 < s)) := by simp [anyPos]
theorem anyNeg_snoc (l : List Int) (s : Int) : anyNeg (l ++ [s]) = (anyNeg l || decide (s < 0)) := by simp [anyNeg]

set_option maxHeartbeats 1000000 in
theorem signs_any (a : Option Addr) (n c : Nat) (l : List Int) (w : World) (hn : n ≤ 9223372036854775807) (hl : RInts w w.heap.size a n l) :
    Calls Try.prog 35 #[.slice a n c] w fun e w' => e = .returned (.tuple #[.bool (anyPos l), .bool (anyNeg l)]) ∧ w = w' := by
  have hll := hl.1
  have Hl := Lib.hid hl
  clear hl
  go_enter Try.func35, Try.ntmps35
  go_wp2_with fail
  go_loop [2, 3, 8] (fun p q i => ∃ k : Nat, k ≤ n ∧ i = .int .i64 k ∧ p = .bool (anyPos (l.take k)) ∧ q = .bool (anyNeg (l.take k))) (fun _ _ i => n - (intOf i).toNat)
  case atStart => exact ⟨0, Nat.zero_le _, rfl, rfl, rfl⟩
  case round =>
    obtain ⟨k, hk, rfl, rfl, rfl⟩ := hrel
    by_cases hlt : k < n
    · have hlk : k < l.length := by omega
      obtain ⟨b, off, ha, hbB, hc1⟩ := Hl.out.2 k l[k] (List.getElem?_eq_getElem hlk)
      subst ha
      have HP : Hid (anyPos (l.take (k + 1)) = (anyPos (l.take k) || decide (0 < l[k]))) := Lib.hid (by rw [take_snoc l k hlk, anyPos_snoc])
      have HN : Hid (anyNeg (l.take (k + 1)) = (anyNeg (l.take k) || decide (l[k] < 0))) := Lib.hid (by rw [take_snoc l k hlk, anyNeg_snoc])
      generalize l[k] = s at *
      have hs : s < 0 ∨ s = 0 ∨ 0 < s := by omega
      cases hp : anyPos (l.take k) <;> cases hq : anyNeg (l.take k) <;> rcases hs with h | h | h
      all_goals
        have HP' := Lib.hid hp
        have HQ' := Lib.hid hq
        clear hp hq
        go_wp2_with fail
        refine ⟨⟨k + 1, by omega, by go_num, ?_, ?_⟩, by simp [intOf]; omega⟩
        · rw [HP.out, HP'.out]; simp [h]; try omega
        · rw [HN.out, HQ'.out]; simp [h]; try omega
    · have hkn : k = n := by omega
      subst hkn
      go_wp2_with fail
      go_ret2
      exact ⟨by rw [List.take_of_length_le (by omega)]; rfl, rfl⟩

def withinB (ax ay bx py cx cy qx qy : Int) : Bool :=
  if sideS ax ay bx py cx cy = 0 then betweenB ax ay bx py qx qy || betweenB bx py cx cy qx qy || betweenB cx cy ax ay qx qy
  else !anyPos [sideS ax ay bx py qx qy, sideS bx py cx cy qx qy, sideS cx cy ax ay qx qy] || !anyNeg [sideS ax ay bx py qx qy, sideS bx py cx cy qx qy, sideS cx cy ax ay qx qy]

set_option maxHeartbeats 1000000 in
theorem within_any (ax ay bx py cx cy qx qy : Int) (w : World) (h1 : -1073741824 ≤ ax) (h2 : ax ≤ 1073741824) (h3 : -1073741824 ≤ ay) (h4 : ay ≤ 1073741824)
    (k1 : -1073741824 ≤ bx) (k2 : bx ≤ 1073741824) (k3 : -1073741824 ≤ py) (k4 : py ≤ 1073741824) (j1 : -1073741824 ≤ cx) (j2 : cx ≤ 1073741824) (j3 : -1073741824 ≤ cy) (j4 : cy ≤ 1073741824)
    (g1 : -1073741824 ≤ qx) (g2 : qx ≤ 1073741824) (g3 : -1073741824 ≤ qy) (g4 : qy ≤ 1073741824) :
    Calls Try.prog 13 #[.agg #[.int .i64 ax, .int .i64 ay], .agg #[.int .i64 bx, .int .i64 py], .agg #[.int .i64 cx, .int .i64 cy], .agg #[.int .i64 qx, .int .i64 qy]] w
      fun e w' => e = .returned (.bool (withinB ax ay bx py cx cy qx qy)) ∧ Below w.heap.size w w' := by
  by_cases hz : sideS ax ay bx py cx cy = 0
  · have HE : Hid (withinB ax ay bx py cx cy qx qy = (betweenB ax ay bx py qx qy || betweenB bx py cx cy qx qy || betweenB cx cy ax ay qx qy)) := Lib.hid (by unfold withinB; rw [if_pos hz])
    cases e1 : betweenB ax ay bx py qx qy <;> cases e2 : betweenB bx py cx cy qx qy
    all_goals
      go_enter Try.func13, Try.ntmps13
      go_wp2_with (first | (go_at_call 12; refine (calls_from (by first | assumption | exact Below.refl _ _) (side_any ax ay bx py cx cy _ h1 h2 h3 h4 k1 k2 k3 k4 j1 j2 j3 j4)).mono ?_; rintro e w2 ⟨rfl, hb2⟩; have hc2 := (bcell hb2).1; have hf2 := (bcell hb2).2) | (go_at_call 14; refine (calls_from (by first | assumption | exact Below.refl _ _) (between_any _ _ _ _ _ _ _ (by omega) (by omega) (by omega) (by omega) (by omega) (by omega) (by omega) (by omega) (by omega) (by omega) (by omega) (by omega))).mono ?_; rintro e w2 ⟨rfl, hb2⟩; have hc2 := (bcell hb2).1; have hf2 := (bcell hb2).2))
      go_ret
      exact ⟨ret_bool (by rw [HE.out, e1, e2]; rfl), by (first | ((repeat (first | exact Below.refl _ _ | assumption | refine Below.drew ?_ | refine Below.setCell ?_ (by simp; try omega) _ | refine Below.alloc ?_ (by simp; try omega) _)); done) | exact Below.trans (by (repeat (first | exact Below.refl _ _ | assumption | refine Below.drew ?_ | refine Below.setCell ?_ (by simp; try omega) _ | refine Below.alloc ?_ (by simp; try omega) _))) (hb2.mono (by simp; try omega)))⟩
  · have hz' : (sideS ax ay bx py cx cy == 0) = false := by simpa using hz
    have HE : Hid (withinB ax ay bx py cx cy qx qy = (!anyPos [sideS ax ay bx py qx qy, sideS bx py cx cy qx qy, sideS cx cy ax ay qx qy] || !anyNeg [sideS ax ay bx py qx qy, sideS bx py cx cy qx qy, sideS cx cy ax ay qx qy])) := Lib.hid (by unfold withinB; rw [if_neg hz])
    clear hz
    cases p1 : anyPos [sideS ax ay bx py qx qy, sideS bx py cx cy qx qy, sideS cx cy ax ay qx qy] <;> cases p2 : anyNeg [sideS ax ay bx py qx qy, sideS bx py cx cy qx qy, sideS cx cy ax ay qx qy]
    all_goals
      go_enter Try.func13, Try.ntmps13
      go_wp2_with (go_at_call 12; refine (calls_from (by first | assumption | exact Below.refl _ _) (side_any ax ay bx py cx cy _ h1 h2 h3 h4 k1 k2 k3 k4 j1 j2 j3 j4)).mono ?_; rintro e w2 ⟨rfl, hb2⟩; have hc2 := (bcell hb2).1; have hf2 := (bcell hb2).2)
      refine Reg.wp_region_cut 12 (by first | exact hb2 | exact Below.refl _ _) (by kernel_rfl) (by kernel_rfl) (fun u => ?_)
      simp only [List.take, List.drop]
      repeat (go_big_quiet_step ((first | (go_at_call 12; exact Reg.calls_aft (side_any _ _ _ _ _ _ _ (by omega) (by omega) (by omega) (by omega) (by omega) (by omega) (by omega) (by omega) (by omega) (by omega) (by omega) (by omega))))))
      refine wpQuiet_nil ?_
      intro xs hxs
      have hbx := Reg.class_below hxs
      clear hxs
      go_wp2_with fail
      have hr : RInts (xs.alloc (.cells #[.int .i64 (sideS ax ay bx py qx qy), .int .i64 (sideS bx py cx cy qx qy), .int .i64 (sideS cx cy ax ay qx qy)] 3)) (xs.alloc (.cells #[.int .i64 (sideS ax ay bx py qx qy), .int .i64 (sideS bx py cx cy qx qy), .int .i64 (sideS cx cy ax ay qx qy)] 3)).heap.size
          (some ⟨xs.heap.size, 0, none⟩) 3 [sideS ax ay bx py qx qy, sideS bx py cx cy qx qy, sideS cx cy ax ay qx qy] := RInts.new (by simp) (fun k v hk => by
        match k, hk with
        | 0, hk => simp at hk; subst hk; simp [go_sem]
        | 1, hk => simp at hk; subst hk; simp [go_sem]
        | 2, hk => simp at hk; subst hk; simp [go_sem])
      have Hr := Lib.hid hr
      clear hr
      refine ⟨rfl, fun u2 => ?_⟩
      repeat (go_big_quiet_step ((first | (go_at_call 35; exact Reg.calls_aft_same (signs_any _ 3 3 _ _ (by omega) (Hr.out.grow (Reg.aft_below _ _ _)))))))
      refine wpQuiet_nil ?_
      intro xt hxt
      have hbt := Reg.class_below hxt
      clear hxt
      go_wp2
      go_ret
      have hx : Below w.heap.size w xs := Below.trans (by (repeat (first | exact Below.refl _ _ | assumption | refine Below.drew ?_ | refine Below.setCell ?_ (by simp; try omega) _ | refine Below.alloc ?_ (by simp; try omega) _))) (hbx.mono (by simp; try omega))
      exact ⟨ret_bool (by rw [HE.out, p1, p2]; rfl), (hx.alloc hx.size _).trans (hbt.mono (by have := hx.size; simp; omega))⟩

end Go.Proofs.Ytklnedcakgfbmaa
