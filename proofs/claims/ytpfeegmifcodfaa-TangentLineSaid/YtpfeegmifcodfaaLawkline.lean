/- TangentLine: a line begins as it finishes, and is straight, or a dot; a curve to its own beginning, by one other point, folds. -/
import Derived.Test.YtpfeegmifcodfaaLawg
import Derived.Test.YtpfeegmifcodfaaOpenb
namespace Go.Proofs.Ytpfeegmifcodfaa
open Go.RowKit

theorem sq_nonneg (x : Int) : 0 ≤ x * x := by
  rcases (by omega : x < 0 ∨ x = 0 ∨ 0 < x) with h | rfl | h
  · exact Int.le_of_lt (Int.mul_pos_of_neg_of_neg h h)
  · simp
  · exact Int.le_of_lt (Int.mul_pos h h)
theorem sq_pos {x : Int} (h : x ≠ 0) : 0 < x * x := by
  rcases (by omega : x < 0 ∨ 0 < x) with h | h
  · exact Int.mul_pos_of_neg_of_neg h h
  · exact Int.mul_pos h h
theorem dot_pos {x y : Int} (h : x ≠ 0 ∨ y ≠ 0) : 0 < x * x + y * y := by
  have a := sq_nonneg x
  have b := sq_nonneg y
  rcases h with h | h
  · have := sq_pos h; omega
  · have := sq_pos h; omega
theorem first_one (p : Int × Int) : firstS [p] = p := by
  obtain ⟨a, b⟩ := p
  unfold firstS
  split
  · rename_i h
    obtain ⟨h1, h2⟩ := h
    simp only at h1 h2
    rw [h1, h2]; rfl
  · rfl
theorem begin_line (ax ay bx bz : Int) : beginP 2 ax ay bx bz 0 0 0 0 = (bx - ax, bz - ay) := first_one _
theorem finish_line (ax ay bx bz : Int) : finishP 2 ax ay bx bz 0 0 0 0 = (bx - ax, bz - ay) := by
  show (-(firstS [(ax - bx, ay - bz)]).1, -(firstS [(ax - bx, ay - bz)]).2) = _
  rw [first_one]
  simp only [Int.neg_sub]
theorem class_line (ax ay bx bz : Int) (h : bx - ax ≠ 0 ∨ bz - ay ≠ 0) : classP 2 ax ay bx bz 0 0 0 0 = 1 := by
  unfold classP
  rw [begin_line]
  show classS ((bendB (bx - ax, bz - ay) (ax, ay) ((bx, bz), (bx - ax, bz - ay))) || false) ((foldB (bx - ax, bz - ay) ((bx, bz), (bx - ax, bz - ay))) || false) _ = 1
  have e1 : bendB (bx - ax, bz - ay) (ax, ay) ((bx, bz), (bx - ax, bz - ay)) = false := by
    simp only [bendB, bne_eq_false_iff_eq]
    rw [Int.mul_comm]; omega
  have e2 : foldB (bx - ax, bz - ay) ((bx, bz), (bx - ax, bz - ay)) = false := by
    have := dot_pos h
    simp only [foldB, decide_eq_false_iff_not]
    omega
  rw [e1, e2]
  simp [classS]
  omega
theorem class_dot2 (ax ay : Int) : classP 2 ax ay ax ay 0 0 0 0 = 0 := by
  unfold classP
  rw [begin_line]
  simp [legsP, bendB, foldB, classS]
theorem begin_fold (ax ay bx bz : Int) : beginP 3 ax ay bx bz ax ay 0 0 = (bx - ax, bz - ay) := by
  show firstS [(bx - ax, bz - ay), (ax - ax, ay - ay)] = _
  by_cases h : bx - ax ≠ 0 ∨ bz - ay ≠ 0
  · exact first_yes h
  · rw [first_no (by simp only; omega) (by simp only; omega), first_one]
    simp; omega
theorem finish_fold (ax ay bx bz : Int) (h : bx - ax ≠ 0 ∨ bz - ay ≠ 0) : finishP 3 ax ay bx bz ax ay 0 0 = (-(bx - ax), -(bz - ay)) := by
  show (-(firstS [(bx - ax, bz - ay), (ax - ax, ay - ay)]).1, -(firstS [(bx - ax, bz - ay), (ax - ax, ay - ay)]).2) = _
  rw [first_yes h]
theorem class_fold (ax ay bx bz : Int) (h : bx - ax ≠ 0 ∨ bz - ay ≠ 0) : classP 3 ax ay bx bz ax ay 0 0 = 2 := by
  unfold classP
  rw [begin_fold]
  show classS ((bendB (bx - ax, bz - ay) (ax, ay) ((bx, bz), (bx - ax, bz - ay))) || ((bendB (bx - ax, bz - ay) (ax, ay) ((ax, ay), (ax - bx, ay - bz))) || false))
    ((foldB (bx - ax, bz - ay) ((bx, bz), (bx - ax, bz - ay))) || ((foldB (bx - ax, bz - ay) ((ax, ay), (ax - bx, ay - bz))) || false)) _ = 2
  have e1 : bendB (bx - ax, bz - ay) (ax, ay) ((bx, bz), (bx - ax, bz - ay)) = false := by
    simp only [bendB, bne_eq_false_iff_eq]
    rw [Int.mul_comm]; omega
  have e2 : bendB (bx - ax, bz - ay) (ax, ay) ((ax, ay), (ax - bx, ay - bz)) = false := by
    simp [bendB]
  have e3 : foldB (bx - ax, bz - ay) ((ax, ay), (ax - bx, ay - bz)) = true := by
    have k := dot_pos h
    simp only [foldB, decide_eq_true_eq]
    rw [show ax - bx = -(bx - ax) by omega, show ay - bz = -(bz - ay) by omega, Int.mul_neg, Int.mul_neg]
    omega
  rw [e1, e2, e3]
  simp [classS]
theorem class_dot3 (ax ay : Int) : classP 3 ax ay ax ay ax ay 0 0 = 0 := by
  unfold classP
  rw [begin_fold]
  simp [legsP, bendB, foldB, classS]

set_option maxRecDepth 100000 in
set_option maxHeartbeats 4000000 in
theorem line_any (ax ay bx bz : Int) (w : World) :
    Calls Try.prog 8 #[.agg #[.int .i64 ax, .int .i64 ay], .agg #[.int .i64 bx, .int .i64 bz]] w fun e w' => e = .returned (.bool true) ∧ Below w.heap.size w w' := by
  by_cases hC : C28 ax ∧ C28 ay ∧ C28 bx ∧ C28 bz
  · obtain ⟨c1, c2, c3, c4⟩ := hC
    have z : C28 0 := by unfold C28; omega
    have G2 : GoodP 2 ax ay bx bz 0 0 0 0 := ⟨⟨by omega, by omega⟩, ⟨c1, c2, c3, c4, z, z, z, z⟩, fun _ => ⟨rfl, rfl⟩, fun _ => ⟨rfl, rfl⟩⟩
    have G3 : GoodP 3 ax ay bx bz ax ay 0 0 := ⟨⟨by omega, by omega⟩, ⟨c1, c2, c3, c4, c1, c2, z, z⟩, fun k => absurd k (by omega), fun _ => ⟨rfl, rfl⟩⟩
    have HC2 := G2.2.1
    have HC3 := G3.2.1
    have KG2 := Lib.hid (fun W => good_yes W G2)
    have KG3 := Lib.hid (fun W => good_yes W G3)
    obtain ⟨a1, a2⟩ := c1
    obtain ⟨a3, a4⟩ := c2
    obtain ⟨a5, a6⟩ := c3
    obtain ⟨a7, a8⟩ := c4
    by_cases hab : bx = ax ∧ bz = ay
    · obtain ⟨rfl, rfl⟩ := hab
      have kc2 : ∀ W, Calls Try.prog 15 #[.agg #[.int .i64 bx, .int .i64 bz, .int .i64 bx, .int .i64 bz, .int .i64 0, .int .i64 0, .int .i64 0, .int .i64 0, .int .i64 2]] W fun e w' => e = .returned (.int .i64 0) ∧ Below W.heap.size W w' := fun W => by
        have h := classN_any 2 (by omega) (by omega) bx bz bx bz 0 0 0 0 W HC2
        rw [show classP (2 : Nat) bx bz bx bz 0 0 0 0 = 0 from class_dot2 bx bz] at h
        exact h
      have kc3 : ∀ W, Calls Try.prog 15 #[.agg #[.int .i64 bx, .int .i64 bz, .int .i64 bx, .int .i64 bz, .int .i64 bx, .int .i64 bz, .int .i64 0, .int .i64 0, .int .i64 3]] W fun e w' => e = .returned (.int .i64 0) ∧ Below W.heap.size W w' := fun W => by
        have h := classN_any 3 (by omega) (by omega) bx bz bx bz bx bz 0 0 W HC3
        rw [show classP (3 : Nat) bx bz bx bz bx bz 0 0 = 0 from class_dot3 bx bz] at h
        exact h
      have kb3 : ∀ W, Calls Try.prog 11 #[.agg #[.int .i64 bx, .int .i64 bz, .int .i64 bx, .int .i64 bz, .int .i64 bx, .int .i64 bz, .int .i64 0, .int .i64 0, .int .i64 3]] W fun e w' => e = .returned (.agg #[.int .i64 0, .int .i64 0]) ∧ Below W.heap.size W w' := fun W => by
        have h := beginN_any 3 (by omega) (by omega) bx bz bx bz bx bz 0 0 W HC3
        rw [show beginP (3 : Nat) bx bz bx bz bx bz 0 0 = (bx - bx, bz - bz) from begin_fold bx bz bx bz] at h
        rw [show bx - bx = 0 by omega, show bz - bz = 0 by omega] at h
        exact h
      have KC2 := Lib.hid kc2
      have KC3 := Lib.hid kc3
      have KB3 := Lib.hid kb3
      clear kc2 kc3 kb3 G2 G3 HC2 HC3
      go_enter Try.func8, Try.ntmps8
      go_wp2_with fail
      refine (KG2.out _).mono ?_
      rintro e w2 ⟨rfl, hb2⟩
      have hc2 := (bcell hb2).1
      go_wp2_with fail
      refine (calls_from hb2 (KG3.out _)).mono ?_
      clear hc2
      rintro e w3 ⟨rfl, hb3⟩
      go_wp2_with fail
      refine (calls_from hb3 (shown_any _)).mono ?_
      clear hb2
      rintro e w4 ⟨rfl, hb4⟩
      have hc4 := (bcell hb4).1
      have hz4 := hb4.size
      simp at hz4
      have l0 : w.heap.size < w4.heap.size := by omega
      have l1 : w.heap.size + 1 < w4.heap.size := by omega
      have l2 : w.heap.size + 1 + 1 < w4.heap.size := by omega
      have l3 : w.heap.size + 1 + 1 + 1 < w4.heap.size := by omega
      have m0 : w.heap.size < w4.heap.size + 1 := by omega
      have m1 : w.heap.size + 1 < w4.heap.size + 1 := by omega
      have m2 : w.heap.size + 1 + 1 < w4.heap.size + 1 := by omega
      have m3 : w.heap.size + 1 + 1 + 1 < w4.heap.size + 1 := by omega
      have hx4 : Below w.heap.size w w4 := Below.trans (by (repeat (first | exact Below.refl _ _ | assumption | refine Below.drew ?_ | refine Below.setCell ?_ (by simp; try omega) _ | refine Below.alloc ?_ (by simp; try omega) _))) (hb4.mono (by simp; omega))
      clear hb3
      go_wp2_with (first
        | (go_at_call 11; refine (calls_from (by first | exact hb5 | exact Below.refl _ _) (KB3.out _)).mono ?_; rintro e w5 ⟨rfl, hb5⟩; have hc5 := (bcell hb5).1)
        | (go_at_call 15; with_reducible refine (calls_from (by first | exact hb5 | exact Below.refl _ _) (KC2.out _)).mono ?_; rintro e w5 ⟨rfl, hb5⟩; have hc5 := (bcell hb5).1)
        | (go_at_call 15; with_reducible refine (calls_from (by first | exact hb5 | exact Below.refl _ _) (KC3.out _)).mono ?_; rintro e w5 ⟨rfl, hb5⟩; have hc5 := (bcell hb5).1))
      go_ret
      exact ⟨rfl, (hx4.alloc hx4.size _).trans (hb5.mono (by simp; omega))⟩
    · have hd : bx - ax ≠ 0 ∨ bz - ay ≠ 0 := by omega
      have kb2 : ∀ W, Calls Try.prog 11 #[.agg #[.int .i64 ax, .int .i64 ay, .int .i64 bx, .int .i64 bz, .int .i64 0, .int .i64 0, .int .i64 0, .int .i64 0, .int .i64 2]] W fun e w' => e = .returned (.agg #[.int .i64 (bx - ax), .int .i64 (bz - ay)]) ∧ Below W.heap.size W w' := fun W => by
        have h := beginN_any 2 (by omega) (by omega) ax ay bx bz 0 0 0 0 W HC2
        rw [show beginP (2 : Nat) ax ay bx bz 0 0 0 0 = (bx - ax, bz - ay) from begin_line ax ay bx bz] at h
        exact h
      have kf2 : ∀ W, Calls Try.prog 13 #[.agg #[.int .i64 ax, .int .i64 ay, .int .i64 bx, .int .i64 bz, .int .i64 0, .int .i64 0, .int .i64 0, .int .i64 0, .int .i64 2]] W fun e w' => e = .returned (.agg #[.int .i64 (bx - ax), .int .i64 (bz - ay)]) ∧ Below W.heap.size W w' := fun W => by
        have h := finishN_any 2 (by omega) (by omega) ax ay bx bz 0 0 0 0 W HC2
        rw [show finishP (2 : Nat) ax ay bx bz 0 0 0 0 = (bx - ax, bz - ay) from finish_line ax ay bx bz] at h
        exact h
      have kc2 : ∀ W, Calls Try.prog 15 #[.agg #[.int .i64 ax, .int .i64 ay, .int .i64 bx, .int .i64 bz, .int .i64 0, .int .i64 0, .int .i64 0, .int .i64 0, .int .i64 2]] W fun e w' => e = .returned (.int .i64 1) ∧ Below W.heap.size W w' := fun W => by
        have h := classN_any 2 (by omega) (by omega) ax ay bx bz 0 0 0 0 W HC2
        rw [show classP (2 : Nat) ax ay bx bz 0 0 0 0 = 1 from class_line ax ay bx bz hd] at h
        exact h
      have kb3 : ∀ W, Calls Try.prog 11 #[.agg #[.int .i64 ax, .int .i64 ay, .int .i64 bx, .int .i64 bz, .int .i64 ax, .int .i64 ay, .int .i64 0, .int .i64 0, .int .i64 3]] W fun e w' => e = .returned (.agg #[.int .i64 (bx - ax), .int .i64 (bz - ay)]) ∧ Below W.heap.size W w' := fun W => by
        have h := beginN_any 3 (by omega) (by omega) ax ay bx bz ax ay 0 0 W HC3
        rw [show beginP (3 : Nat) ax ay bx bz ax ay 0 0 = (bx - ax, bz - ay) from begin_fold ax ay bx bz] at h
        exact h
      have kf3 : ∀ W, Calls Try.prog 13 #[.agg #[.int .i64 ax, .int .i64 ay, .int .i64 bx, .int .i64 bz, .int .i64 ax, .int .i64 ay, .int .i64 0, .int .i64 0, .int .i64 3]] W fun e w' => e = .returned (.agg #[.int .i64 (-(bx - ax)), .int .i64 (-(bz - ay))]) ∧ Below W.heap.size W w' := fun W => by
        have h := finishN_any 3 (by omega) (by omega) ax ay bx bz ax ay 0 0 W HC3
        rw [show finishP (3 : Nat) ax ay bx bz ax ay 0 0 = (-(bx - ax), -(bz - ay)) from finish_fold ax ay bx bz hd] at h
        exact h
      have kc3 : ∀ W, Calls Try.prog 15 #[.agg #[.int .i64 ax, .int .i64 ay, .int .i64 bx, .int .i64 bz, .int .i64 ax, .int .i64 ay, .int .i64 0, .int .i64 0, .int .i64 3]] W fun e w' => e = .returned (.int .i64 2) ∧ Below W.heap.size W w' := fun W => by
        have h := classN_any 3 (by omega) (by omega) ax ay bx bz ax ay 0 0 W HC3
        rw [show classP (3 : Nat) ax ay bx bz ax ay 0 0 = 2 from class_fold ax ay bx bz hd] at h
        exact h
      have KB2 := Lib.hid kb2
      have KF2 := Lib.hid kf2
      have KC2 := Lib.hid kc2
      have KB3 := Lib.hid kb3
      have KF3 := Lib.hid kf3
      have KC3 := Lib.hid kc3
      clear kb2 kf2 kc2 kb3 kf3 kc3 G2 G3 HC2 HC3
      have he : (ax == bx) = false ∨ ((ax == bx) = true ∧ (ay == bz) = false) := by
        by_cases k : ax = bx
        · right; exact ⟨by simpa using k, by simp; omega⟩
        · left; simpa using k
      clear hab hd
      rcases he with h | ⟨h, h'⟩
      all_goals
        go_enter Try.func8, Try.ntmps8
        go_wp2_with fail
        refine (KG2.out _).mono ?_
        rintro e w2 ⟨rfl, hb2⟩
        have hc2 := (bcell hb2).1
        go_wp2_with fail
        refine (calls_from hb2 (KG3.out _)).mono ?_
        clear hc2
        rintro e w3 ⟨rfl, hb3⟩
        go_wp2_with fail
        refine (calls_from hb3 (shown_any _)).mono ?_
        clear hb2
        rintro e w4 ⟨rfl, hb4⟩
        have hc4 := (bcell hb4).1
        have hz4 := hb4.size
        simp at hz4
        have l0 : w.heap.size < w4.heap.size := by omega
        have l1 : w.heap.size + 1 < w4.heap.size := by omega
        have l2 : w.heap.size + 1 + 1 < w4.heap.size := by omega
        have l3 : w.heap.size + 1 + 1 + 1 < w4.heap.size := by omega
        have m0 : w.heap.size < w4.heap.size + 1 := by omega
        have m1 : w.heap.size + 1 < w4.heap.size + 1 := by omega
        have m2 : w.heap.size + 1 + 1 < w4.heap.size + 1 := by omega
        have m3 : w.heap.size + 1 + 1 + 1 < w4.heap.size + 1 := by omega
        have hx4 : Below w.heap.size w w4 := Below.trans (by (repeat (first | exact Below.refl _ _ | assumption | refine Below.drew ?_ | refine Below.setCell ?_ (by simp; try omega) _ | refine Below.alloc ?_ (by simp; try omega) _))) (hb4.mono (by simp; omega))
        clear hb3
        go_wp2_with fail
        refine Reg.wp_region_all (Below.refl _ _) (by kernel_rfl) (by kernel_rfl) ?_
        repeat (go_big_quiet_step ((first | (go_at_call 11; with_reducible exact Reg.calls_aft (KB2.out _)) | (go_at_call 13; with_reducible exact Reg.calls_aft (KF2.out _)) | (go_at_call 15; with_reducible exact Reg.calls_aft (KC2.out _)) | (go_at_call 15; with_reducible exact Reg.calls_aft (KC3.out _)) | (go_at_call 11; with_reducible exact Reg.calls_aft (KB3.out _)) | (go_at_call 13; with_reducible exact Reg.calls_aft (KF3.out _)))))
        refine wpQuiet_nil ?_
        intro xs hxs
        have hbx := Reg.class_below hxs
        clear hxs
        go_wp2_with fail
        go_ret
        exact ⟨rfl, (hx4.alloc hx4.size _).trans (hbx.mono (by simp; omega))⟩
  · have z : C28 0 := by unfold C28; omega
    have G2 : ¬ GoodP 2 ax ay bx bz 0 0 0 0 := fun h => hC ⟨h.2.1.1, h.2.1.2.1, h.2.1.2.2.1, h.2.1.2.2.2.1⟩
    have KG2 := Lib.hid (fun W => good_no W G2)
    clear G2 hC z
    go_enter Try.func8, Try.ntmps8
    go_wp2_with (first | (go_at_call 9; refine (calls_from (by first | assumption | exact Below.refl _ _) (KG2.out _)).mono ?_; rintro e w2 ⟨rfl, hb2⟩; have hc2 := (bcell hb2).1; have hf2 := (bcell hb2).2) | (go_at_call 10; refine (calls_from (by first | assumption | exact Below.refl _ _) (shown_any _)).mono ?_; rintro e w2 ⟨rfl, hb2⟩; have hc2 := (bcell hb2).1; have hf2 := (bcell hb2).2))
    go_ret
    exact ⟨rfl, by (first | ((repeat (first | exact Below.refl _ _ | assumption | refine Below.drew ?_ | refine Below.setCell ?_ (by simp; try omega) _ | refine Below.alloc ?_ (by simp; try omega) _)); done) | exact Below.trans (by (repeat (first | exact Below.refl _ _ | assumption | refine Below.drew ?_ | refine Below.setCell ?_ (by simp; try omega) _ | refine Below.alloc ?_ (by simp; try omega) _))) (hb2.mono (by simp; try omega)))⟩

namespace tline
open Go.ChangeShapes Go.WideShapes Go.ChangeAt

theorem contract {H : Type} (enc : TypeId × Value → H) (W : World) (base : Nat) (args : Array Value) (ds : List (DataW H)) (ps : List MemPlace)
    (hval : ∀ (j : Nat) t v, Try.f8.params[j]? = some t → args[j]? = some v → Value.okWide Try.checked.prog W .any base t v)
    (hA : DataW.TrodAll enc Try.checked.prog W 0 (fun _ => true) true Try.f8.params.toList args.toList ds ps) (hlt : ∀ x ∈ ps, x.block < W.heap.size) :
    Calls Try.checked.prog 8 args W fun e W' => e = .returned (.bool true) ∧ Below W.heap.size W W' := by
  rw [Try.params8] at hA hval
  obtain ⟨v0, vs0, d0, ds0, p0, q0, ea, rfl, rfl, h0, hA⟩ := trodAll_cons hA
  obtain ⟨v1, vs1, d1, ds1, p1, q1, rfl, rfl, rfl, h1, hA⟩ := trodAll_cons hA
  obtain ⟨rfl, rfl, rfl⟩ := trodAll_nil hA
  obtain rfl : args = #[v0, v1] := by cases args; simp_all
  have _ := hlt
  obtain ⟨x, y, rfl, _, _⟩ := open_pt (hval 0 _ _ rfl rfl) h0
  obtain ⟨x', y', rfl, _, _⟩ := open_pt (hval 1 _ _ rfl rfl) h1
  exact line_any x y x' y' W

set_option maxRecDepth 100000 in
theorem lifted (os : Os) (started : os.Started) (H : Type) (enc : TypeId × Value → H) :
    ReturnsInHanded {} Try.checked os 8 .any (Rows.tangentLineSpec.pre6 enc Try.prog Try.f8 [] false) (Rows.tangentLineSpec.post enc Try.prog Try.f8 false true false false) :=
  law_lift (bT := 4) started (by kernel_rfl) Try.func8 rfl (by kernel_rfl) (by kernel_rfl) (by kernel_rfl) (fun ds h => by match ds, h with | [_, _], _ => rfl)
    (ChangeSpec.witness6 (enc := enc) (C := Try.checked) false ⟨#[], #[.agg #[.int .i64 0, .int .i64 0], .agg #[.int .i64 0, .int .i64 0]], []⟩ 8 (by kernel_rfl) (by kernel_rfl) (by kernel_rfl) (by kernel_rfl))
    (fun W base args ds ps hval hA hlt => contract enc W base args ds ps hval hA hlt)

theorem holds : Rows.TangentLineSaid :=
  OpenClaim.holds_of_wide 8 Try.f8 rfl rfl rfl rfl rfl rfl rfl ⟨rfl, rfl, rfl, rfl, rfl⟩ rfl rfl rfl rfl rfl (by kernel_rfl) Try.func8 (by kernel_rfl)
    (of_decide_eq_true (by kernel_rfl)) (by unfold Func.isWrapper; first | (rw [if_pos (by decide +kernel)]; kernel_rfl) | (rw [if_neg (by decide +kernel)]; exact ⟨rfl, rfl⟩))
    (fun os started H enc _ => lifted os started H enc)
end tline
end Go.Proofs.Ytpfeegmifcodfaa
