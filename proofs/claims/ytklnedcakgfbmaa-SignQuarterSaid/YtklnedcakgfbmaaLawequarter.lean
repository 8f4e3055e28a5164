/- SignQuarter: turned to the left a vector comes to the next quarter. -/
import Derived.Test.YtklnedcakgfbmaaLaweb
import Derived.Test.YtklnedcakgfbmaaOpen
namespace Go.Proofs.Ytklnedcakgfbmaa
open Go.RowKit

theorem square_pos {x y : Int} (h : x ≠ 0 ∨ y ≠ 0) : 0 < x * x + y * y := by
  have a := mul_sign x x
  have b := mul_sign y y
  omega
theorem before_left {x y : Int} (h : x ≠ 0 ∨ y ≠ 0) : beforeB x y (-y) x = (quarterS x y != 3) := by
  have a := quarter_cases x y h
  have b := quarter_cases (-y) x (by omega)
  have c := square_pos h
  have e : x * x - y * -y = x * x + y * y := by rw [Int.mul_neg]; omega
  rw [Bool.eq_iff_iff, beforeB_iff, e, bne_iff_ne]
  omega
theorem sharp_left (x y : Int) : x * -y + y * x = 0 := by rw [Int.mul_neg, Int.mul_comm y x]; omega
/-- The quarter as a number of its own. -/
theorem quarter_left' {x y : Int} (h : x ≠ 0 ∨ y ≠ 0) : (quarterS x y = 0 ∧ quarterS (-y) x = 1 ∧ quarterS (-x) (-y) = 2 ∧ beforeB x y (-y) x = true) ∨ (quarterS x y = 1 ∧ quarterS (-y) x = 2 ∧ quarterS (-x) (-y) = 3 ∧ beforeB x y (-y) x = true) ∨
    (quarterS x y = 2 ∧ quarterS (-y) x = 3 ∧ quarterS (-x) (-y) = 0 ∧ beforeB x y (-y) x = true) ∨ (quarterS x y = 3 ∧ quarterS (-y) x = 0 ∧ quarterS (-x) (-y) = 1 ∧ beforeB x y (-y) x = false) := by
  have a := quarter_cases (-y) x (by omega)
  have b := quarter_cases (-x) (-y) (by omega)
  have d := quarter_cases x y h
  rw [before_left h]
  rcases d with d | d | d | d
  · exact Or.inl ⟨by omega, by omega, by omega, by rw [d.2.2]; rfl⟩
  · exact Or.inr (Or.inl ⟨by omega, by omega, by omega, by rw [d.2.2]; rfl⟩)
  · exact Or.inr (Or.inr (Or.inl ⟨by omega, by omega, by omega, by rw [d.2.2]; rfl⟩))
  · exact Or.inr (Or.inr (Or.inr ⟨by omega, by omega, by omega, by rw [d.2.2]; rfl⟩))

set_option maxHeartbeats 2000000 in
theorem lquarter_any (x y : Int) (w : World) :
    Calls Try.prog 9 #[.agg #[.int .i64 x, .int .i64 y]] w fun e w' => e = .returned (.bool true) ∧ Below w.heap.size w w' := by
  cases hn : [(x, y)].all fun q => nearP q.1 q.2
  · have Hn := Lib.hid hn
    clear hn
    go_enter Try.func9, Try.ntmps9
    go_wp2_with (first | (go_at_call 10; refine (calls_from (by first | assumption | exact Below.refl _ _) (lnear_any _ 1 1 [(x, y)] _ (by omega) (by exact RPts.new (by simp) (fun k p hk => by match k, hk with | 0, hk => (simp at hk; subst hk; simp [go_sem]))))).mono ?_; rw [Hn.out]; rintro e w2 ⟨rfl, hb2⟩; have hc2 := (bcell hb2).1) | (go_at_call 11; refine (calls_from (by first | assumption | exact Below.refl _ _) (shown_any _)).mono ?_; rintro e w2 ⟨rfl, hb2⟩; have hc2 := (bcell hb2).1; have hf2 := (bcell hb2).2))
    go_ret
    exact ⟨rfl, by (first | ((repeat (first | exact Below.refl _ _ | assumption | refine Below.drew ?_ | refine Below.setCell ?_ (by simp; try omega) _ | refine Below.alloc ?_ (by simp; try omega) _)); done) | exact Below.trans (by (repeat (first | exact Below.refl _ _ | assumption | refine Below.drew ?_ | refine Below.setCell ?_ (by simp; try omega) _ | refine Below.alloc ?_ (by simp; try omega) _))) (hb2.mono (by simp; try omega)))⟩
  · have Hn := Lib.hid hn
    simp only [List.all_cons, List.all_nil, Bool.and_true] at hn
    obtain ⟨a1, a2, a3, a4⟩ := nearP_true hn
    clear hn
    cases hz : x == 0 && y == 0
    · have h0 : x ≠ 0 ∨ y ≠ 0 := by
        simp only [Bool.and_eq_false_iff, beq_eq_false_iff_ne] at hz
        exact hz
      have e7 := sharp_left x y
      have e8 : decide (x * -y + y * x < 0) = false := by rw [e7]; rfl
      have hq := quarter_left' h0
      have hs : ((x == 0) = false) ∨ ((x == 0) = true ∧ (y == 0) = false) := by
        cases k : x == 0
        · left; rfl
        · right; rw [k] at hz; exact ⟨rfl, by simpa using hz⟩
      clear hz h0 e7
      rcases hs with k | ⟨k, k'⟩ <;> rcases hq with ⟨q1, q2, q3, q4⟩ | ⟨q1, q2, q3, q4⟩ | ⟨q1, q2, q3, q4⟩ | ⟨q1, q2, q3, q4⟩
      all_goals
        go_enter Try.func9, Try.ntmps9
        go_wp2_with (first | (go_at_call 10; refine (calls_from (by first | assumption | exact Below.refl _ _) (lnear_any _ 1 1 [(x, y)] _ (by omega) (by exact RPts.new (by simp) (fun k p hk => by match k, hk with | 0, hk => (simp at hk; subst hk; simp [go_sem]))))).mono ?_; rw [Hn.out]; rintro e w2 ⟨rfl, hb2⟩; have hc2 := (bcell hb2).1) | (go_at_call 11; refine (calls_from (by first | assumption | exact Below.refl _ _) (shown_any _)).mono ?_; rintro e w2 ⟨rfl, hb2⟩; have hc2 := (bcell hb2).1; have hf2 := (bcell hb2).2) | (go_at_call 26; refine (calls_from (by first | assumption | exact Below.refl _ _) (quarter_any _ _ _)).mono ?_; rintro e w2 ⟨rfl, hb2⟩; have hc2 := (bcell hb2).1; have hf2 := (bcell hb2).2) | (go_at_call 17; refine (calls_from (by first | assumption | exact Below.refl _ _) (before_any _ _ _ _ _ (by omega) (by omega) (by omega) (by omega) (by omega) (by omega) (by omega) (by omega))).mono ?_; rintro e w2 ⟨rfl, hb2⟩; have hc2 := (bcell hb2).1; have hf2 := (bcell hb2).2) | (go_at_call 23; refine (calls_from (by first | assumption | exact Below.refl _ _) (sharp_any _ _ _ _ _ (by omega) (by omega) (by omega) (by omega) (by omega) (by omega) (by omega) (by omega))).mono ?_; rintro e w2 ⟨rfl, hb2⟩; have hc2 := (bcell hb2).1; have hf2 := (bcell hb2).2) | ((go_at_call 29; refine (calls_from (by first | assumption | exact Below.refl _ _) (r4left_any _ _ _ (by omega) (by omega))).mono ?_; rintro e w2 ⟨rfl, hb2⟩; have hc2 := (bcell hb2).1; have hf2 := (bcell hb2).2); have hs2 : w.heap.size < w2.heap.size := (by have := hb2.size; simp at this; omega); have hs3 : w.heap.size < w2.heap.size + 1 := (by omega); have hs4 : w.heap.size ≠ w2.heap.size := Nat.ne_of_lt hs2; have hs5 : w2.heap.size ≠ w.heap.size := hs4.symm; have hy : Below w.heap.size w w2 := (by (first | ((repeat (first | exact Below.refl _ _ | assumption | refine Below.drew ?_ | refine Below.setCell ?_ (by simp; try omega) _ | refine Below.alloc ?_ (by simp; try omega) _)); done) | exact Below.trans (by (repeat (first | exact Below.refl _ _ | assumption | refine Below.drew ?_ | refine Below.setCell ?_ (by simp; try omega) _ | refine Below.alloc ?_ (by simp; try omega) _))) (hb2.mono (by simp; try omega))))) | (go_at_call 30; refine (calls_from (by first | assumption | exact Below.refl _ _) (r4neg_any _ _ _ (by omega) (by omega) (by omega) (by omega))).mono ?_; rintro e w2 ⟨rfl, hb2⟩; have hc2 := (bcell hb2).1; have hf2 := (bcell hb2).2))
        go_ret
        exact ⟨rfl, (hy.alloc hy.size _).trans (hb2.mono (by have := hy.size; simp; omega))⟩
    · have e1 : quarterS 0 0 = 0 := by decide
      obtain ⟨rfl, rfl⟩ : x = 0 ∧ y = 0 := by simpa using hz
      clear hz
      go_enter Try.func9, Try.ntmps9
      go_wp2_with (first | (go_at_call 10; refine (calls_from (by first | assumption | exact Below.refl _ _) (lnear_any _ 1 1 [(0, 0)] _ (by omega) (by exact RPts.new (by simp) (fun k p hk => by match k, hk with | 0, hk => (simp at hk; subst hk; simp [go_sem]))))).mono ?_; rw [Hn.out]; rintro e w2 ⟨rfl, hb2⟩; have hc2 := (bcell hb2).1) | (go_at_call 11; refine (calls_from (by first | assumption | exact Below.refl _ _) (shown_any _)).mono ?_; rintro e w2 ⟨rfl, hb2⟩; have hc2 := (bcell hb2).1; have hf2 := (bcell hb2).2) | (go_at_call 26; refine (calls_from (by first | assumption | exact Below.refl _ _) (quarter_any _ _ _)).mono ?_; rintro e w2 ⟨rfl, hb2⟩; have hc2 := (bcell hb2).1; have hf2 := (bcell hb2).2))
      go_ret
      exact ⟨rfl, by (first | ((repeat (first | exact Below.refl _ _ | assumption | refine Below.drew ?_ | refine Below.setCell ?_ (by simp; try omega) _ | refine Below.alloc ?_ (by simp; try omega) _)); done) | exact Below.trans (by (repeat (first | exact Below.refl _ _ | assumption | refine Below.drew ?_ | refine Below.setCell ?_ (by simp; try omega) _ | refine Below.alloc ?_ (by simp; try omega) _))) (hb2.mono (by simp; try omega)))⟩

namespace lquarter
open Go.ChangeShapes Go.WideShapes Go.ChangeAt

theorem contract {H : Type} (enc : TypeId × Value → H) (W : World) (base : Nat) (args : Array Value) (ds : List (DataW H)) (ps : List MemPlace)
    (hval : ∀ (j : Nat) t v, Try.f9.params[j]? = some t → args[j]? = some v → Value.okWide Try.checked.prog W .any base t v)
    (hA : DataW.TrodAll enc Try.checked.prog W 0 (fun _ => true) true Try.f9.params.toList args.toList ds ps) (hlt : ∀ x ∈ ps, x.block < W.heap.size) :
    Calls Try.checked.prog 9 args W fun e W' => e = .returned (.bool true) ∧ Below W.heap.size W W' := by
  rw [Try.params9] at hA hval
  have _ := hlt
  obtain ⟨v0, d0, rfl, rfl, h0⟩ := trodAll_one hA
  obtain ⟨x, y, rfl, _, _⟩ := open_pt (hval 0 _ _ rfl rfl) h0
  exact lquarter_any x y W

set_option maxRecDepth 100000 in
theorem lifted (os : Os) (started : os.Started) (H : Type) (enc : TypeId × Value → H) :
    ReturnsInHanded {} Try.checked os 9 .any (Rows.signQuarterSpec.pre6 enc Try.prog Try.f9 [] false) (Rows.signQuarterSpec.post enc Try.prog Try.f9 false true false false) :=
  law_lift (bT := 4) started (by kernel_rfl) Try.func9 rfl (by kernel_rfl) (by kernel_rfl) (by kernel_rfl) (fun ds h => by match ds, h with | [_], _ => rfl)
    (ChangeSpec.witness6 (enc := enc) (C := Try.checked) false ⟨#[], #[.agg #[.int .i64 0, .int .i64 0]], []⟩ 8 (by kernel_rfl) (by kernel_rfl) (by kernel_rfl) (by kernel_rfl))
    (fun W base args ds ps hval hA hlt => contract enc W base args ds ps hval hA hlt)

theorem holds : Rows.SignQuarterSaid :=
  OpenClaim.holds_of_wide 9 Try.f9 rfl rfl rfl rfl rfl rfl rfl ⟨rfl, rfl, rfl, rfl, rfl⟩ rfl rfl rfl rfl rfl (by kernel_rfl) Try.func9 (by kernel_rfl)
    (of_decide_eq_true (by kernel_rfl)) (by unfold Func.isWrapper; first | (rw [if_pos (by decide +kernel)]; kernel_rfl) | (rw [if_neg (by decide +kernel)]; exact ⟨rfl, rfl⟩))
    (fun os started H enc _ => lifted os started H enc)
end lquarter
end Go.Proofs.Ytklnedcakgfbmaa
