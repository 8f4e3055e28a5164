/- TangentMeet: two vectors that meet to the left meet to the right the other way round; against one another the ways on and back change. -/
import Derived.Test.YtpfeegmifcodfaaLawk
import Derived.Test.YtpfeegmifcodfaaOpen
namespace Go.Proofs.Ytpfeegmifcodfaa
open Go.RowKit

theorem meet_law (x y x' y' : Int) :
    (meetS x y x' y' = 1 ∧ meetS x' y' x y = 2 ∧ meetS x y (-x') (-y') = 2) ∨ (meetS x y x' y' = 2 ∧ meetS x' y' x y = 1 ∧ meetS x y (-x') (-y') = 1) ∨
    (meetS x y x' y' = 3 ∧ meetS x' y' x y = 3 ∧ meetS x y (-x') (-y') = 0) ∨ (meetS x y x' y' = 0 ∧ meetS x' y' x y = 0 ∧ meetS x y (-x') (-y') = 3) ∨
    (meetS x y x' y' = 0 ∧ meetS x' y' x y = 0 ∧ meetS x y (-x') (-y') = 0) := by
  have a := meet_cases x y x' y'
  have b := meet_cases x' y' x y
  have c := meet_cases x y (-x') (-y')
  have e1 : x' * y - y' * x = -(x * y' - y * x') := by simp only [Int.mul_comm]; omega
  have e2 : x' * x + y' * y = x * x' + y * y' := by rw [Int.mul_comm x', Int.mul_comm y']
  have e3 : x * -y' - y * -x' = -(x * y' - y * x') := by rw [Int.mul_neg, Int.mul_neg]; omega
  have e4 : x * -x' + y * -y' = -(x * x' + y * y') := by rw [Int.mul_neg, Int.mul_neg]; omega
  rw [e1, e2] at b
  rw [e3, e4] at c
  generalize x * y' - y * x' = p at *
  generalize x * x' + y * y' = q at *
  rcases a with ⟨a1, a2⟩ | ⟨a1, a2⟩ | ⟨a1, a3, a2⟩ | ⟨a1, a3, a2⟩
  · exact Or.inl ⟨a2, by omega, by omega⟩
  · exact Or.inr (Or.inl ⟨a2, by omega, by omega⟩)
  · exact Or.inr (Or.inr (Or.inl ⟨a2, by omega, by omega⟩))
  · by_cases hq : q = 0
    · exact Or.inr (Or.inr (Or.inr (Or.inr ⟨a2, by omega, by omega⟩)))
    · exact Or.inr (Or.inr (Or.inr (Or.inl ⟨a2, by omega, by omega⟩)))

set_option maxHeartbeats 2000000 in
theorem tmeet_any (x y x' y' : Int) (w : World) :
    Calls Try.prog 6 #[.agg #[.int .i64 x, .int .i64 y], .agg #[.int .i64 x', .int .i64 y']] w fun e w' => e = .returned (.bool true) ∧ Below w.heap.size w w' := by
  cases h1 : halfB x y
  · go_enter Try.func6, Try.ntmps6
    go_wp2_with (first | (go_at_call 17; refine (calls_from (by first | assumption | exact Below.refl _ _) (lhalf_any _ _ _)).mono ?_; rintro e w2 ⟨rfl, hb2⟩; have hc2 := (bcell hb2).1; have hf2 := (bcell hb2).2) | (go_at_call 10; refine (calls_from (by first | assumption | exact Below.refl _ _) (shown_any _)).mono ?_; rintro e w2 ⟨rfl, hb2⟩; have hc2 := (bcell hb2).1; have hf2 := (bcell hb2).2))
    go_ret
    exact ⟨rfl, by (first | ((repeat (first | exact Below.refl _ _ | assumption | refine Below.drew ?_ | refine Below.setCell ?_ (by simp; try omega) _ | refine Below.alloc ?_ (by simp; try omega) _)); done) | exact Below.trans (by (repeat (first | exact Below.refl _ _ | assumption | refine Below.drew ?_ | refine Below.setCell ?_ (by simp; try omega) _ | refine Below.alloc ?_ (by simp; try omega) _))) (hb2.mono (by simp; try omega)))⟩
  cases h2 : halfB x' y'
  · go_enter Try.func6, Try.ntmps6
    go_wp2_with (first | (go_at_call 17; refine (calls_from (by first | assumption | exact Below.refl _ _) (lhalf_any _ _ _)).mono ?_; rintro e w2 ⟨rfl, hb2⟩; have hc2 := (bcell hb2).1; have hf2 := (bcell hb2).2) | (go_at_call 10; refine (calls_from (by first | assumption | exact Below.refl _ _) (shown_any _)).mono ?_; rintro e w2 ⟨rfl, hb2⟩; have hc2 := (bcell hb2).1; have hf2 := (bcell hb2).2))
    go_ret
    exact ⟨rfl, by (first | ((repeat (first | exact Below.refl _ _ | assumption | refine Below.drew ?_ | refine Below.setCell ?_ (by simp; try omega) _ | refine Below.alloc ?_ (by simp; try omega) _)); done) | exact Below.trans (by (repeat (first | exact Below.refl _ _ | assumption | refine Below.drew ?_ | refine Below.setCell ?_ (by simp; try omega) _ | refine Below.alloc ?_ (by simp; try omega) _))) (hb2.mono (by simp; try omega)))⟩
  obtain ⟨⟨a1, a2⟩, ⟨a3, a4⟩⟩ := halfB_true h1
  obtain ⟨⟨b1, b2⟩, ⟨b3, b4⟩⟩ := halfB_true h2
  simp only at a1 a2 a3 a4 b1 b2 b3 b4
  rcases meet_law x y x' y' with ⟨e1, e2, e3⟩ | ⟨e1, e2, e3⟩ | ⟨e1, e2, e3⟩ | ⟨e1, e2, e3⟩ | ⟨e1, e2, e3⟩
  all_goals
    go_enter Try.func6, Try.ntmps6
    go_wp2_with (first | (go_at_call 17; refine (calls_from (by first | assumption | exact Below.refl _ _) (lhalf_any _ _ _)).mono ?_; rintro e w2 ⟨rfl, hb2⟩; have hc2 := (bcell hb2).1; have hf2 := (bcell hb2).2) | (go_at_call 10; refine (calls_from (by first | assumption | exact Below.refl _ _) (shown_any _)).mono ?_; rintro e w2 ⟨rfl, hb2⟩; have hc2 := (bcell hb2).1; have hf2 := (bcell hb2).2) | (go_at_call 22; refine (calls_from (by first | assumption | exact Below.refl _ _) (meet_any _ _ _ _ _ (by omega) (by omega) (by omega) (by omega) (by omega) (by omega) (by omega) (by omega))).mono ?_; rintro e w2 ⟨rfl, hb2⟩; have hc2 := (bcell hb2).1; have hf2 := (bcell hb2).2))
    go_ret
    exact ⟨rfl, by (first | ((repeat (first | exact Below.refl _ _ | assumption | refine Below.drew ?_ | refine Below.setCell ?_ (by simp; try omega) _ | refine Below.alloc ?_ (by simp; try omega) _)); done) | exact Below.trans (by (repeat (first | exact Below.refl _ _ | assumption | refine Below.drew ?_ | refine Below.setCell ?_ (by simp; try omega) _ | refine Below.alloc ?_ (by simp; try omega) _))) (hb2.mono (by simp; try omega)))⟩

namespace tmeet
open Go.ChangeShapes Go.WideShapes Go.ChangeAt

theorem contract {H : Type} (enc : TypeId × Value → H) (W : World) (base : Nat) (args : Array Value) (ds : List (DataW H)) (ps : List MemPlace)
    (hval : ∀ (j : Nat) t v, Try.f6.params[j]? = some t → args[j]? = some v → Value.okWide Try.checked.prog W .any base t v)
    (hA : DataW.TrodAll enc Try.checked.prog W 0 (fun _ => true) true Try.f6.params.toList args.toList ds ps) (hlt : ∀ x ∈ ps, x.block < W.heap.size) :
    Calls Try.checked.prog 6 args W fun e W' => e = .returned (.bool true) ∧ Below W.heap.size W W' := by
  rw [Try.params6] at hA hval
  obtain ⟨v0, vs0, d0, ds0, p0, q0, ea, rfl, rfl, h0, hA⟩ := trodAll_cons hA
  obtain ⟨v1, vs1, d1, ds1, p1, q1, rfl, rfl, rfl, h1, hA⟩ := trodAll_cons hA
  obtain ⟨rfl, rfl, rfl⟩ := trodAll_nil hA
  obtain rfl : args = #[v0, v1] := by cases args; simp_all
  have _ := hlt
  obtain ⟨x, y, rfl, _, _⟩ := open_pt (hval 0 _ _ rfl rfl) h0
  obtain ⟨x', y', rfl, _, _⟩ := open_pt (hval 1 _ _ rfl rfl) h1
  exact tmeet_any x y x' y' W

set_option maxRecDepth 100000 in
theorem lifted (os : Os) (started : os.Started) (H : Type) (enc : TypeId × Value → H) :
    ReturnsInHanded {} Try.checked os 6 .any (Rows.tangentMeetSpec.pre6 enc Try.prog Try.f6 [] false) (Rows.tangentMeetSpec.post enc Try.prog Try.f6 false true false false) :=
  law_lift (bT := 4) started (by kernel_rfl) Try.func6 rfl (by kernel_rfl) (by kernel_rfl) (by kernel_rfl) (fun ds h => by match ds, h with | [_, _], _ => rfl)
    (ChangeSpec.witness6 (enc := enc) (C := Try.checked) false ⟨#[], #[.agg #[.int .i64 0, .int .i64 0], .agg #[.int .i64 0, .int .i64 0]], []⟩ 8 (by kernel_rfl) (by kernel_rfl) (by kernel_rfl) (by kernel_rfl))
    (fun W base args ds ps hval hA hlt => contract enc W base args ds ps hval hA hlt)

theorem holds : Rows.TangentMeetSaid :=
  OpenClaim.holds_of_wide 6 Try.f6 rfl rfl rfl rfl rfl rfl rfl ⟨rfl, rfl, rfl, rfl, rfl⟩ rfl rfl rfl rfl rfl (by kernel_rfl) Try.func6 (by kernel_rfl)
    (of_decide_eq_true (by kernel_rfl)) (by unfold Func.isWrapper; first | (rw [if_pos (by decide +kernel)]; kernel_rfl) | (rw [if_neg (by decide +kernel)]; exact ⟨rfl, rfl⟩))
    (fun os started H enc _ => lifted os started H enc)
end tmeet
end Go.Proofs.Ytpfeegmifcodfaa
