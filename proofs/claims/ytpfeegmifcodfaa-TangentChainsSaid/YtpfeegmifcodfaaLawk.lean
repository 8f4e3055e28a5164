/- The common parts of the laws of layer 11: what they show first, and the bounds that they ask for. -/
import Derived.Test.YtpfeegmifcodfaaTe
import Derived.Test.YtpfeegmifcodfaaTh
import Derived.Test.YtpfeegmifcodfaaLawa
namespace Go.Proofs.Ytpfeegmifcodfaa
open Go.RowKit

theorem own_first {w : World} {base : Nat} {e : TypeId} {v : Value} {n : Nat} {l : List Int} (h : w.ownsRow base e 1 v n (l.map (Value.int .i64))) (h0 : 0 < n) : ∃ g cap, v = .slice (some ⟨g, 0, none⟩) n cap ∧ g < w.heap.size ∧ base ≤ g ∧ n ≤ cap ∧
    ∀ k u, l[k]? = some u → w.cell? ⟨g, k, none⟩ = some (.int .i64 u) := by
  rcases h.2 with ⟨_, h1⟩ | ⟨g, cap, cur, rfl, hg, hh, hc, _⟩
  · omega
  · refine ⟨g, cap, rfl, (Array.getElem?_eq_some_iff.1 hh).1, hg, hc, fun k u hk => ?_⟩
    have hc := h.cells (g := g) rfl k (.int .i64 u) (by simp [hk])
    have hadd : (⟨g, 0, none⟩ : Addr).add k = ⟨g, k, none⟩ := by unfold Addr.add; split <;> simp_all
    rwa [hadd] at hc

set_option maxRecDepth 100000 in
set_option maxHeartbeats 2000000 in
theorem shown_any (w : World) : Calls Try.prog 10 #[] w fun e w' => e = .returned (.bool true) ∧ Below w.heap.size w w' := by
  have c1 : ∀ W, Calls Try.prog 11 #[.agg #[.int .i64 0, .int .i64 0, .int .i64 0, .int .i64 0, .int .i64 5, .int .i64 0, .int .i64 5, .int .i64 5, .int .i64 4]] W fun e w' => e = .returned (.agg #[.int .i64 5, .int .i64 0]) ∧ Below W.heap.size W w' := fun W => by
    have h := beginN_any 4 (by omega) (by omega) 0 0 0 0 5 0 5 5 W (by unfold C28P C28; omega)
    rw [show beginP (4 : Nat) 0 0 0 0 5 0 5 5 = (5, 0) by decide] at h
    exact h
  have c2 : ∀ W, Calls Try.prog 13 #[.agg #[.int .i64 0, .int .i64 0, .int .i64 0, .int .i64 0, .int .i64 5, .int .i64 0, .int .i64 5, .int .i64 5, .int .i64 4]] W fun e w' => e = .returned (.agg #[.int .i64 0, .int .i64 5]) ∧ Below W.heap.size W w' := fun W => by
    have h := finishN_any 4 (by omega) (by omega) 0 0 0 0 5 0 5 5 W (by unfold C28P C28; omega)
    rw [show finishP (4 : Nat) 0 0 0 0 5 0 5 5 = (0, 5) by decide] at h
    exact h
  have c3 : ∀ W, Calls Try.prog 15 #[.agg #[.int .i64 0, .int .i64 0, .int .i64 0, .int .i64 0, .int .i64 5, .int .i64 0, .int .i64 5, .int .i64 5, .int .i64 4]] W fun e w' => e = .returned (.int .i64 3) ∧ Below W.heap.size W w' := fun W => by
    have h := classN_any 4 (by omega) (by omega) 0 0 0 0 5 0 5 5 W (by unfold C28P C28; omega)
    rw [show classP (4 : Nat) 0 0 0 0 5 0 5 5 = 3 by decide] at h
    exact h
  have c4 : ∀ W, Calls Try.prog 22 #[.agg #[.int .i64 1, .int .i64 0], .agg #[.int .i64 (-1), .int .i64 0]] W fun e w' => e = .returned (.int .i64 3) ∧ Below W.heap.size W w' := fun W => by
    have h := meet_any 1 0 (-1) 0 W (by omega) (by omega) (by omega) (by omega) (by omega) (by omega) (by omega) (by omega)
    rw [show meetS 1 0 (-1) 0 = 3 by decide] at h
    exact h
  have C1 := Lib.hid c1
  have C2 := Lib.hid c2
  have C3 := Lib.hid c3
  have C4 := Lib.hid c4
  clear c1 c2 c3 c4
  go_enter Try.func10, Try.ntmps10
  go_wp2_with fail
  refine (turns_any true _ 4 4 [(0, 0), (5, 0), (5, 5), (0, 5)] _ (by omega) (by exact RPts.new (by simp) (fun k p hk => by match k, hk with | 0, hk => (simp at hk; subst hk; simp [go_sem]) | 1, hk => (simp at hk; subst hk; simp [go_sem]) | 2, hk => (simp at hk; subst hk; simp [go_sem]) | 3, hk => (simp at hk; subst hk; simp [go_sem]))) (by simp [HalfP])).mono ?_
  rintro e w2 ⟨v, rfl, hown, hb2⟩
  rw [show turnsS true [(0, 0), (5, 0), (5, 5), (0, 5)] = [1, 1, 1, 1] by decide] at hown
  obtain ⟨g, cap, rfl, hg, hg1, hcap, hcell⟩ := own_first hown (by simp)
  have g0 := hcell 0 1 rfl
  have g3 := hcell 3 1 rfl
  obtain ⟨hc2, hf2⟩ := bcell hb2
  have hz2 := hb2.size
  simp at hz2 hg1
  have l1 : w.heap.size < w2.heap.size := by omega
  have l2 : w.heap.size + 1 + 1 < w2.heap.size := by omega
  have HB := Lib.hid hb2
  clear hown hcell hb2
  go_wp2_with (first
    | (go_at_call 11; refine (calls_from (by first | exact hb3 | exact Below.refl _ _) (C1.out _)).mono ?_; rintro e w3 ⟨rfl, hb3⟩; have hc3 := (bcell hb3).1)
    | (go_at_call 13; refine (calls_from (by first | exact hb3 | exact Below.refl _ _) (C2.out _)).mono ?_; rintro e w3 ⟨rfl, hb3⟩; have hc3 := (bcell hb3).1)
    | (go_at_call 15; refine (calls_from (by first | exact hb3 | exact Below.refl _ _) (C3.out _)).mono ?_; rintro e w3 ⟨rfl, hb3⟩; have hc3 := (bcell hb3).1)
    | (go_at_call 22; refine (calls_from (by first | exact hb3 | exact Below.refl _ _) (C4.out _)).mono ?_; rintro e w3 ⟨rfl, hb3⟩; have hc3 := (bcell hb3).1))
  go_ret
  refine ⟨rfl, ?_⟩
  have hx2 : Below w.heap.size w w2 := Below.trans (by (repeat (first | exact Below.refl _ _ | assumption | refine Below.drew ?_ | refine Below.setCell ?_ (by simp; try omega) _ | refine Below.alloc ?_ (by simp; try omega) _))) (HB.out.mono (by simp; omega))
  exact hx2.trans (hb3.mono hx2.size)

end Go.Proofs.Ytpfeegmifcodfaa
