/- Contracts of package tangent, eighth part: begin, finish and class of any segment, told by its nine numbers. -/
import Derived.Test.YtpfeegmifcodfaaTg
namespace Go.Proofs.Ytpfeegmifcodfaa
open Go.RowKit

def sel (a b c d : Int) : Nat → Int
  | 0 => a
  | 1 => b
  | 2 => c
  | _ => d
theorem sel_C28 {x0 y0 x1 y1 x2 y2 x3 y3 : Int} (hC : C28P x0 y0 x1 y1 x2 y2 x3 y3) : ∀ k, C28 (sel x0 x1 x2 x3 k) ∧ C28 (sel y0 y1 y2 y3 k) := by
  obtain ⟨h0, k0, h1, k1, h2, k2, h3, k3⟩ := hC
  intro k
  match k with
  | 0 => exact ⟨h0, k0⟩
  | 1 => exact ⟨h1, k1⟩
  | 2 => exact ⟨h2, k2⟩
  | _ + 3 => exact ⟨h3, k3⟩
/-- Where it begins. -/
def beginP (n x0 y0 x1 y1 x2 y2 x3 y3 : Int) : Int × Int := firstS (diffs n x0 y0 x1 y1 x2 y2 x3 y3)
/-- Where it finishes. -/
def finishP (n x0 y0 x1 y1 x2 y2 x3 y3 : Int) : Int × Int :=
  let p := if n = 2 then firstS (diffs 2 x1 y1 x0 y0 0 0 0 0) else if n = 3 then firstS (diffs 3 x2 y2 x1 y1 x0 y0 0 0) else firstS (diffs 4 x3 y3 x2 y2 x1 y1 x0 y0)
  (-p.1, -p.2)
def legsP (n x0 y0 x1 y1 x2 y2 x3 y3 : Int) : List Leg := [((x1, y1), (x1 - x0, y1 - y0)), ((x2, y2), (x2 - x1, y2 - y1)), ((x3, y3), (x3 - x2, y3 - y2))].take (n.toNat - 1)
/-- Its class. -/
def classP (n x0 y0 x1 y1 x2 y2 x3 y3 : Int) : Int :=
  classS ((legsP n x0 y0 x1 y1 x2 y2 x3 y3).any (bendB (beginP n x0 y0 x1 y1 x2 y2 x3 y3) (x0, y0))) ((legsP n x0 y0 x1 y1 x2 y2 x3 y3).any (foldB (beginP n x0 y0 x1 y1 x2 y2 x3 y3))) (beginP n x0 y0 x1 y1 x2 y2 x3 y3)

theorem legs_eq {x0 y0 x1 y1 x2 y2 x3 y3 : Int} (hC : C28P x0 y0 x1 y1 x2 y2 x3 y3) (n : Nat) (hn2 : 2 ≤ n) (hn4 : n ≤ 4) (f : Leg → Bool) :
    ((legsF (sel x0 x1 x2 x3) (sel y0 y1 y2 y3) (sel_C28 hC) n).any fun x => f x.1) = (legsP n x0 y0 x1 y1 x2 y2 x3 y3).any f := by
  rcases (by omega : n = 2 ∨ n = 3 ∨ n = 4) with rfl | rfl | rfl <;> rfl

theorem beginN_any (n : Nat) (hn2 : 2 ≤ n) (hn4 : n ≤ 4) (x0 y0 x1 y1 x2 y2 x3 y3 : Int) (w : World) (hC : C28P x0 y0 x1 y1 x2 y2 x3 y3) :
    Calls Try.prog 11 #[.agg (segC n x0 y0 x1 y1 x2 y2 x3 y3)] w
      fun e w' => e = .returned (.agg #[.int .i64 (beginP n x0 y0 x1 y1 x2 y2 x3 y3).1, .int .i64 (beginP n x0 y0 x1 y1 x2 y2 x3 y3).2]) ∧ Below w.heap.size w w' := by
  rcases (by omega : n = 2 ∨ n = 3 ∨ n = 4) with rfl | rfl | rfl
  · exact begin2_any _ _ _ _ _ _ _ _ w hC
  · exact begin3_any _ _ _ _ _ _ _ _ w hC
  · exact begin4_any _ _ _ _ _ _ _ _ w hC
theorem finishN_any (n : Nat) (hn2 : 2 ≤ n) (hn4 : n ≤ 4) (x0 y0 x1 y1 x2 y2 x3 y3 : Int) (w : World) (hC : C28P x0 y0 x1 y1 x2 y2 x3 y3) :
    Calls Try.prog 13 #[.agg (segC n x0 y0 x1 y1 x2 y2 x3 y3)] w
      fun e w' => e = .returned (.agg #[.int .i64 (finishP n x0 y0 x1 y1 x2 y2 x3 y3).1, .int .i64 (finishP n x0 y0 x1 y1 x2 y2 x3 y3).2]) ∧ Below w.heap.size w w' := by
  rcases (by omega : n = 2 ∨ n = 3 ∨ n = 4) with rfl | rfl | rfl
  · exact finish2_any _ _ _ _ _ _ _ _ w hC
  · exact finish3_any _ _ _ _ _ _ _ _ w hC
  · exact finish4_any _ _ _ _ _ _ _ _ w hC
theorem classN_any (n : Nat) (hn2 : 2 ≤ n) (hn4 : n ≤ 4) (x0 y0 x1 y1 x2 y2 x3 y3 : Int) (w : World) (hC : C28P x0 y0 x1 y1 x2 y2 x3 y3) :
    Calls Try.prog 15 #[.agg (segC n x0 y0 x1 y1 x2 y2 x3 y3)] w
      fun e w' => e = .returned (.int .i64 (classP n x0 y0 x1 y1 x2 y2 x3 y3)) ∧ Below w.heap.size w w' := by
  have h := class_any n hn2 hn4 (sel x0 x1 x2 x3) (sel y0 y1 y2 y3) (sel_C28 hC) (beginP n x0 y0 x1 y1 x2 y2 x3 y3) w (diffs_bd hC) (fun W => beginN_any n hn2 hn4 x0 y0 x1 y1 x2 y2 x3 y3 W hC)
  have e : classS (bendsB (beginP n x0 y0 x1 y1 x2 y2 x3 y3) (x0, y0) (legsF (sel x0 x1 x2 x3) (sel y0 y1 y2 y3) (sel_C28 hC) n)) (foldsB (beginP n x0 y0 x1 y1 x2 y2 x3 y3) (legsF (sel x0 x1 x2 x3) (sel y0 y1 y2 y3) (sel_C28 hC) n)) (beginP n x0 y0 x1 y1 x2 y2 x3 y3) = classP n x0 y0 x1 y1 x2 y2 x3 y3 := by
    unfold classP bendsB foldsB
    rw [legs_eq hC n hn2 hn4 (bendB (beginP n x0 y0 x1 y1 x2 y2 x3 y3) (x0, y0)), legs_eq hC n hn2 hn4 (foldB (beginP n x0 y0 x1 y1 x2 y2 x3 y3))]
  rw [← e]
  exact h
/-- Turned back. -/
def backC (n x0 y0 x1 y1 x2 y2 x3 y3 : Int) : Array Value := if n = 2 then segC 2 x1 y1 x0 y0 0 0 0 0 else if n = 3 then segC 3 x2 y2 x1 y1 x0 y0 0 0 else segC 4 x3 y3 x2 y2 x1 y1 x0 y0
theorem backN_any (n : Nat) (hn2 : 2 ≤ n) (hn4 : n ≤ 4) (x0 y0 x1 y1 x2 y2 x3 y3 : Int) (w : World) :
    Calls Try.prog 27 #[.agg (segC n x0 y0 x1 y1 x2 y2 x3 y3)] w fun e w' => e = .returned (.agg (backC n x0 y0 x1 y1 x2 y2 x3 y3)) ∧ Below w.heap.size w w' := by
  rcases (by omega : n = 2 ∨ n = 3 ∨ n = 4) with rfl | rfl | rfl
  · exact back2_any _ _ _ _ _ _ _ _ w
  · exact back3_any _ _ _ _ _ _ _ _ w
  · exact back4_any _ _ _ _ _ _ _ _ w
theorem begin_bd {n x0 y0 x1 y1 x2 y2 x3 y3 : Int} (hC : C28P x0 y0 x1 y1 x2 y2 x3 y3) : (-536870912 ≤ (beginP n x0 y0 x1 y1 x2 y2 x3 y3).1 ∧ (beginP n x0 y0 x1 y1 x2 y2 x3 y3).1 ≤ 536870912) ∧ (-536870912 ≤ (beginP n x0 y0 x1 y1 x2 y2 x3 y3).2 ∧ (beginP n x0 y0 x1 y1 x2 y2 x3 y3).2 ≤ 536870912) := diffs_bd hC

end Go.Proofs.Ytpfeegmifcodfaa
