/- Plain facts on triangles, orders of vectors, miters. No program in sight. -/
import Derived.Test.YtklnedcakgfbmaaLawe
namespace Go.Proofs.Ytklnedcakgfbmaa
open Go.RowKit

theorem orderedB_comm (a p b : Int) : orderedB b p a = orderedB a p b := by unfold orderedB; rw [Int.min_comm b a, Int.max_comm b a]
theorem orderedB_left (a b : Int) : orderedB a a b = true := by unfold orderedB; rw [decide_eq_true (by omega), decide_eq_true (by omega)]; rfl
theorem betweenB_comm (ax ay bx py qx qy : Int) : betweenB bx py ax ay qx qy = betweenB ax ay bx py qx qy := by
  unfold betweenB
  rw [orderedB_comm ax qx bx, orderedB_comm ay qy py, sideS_swap]
  congr 1
  rw [Bool.eq_iff_iff]; simp
theorem betweenB_left (ax ay bx py : Int) : betweenB ax ay bx py ax ay = true := by
  unfold betweenB
  rw [orderedB_left, orderedB_left, sideS_back]
  rfl

def posB (x y z : Int) : Bool := decide (0 < x) || decide (0 < y) || decide (0 < z)
theorem anyPos3 (x y z : Int) : anyPos [x, y, z] = posB x y z := by simp [anyPos, posB, Bool.or_assoc]
theorem anyNeg3 (x y z : Int) : anyNeg [x, y, z] = posB (-x) (-y) (-z) := by
  simp only [anyNeg, posB, List.any_cons, List.any_nil, Bool.or_false, Bool.or_assoc]
  congr 1
  · rw [decide_eq_decide]; omega
  · congr 1
    · rw [decide_eq_decide]; omega
    · rw [decide_eq_decide]; omega
theorem posB_turn (x y z : Int) : posB y z x = posB x y z := by unfold posB; cases decide (0 < x) <;> cases decide (0 < y) <;> cases decide (0 < z) <;> rfl
theorem posB_swap (x y z : Int) : posB y x z = posB x y z := by unfold posB; rw [Bool.or_comm (decide (0 < y))]

theorem withinB_turn (ax ay bx py cx cy qx qy : Int) : withinB bx py cx cy ax ay qx qy = withinB ax ay bx py cx cy qx qy := by
  unfold withinB
  rw [sideS_turn ax ay bx py cx cy]
  split
  · rw [Bool.or_comm _ (betweenB ax ay bx py qx qy), Bool.or_assoc]
  · simp only [anyPos3, anyNeg3]
    rw [posB_turn (sideS ax ay bx py qx qy), posB_turn (-sideS ax ay bx py qx qy)]
theorem withinB_flip (ax ay bx py cx cy qx qy : Int) : withinB cx cy bx py ax ay qx qy = withinB ax ay bx py cx cy qx qy := by
  unfold withinB
  have h0 : sideS cx cy bx py ax ay = -sideS ax ay bx py cx cy := by rw [sideS_swap bx py cx cy ax ay, sideS_turn]
  rw [h0]
  by_cases h : sideS ax ay bx py cx cy = 0
  · rw [if_pos (by omega), if_pos h, betweenB_comm bx py cx cy, betweenB_comm ax ay bx py, betweenB_comm cx cy ax ay]
    cases betweenB ax ay bx py qx qy <;> cases betweenB bx py cx cy qx qy <;> cases betweenB cx cy ax ay qx qy <;> rfl
  · rw [if_neg (by omega), if_neg h]
    simp only [anyPos3, anyNeg3]
    rw [sideS_swap bx py cx cy, sideS_swap ax ay bx py, sideS_swap cx cy ax ay]
    simp only [Int.neg_neg]
    rw [posB_swap (-sideS ax ay bx py qx qy), posB_swap (sideS ax ay bx py qx qy), Bool.or_comm]

theorem withinB_corner (ax ay bx py cx cy : Int) : withinB ax ay bx py cx cy ax ay = true := by
  unfold withinB
  split
  · rw [betweenB_left]; rfl
  · rw [sideS_back, sideS_turn, sideS_same2 cx cy ax ay]
    simp only [anyPos3, anyNeg3, posB]
    have := sideS_range ax ay bx py cx cy
    rw [Bool.or_eq_true, Bool.not_eq_true', Bool.not_eq_true']
    by_cases h : 0 < sideS ax ay bx py cx cy
    · right; simp; omega
    · left; simp; omega
theorem withinB_corner2 (ax ay bx py cx cy : Int) : withinB ax ay bx py cx cy bx py = true := by rw [← withinB_turn ax ay bx py cx cy]; exact withinB_corner _ _ _ _ _ _
theorem withinB_corner3 (ax ay bx py cx cy : Int) : withinB ax ay bx py cx cy cx cy = true := by rw [← withinB_turn ax ay bx py cx cy]; exact withinB_corner2 _ _ _ _ _ _

/-- Signs of a product. -/
theorem mul_sign (a b : Int) : (a = 0 ∧ a * b = 0) ∨ (b = 0 ∧ a * b = 0) ∨ (0 < a ∧ 0 < b ∧ 0 < a * b) ∨ (a < 0 ∧ b < 0 ∧ 0 < a * b) ∨ (0 < a ∧ b < 0 ∧ a * b < 0) ∨ (a < 0 ∧ 0 < b ∧ a * b < 0) := by
  have ha : a < 0 ∨ a = 0 ∨ 0 < a := by omega
  have hb : b < 0 ∨ b = 0 ∨ 0 < b := by omega
  rcases ha with ha | rfl | ha <;> rcases hb with hb | rfl | hb
  · have := Int.mul_pos_of_neg_of_neg ha hb; omega
  · simp
  · have := Int.mul_neg_of_neg_of_pos ha hb; omega
  · simp
  · simp
  · simp
  · have := Int.mul_neg_of_pos_of_neg ha hb; omega
  · simp
  · have := Int.mul_pos ha hb; omega

theorem crossD_sum (ax ay bx py cx cy qx qy : Int) : crossD ax ay bx py qx qy + crossD bx py cx cy qx qy + crossD cx cy ax ay qx qy = crossD ax ay bx py cx cy := by
  unfold crossD; simp only [Int.mul_sub, Int.mul_comm]; omega

theorem line_x (dx dy px pz ex ey : Int) (h : dx * pz = dy * px) : dx * (ey * px - ex * pz) = px * (dx * ey - dy * ex) := by
  rw [Int.mul_sub, Int.mul_sub, Int.mul_left_comm dx ex pz, h]
  simp only [Int.mul_comm, Int.mul_left_comm]
theorem line_y (dx dy px pz ex ey : Int) (h : dx * pz = dy * px) : dy * (ey * px - ex * pz) = pz * (dx * ey - dy * ex) := by
  rw [Int.mul_sub, Int.mul_sub, Int.mul_left_comm dy ey px, ← h]
  simp only [Int.mul_comm, Int.mul_left_comm]
/-- A share of D has D's sign, and so has what is left. -/
theorem share {d p v D : Int} (h : d * v = p * D) (hd : 0 < d) (h0 : 0 ≤ p) (h1 : p ≤ d) : (0 ≤ D → 0 ≤ v ∧ 0 ≤ D - v) ∧ (D ≤ 0 → v ≤ 0 ∧ D - v ≤ 0) := by
  have k : d * (D - v) = (d - p) * D := by rw [Int.mul_sub, Int.sub_mul, h]
  have a := mul_sign d v
  have b := mul_sign p D
  have c := mul_sign d (D - v)
  have e := mul_sign (d - p) D
  constructor
  · intro hD; omega
  · intro hD; omega
/-- A point between two corners has no two sides of other signs with the third one. -/
theorem between_same {ax ay bx py cx cy qx qy : Int} (hx : orderedB ax qx bx = true) (hy : orderedB ay qy py = true) (h0 : crossD ax ay bx py qx qy = 0) :
    (0 ≤ crossD bx py cx cy qx qy ∧ 0 ≤ crossD cx cy ax ay qx qy) ∨ (crossD bx py cx cy qx qy ≤ 0 ∧ crossD cx cy ax ay qx qy ≤ 0) := by
  by_cases hab : bx = ax ∧ py = ay
  · obtain ⟨rfl, rfl⟩ := hab
    simp only [orderedB, Bool.and_eq_true, decide_eq_true_eq] at hx hy
    obtain rfl : qx = bx := by omega
    obtain rfl : qy = py := by omega
    left
    refine ⟨by rw [crossD_back]; exact Int.le_refl _, ?_⟩
    rw [← crossD_turn cx cy qx qy qx qy, crossD_same]
    exact Int.le_refl _
  have hs := crossD_sum ax ay bx py cx cy qx qy
  rw [h0, Int.zero_add] at hs
  have hv : crossD cx cy ax ay qx qy = (cy - ay) * (qx - ax) - (cx - ax) * (qy - ay) := by
    unfold crossD; simp only [Int.mul_sub, Int.mul_comm]; omega
  have hD : crossD ax ay bx py cx cy = (bx - ax) * (cy - ay) - (py - ay) * (cx - ax) := rfl
  have hl : (bx - ax) * (qy - ay) = (py - ay) * (qx - ax) := by unfold crossD at h0; omega
  have e1 := line_x (bx - ax) (py - ay) (qx - ax) (qy - ay) (cx - ax) (cy - ay) hl
  have e2 := line_y (bx - ax) (py - ay) (qx - ax) (qy - ay) (cx - ax) (cy - ay) hl
  rw [← hv, ← hD] at e1 e2
  have hu : crossD bx py cx cy qx qy = crossD ax ay bx py cx cy - crossD cx cy ax ay qx qy := by omega
  rw [hu]
  simp only [orderedB, Bool.and_eq_true, decide_eq_true_eq] at hx hy
  generalize crossD cx cy ax ay qx qy = v at *
  generalize crossD ax ay bx py cx cy = D at *
  clear hs hu hv hD h0 hl
  have hdx : bx < ax ∨ bx = ax ∨ ax < bx := by omega
  rcases hdx with hdx | hdx | hdx
  · have e1' : -(bx - ax) * v = -(qx - ax) * D := by rw [Int.neg_mul, Int.neg_mul, e1]
    have := share e1' (by omega) (by omega) (by omega)
    omega
  · have hdy : py < ay ∨ py = ay ∨ ay < py := by omega
    rcases hdy with hdy | hdy | hdy
    · have e2' : -(py - ay) * v = -(qy - ay) * D := by rw [Int.neg_mul, Int.neg_mul, e2]
      have := share e2' (by omega) (by omega) (by omega)
      omega
    · exact absurd ⟨hdx, hdy⟩ hab
    · have := share e2 (by omega) (by omega) (by omega)
      omega
  · have := share e1 (by omega) (by omega) (by omega)
    omega

theorem sgn_zero {x : Int} (h : sgn x = 0) : x = 0 := by have := sgn_cases x; omega
theorem sgn_pos (x : Int) : decide (0 < sgn x) = decide (0 < x) := by rw [decide_eq_decide]; have := sgn_cases x; omega
theorem sgn_neg' (x : Int) : decide (sgn x < 0) = decide (x < 0) := by rw [decide_eq_decide]; have := sgn_cases x; omega
theorem betweenB_parts {ax ay bx py qx qy : Int} (h : betweenB ax ay bx py qx qy = true) : orderedB ax qx bx = true ∧ orderedB ay qy py = true ∧ crossD ax ay bx py qx qy = 0 := by
  simp only [betweenB, Bool.and_eq_true, beq_iff_eq] at h
  exact ⟨h.1.1, h.1.2, sgn_zero h.2⟩
/-- What is between two corners lies in the triangle. -/
theorem within_between {ax ay bx py cx cy qx qy : Int} (h : betweenB ax ay bx py qx qy = true) : withinB ax ay bx py cx cy qx qy = true := by
  unfold withinB
  split
  · rw [h]; rfl
  · obtain ⟨h1, h2, h3⟩ := betweenB_parts h
    have := between_same (cx := cx) (cy := cy) h1 h2 h3
    have s1 := sgn_cases (crossD ax ay bx py qx qy)
    have s2 := sgn_cases (crossD bx py cx cy qx qy)
    have s3 := sgn_cases (crossD cx cy ax ay qx qy)
    simp only [anyPos3, anyNeg3, posB]
    unfold sideS
    rw [Bool.or_eq_true, Bool.not_eq_true', Bool.not_eq_true']
    rcases this with ⟨k1, k2⟩ | ⟨k1, k2⟩
    · right; simp; omega
    · left; simp; omega
theorem within_any3 (ax ay bx py cx cy qx qy : Int) (h : withinB ax ay bx py cx cy qx qy = false) :
    betweenB ax ay bx py qx qy = false ∧ betweenB bx py cx cy qx qy = false ∧ betweenB cx cy ax ay qx qy = false := by
  refine ⟨?_, ?_, ?_⟩
  · cases k : betweenB ax ay bx py qx qy with
    | false => rfl
    | true => rw [within_between k] at h; cases h
  · cases k : betweenB bx py cx cy qx qy with
    | false => rfl
    | true => rw [← withinB_turn, within_between k] at h; cases h
  · cases k : betweenB cx cy ax ay qx qy with
    | false => rfl
    | true => rw [← withinB_turn, ← withinB_turn, within_between k] at h; cases h

/-! The order of vectors. -/
theorem beforeB_self (x y : Int) : beforeB x y x y = false := by
  unfold beforeB
  rw [Int.mul_comm x y]
  simp
/-- In one quarter the crosses go on from one to the next. -/
theorem cross_trans (ux uy vx vy wx wy : Int) : vx * (ux * wy - uy * wx) = ux * (vx * wy - vy * wx) + wx * (ux * vy - uy * vx) := by
  simp only [Int.mul_sub, Int.mul_comm, Int.mul_left_comm]; omega
theorem cross_trans' (ux uy vx vy wx wy : Int) : vy * (ux * wy - uy * wx) = uy * (vx * wy - vy * wx) + wy * (ux * vy - uy * vx) := by
  simp only [Int.mul_sub, Int.mul_comm, Int.mul_left_comm]; omega
theorem quarter_cases (x y : Int) (h : x ≠ 0 ∨ y ≠ 0) :
    (0 < x ∧ 0 ≤ y ∧ quarterS x y = 0) ∨ (0 < y ∧ x ≤ 0 ∧ quarterS x y = 1) ∨ (x < 0 ∧ y ≤ 0 ∧ quarterS x y = 2) ∨ (y < 0 ∧ 0 ≤ x ∧ quarterS x y = 3) := by
  unfold quarterS; repeat' split
  all_goals omega
theorem beforeB_iff (x y x' y' : Int) : beforeB x y x' y' = true ↔ quarterS x y < quarterS x' y' ∨ (quarterS x y = quarterS x' y' ∧ 0 < x * y' - y * x') := by
  simp [beforeB]
theorem beforeB_trans {ux uy vx vy wx wy : Int} (hu : ux ≠ 0 ∨ uy ≠ 0) (hv : vx ≠ 0 ∨ vy ≠ 0) (hw : wx ≠ 0 ∨ wy ≠ 0) (h : beforeB ux uy vx vy = true) (k : beforeB vx vy wx wy = true) : beforeB ux uy wx wy = true := by
  rw [beforeB_iff] at *
  by_cases hq : quarterS ux uy = quarterS vx vy ∧ quarterS vx vy = quarterS wx wy
  · right
    refine ⟨hq.1.trans hq.2, ?_⟩
    have h1 : 0 < ux * vy - uy * vx := by omega
    have h2 : 0 < vx * wy - vy * wx := by omega
    have e := cross_trans ux uy vx vy wx wy
    have e' := cross_trans' ux uy vx vy wx wy
    have cu := quarter_cases ux uy hu
    have cv := quarter_cases vx vy hv
    have cw := quarter_cases wx wy hw
    generalize vx * wy - vy * wx = p at *
    generalize ux * vy - uy * vx = q at *
    generalize ux * wy - uy * wx = r at *
    have m1 := mul_sign vx r
    have m2 := mul_sign ux p
    have m3 := mul_sign wx q
    have m4 := mul_sign vy r
    have m5 := mul_sign uy p
    have m6 := mul_sign wy q
    rcases cv with cv | cv | cv | cv
    · clear m4 m5 m6 e'; omega
    · clear m1 m2 m3 e; omega
    · clear m4 m5 m6 e'; omega
    · clear m1 m2 m3 e; omega
  · left
    omega

theorem same_quarter {x y x' y' : Int} (h : x ≠ 0 ∨ y ≠ 0) (h' : x' ≠ 0 ∨ y' ≠ 0) (hc : x * y' - y * x' = 0) (hd : 0 < x * x' + y * y') : quarterS x y = quarterS x' y' := by
  have c := quarter_cases x y h
  have c' := quarter_cases x' y' h'
  have m1 := mul_sign x y'
  have m2 := mul_sign y x'
  have m3 := mul_sign x x'
  have m4 := mul_sign y y'
  generalize x * y' = p at *
  generalize y * x' = q at *
  generalize x * x' = r at *
  generalize y * y' = t at *
  rcases c with c | c | c | c <;> rcases c' with c' | c' | c' | c' <;> omega
theorem quarter_same {x y x' y' : Int} (h : x ≠ 0 ∨ y ≠ 0) (h' : x' ≠ 0 ∨ y' ≠ 0) (hc : x * y' - y * x' = 0) (hq : quarterS x y = quarterS x' y') : 0 < x * x' + y * y' := by
  have hc0 := hc
  have c := quarter_cases x y h
  have c' := quarter_cases x' y' h'
  have m1 := mul_sign x y'
  have m2 := mul_sign y x'
  have m3 := mul_sign x x'
  have m4 := mul_sign y y'
  generalize x * y' = p at *
  generalize y * x' = q at *
  generalize x * x' = r at *
  generalize y * y' = t at *
  rcases c with c | c | c | c <;> rcases c' with c' | c' | c' | c' <;> omega
theorem cross_neg (x y x' y' : Int) : x' * y - y' * x = -(x * y' - y * x') := by simp only [Int.mul_comm]; omega
theorem beforeB_same {x y x' y' : Int} (h : x ≠ 0 ∨ y ≠ 0) (h' : x' ≠ 0 ∨ y' ≠ 0) (hc : x * y' - y * x' = 0) (hd : 0 < x * x' + y * y') : beforeB x y x' y' = false ∧ beforeB x' y' x y = false := by
  have := same_quarter h h' hc hd
  constructor
  · rw [Bool.eq_false_iff]
    intro hb
    rw [beforeB_iff] at hb
    omega
  · rw [Bool.eq_false_iff]
    intro hb
    rw [beforeB_iff, cross_neg x y x' y'] at hb
    omega
theorem beforeB_other {x y x' y' : Int} (h : x ≠ 0 ∨ y ≠ 0) (h' : x' ≠ 0 ∨ y' ≠ 0) (hn : ¬ (x * y' - y * x' = 0 ∧ 0 < x * x' + y * y')) : beforeB x' y' x y = !beforeB x y x' y' := by
  have k := quarter_same h h'
  have e := cross_neg x y x' y'
  rw [Bool.eq_iff_iff, Bool.not_eq_true', Bool.eq_false_iff, Ne, beforeB_iff, beforeB_iff, e]
  generalize x * y' - y * x' = c at *
  generalize x * x' + y * y' = d at *
  omega

end Go.Proofs.Ytklnedcakgfbmaa
