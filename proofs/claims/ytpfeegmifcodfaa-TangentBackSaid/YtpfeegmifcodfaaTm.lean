/- Plain facts: a segment told backwards is of the same class. No program in sight. -/
import Derived.Test.YtpfeegmifcodfaaTh
namespace Go.Proofs.Ytpfeegmifcodfaa
open Go.RowKit

theorem sq_nonneg (x : Int) : 0 ≤ x * x := by
  rcases (by omega : x < 0 ∨ x = 0 ∨ 0 < x) with h | rfl | h
  · exact Int.le_of_lt (Int.mul_pos_of_neg_of_neg h h)
  · simp
  · exact Int.le_of_lt (Int.mul_pos h h)
theorem sq_pos {x : Int} (h : x ≠ 0) : 0 < x * x := by
  rcases (by omega : x < 0 ∨ 0 < x) with h | h
  · exact Int.mul_pos_of_neg_of_neg h h
  · exact Int.mul_pos h h
theorem dot_pos {x y : Int} (h : x ≠ 0 ∨ y ≠ 0) : 0 < x * x + y * y := by
  have a := sq_nonneg x
  have b := sq_nonneg y
  rcases h with h | h
  · have := sq_pos h; omega
  · have := sq_pos h; omega
/-! A class, told by its legs alone: whether they are parallel, whether two are opposed, whether there is any. -/
def crossV (a b : Int × Int) : Int := a.1 * b.2 - a.2 * b.1
def dotV (a b : Int × Int) : Int := a.1 * b.1 + a.2 * b.2
def Par (L : List (Int × Int)) : Prop := ∀ a ∈ L, ∀ b ∈ L, crossV a b = 0
def Opp (L : List (Int × Int)) : Prop := ∃ a ∈ L, ∃ b ∈ L, dotV a b < 0
theorem first_mem : ∀ L : List (Int × Int), (firstS L ∈ L ∧ ((firstS L).1 ≠ 0 ∨ (firstS L).2 ≠ 0)) ∨ (firstS L = (0, 0) ∧ ∀ a ∈ L, a = (0, 0))
  | [] => .inr ⟨rfl, fun a h => by cases h⟩
  | p :: l => by
    by_cases h : p.1 = 0 ∧ p.2 = 0
    · rw [first_no h.1 h.2]
      rcases first_mem l with ⟨h1, h2⟩ | ⟨h1, h2⟩
      · exact .inl ⟨List.mem_cons_of_mem _ h1, h2⟩
      · refine .inr ⟨h1, fun a ha => ?_⟩
        rcases List.mem_cons.1 ha with rfl | ha
        · exact Prod.ext h.1 h.2
        · exact h2 a ha
    · have hn : p.1 ≠ 0 ∨ p.2 ≠ 0 := by omega
      rw [first_yes hn]
      exact .inl ⟨List.mem_cons_self, hn⟩
theorem par_zero {u a b : Int × Int} (hu : u.1 ≠ 0 ∨ u.2 ≠ 0) (ha : crossV u a = 0) (hb : crossV u b = 0) : crossV a b = 0 := by
  obtain ⟨u1, u2⟩ := u
  obtain ⟨a1, a2⟩ := a
  obtain ⟨b1, b2⟩ := b
  simp only [crossV] at *
  have e1 : u1 * (a1 * b2 - a2 * b1) = a1 * (u1 * b2 - u2 * b1) - b1 * (u1 * a2 - u2 * a1) := by
    simp only [Int.mul_sub, Int.mul_comm, Int.mul_left_comm]; omega
  have e2 : u2 * (a1 * b2 - a2 * b1) = a2 * (u1 * b2 - u2 * b1) - b2 * (u1 * a2 - u2 * a1) := by
    simp only [Int.mul_sub, Int.mul_comm, Int.mul_left_comm]; omega
  rw [ha, hb, Int.mul_zero, Int.mul_zero] at e1 e2
  rcases hu with h | h
  · rcases Int.mul_eq_zero.1 (show u1 * (a1 * b2 - a2 * b1) = 0 by omega) with k | k
    · exact absurd k h
    · exact k
  · rcases Int.mul_eq_zero.1 (show u2 * (a1 * b2 - a2 * b1) = 0 by omega) with k | k
    · exact absurd k h
    · exact k
theorem par_dot {u a b : Int × Int} (ha : crossV u a = 0) : (u.1 * u.1 + u.2 * u.2) * dotV a b = dotV u a * dotV u b := by
  obtain ⟨u1, u2⟩ := u
  obtain ⟨a1, a2⟩ := a
  obtain ⟨b1, b2⟩ := b
  simp only [crossV, dotV] at *
  have e : (u1 * u1 + u2 * u2) * (a1 * b1 + a2 * b2) - (u1 * a1 + u2 * a2) * (u1 * b1 + u2 * b2) = (u1 * a2 - u2 * a1) * (u1 * b2 - u2 * b1) := by
    simp only [Int.mul_add, Int.mul_sub, Int.mul_comm, Int.mul_left_comm]; omega
  rw [ha, Int.zero_mul] at e
  omega
theorem par_iff (L : List (Int × Int)) : (∀ a ∈ L, crossV (firstS L) a = 0) ↔ Par L := by
  constructor
  · intro h a ha b hb
    rcases first_mem L with ⟨_, h2⟩ | ⟨_, h2⟩
    · exact par_zero h2 (h a ha) (h b hb)
    · rw [h2 a ha]; simp [crossV]
  · intro h a ha
    rcases first_mem L with ⟨h1, _⟩ | ⟨h1, _⟩
    · exact h _ h1 a ha
    · rw [h1]; simp [crossV]
theorem fold_iff {L : List (Int × Int)} (hp : Par L) : (∃ a ∈ L, dotV (firstS L) a < 0) ↔ Opp L := by
  constructor
  · rintro ⟨a, ha, h⟩
    rcases first_mem L with ⟨h1, _⟩ | ⟨h1, _⟩
    · exact ⟨_, h1, a, ha, h⟩
    · rw [h1] at h; simp [dotV] at h
  · rintro ⟨a, ha, b, hb, h⟩
    rcases first_mem L with ⟨h1, h2⟩ | ⟨_, h2⟩
    · have e := par_dot (b := b) (hp _ h1 a ha)
      have hs := dot_pos h2
      have hn : dotV (firstS L) a * dotV (firstS L) b < 0 := by
        rw [← e]
        exact Int.mul_neg_of_pos_of_neg hs h
      by_cases k : dotV (firstS L) a < 0
      · exact ⟨a, ha, k⟩
      · refine ⟨b, hb, ?_⟩
        rcases (by omega : 0 ≤ dotV (firstS L) b ∨ dotV (firstS L) b < 0) with j | j
        · have := Int.mul_nonneg (show 0 ≤ dotV (firstS L) a by omega) j
          omega
        · exact j
    · rw [h2 a ha] at h; simp [dotV] at h
def negV (a : Int × Int) : Int × Int := (-a.1, -a.2)
/-- Told backwards, and turned round. -/
def turnV (L : List (Int × Int)) : List (Int × Int) := (L.map negV).reverse
theorem mem_turn {L : List (Int × Int)} {a : Int × Int} : a ∈ turnV L ↔ ∃ b ∈ L, negV b = a := by simp [turnV]
theorem par_turn {L : List (Int × Int)} (h : Par L) : Par (turnV L) := by
  intro a ha b hb
  obtain ⟨a', ha', rfl⟩ := mem_turn.1 ha
  obtain ⟨b', hb', rfl⟩ := mem_turn.1 hb
  have := h a' ha' b' hb'
  simp only [crossV, negV, Int.neg_mul_neg] at *
  exact this
theorem opp_turn {L : List (Int × Int)} (h : Opp L) : Opp (turnV L) := by
  obtain ⟨a, ha, b, hb, h⟩ := h
  refine ⟨negV a, mem_turn.2 ⟨a, ha, rfl⟩, negV b, mem_turn.2 ⟨b, hb, rfl⟩, ?_⟩
  simp only [dotV, negV, Int.neg_mul_neg] at *
  exact h
theorem turn_turn (L : List (Int × Int)) : turnV (turnV L) = L := by
  unfold turnV
  rw [List.map_reverse, List.reverse_reverse, List.map_map]
  have : negV ∘ negV = id := by funext a; simp [negV]
  rw [this, List.map_id]
theorem first_turn (L : List (Int × Int)) : ((firstS L).1 ≠ 0 ∨ (firstS L).2 ≠ 0) ↔ ((firstS (turnV L)).1 ≠ 0 ∨ (firstS (turnV L)).2 ≠ 0) := by
  have one : ∀ M : List (Int × Int), ((firstS M).1 ≠ 0 ∨ (firstS M).2 ≠ 0) → ((firstS (turnV M)).1 ≠ 0 ∨ (firstS (turnV M)).2 ≠ 0) := by
    intro M h
    rcases first_mem (turnV M) with ⟨_, h2⟩ | ⟨_, h2⟩
    · exact h2
    · exfalso
      rcases first_mem M with ⟨k1, k2⟩ | ⟨k1, _⟩
      · have := h2 (negV (firstS M)) (mem_turn.2 ⟨_, k1, rfl⟩)
        simp [negV] at this
        omega
      · rw [k1] at h; simp at h
  exact ⟨one L, fun h => by have := one _ h; rwa [turn_turn] at this⟩
/-- The class of a row of legs. -/
def classL (L : List (Int × Int)) : Int := classS (L.any fun a => crossV (firstS L) a != 0) (L.any fun a => decide (dotV (firstS L) a < 0)) (firstS L)
theorem any_par (L : List (Int × Int)) : (L.any fun a => crossV (firstS L) a != 0) = false ↔ Par L := by
  rw [← par_iff, List.any_eq_false]
  simp
theorem any_opp {L : List (Int × Int)} (hp : Par L) : (L.any fun a => decide (dotV (firstS L) a < 0)) = true ↔ Opp L := by
  rw [← fold_iff hp, List.any_eq_true]
  simp
theorem classL_turn (L : List (Int × Int)) : classL (turnV L) = classL L := by
  unfold classL
  have b1 := any_par L
  have b2 := any_par (turnV L)
  cases h1 : (L.any fun a => crossV (firstS L) a != 0)
  · have hp := b1.1 h1
    have hp' := par_turn hp
    rw [b2.2 hp']
    have f1 := any_opp hp
    have f2 := any_opp hp'
    cases h3 : (L.any fun a => decide (dotV (firstS L) a < 0))
    · have e : ((turnV L).any fun a => decide (dotV (firstS (turnV L)) a < 0)) = false := by
        rw [Bool.eq_false_iff]
        intro h
        have := opp_turn (f2.1 h)
        rw [turn_turn] at this
        rw [f1.2 this] at h3
        cases h3
      rw [e]
      have := first_turn L
      simp only [classS, Bool.false_eq_true, if_false]
      by_cases k : (firstS L).1 ≠ 0 ∨ (firstS L).2 ≠ 0
      · rw [if_pos k, if_pos (this.1 k)]
      · rw [if_neg k, if_neg (fun h => k (this.2 h))]
    · rw [f2.2 (opp_turn (f1.1 h3))]
      rfl
  · have e : ((turnV L).any fun a => crossV (firstS (turnV L)) a != 0) = true := by
      cases h2 : ((turnV L).any fun a => crossV (firstS (turnV L)) a != 0)
      · have := par_turn (b2.1 h2)
        rw [turn_turn] at this
        rw [b1.2 this] at h1
        cases h1
      · rfl
    rw [e]
    rfl
theorem classL_zero {L : List (Int × Int)} : classL L = 0 ↔ firstS L = (0, 0) := by
  constructor
  · intro h
    rcases first_mem L with ⟨_, h2⟩ | ⟨h1, _⟩
    · exfalso
      revert h
      unfold classL classS
      repeat' split
      all_goals first | omega | (intro h; contradiction) | skip
    · exact h1
  · intro h
    have hz : ∀ a ∈ L, a = (0, 0) := by
      rcases first_mem L with ⟨_, h2⟩ | ⟨_, h2⟩
      · rw [h] at h2; simp at h2
      · exact h2
    unfold classL
    rw [h]
    have e1 : (L.any fun a => crossV (0, 0) a != 0) = false := by simp [crossV]
    have e2 : (L.any fun a => decide (dotV (0, 0) a < 0)) = false := by simp [dotV]
    rw [e1, e2]
    rfl
theorem classL_range (L : List (Int × Int)) : 0 ≤ classL L ∧ classL L ≤ 3 := by
  unfold classL classS
  repeat' split
  all_goals omega
theorem classL_one (a : Int × Int) : classL [a] ≤ 1 := by
  have e1 : firstS [a] = a := by
    by_cases h : a.1 = 0 ∧ a.2 = 0
    · rw [first_no h.1 h.2]; exact (Prod.ext h.1 h.2).symm
    · exact first_yes (by omega)
  unfold classL
  rw [e1]
  have e2 : ([a].any fun b => crossV a b != 0) = false := by
    simp [crossV, Int.mul_comm]
  have e3 : ([a].any fun b => decide (dotV a b < 0)) = false := by
    have h1 := sq_nonneg a.1
    have h2 := sq_nonneg a.2
    show (decide (dotV a a < 0) || false) = false
    rw [Bool.or_false]
    exact decide_eq_false (by unfold dotV; omega)
  rw [e2, e3]
  simp only [classS, Bool.false_eq_true, if_false]
  split <;> omega
def vecs (n x0 y0 x1 y1 x2 y2 x3 y3 : Int) : List (Int × Int) := [(x1 - x0, y1 - y0), (x2 - x1, y2 - y1), (x3 - x2, y3 - y2)].take (n.toNat - 1)
theorem first_vecs2 (x0 y0 x1 y1 x2 y2 x3 y3 : Int) : beginP 2 x0 y0 x1 y1 x2 y2 x3 y3 = firstS (vecs 2 x0 y0 x1 y1 x2 y2 x3 y3) := rfl
theorem first_vecs3 (x0 y0 x1 y1 x2 y2 x3 y3 : Int) : beginP 3 x0 y0 x1 y1 x2 y2 x3 y3 = firstS (vecs 3 x0 y0 x1 y1 x2 y2 x3 y3) := by
  show firstS ((x1 - x0, y1 - y0) :: [(x2 - x0, y2 - y0)]) = firstS ((x1 - x0, y1 - y0) :: [(x2 - x1, y2 - y1)])
  by_cases h : x1 - x0 = 0 ∧ y1 - y0 = 0
  · refine (first_no h.1 h.2).trans ((first_no h.1 h.2).trans ?_).symm
    rw [show x2 - x0 = x2 - x1 by omega, show y2 - y0 = y2 - y1 by omega]
  · exact (first_yes (by simp only; omega)).trans (first_yes (by simp only; omega)).symm
theorem first_vecs4 (x0 y0 x1 y1 x2 y2 x3 y3 : Int) : beginP 4 x0 y0 x1 y1 x2 y2 x3 y3 = firstS (vecs 4 x0 y0 x1 y1 x2 y2 x3 y3) := by
  show firstS ((x1 - x0, y1 - y0) :: (x2 - x0, y2 - y0) :: [(x3 - x0, y3 - y0)]) = firstS ((x1 - x0, y1 - y0) :: (x2 - x1, y2 - y1) :: [(x3 - x2, y3 - y2)])
  by_cases h : x1 - x0 = 0 ∧ y1 - y0 = 0
  · refine (first_no h.1 h.2).trans ((first_no h.1 h.2).trans ?_).symm
    rw [show x2 - x0 = x2 - x1 by omega, show y2 - y0 = y2 - y1 by omega]
    by_cases k : x2 - x1 = 0 ∧ y2 - y1 = 0
    · refine (first_no k.1 k.2).trans ((first_no k.1 k.2).trans ?_).symm
      rw [show x3 - x0 = x3 - x2 by omega, show y3 - y0 = y3 - y2 by omega]
    · exact (first_yes (by simp only; omega)).trans (first_yes (by simp only; omega)).symm
  · exact (first_yes (by simp only; omega)).trans (first_yes (by simp only; omega)).symm
theorem class_vecs2 (x0 y0 x1 y1 x2 y2 x3 y3 : Int) : classP 2 x0 y0 x1 y1 x2 y2 x3 y3 = classL (vecs 2 x0 y0 x1 y1 x2 y2 x3 y3) := rfl
theorem class_vecs3 (x0 y0 x1 y1 x2 y2 x3 y3 : Int) : classP 3 x0 y0 x1 y1 x2 y2 x3 y3 = classL (vecs 3 x0 y0 x1 y1 x2 y2 x3 y3) := by
  unfold classP classL
  rw [first_vecs3]
  generalize firstS (vecs 3 x0 y0 x1 y1 x2 y2 x3 y3) = u
  congr 1
  show (bendB u (x0, y0) ((x1, y1), _) || (bendB u (x0, y0) ((x2, y2), _) || false)) = ((crossV u (x1 - x0, y1 - y0) != 0) || ((crossV u (x2 - x1, y2 - y1) != 0) || false))
  rw [Bool.eq_iff_iff]
  simp only [bendB, crossV, Bool.or_eq_true, Bool.or_false, bne_iff_ne, Int.mul_sub]
  omega
theorem class_vecs4 (x0 y0 x1 y1 x2 y2 x3 y3 : Int) : classP 4 x0 y0 x1 y1 x2 y2 x3 y3 = classL (vecs 4 x0 y0 x1 y1 x2 y2 x3 y3) := by
  unfold classP classL
  rw [first_vecs4]
  generalize firstS (vecs 4 x0 y0 x1 y1 x2 y2 x3 y3) = u
  congr 1
  show (bendB u (x0, y0) ((x1, y1), _) || (bendB u (x0, y0) ((x2, y2), _) || (bendB u (x0, y0) ((x3, y3), _) || false))) = ((crossV u (x1 - x0, y1 - y0) != 0) || ((crossV u (x2 - x1, y2 - y1) != 0) || ((crossV u (x3 - x2, y3 - y2) != 0) || false)))
  rw [Bool.eq_iff_iff]
  simp only [bendB, crossV, Bool.or_eq_true, Bool.or_false, bne_iff_ne, Int.mul_sub]
  omega
theorem vecs_turn2 (x0 y0 x1 y1 x2 y2 x3 y3 : Int) : vecs 2 x1 y1 x0 y0 0 0 0 0 = turnV (vecs 2 x0 y0 x1 y1 x2 y2 x3 y3) := by
  simp [vecs, turnV, negV]
  omega
theorem vecs_turn3 (x0 y0 x1 y1 x2 y2 x3 y3 : Int) : vecs 3 x2 y2 x1 y1 x0 y0 0 0 = turnV (vecs 3 x0 y0 x1 y1 x2 y2 x3 y3) := by
  simp [vecs, turnV, negV]
  omega
theorem vecs_turn4 (x0 y0 x1 y1 x2 y2 x3 y3 : Int) : vecs 4 x3 y3 x2 y2 x1 y1 x0 y0 = turnV (vecs 4 x0 y0 x1 y1 x2 y2 x3 y3) := by
  simp [vecs, turnV, negV]
  omega
theorem class_back2 (x0 y0 x1 y1 x2 y2 x3 y3 : Int) : classP 2 x1 y1 x0 y0 0 0 0 0 = classP 2 x0 y0 x1 y1 x2 y2 x3 y3 := by
  rw [class_vecs2, class_vecs2, vecs_turn2 x0 y0 x1 y1 x2 y2 x3 y3, classL_turn]
theorem class_back3 (x0 y0 x1 y1 x2 y2 x3 y3 : Int) : classP 3 x2 y2 x1 y1 x0 y0 0 0 = classP 3 x0 y0 x1 y1 x2 y2 x3 y3 := by
  rw [class_vecs3, class_vecs3, vecs_turn3 x0 y0 x1 y1 x2 y2 x3 y3, classL_turn]
theorem class_back4 (x0 y0 x1 y1 x2 y2 x3 y3 : Int) : classP 4 x3 y3 x2 y2 x1 y1 x0 y0 = classP 4 x0 y0 x1 y1 x2 y2 x3 y3 := by
  rw [class_vecs4, class_vecs4, vecs_turn4 x0 y0 x1 y1 x2 y2 x3 y3, classL_turn]
theorem neg_zero {p : Int × Int} : (-p.1 = 0 ∧ -p.2 = 0) ↔ p = (0, 0) := by
  constructor
  · intro h; exact Prod.ext (by simp only; omega) (by simp only; omega)
  · rintro rfl; simp
theorem class_zero (n x0 y0 x1 y1 x2 y2 x3 y3 : Int) (hn : n = 2 ∨ n = 3 ∨ n = 4) : classP n x0 y0 x1 y1 x2 y2 x3 y3 = 0 ↔ ((finishP n x0 y0 x1 y1 x2 y2 x3 y3).1 = 0 ∧ (finishP n x0 y0 x1 y1 x2 y2 x3 y3).2 = 0) := by
  rcases hn with rfl | rfl | rfl
  · rw [← class_back2 x0 y0 x1 y1 x2 y2 x3 y3, class_vecs2, classL_zero]
    show _ ↔ (-(beginP 2 x1 y1 x0 y0 0 0 0 0).1 = 0 ∧ -(beginP 2 x1 y1 x0 y0 0 0 0 0).2 = 0)
    rw [first_vecs2, neg_zero]
  · rw [← class_back3 x0 y0 x1 y1 x2 y2 x3 y3, class_vecs3, classL_zero]
    show _ ↔ (-(beginP 3 x2 y2 x1 y1 x0 y0 0 0).1 = 0 ∧ -(beginP 3 x2 y2 x1 y1 x0 y0 0 0).2 = 0)
    rw [first_vecs3, neg_zero]
  · rw [← class_back4 x0 y0 x1 y1 x2 y2 x3 y3, class_vecs4, classL_zero]
    show _ ↔ (-(beginP 4 x3 y3 x2 y2 x1 y1 x0 y0).1 = 0 ∧ -(beginP 4 x3 y3 x2 y2 x1 y1 x0 y0).2 = 0)
    rw [first_vecs4, neg_zero]
theorem class_range (n x0 y0 x1 y1 x2 y2 x3 y3 : Int) : 0 ≤ classP n x0 y0 x1 y1 x2 y2 x3 y3 ∧ classP n x0 y0 x1 y1 x2 y2 x3 y3 ≤ 3 := by
  unfold classP classS
  repeat' split
  all_goals omega
theorem class_two (x0 y0 x1 y1 x2 y2 x3 y3 : Int) : classP 2 x0 y0 x1 y1 x2 y2 x3 y3 ≤ 1 := by
  rw [class_vecs2]; exact classL_one _

end Go.Proofs.Ytpfeegmifcodfaa
