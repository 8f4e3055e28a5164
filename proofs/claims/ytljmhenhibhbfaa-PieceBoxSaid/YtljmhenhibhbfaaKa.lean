/- Pieces, in numbers: area, sides, what is convex, what a piece has, its box. No program in sight. -/
import Derived.Test.YtljmhenhibhbfaaSignb
namespace Go.Proofs.Ytljmhenhibhbfaa
open Go.RowKit

def ptK (l : List (Int × Int)) (i : Nat) : Int × Int := l.getD i (0, 0)
def crossK (p q : Int × Int) : Int := p.1 * q.2 - p.2 * q.1
/-- A side: corner number i, and the next one. -/
def sideK (l : List (Int × Int)) (i : Nat) : (Int × Int) × (Int × Int) := (ptK l i, ptK l ((i + 1) % l.length))
def sidesK (l : List (Int × Int)) : List ((Int × Int) × (Int × Int)) := (List.range l.length).map (sideK l)
def areaOf (l : List ((Int × Int) × (Int × Int))) : Int := (l.map fun s => crossK s.1 s.2).sum
def areaK (l : List (Int × Int)) : Int := wrap64 (areaOf (sidesK l))
def seesB (q : Int × Int) (s : (Int × Int) × (Int × Int)) : Bool := decide (0 ≤ sideS s.1.1 s.1.2 s.2.1 s.2.2 q.1 q.2)
def leftB (l : List (Int × Int)) (q : Int × Int) : Bool := (sidesK l).all (seesB q)
def convexB (l : List (Int × Int)) : Bool := decide (3 ≤ l.length) && decide (0 < areaK l) && l.all (leftB l)
def hasB (l : List (Int × Int)) (q : Int × Int) : Bool := convexB l && leftB l q
def turnK (l : List (Int × Int)) : List (Int × Int) := if areaK l < 0 then l.reverse else l
def nearK (q : Int × Int) : Prop := (-1073741824 ≤ q.1 ∧ q.1 ≤ 1073741824) ∧ (-1073741824 ≤ q.2 ∧ q.2 ≤ 1073741824)

theorem sgn_nonneg (x : Int) : 0 ≤ sgn x ↔ 0 ≤ x := by have := sgn_cases x; omega
theorem sees_iff {q : Int × Int} {s : (Int × Int) × (Int × Int)} : seesB q s = true ↔ 0 ≤ crossD s.1.1 s.1.2 s.2.1 s.2.2 q.1 q.2 := by
  unfold seesB sideS
  rw [decide_eq_true_iff, sgn_nonneg]
theorem sidesK_length (l : List (Int × Int)) : (sidesK l).length = l.length := by simp [sidesK]
theorem left_iff {l : List (Int × Int)} {q : Int × Int} : leftB l q = true ↔ ∀ i, i < l.length → seesB q (sideK l i) = true := by
  unfold leftB sidesK
  rw [List.all_eq_true]
  constructor
  · intro h i hi
    exact h _ (List.mem_map_of_mem (List.mem_range.2 hi))
  · intro h s hs
    obtain ⟨i, hi, rfl⟩ := List.mem_map.1 hs
    exact h i (List.mem_range.1 hi)
theorem convex_left {l : List (Int × Int)} (h : convexB l = true) {q : Int × Int} (hq : q ∈ l) : leftB l q = true := by
  simp only [convexB, Bool.and_eq_true, List.all_eq_true] at h
  exact h.2 q hq
theorem wrap_zero : wrap64 0 = 0 := by unfold wrap64; decide
theorem convex_area {l : List (Int × Int)} (h : convexB l = true) : 0 < areaK l ∧ 3 ≤ l.length := by
  simp only [convexB, Bool.and_eq_true, decide_eq_true_eq] at h
  exact ⟨h.1.2, h.1.1⟩

/-! ## The sum of the sides' crosses, seen from anywhere -/
def subK (p q : Int × Int) : Int × Int := (p.1 - q.1, p.2 - q.2)
theorem crossD_sub (a b q : Int × Int) : crossD a.1 a.2 b.1 b.2 q.1 q.2 = crossK (subK a q) (subK b q) := by
  unfold crossD crossK subK
  simp only
  grind
theorem cross_sub (a b q : Int × Int) : crossK (subK a q) (subK b q) = crossK a b - (crossK q b - crossK q a) := by
  unfold crossK subK
  simp only
  grind
/-- A sum over a whole turn of what a corner has less what the next one has is nought. -/
theorem sum_range_succ (f : Nat → Int) (n : Nat) : ((List.range (n + 1)).map f).sum = ((List.range n).map f).sum + f n := by
  rw [List.range_succ, List.map_append, List.sum_append]
  simp
theorem sum_sub (f g : Nat → Int) : ∀ n, ((List.range n).map fun i => f i - g i).sum = ((List.range n).map f).sum - ((List.range n).map g).sum
  | 0 => rfl
  | n + 1 => by
    rw [sum_range_succ, sum_range_succ, sum_range_succ, sum_sub f g n]
    omega
theorem sum_congr (f g : Nat → Int) (n : Nat) (h : ∀ i, i < n → f i = g i) : ((List.range n).map f).sum = ((List.range n).map g).sum := by
  congr 1
  exact List.map_congr_left fun i hi => h i (List.mem_range.1 hi)
theorem sum_tele (f : Nat → Int) : ∀ n, ((List.range n).map fun i => f (i + 1) - f i).sum = f n - f 0
  | 0 => by simp
  | n + 1 => by
    rw [sum_range_succ, sum_tele f n]
    omega
theorem sum_turn (f : Nat → Int) (n : Nat) : ((List.range n).map fun i => f ((i + 1) % n) - f i).sum = 0 := by
  cases n with
  | zero => rfl
  | succ m =>
    rw [sum_range_succ, Nat.mod_self, sum_congr (fun i => f ((i + 1) % (m + 1)) - f i) (fun i => f (i + 1) - f i) m (fun i hi => by rw [Nat.mod_eq_of_lt (by omega)]), sum_tele]
    omega
theorem area_from (l : List (Int × Int)) (q : Int × Int) : areaOf (sidesK l) = ((List.range l.length).map fun i => crossK (subK (sideK l i).1 q) (subK (sideK l i).2 q)).sum := by
  have h := sum_turn (fun i => crossK q (ptK l i)) l.length
  have e := sum_sub (fun i => crossK (sideK l i).1 (sideK l i).2) (fun i => crossK q (ptK l ((i + 1) % l.length)) - crossK q (ptK l i)) l.length
  rw [h] at e
  rw [sum_congr _ _ _ (fun i _ => cross_sub (sideK l i).1 (sideK l i).2 q)]
  unfold areaOf sidesK
  rw [List.map_map]
  show _ = ((List.range l.length).map fun i => crossK (sideK l i).1 (sideK l i).2 - (crossK q (ptK l ((i + 1) % l.length)) - crossK q (ptK l i))).sum
  rw [e]
  simp only [Int.sub_zero]
  rfl
/-- Crosses of vectors that lie on one side of a line through nought add up: f is a linear form. -/
theorem cross_trans {u v w : Int × Int} {fu fv fw : Int} (h : fv * crossK u w = fu * crossK v w + fw * crossK u v) (s : Int) (hs : s = 1 ∨ s = -1) (hu : 0 < s * fu) (hv : 0 < s * fv) (hw : 0 < s * fw)
    (h1 : 0 ≤ crossK u v) (h2 : 0 ≤ crossK v w) : 0 ≤ crossK u w := by
  generalize crossK u w = x at *
  generalize crossK v w = y at *
  generalize crossK u v = z at *
  rcases hs with rfl | rfl
  · have e1 : 0 ≤ fu * y := Int.mul_nonneg (by omega) h2
    have e2 : 0 ≤ fw * z := Int.mul_nonneg (by omega) h1
    rcases (by omega : x < 0 ∨ 0 ≤ x) with hx | hx
    · have : fv * x < 0 := Int.mul_neg_of_pos_of_neg (by omega) hx
      omega
    · exact hx
  · have e1 : fu * y ≤ 0 := Int.mul_nonpos_of_nonpos_of_nonneg (by omega) h2
    have e2 : fw * z ≤ 0 := Int.mul_nonpos_of_nonpos_of_nonneg (by omega) h1
    rcases (by omega : x < 0 ∨ 0 ≤ x) with hx | hx
    · have : 0 < fv * x := Int.mul_pos_of_neg_of_neg (by omega) hx
      omega
    · exact hx
theorem cross_self (u : Int × Int) : crossK u u = 0 := by unfold crossK; rw [Int.mul_comm]; omega
theorem cross_anti (u v : Int × Int) : crossK u v = - crossK v u := by
  unfold crossK
  rw [Int.mul_comm u.1, Int.mul_comm u.2]
  omega
/-- Vectors v 0 .. v n on one side of a line, each cross nought or more all the way round: all the crosses are nought. -/
theorem turn_flat (v : Nat → Int × Int) (f : Int × Int → Int) (hf : ∀ a b c, f b * crossK a c = f a * crossK b c + f c * crossK a b) (s : Int) (hs : s = 1 ∨ s = -1) (n : Nat) (hn : 0 < n)
    (hpos : ∀ i, i < n → 0 < s * f (v i)) (hc : ∀ i, i < n → 0 ≤ crossK (v i) (v ((i + 1) % n))) : ∀ i, i < n → crossK (v i) (v ((i + 1) % n)) = 0 := by
  have up : ∀ i k, i + k < n → 0 ≤ crossK (v i) (v (i + k)) := by
    intro i k
    induction k with
    | zero => intro _; rw [Nat.add_zero, cross_self]; exact Int.le_refl _
    | succ k ih =>
      intro h
      have h1 := ih (by omega)
      have h2 := hc (i + k) (by omega)
      rw [Nat.mod_eq_of_lt (by omega)] at h2
      exact cross_trans (hf _ _ _) s hs (hpos i (by omega)) (hpos (i + k) (by omega)) (hpos (i + (k + 1)) h) h1 h2
  have last : 0 ≤ crossK (v (n - 1)) (v 0) := by
    have h := hc (n - 1) (by omega)
    rwa [show n - 1 + 1 = n by omega, Nat.mod_self] at h
  have first : 0 ≤ crossK (v 0) (v (n - 1)) := by have h := up 0 (n - 1) (by omega); rwa [Nat.zero_add] at h
  -- from any place on to the last one, to the first one, and on
  have back : ∀ i j, i < n → j < n → 0 ≤ crossK (v i) (v j) := by
    intro i j hi hj
    have a1 := up i (n - 1 - i) (by omega)
    rw [show i + (n - 1 - i) = n - 1 by omega] at a1
    have a2 := up 0 j (by omega)
    rw [Nat.zero_add] at a2
    have a3 := cross_trans (hf _ _ _) s hs (hpos i hi) (hpos (n - 1) (by omega)) (hpos 0 hn) a1 last
    exact cross_trans (hf _ _ _) s hs (hpos i hi) (hpos 0 hn) (hpos j hj) a3 a2
  intro i hi
  have hm : (i + 1) % n < n := Nat.mod_lt _ hn
  have b1 := back i _ hi hm
  have b2 := back _ i hm hi
  rw [cross_anti] at b2
  omega
/-- What a piece has does not lie beyond all its corners. -/
theorem left_flat {l : List (Int × Int)} {q : Int × Int} (f : Int × Int → Int) (hf : ∀ a b c, f b * crossK a c = f a * crossK b c + f c * crossK a b) (s : Int) (hs : s = 1 ∨ s = -1) (hn : 0 < l.length)
    (hpos : ∀ i, i < l.length → 0 < s * f (subK (ptK l i) q)) (hl : leftB l q = true) : areaK l = 0 := by
  have h := turn_flat (fun i => subK (ptK l i) q) f hf s hs l.length hn hpos (fun i hi => by
    have h := sees_iff.1 (left_iff.1 hl i hi)
    rw [crossD_sub] at h
    exact h)
  unfold areaK
  rw [area_from l q, sum_congr (fun i => crossK (subK (sideK l i).1 q) (subK (sideK l i).2 q)) (fun _ => 0) _ h]
  have z : ∀ n, ((List.range n).map fun _ => (0 : Int)).sum = 0 := by
    intro n
    induction n with
    | zero => rfl
    | succ n ih => rw [sum_range_succ (fun _ => 0), ih]; rfl
  rw [z]
  exact wrap_zero
theorem ptK_mem {l : List (Int × Int)} {i : Nat} (h : i < l.length) : ptK l i ∈ l := by
  unfold ptK
  rw [List.getD_eq_getElem?_getD, List.getElem?_eq_getElem h]
  exact List.getElem_mem h
/-- THE LAW of the box: what lies beyond all corners, on any of the four sides, is not had. -/
theorem has_box {l : List (Int × Int)} {q : Int × Int} (hn : 0 < l.length) (h : hasB l q = true) : (∃ p ∈ l, q.1 ≤ p.1) ∧ (∃ p ∈ l, p.1 ≤ q.1) ∧ (∃ p ∈ l, q.2 ≤ p.2) ∧ (∃ p ∈ l, p.2 ≤ q.2) := by
  simp only [hasB, Bool.and_eq_true] at h
  obtain ⟨hc, hl⟩ := h
  have ha := (convex_area hc).1
  have key : ∀ (f : Int × Int → Int) (_ : ∀ a b c, f b * crossK a c = f a * crossK b c + f c * crossK a b) (s : Int) (_ : s = 1 ∨ s = -1), ¬ ∀ p ∈ l, 0 < s * f (subK p q) := fun f hf s hs hall => by
    have := left_flat f hf s hs hn (fun i hi => hall _ (ptK_mem hi)) hl
    omega
  have f1 : ∀ a b c : Int × Int, b.1 * crossK a c = a.1 * crossK b c + c.1 * crossK a b := fun a b c => by unfold crossK; grind
  have f2 : ∀ a b c : Int × Int, b.2 * crossK a c = a.2 * crossK b c + c.2 * crossK a b := fun a b c => by unfold crossK; grind
  refine ⟨?_, ?_, ?_, ?_⟩
  · exact Classical.byContradiction fun hne => key (fun p => p.1) f1 (-1) (.inr rfl) fun p hp => by
      have : ¬ q.1 ≤ p.1 := fun h => hne ⟨p, hp, h⟩
      simp only [subK]; omega
  · exact Classical.byContradiction fun hne => key (fun p => p.1) f1 1 (.inl rfl) fun p hp => by
      have : ¬ p.1 ≤ q.1 := fun h => hne ⟨p, hp, h⟩
      simp only [subK]; omega
  · exact Classical.byContradiction fun hne => key (fun p => p.2) f2 (-1) (.inr rfl) fun p hp => by
      have : ¬ q.2 ≤ p.2 := fun h => hne ⟨p, hp, h⟩
      simp only [subK]; omega
  · exact Classical.byContradiction fun hne => key (fun p => p.2) f2 1 (.inl rfl) fun p hp => by
      have : ¬ p.2 ≤ q.2 := fun h => hne ⟨p, hp, h⟩
      simp only [subK]; omega

/-! ## Three corners -/
theorem mulK_bd {x y : Int} (h1 : -1073741824 ≤ x) (h2 : x ≤ 1073741824) (h3 : -1073741824 ≤ y) (h4 : y ≤ 1073741824) : -1152921504606846976 ≤ x * y ∧ x * y ≤ 1152921504606846976 := by
  have hx : x.natAbs ≤ 1073741824 := by omega
  have hy : y.natAbs ≤ 1073741824 := by omega
  have h := Nat.mul_le_mul hx hy
  rw [← Int.natAbs_mul] at h
  omega
theorem cross_bd {p q : Int × Int} (hp : nearK p) (hq : nearK q) : -2305843009213693952 ≤ crossK p q ∧ crossK p q ≤ 2305843009213693952 := by
  obtain ⟨⟨a1, a2⟩, ⟨a3, a4⟩⟩ := hp
  obtain ⟨⟨b1, b2⟩, ⟨b3, b4⟩⟩ := hq
  have h1 := mulK_bd a1 a2 b3 b4
  have h2 := mulK_bd a3 a4 b1 b2
  unfold crossK
  omega
theorem sides3 (x y z : Int × Int) : sidesK [x, y, z] = [(x, y), (y, z), (z, x)] := by simp [sidesK, sideK, ptK, List.range, List.range.loop]
theorem area3 {x y z : Int × Int} (hx : nearK x) (hy : nearK y) (hz : nearK z) : areaK [x, y, z] = crossD x.1 x.2 y.1 y.2 z.1 z.2 := by
  have b1 := cross_bd hx hy
  have b2 := cross_bd hy hz
  have b3 := cross_bd hz hx
  have e : crossD x.1 x.2 y.1 y.2 z.1 z.2 = crossK x y + (crossK y z + (crossK z x + 0)) := by unfold crossD crossK; grind
  unfold areaK
  rw [sides3, e]
  show wrap64 (crossK x y + (crossK y z + (crossK z x + 0))) = _
  unfold wrap64
  omega
theorem left3 (x y z q : Int × Int) : leftB [x, y, z] q = (seesB q (x, y) && (seesB q (y, z) && (seesB q (z, x) && true))) := by unfold leftB; rw [sides3]; rfl
theorem convex3 {x y z : Int × Int} (hx : nearK x) (hy : nearK y) (hz : nearK z) (hD : 0 < crossD x.1 x.2 y.1 y.2 z.1 z.2) : convexB [x, y, z] = true := by
  have e1 : crossD x.1 x.2 y.1 y.2 x.1 x.2 = 0 := by unfold crossD; grind
  have e2 : crossD y.1 y.2 z.1 z.2 x.1 x.2 = crossD x.1 x.2 y.1 y.2 z.1 z.2 := by unfold crossD; grind
  have e3 : crossD z.1 z.2 x.1 x.2 x.1 x.2 = 0 := by unfold crossD; grind
  have f1 : crossD x.1 x.2 y.1 y.2 y.1 y.2 = 0 := by unfold crossD; grind
  have f2 : crossD y.1 y.2 z.1 z.2 y.1 y.2 = 0 := by unfold crossD; grind
  have f3 : crossD z.1 z.2 x.1 x.2 y.1 y.2 = crossD x.1 x.2 y.1 y.2 z.1 z.2 := by unfold crossD; grind
  have g2 : crossD y.1 y.2 z.1 z.2 z.1 z.2 = 0 := by unfold crossD; grind
  have g3 : crossD z.1 z.2 x.1 x.2 z.1 z.2 = 0 := by unfold crossD; grind
  have hl : ∀ q ∈ [x, y, z], leftB [x, y, z] q = true := by
    intro q hq
    rw [left3]
    simp only [Bool.and_eq_true, sees_iff, and_true]
    simp only [List.mem_cons, List.not_mem_nil, or_false] at hq
    rcases hq with rfl | rfl | rfl
    · exact ⟨by omega, by omega, by omega⟩
    · exact ⟨by omega, by omega, by omega⟩
    · exact ⟨by omega, by omega, by omega⟩
  unfold convexB
  rw [area3 hx hy hz]
  simp only [Bool.and_eq_true, decide_eq_true_eq, List.all_eq_true]
  exact ⟨⟨by simp, hD⟩, hl⟩
theorem turn3 {x y z : Int × Int} (hx : nearK x) (hy : nearK y) (hz : nearK z) : turnK [x, y, z] = if crossD x.1 x.2 y.1 y.2 z.1 z.2 < 0 then [z, y, x] else [x, y, z] := by
  unfold turnK
  rw [area3 hx hy hz]
  rfl
theorem side_zero {D : Int} : sgn D = 0 ↔ D = 0 := by have := sgn_cases D; omega
/-- THE LAW of three corners that lie on one line. -/
theorem three_flat {x y z : Int × Int} (hx : nearK x) (hy : nearK y) (hz : nearK z) (h : sideS x.1 x.2 y.1 y.2 z.1 z.2 = 0) : convexB (turnK [x, y, z]) = false := by
  have hD := side_zero.1 h
  rw [turn3 hx hy hz, if_neg (by omega)]
  unfold convexB
  rw [area3 hx hy hz, hD]
  simp
/-- THE LAW of three corners that do not. -/
theorem three_has {x y z : Int × Int} (hx : nearK x) (hy : nearK y) (hz : nearK z) (h : sideS x.1 x.2 y.1 y.2 z.1 z.2 ≠ 0) (q : Int × Int) :
    convexB (turnK [x, y, z]) = true ∧ hasB (turnK [x, y, z]) q = withinB x.1 x.2 y.1 y.2 z.1 z.2 q.1 q.2 ∧ 0 < areaK (turnK [x, y, z]) := by
  have hD : crossD x.1 x.2 y.1 y.2 z.1 z.2 ≠ 0 := fun e => h (side_zero.2 e)
  have hs : crossD x.1 x.2 y.1 y.2 q.1 q.2 + crossD y.1 y.2 z.1 z.2 q.1 q.2 + crossD z.1 z.2 x.1 x.2 q.1 q.2 = crossD x.1 x.2 y.1 y.2 z.1 z.2 := by unfold crossD; grind
  have a1 : crossD y.1 y.2 x.1 x.2 q.1 q.2 = - crossD x.1 x.2 y.1 y.2 q.1 q.2 := by unfold crossD; grind
  have a2 : crossD z.1 z.2 y.1 y.2 q.1 q.2 = - crossD y.1 y.2 z.1 z.2 q.1 q.2 := by unfold crossD; grind
  have a3 : crossD x.1 x.2 z.1 z.2 q.1 q.2 = - crossD z.1 z.2 x.1 x.2 q.1 q.2 := by unfold crossD; grind
  have a4 : crossD z.1 z.2 y.1 y.2 x.1 x.2 = - crossD x.1 x.2 y.1 y.2 z.1 z.2 := by unfold crossD; grind
  have c1 := sgn_cases (crossD x.1 x.2 y.1 y.2 q.1 q.2)
  have c2 := sgn_cases (crossD y.1 y.2 z.1 z.2 q.1 q.2)
  have c3 := sgn_cases (crossD z.1 z.2 x.1 x.2 q.1 q.2)
  rw [turn3 hx hy hz]
  by_cases hn : crossD x.1 x.2 y.1 y.2 z.1 z.2 < 0
  · rw [if_pos hn]
    have hc := convex3 hz hy hx (by omega)
    refine ⟨hc, ?_, by rw [area3 hz hy hx]; omega⟩
    unfold hasB withinB
    rw [hc, if_neg h, left3, Bool.eq_iff_iff]
    simp only [Bool.true_and, Bool.and_eq_true, sees_iff, and_true, Bool.or_eq_true, Bool.not_eq_true', anyPos, anyNeg, List.any_eq_false, List.mem_cons, List.not_mem_nil, or_false, decide_eq_true_eq, forall_eq_or_imp, forall_eq, sideS]
    omega
  · rw [if_neg hn]
    have hc := convex3 hx hy hz (by omega)
    refine ⟨hc, ?_, by rw [area3 hx hy hz]; omega⟩
    unfold hasB withinB
    rw [hc, if_neg h, left3, Bool.eq_iff_iff]
    simp only [Bool.true_and, Bool.and_eq_true, sees_iff, and_true, Bool.or_eq_true, Bool.not_eq_true', anyPos, anyNeg, List.any_eq_false, List.mem_cons, List.not_mem_nil, or_false, decide_eq_true_eq, forall_eq_or_imp, forall_eq, sideS]
    omega

/-! ## What is put -/
theorem turn_mem {l : List (Int × Int)} {q : Int × Int} : q ∈ turnK l ↔ q ∈ l := by unfold turnK; split <;> simp
theorem turn_length (l : List (Int × Int)) : (turnK l).length = l.length := by unfold turnK; split <;> simp
/-- What is not put is not convex. -/
theorem put_none {l : List (Int × Int)} (h : convexB (turnK l) = false) : convexB l = false := by
  by_cases ha : areaK l < 0
  · unfold convexB
    have h0 : decide (0 < areaK l) = false := decide_eq_false (by omega)
    rw [h0]
    simp
  · unfold turnK at h
    rwa [if_neg ha] at h

/-! ## The box -/
abbrev BoxT := (Int × Int) × (Int × Int)
def boxStep (s : BoxT) (q : Int × Int) : BoxT := ((min s.1.1 q.1, min s.1.2 q.2), (max s.2.1 q.1, max s.2.2 q.2))
def boxAt (l : List (Int × Int)) (k : Nat) : BoxT := if k = 0 then ((0, 0), (0, 0)) else (l.take k).foldl boxStep (ptK l 0, ptK l 0)
def boxK (l : List (Int × Int)) : BoxT := boxAt l l.length
theorem box_fold : ∀ (l : List (Int × Int)) (s : BoxT),
    (((l.foldl boxStep s).1.1 ≤ s.1.1 ∧ s.2.1 ≤ (l.foldl boxStep s).2.1) ∧ ((l.foldl boxStep s).1.2 ≤ s.1.2 ∧ s.2.2 ≤ (l.foldl boxStep s).2.2)) ∧
    (∀ q ∈ l, ((l.foldl boxStep s).1.1 ≤ q.1 ∧ q.1 ≤ (l.foldl boxStep s).2.1) ∧ ((l.foldl boxStep s).1.2 ≤ q.2 ∧ q.2 ≤ (l.foldl boxStep s).2.2)) ∧
    (((l.foldl boxStep s).1.1 = s.1.1 ∨ ∃ q ∈ l, q.1 = (l.foldl boxStep s).1.1) ∧ ((l.foldl boxStep s).2.1 = s.2.1 ∨ ∃ q ∈ l, q.1 = (l.foldl boxStep s).2.1) ∧
     ((l.foldl boxStep s).1.2 = s.1.2 ∨ ∃ q ∈ l, q.2 = (l.foldl boxStep s).1.2) ∧ ((l.foldl boxStep s).2.2 = s.2.2 ∨ ∃ q ∈ l, q.2 = (l.foldl boxStep s).2.2))
  | [], s => ⟨by simp, by simp, by simp⟩
  | a :: l, s => by
    obtain ⟨h1, h2, h3, h4, h5, h6⟩ := box_fold l (boxStep s a)
    rw [List.foldl_cons]
    generalize l.foldl boxStep (boxStep s a) = r at *
    simp only [boxStep] at h1 h3 h4 h5 h6
    refine ⟨by clear h2 h3 h4 h5 h6; omega, ?_, ?_, ?_, ?_, ?_⟩
    · clear h3 h4 h5 h6
      intro q hq
      rcases List.mem_cons.1 hq with rfl | hq
      · clear h2; omega
      · exact h2 q hq
    · clear h1 h2 h4 h5 h6
      rcases h3 with h | ⟨q, hq, e⟩
      · rcases (by omega : r.1.1 = s.1.1 ∨ a.1 = r.1.1) with h | h
        · exact .inl h
        · exact .inr ⟨a, List.mem_cons_self, h⟩
      · exact .inr ⟨q, List.mem_cons_of_mem _ hq, e⟩
    · clear h1 h2 h3 h5 h6
      rcases h4 with h | ⟨q, hq, e⟩
      · rcases (by omega : r.2.1 = s.2.1 ∨ a.1 = r.2.1) with h | h
        · exact .inl h
        · exact .inr ⟨a, List.mem_cons_self, h⟩
      · exact .inr ⟨q, List.mem_cons_of_mem _ hq, e⟩
    · clear h1 h2 h3 h4 h6
      rcases h5 with h | ⟨q, hq, e⟩
      · rcases (by omega : r.1.2 = s.1.2 ∨ a.2 = r.1.2) with h | h
        · exact .inl h
        · exact .inr ⟨a, List.mem_cons_self, h⟩
      · exact .inr ⟨q, List.mem_cons_of_mem _ hq, e⟩
    · clear h1 h2 h3 h4 h5
      rcases h6 with h | ⟨q, hq, e⟩
      · rcases (by omega : r.2.2 = s.2.2 ∨ a.2 = r.2.2) with h | h
        · exact .inl h
        · exact .inr ⟨a, List.mem_cons_self, h⟩
      · exact .inr ⟨q, List.mem_cons_of_mem _ hq, e⟩
theorem box_all {l : List (Int × Int)} {q : Int × Int} (hq : q ∈ l) : ((boxK l).1.1 ≤ q.1 ∧ q.1 ≤ (boxK l).2.1) ∧ ((boxK l).1.2 ≤ q.2 ∧ q.2 ≤ (boxK l).2.2) := by
  unfold boxK boxAt
  rw [if_neg (by have := List.length_pos_of_mem hq; omega), List.take_of_length_le (Nat.le_refl _)]
  exact (box_fold l _).2.1 q hq
theorem box_met {l : List (Int × Int)} (hn : 0 < l.length) : (∃ q ∈ l, q.1 = (boxK l).1.1) ∧ (∃ q ∈ l, q.1 = (boxK l).2.1) ∧ (∃ q ∈ l, q.2 = (boxK l).1.2) ∧ (∃ q ∈ l, q.2 = (boxK l).2.2) := by
  unfold boxK boxAt
  rw [if_neg (by omega), List.take_of_length_le (Nat.le_refl _)]
  obtain ⟨-, -, h3, h4, h5, h6⟩ := box_fold l (ptK l 0, ptK l 0)
  have h0 : ptK l 0 ∈ l := ptK_mem hn
  exact ⟨h3.elim (fun h => ⟨_, h0, h.symm⟩) id, h4.elim (fun h => ⟨_, h0, h.symm⟩) id, h5.elim (fun h => ⟨_, h0, h.symm⟩) id, h6.elim (fun h => ⟨_, h0, h.symm⟩) id⟩
theorem box_succ (l : List (Int × Int)) (k : Nat) (hk : k < l.length) : boxAt l (k + 1) = boxStep (if k = 0 then (l[k], l[k]) else boxAt l k) l[k] := by
  unfold boxAt
  rw [if_neg (by omega), List.take_succ_eq_append_getElem hk, List.foldl_append]
  cases k with
  | zero =>
    have : ptK l 0 = l[0] := by unfold ptK; rw [List.getD_eq_getElem?_getD, List.getElem?_eq_getElem hk]; rfl
    simp [this]
  | succ k => rfl
/-- What is had lies in the box. -/
theorem has_in {l : List (Int × Int)} {q : Int × Int} (hn : 0 < l.length) (h : hasB l q = true) : ((boxK l).1.1 ≤ q.1 ∧ q.1 ≤ (boxK l).2.1) ∧ ((boxK l).1.2 ≤ q.2 ∧ q.2 ≤ (boxK l).2.2) := by
  obtain ⟨⟨a, ha, h1⟩, ⟨b, hb, h2⟩, ⟨c, hc, h3⟩, ⟨d, hd, h4⟩⟩ := has_box hn h
  have h1' := box_all ha
  have h2' := box_all hb
  have h3' := box_all hc
  have h4' := box_all hd
  omega
end Go.Proofs.Ytljmhenhibhbfaa
