/- Contracts of package vector's products and of sign's Sharp, Miter, Quarter, Before. -/
import Derived.Test.YtljmhenhibhbfaaSignb
import Derived.Test.YtljmhenhibhbfaaProd
namespace Go.Proofs.Ytljmhenhibhbfaa
open Go.RowKit

def quarterS (x y : Int) : Int := if 0 < x ∧ 0 ≤ y then 0 else if 0 < y ∧ x ≤ 0 then 1 else if x < 0 ∧ y ≤ 0 then 2 else if y < 0 ∧ 0 ≤ x then 3 else 0

theorem quarterS_range (x y : Int) : 0 ≤ quarterS x y ∧ quarterS x y ≤ 3 := by
  unfold quarterS; repeat' split
  all_goals omega
def beforeB (x y x' y' : Int) : Bool := decide (quarterS x y < quarterS x' y') || (quarterS x y == quarterS x' y' && decide (0 < x * y' - y * x'))

def miterB (x y x' y' limit : Int) : Bool :=
  if limit ≤ 0 then false else decide (2 * (x * x + y * y) ≤ (min limit 64 * min limit 64) * (x * x + y * y + (x * x' + y * y')))

theorem sgn_ge (a b : Int) : decide (0 ≤ sgn (a - b)) = decide (b ≤ a) := by
  rw [decide_eq_decide]
  have := sgn_cases (a - b)
  omega

end Go.Proofs.Ytljmhenhibhbfaa
