/- Contracts of package sign, second part: signs, Within, Dot, Cross, Sharp, Miter, Quarter, Before. -/
import Derived.Test.YtljmhenhibhbfaaSign
namespace Go.Proofs.Ytljmhenhibhbfaa
open Go.RowKit

def anyPos (l : List Int) : Bool := l.any fun s => decide (0 < s)
def anyNeg (l : List Int) : Bool := l.any fun s => decide (s < 0)
theorem anyPos_snoc (l : List Int) (s : Int) : anyPos (l ++ [s]) = (anyPos l || decide (0 < s)) := by simp [anyPos]
theorem anyNeg_snoc (l : List Int) (s : Int) : anyNeg (l ++ [s]) = (anyNeg l || decide (s < 0)) := by simp [anyNeg]

def withinB (ax ay bx py cx cy qx qy : Int) : Bool :=
  if sideS ax ay bx py cx cy = 0 then betweenB ax ay bx py qx qy || betweenB bx py cx cy qx qy || betweenB cx cy ax ay qx qy
  else !anyPos [sideS ax ay bx py qx qy, sideS bx py cx cy qx qy, sideS cx cy ax ay qx qy] || !anyNeg [sideS ax ay bx py qx qy, sideS bx py cx cy qx qy, sideS cx cy ax ay qx qy]

end Go.Proofs.Ytljmhenhibhbfaa
