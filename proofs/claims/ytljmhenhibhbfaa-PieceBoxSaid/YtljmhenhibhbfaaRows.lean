/-
  No cell of these rows narrows 'for every input' (looked for: loops, veiled, ifaces, maps, wideKeys, modest, calm, conditions, laid).
  DERIVED. THE GIVEN ROWS OF THIS SEAT. 3 by the template 'for every input the law returns true; each argument reads behind the call as it read before'; 0 by the template 'total and deterministic' (their statements: YtljmhenhibhbfaaTotals.lean).
  GIVEN WITH THE SEED: the statements are not yours to turn. If you find one false, say at which input.
  Laid BY PROGRAM, IN A SANDBOX (cutbox-rows.mjs): the forced cells as the released guide's own fill.sh prints them over the translation 7a2354a4bcbeaa5f… (all of the seat's roots in one cut). By AI agents, Wed Nov 11 2026. No macro, syntax, notation, axiom, sorry.
-/
import Derived.Test.YtljmhenhibhbfaaChecked
import GoSem.Claim
import GoSem.ClaimJoined
import GoSem.ClaimMapViews
import Derived.JoinedTies
import Derived.KernelRfl
namespace Go.Proofs.Ytljmhenhibhbfaa
/- THE CELL 'sum', in the pinned program and in every row, IS THE sha256 OF THE DUMP (.gsa) THAT YtljmhenhibhbfaaProg.lean LOADS. Nothing in Lean hashes anything: it is a label: what it is worth is what the hold of that sum in a sandbox is worth. -/
noncomputable def Try.pinned : Pinned := { name := "ytljmhenhibhbfaa", sum := "7a2354a4bcbeaa5fca999377bcef0563c721fe3c0b683d47a6950ca83644db36", checked := Try.checked }
namespace Rows
def none {H : Type} : Left H := { results := [], args := [] }

/-- 'ductuslaw06.PieceThree': WHATEVER THE INPUT: true; the input reads as it did. -/
def pieceThreeSpec : ChangeSpec := { name := "pieceThree", fn := fun _ => fun
  | [d1, d2, d3, d4] => { results := [.lit (.bool true)], args := [d1, d2, d3, d4] }
  | _ => none }
def pieceThreeRow : OpenClaim := { program := "ytljmhenhibhbfaa", sum := "7a2354a4bcbeaa5fca999377bcef0563c721fe3c0b683d47a6950ca83644db36", func := "ductus/ductuslaw06.PieceThree", spec := "pieceThree", inPlace := ["math/bits.Sub64"], unfollowed := true, recurses := true, apart := false }
def PieceThreeSaid : Prop := pieceThreeRow.holds Try.pinned (OpenSpec.ofChange pieceThreeSpec)

/-- ITS FALSE NEIGHBOUR: 'it returns false'. Refute it at one input. -/
def pieceThreeWrong : ChangeSpec := { name := "pieceThree", fn := fun _ => fun
  | [d1, d2, d3, d4] => { results := [.lit (.bool false)], args := [d1, d2, d3, d4] }
  | _ => none }
def PieceThreeWrongFalsely : Prop := pieceThreeRow.holds Try.pinned (OpenSpec.ofChange pieceThreeWrong)

/-- 'ductuslaw06.PiecePuts': WHATEVER THE INPUT: true; the input reads as it did. -/
def piecePutsSpec : ChangeSpec := { name := "piecePuts", fn := fun _ => fun
  | [d] => { results := [.lit (.bool true)], args := [d] }
  | _ => none }
def piecePutsRow : OpenClaim := { program := "ytljmhenhibhbfaa", sum := "7a2354a4bcbeaa5fca999377bcef0563c721fe3c0b683d47a6950ca83644db36", func := "ductus/ductuslaw06.PiecePuts", spec := "piecePuts", inPlace := ["math/bits.Sub64"], unfollowed := true, recurses := true, apart := false }
def PiecePutsSaid : Prop := piecePutsRow.holds Try.pinned (OpenSpec.ofChange piecePutsSpec)

/-- ITS FALSE NEIGHBOUR: 'it returns false'. Refute it at one input. -/
def piecePutsWrong : ChangeSpec := { name := "piecePuts", fn := fun _ => fun
  | [d] => { results := [.lit (.bool false)], args := [d] }
  | _ => none }
def PiecePutsWrongFalsely : Prop := piecePutsRow.holds Try.pinned (OpenSpec.ofChange piecePutsWrong)

/-- 'ductuslaw06.PieceBox': WHATEVER THE INPUT: true; the input reads as it did. -/
def pieceBoxSpec : ChangeSpec := { name := "pieceBox", fn := fun _ => fun
  | [d1, d2] => { results := [.lit (.bool true)], args := [d1, d2] }
  | _ => none }
def pieceBoxRow : OpenClaim := { program := "ytljmhenhibhbfaa", sum := "7a2354a4bcbeaa5fca999377bcef0563c721fe3c0b683d47a6950ca83644db36", func := "ductus/ductuslaw06.PieceBox", spec := "pieceBox", inPlace := ["math/bits.Sub64"], unfollowed := true, recurses := true, apart := false }
def PieceBoxSaid : Prop := pieceBoxRow.holds Try.pinned (OpenSpec.ofChange pieceBoxSpec)

/-- ITS FALSE NEIGHBOUR: 'it returns false'. Refute it at one input. -/
def pieceBoxWrong : ChangeSpec := { name := "pieceBox", fn := fun _ => fun
  | [d1, d2] => { results := [.lit (.bool false)], args := [d1, d2] }
  | _ => none }
def PieceBoxWrongFalsely : Prop := pieceBoxRow.holds Try.pinned (OpenSpec.ofChange pieceBoxWrong)

/- THE SECOND FORM. 'bulk': how many values and letters a reading holds, each counted each time it is reached (what is shared counts as often as it is met; a slice's spare places count too). A statement '..UptoSaid' is the law's where the arguments, and the package variables that the reading takes, are together of bulk at most 1048576: NARROWER than '..Said'. Prove '..Said' where nothing that the law and all that it calls make is longer than what came in: it says more and counts as full. Else prove '..UptoSaid'. A law counts once. -/
mutual
def uptoBulk {H : Type} : DataW H → Nat
  | .lit (.string bytes) => bytes.length + 1
  | .lit _ => 1
  | .nil => 1
  | .ptr d => uptoBulk d + 1
  | .slice elems spare => uptoBulkAll elems + uptoBulkAll spare + 1
  | .agg parts => uptoBulkAll parts + 1
  | .iface _ d => uptoBulk d + 1
  | .map entries => uptoBulkEntries entries + 1
  | .held _ => 1
def uptoBulkAll {H : Type} : List (DataW H) → Nat
  | [] => 0
  | d :: r => uptoBulk d + uptoBulkAll r
def uptoBulkEntries {H : Type} : List (Lit × DataW H) → Nat
  | [] => 0
  | x :: r => uptoBulkEntry x + uptoBulkEntries r
def uptoBulkEntry {H : Type} : Lit × DataW H → Nat
  | (.string bytes, d) => bytes.length + uptoBulk d + 1
  | (_, d) => uptoBulk d + 1
 end
def uptoSmall : (H : Type) → List (DataW H) → Bool := fun _ ds => decide (uptoBulkAll ds ≤ 1048576)
def OpenSpec.upto (s : _root_.Go.ChangeSpec) : _root_.Go.OpenSpec := { _root_.Go.OpenSpec.ofChange s with cond := some uptoSmall }

/-- 'ductuslaw06.PieceThree', WHERE WHAT IT READS IS OF BULK AT MOST 1048576: true; the input reads as it did. -/
def pieceThreeUptoRow : OpenClaim := { program := "ytljmhenhibhbfaa", sum := "7a2354a4bcbeaa5fca999377bcef0563c721fe3c0b683d47a6950ca83644db36", func := "ductus/ductuslaw06.PieceThree", spec := "pieceThree", inPlace := ["math/bits.Sub64"], unfollowed := true, recurses := true, apart := false, narrowed := true }
def PieceThreeUptoSaid : Prop := pieceThreeUptoRow.holds Try.pinned (OpenSpec.upto pieceThreeSpec)

/-- 'ductuslaw06.PiecePuts', WHERE WHAT IT READS IS OF BULK AT MOST 1048576: true; the input reads as it did. -/
def piecePutsUptoRow : OpenClaim := { program := "ytljmhenhibhbfaa", sum := "7a2354a4bcbeaa5fca999377bcef0563c721fe3c0b683d47a6950ca83644db36", func := "ductus/ductuslaw06.PiecePuts", spec := "piecePuts", inPlace := ["math/bits.Sub64"], unfollowed := true, recurses := true, apart := false, narrowed := true }
def PiecePutsUptoSaid : Prop := piecePutsUptoRow.holds Try.pinned (OpenSpec.upto piecePutsSpec)

/-- 'ductuslaw06.PieceBox', WHERE WHAT IT READS IS OF BULK AT MOST 1048576: true; the input reads as it did. -/
def pieceBoxUptoRow : OpenClaim := { program := "ytljmhenhibhbfaa", sum := "7a2354a4bcbeaa5fca999377bcef0563c721fe3c0b683d47a6950ca83644db36", func := "ductus/ductuslaw06.PieceBox", spec := "pieceBox", inPlace := ["math/bits.Sub64"], unfollowed := true, recurses := true, apart := false, narrowed := true }
def PieceBoxUptoSaid : Prop := pieceBoxUptoRow.holds Try.pinned (OpenSpec.upto pieceBoxSpec)

end Rows
end Go.Proofs.Ytljmhenhibhbfaa
