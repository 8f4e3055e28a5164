/-
  No cell of these rows narrows 'for every input' (looked for: loops, veiled, ifaces, maps, wideKeys, modest, calm, conditions, laid).
  DERIVED. THE GIVEN ROWS OF THIS SEAT. 6 by the template 'for every input the law returns true; each argument reads behind the call as it read before'; 0 by the template 'total and deterministic' (their statements: YtjkpbkcbimojoaaTotals.lean).
  GIVEN WITH THE SEED: the statements are not yours to turn. If you find one false, say at which input.
  Laid BY PROGRAM, IN A SANDBOX (cutbox-rows.mjs): the forced cells as the released guide's own fill.sh prints them over the translation d51e5b59adcfbf47… (all of the seat's roots in one cut). By AI agents, Wed Nov 11 2026. No macro, syntax, notation, axiom, sorry.
-/
import Derived.Test.YtjkpbkcbimojoaaChecked
import GoSem.Claim
import GoSem.ClaimJoined
import GoSem.ClaimMapViews
import Derived.JoinedTies
import Derived.KernelRfl
namespace Go.Proofs.Ytjkpbkcbimojoaa
/- THE CELL 'sum', in the pinned program and in every row, IS THE sha256 OF THE DUMP (.gsa) THAT YtjkpbkcbimojoaaProg.lean LOADS. Nothing in Lean hashes anything: it is a label: what it is worth is what the hold of that sum in a sandbox is worth. -/
noncomputable def Try.pinned : Pinned := { name := "ytjkpbkcbimojoaa", sum := "d51e5b59adcfbf47a3d9912388e4f4acda8ef092f18db2ba92b3baa0790744cd", checked := Try.checked }
namespace Rows
def none {H : Type} : Left H := { results := [], args := [] }

/-- 'ductuslaw07.PathTells': WHATEVER THE INPUT: true; the input reads as it did. -/
def pathTellsSpec : ChangeSpec := { name := "pathTells", fn := fun _ => fun
  | [d1, d2] => { results := [.lit (.bool true)], args := [d1, d2] }
  | _ => none }
def pathTellsRow : OpenClaim := { program := "ytjkpbkcbimojoaa", sum := "d51e5b59adcfbf47a3d9912388e4f4acda8ef092f18db2ba92b3baa0790744cd", func := "ductus/ductuslaw07.PathTells", spec := "pathTells", unfollowed := true, recurses := true, apart := false }
def PathTellsSaid : Prop := pathTellsRow.holds Try.pinned (OpenSpec.ofChange pathTellsSpec)

/-- ITS FALSE NEIGHBOUR: 'it returns false'. Refute it at one input. -/
def pathTellsWrong : ChangeSpec := { name := "pathTells", fn := fun _ => fun
  | [d1, d2] => { results := [.lit (.bool false)], args := [d1, d2] }
  | _ => none }
def PathTellsWrongFalsely : Prop := pathTellsRow.holds Try.pinned (OpenSpec.ofChange pathTellsWrong)

/-- 'ductuslaw07.PathChains': WHATEVER THE INPUT: true; the input reads as it did. -/
def pathChainsSpec : ChangeSpec := { name := "pathChains", fn := fun _ => fun
  | [d] => { results := [.lit (.bool true)], args := [d] }
  | _ => none }
def pathChainsRow : OpenClaim := { program := "ytjkpbkcbimojoaa", sum := "d51e5b59adcfbf47a3d9912388e4f4acda8ef092f18db2ba92b3baa0790744cd", func := "ductus/ductuslaw07.PathChains", spec := "pathChains", unfollowed := true, recurses := true, apart := false }
def PathChainsSaid : Prop := pathChainsRow.holds Try.pinned (OpenSpec.ofChange pathChainsSpec)

/-- ITS FALSE NEIGHBOUR: 'it returns false'. Refute it at one input. -/
def pathChainsWrong : ChangeSpec := { name := "pathChains", fn := fun _ => fun
  | [d] => { results := [.lit (.bool false)], args := [d] }
  | _ => none }
def PathChainsWrongFalsely : Prop := pathChainsRow.holds Try.pinned (OpenSpec.ofChange pathChainsWrong)

/-- 'ductuslaw07.PathErrors': WHATEVER THE INPUT: true; the input reads as it did. -/
def pathErrorsSpec : ChangeSpec := { name := "pathErrors", fn := fun _ => fun
  | [d1, d2] => { results := [.lit (.bool true)], args := [d1, d2] }
  | _ => none }
def pathErrorsRow : OpenClaim := { program := "ytjkpbkcbimojoaa", sum := "d51e5b59adcfbf47a3d9912388e4f4acda8ef092f18db2ba92b3baa0790744cd", func := "ductus/ductuslaw07.PathErrors", spec := "pathErrors", unfollowed := true, recurses := true, apart := false }
def PathErrorsSaid : Prop := pathErrorsRow.holds Try.pinned (OpenSpec.ofChange pathErrorsSpec)

/-- ITS FALSE NEIGHBOUR: 'it returns false'. Refute it at one input. -/
def pathErrorsWrong : ChangeSpec := { name := "pathErrors", fn := fun _ => fun
  | [d1, d2] => { results := [.lit (.bool false)], args := [d1, d2] }
  | _ => none }
def PathErrorsWrongFalsely : Prop := pathErrorsRow.holds Try.pinned (OpenSpec.ofChange pathErrorsWrong)

/-- 'ductuslaw07.PathBack': WHATEVER THE INPUT: true; the input reads as it did. -/
def pathBackSpec : ChangeSpec := { name := "pathBack", fn := fun _ => fun
  | [d] => { results := [.lit (.bool true)], args := [d] }
  | _ => none }
def pathBackRow : OpenClaim := { program := "ytjkpbkcbimojoaa", sum := "d51e5b59adcfbf47a3d9912388e4f4acda8ef092f18db2ba92b3baa0790744cd", func := "ductus/ductuslaw07.PathBack", spec := "pathBack", unfollowed := true, recurses := true, apart := false }
def PathBackSaid : Prop := pathBackRow.holds Try.pinned (OpenSpec.ofChange pathBackSpec)

/-- ITS FALSE NEIGHBOUR: 'it returns false'. Refute it at one input. -/
def pathBackWrong : ChangeSpec := { name := "pathBack", fn := fun _ => fun
  | [d] => { results := [.lit (.bool false)], args := [d] }
  | _ => none }
def PathBackWrongFalsely : Prop := pathBackRow.holds Try.pinned (OpenSpec.ofChange pathBackWrong)

/-- 'ductuslaw07.PathShifts': WHATEVER THE INPUT: true; the input reads as it did. -/
def pathShiftsSpec : ChangeSpec := { name := "pathShifts", fn := fun _ => fun
  | [d1, d2] => { results := [.lit (.bool true)], args := [d1, d2] }
  | _ => none }
def pathShiftsRow : OpenClaim := { program := "ytjkpbkcbimojoaa", sum := "d51e5b59adcfbf47a3d9912388e4f4acda8ef092f18db2ba92b3baa0790744cd", func := "ductus/ductuslaw07.PathShifts", spec := "pathShifts", unfollowed := true, recurses := true, apart := false }
def PathShiftsSaid : Prop := pathShiftsRow.holds Try.pinned (OpenSpec.ofChange pathShiftsSpec)

/-- ITS FALSE NEIGHBOUR: 'it returns false'. Refute it at one input. -/
def pathShiftsWrong : ChangeSpec := { name := "pathShifts", fn := fun _ => fun
  | [d1, d2] => { results := [.lit (.bool false)], args := [d1, d2] }
  | _ => none }
def PathShiftsWrongFalsely : Prop := pathShiftsRow.holds Try.pinned (OpenSpec.ofChange pathShiftsWrong)

/-- 'ductuslaw07.PathJoins': WHATEVER THE INPUT: true; the input reads as it did. -/
def pathJoinsSpec : ChangeSpec := { name := "pathJoins", fn := fun _ => fun
  | [d1, d2, d3] => { results := [.lit (.bool true)], args := [d1, d2, d3] }
  | _ => none }
def pathJoinsRow : OpenClaim := { program := "ytjkpbkcbimojoaa", sum := "d51e5b59adcfbf47a3d9912388e4f4acda8ef092f18db2ba92b3baa0790744cd", func := "ductus/ductuslaw07.PathJoins", spec := "pathJoins", unfollowed := true, recurses := true, apart := false }
def PathJoinsSaid : Prop := pathJoinsRow.holds Try.pinned (OpenSpec.ofChange pathJoinsSpec)

/-- ITS FALSE NEIGHBOUR: 'it returns false'. Refute it at one input. -/
def pathJoinsWrong : ChangeSpec := { name := "pathJoins", fn := fun _ => fun
  | [d1, d2, d3] => { results := [.lit (.bool false)], args := [d1, d2, d3] }
  | _ => none }
def PathJoinsWrongFalsely : Prop := pathJoinsRow.holds Try.pinned (OpenSpec.ofChange pathJoinsWrong)

/- THE SECOND FORM. 'bulk': how many values and letters a reading holds, each counted each time it is reached (what is shared counts as often as it is met; a slice's spare places count too). A statement '..UptoSaid' is the law's where the arguments, and the package variables that the reading takes, are together of bulk at most 1048576: NARROWER than '..Said'. Prove '..Said' where nothing that the law and all that it calls make is longer than what came in: it says more and counts as full. Else prove '..UptoSaid'. A law counts once. -/
mutual
def uptoBulk {H : Type} : DataW H → Nat
  | .lit (.string bytes) => bytes.length + 1
  | .lit _ => 1
  | .nil => 1
  | .ptr d => uptoBulk d + 1
  | .slice elems spare => uptoBulkAll elems + uptoBulkAll spare + 1
  | .agg parts => uptoBulkAll parts + 1
  | .iface _ d => uptoBulk d + 1
  | .map entries => uptoBulkEntries entries + 1
  | .held _ => 1
def uptoBulkAll {H : Type} : List (DataW H) → Nat
  | [] => 0
  | d :: r => uptoBulk d + uptoBulkAll r
def uptoBulkEntries {H : Type} : List (Lit × DataW H) → Nat
  | [] => 0
  | x :: r => uptoBulkEntry x + uptoBulkEntries r
def uptoBulkEntry {H : Type} : Lit × DataW H → Nat
  | (.string bytes, d) => bytes.length + uptoBulk d + 1
  | (_, d) => uptoBulk d + 1
 end
def uptoSmall : (H : Type) → List (DataW H) → Bool := fun _ ds => decide (uptoBulkAll ds ≤ 1048576)
def OpenSpec.upto (s : _root_.Go.ChangeSpec) : _root_.Go.OpenSpec := { _root_.Go.OpenSpec.ofChange s with cond := some uptoSmall }

/-- 'ductuslaw07.PathTells', WHERE WHAT IT READS IS OF BULK AT MOST 1048576: true; the input reads as it did. -/
def pathTellsUptoRow : OpenClaim := { program := "ytjkpbkcbimojoaa", sum := "d51e5b59adcfbf47a3d9912388e4f4acda8ef092f18db2ba92b3baa0790744cd", func := "ductus/ductuslaw07.PathTells", spec := "pathTells", unfollowed := true, recurses := true, apart := false, narrowed := true }
def PathTellsUptoSaid : Prop := pathTellsUptoRow.holds Try.pinned (OpenSpec.upto pathTellsSpec)

/-- 'ductuslaw07.PathChains', WHERE WHAT IT READS IS OF BULK AT MOST 1048576: true; the input reads as it did. -/
def pathChainsUptoRow : OpenClaim := { program := "ytjkpbkcbimojoaa", sum := "d51e5b59adcfbf47a3d9912388e4f4acda8ef092f18db2ba92b3baa0790744cd", func := "ductus/ductuslaw07.PathChains", spec := "pathChains", unfollowed := true, recurses := true, apart := false, narrowed := true }
def PathChainsUptoSaid : Prop := pathChainsUptoRow.holds Try.pinned (OpenSpec.upto pathChainsSpec)

/-- 'ductuslaw07.PathErrors', WHERE WHAT IT READS IS OF BULK AT MOST 1048576: true; the input reads as it did. -/
def pathErrorsUptoRow : OpenClaim := { program := "ytjkpbkcbimojoaa", sum := "d51e5b59adcfbf47a3d9912388e4f4acda8ef092f18db2ba92b3baa0790744cd", func := "ductus/ductuslaw07.PathErrors", spec := "pathErrors", unfollowed := true, recurses := true, apart := false, narrowed := true }
def PathErrorsUptoSaid : Prop := pathErrorsUptoRow.holds Try.pinned (OpenSpec.upto pathErrorsSpec)

/-- 'ductuslaw07.PathBack', WHERE WHAT IT READS IS OF BULK AT MOST 1048576: true; the input reads as it did. -/
def pathBackUptoRow : OpenClaim := { program := "ytjkpbkcbimojoaa", sum := "d51e5b59adcfbf47a3d9912388e4f4acda8ef092f18db2ba92b3baa0790744cd", func := "ductus/ductuslaw07.PathBack", spec := "pathBack", unfollowed := true, recurses := true, apart := false, narrowed := true }
def PathBackUptoSaid : Prop := pathBackUptoRow.holds Try.pinned (OpenSpec.upto pathBackSpec)

/-- 'ductuslaw07.PathShifts', WHERE WHAT IT READS IS OF BULK AT MOST 1048576: true; the input reads as it did. -/
def pathShiftsUptoRow : OpenClaim := { program := "ytjkpbkcbimojoaa", sum := "d51e5b59adcfbf47a3d9912388e4f4acda8ef092f18db2ba92b3baa0790744cd", func := "ductus/ductuslaw07.PathShifts", spec := "pathShifts", unfollowed := true, recurses := true, apart := false, narrowed := true }
def PathShiftsUptoSaid : Prop := pathShiftsUptoRow.holds Try.pinned (OpenSpec.upto pathShiftsSpec)

/-- 'ductuslaw07.PathJoins', WHERE WHAT IT READS IS OF BULK AT MOST 1048576: true; the input reads as it did. -/
def pathJoinsUptoRow : OpenClaim := { program := "ytjkpbkcbimojoaa", sum := "d51e5b59adcfbf47a3d9912388e4f4acda8ef092f18db2ba92b3baa0790744cd", func := "ductus/ductuslaw07.PathJoins", spec := "pathJoins", unfollowed := true, recurses := true, apart := false, narrowed := true }
def PathJoinsUptoSaid : Prop := pathJoinsUptoRow.holds Try.pinned (OpenSpec.upto pathJoinsSpec)

end Rows
end Go.Proofs.Ytjkpbkcbimojoaa
