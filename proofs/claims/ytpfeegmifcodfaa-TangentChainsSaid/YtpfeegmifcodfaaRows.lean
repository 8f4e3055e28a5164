/-
  No cell of these rows narrows 'for every input' (looked for: loops, veiled, ifaces, maps, wideKeys, modest, calm, conditions, laid).
  DERIVED. THE GIVEN ROWS OF THIS SEAT. 6 by the template 'for every input the law returns true; each argument reads behind the call as it read before'; 0 by the template 'total and deterministic' (their statements: YtpfeegmifcodfaaTotals.lean).
  GIVEN WITH THE SEED: the statements are not yours to turn. If you find one false, say at which input.
  Laid BY PROGRAM, IN A SANDBOX (cutbox-rows.mjs): the forced cells as the released guide's own fill.sh prints them over the translation 3d53cd22d7500e13… (all of the seat's roots in one cut). By AI agents, Wed Nov 11 2026. No macro, syntax, notation, axiom, sorry.
-/
import Derived.Test.YtpfeegmifcodfaaChecked
import GoSem.Claim
import GoSem.ClaimJoined
import GoSem.ClaimMapViews
import Derived.JoinedTies
import Derived.KernelRfl
namespace Go.Proofs.Ytpfeegmifcodfaa
/- THE CELL 'sum', in the pinned program and in every row, IS THE sha256 OF THE DUMP (.gsa) THAT YtpfeegmifcodfaaProg.lean LOADS. Nothing in Lean hashes anything: it is a label: what it is worth is what the hold of that sum in a sandbox is worth. -/
noncomputable def Try.pinned : Pinned := { name := "ytpfeegmifcodfaa", sum := "3d53cd22d7500e135f7f35f422fb5afe225890f84562484223ec27ed0e3642df", checked := Try.checked }
namespace Rows
def none {H : Type} : Left H := { results := [], args := [] }

/-- 'ductuslaw11.TangentSegs': WHATEVER THE INPUT: true; the input reads as it did. -/
def tangentSegsSpec : ChangeSpec := { name := "tangentSegs", fn := fun _ => fun
  | [d] => { results := [.lit (.bool true)], args := [d] }
  | _ => none }
def tangentSegsRow : OpenClaim := { program := "ytpfeegmifcodfaa", sum := "3d53cd22d7500e135f7f35f422fb5afe225890f84562484223ec27ed0e3642df", func := "ductus/ductuslaw11.TangentSegs", spec := "tangentSegs", unfollowed := true, recurses := true, apart := false }
def TangentSegsSaid : Prop := tangentSegsRow.holds Try.pinned (OpenSpec.ofChange tangentSegsSpec)

/-- ITS FALSE NEIGHBOUR: 'it returns false'. Refute it at one input. -/
def tangentSegsWrong : ChangeSpec := { name := "tangentSegs", fn := fun _ => fun
  | [d] => { results := [.lit (.bool false)], args := [d] }
  | _ => none }
def TangentSegsWrongFalsely : Prop := tangentSegsRow.holds Try.pinned (OpenSpec.ofChange tangentSegsWrong)

/-- 'ductuslaw11.TangentChains': WHATEVER THE INPUT: true; the input reads as it did. -/
def tangentChainsSpec : ChangeSpec := { name := "tangentChains", fn := fun _ => fun
  | [d1, d2, d3, d4] => { results := [.lit (.bool true)], args := [d1, d2, d3, d4] }
  | _ => none }
def tangentChainsRow : OpenClaim := { program := "ytpfeegmifcodfaa", sum := "3d53cd22d7500e135f7f35f422fb5afe225890f84562484223ec27ed0e3642df", func := "ductus/ductuslaw11.TangentChains", spec := "tangentChains", unfollowed := true, recurses := true, apart := false }
def TangentChainsSaid : Prop := tangentChainsRow.holds Try.pinned (OpenSpec.ofChange tangentChainsSpec)

/-- ITS FALSE NEIGHBOUR: 'it returns false'. Refute it at one input. -/
def tangentChainsWrong : ChangeSpec := { name := "tangentChains", fn := fun _ => fun
  | [d1, d2, d3, d4] => { results := [.lit (.bool false)], args := [d1, d2, d3, d4] }
  | _ => none }
def TangentChainsWrongFalsely : Prop := tangentChainsRow.holds Try.pinned (OpenSpec.ofChange tangentChainsWrong)

/-- 'ductuslaw11.TangentBack': WHATEVER THE INPUT: true; the input reads as it did. -/
def tangentBackSpec : ChangeSpec := { name := "tangentBack", fn := fun _ => fun
  | [d] => { results := [.lit (.bool true)], args := [d] }
  | _ => none }
def tangentBackRow : OpenClaim := { program := "ytpfeegmifcodfaa", sum := "3d53cd22d7500e135f7f35f422fb5afe225890f84562484223ec27ed0e3642df", func := "ductus/ductuslaw11.TangentBack", spec := "tangentBack", unfollowed := true, recurses := true, apart := false }
def TangentBackSaid : Prop := tangentBackRow.holds Try.pinned (OpenSpec.ofChange tangentBackSpec)

/-- ITS FALSE NEIGHBOUR: 'it returns false'. Refute it at one input. -/
def tangentBackWrong : ChangeSpec := { name := "tangentBack", fn := fun _ => fun
  | [d] => { results := [.lit (.bool false)], args := [d] }
  | _ => none }
def TangentBackWrongFalsely : Prop := tangentBackRow.holds Try.pinned (OpenSpec.ofChange tangentBackWrong)

/-- 'ductuslaw11.TangentMeet': WHATEVER THE INPUT: true; the input reads as it did. -/
def tangentMeetSpec : ChangeSpec := { name := "tangentMeet", fn := fun _ => fun
  | [d1, d2] => { results := [.lit (.bool true)], args := [d1, d2] }
  | _ => none }
def tangentMeetRow : OpenClaim := { program := "ytpfeegmifcodfaa", sum := "3d53cd22d7500e135f7f35f422fb5afe225890f84562484223ec27ed0e3642df", func := "ductus/ductuslaw11.TangentMeet", spec := "tangentMeet", unfollowed := true, recurses := true, apart := false }
def TangentMeetSaid : Prop := tangentMeetRow.holds Try.pinned (OpenSpec.ofChange tangentMeetSpec)

/-- ITS FALSE NEIGHBOUR: 'it returns false'. Refute it at one input. -/
def tangentMeetWrong : ChangeSpec := { name := "tangentMeet", fn := fun _ => fun
  | [d1, d2] => { results := [.lit (.bool false)], args := [d1, d2] }
  | _ => none }
def TangentMeetWrongFalsely : Prop := tangentMeetRow.holds Try.pinned (OpenSpec.ofChange tangentMeetWrong)

/-- 'ductuslaw11.TangentChords': WHATEVER THE INPUT: true; the input reads as it did. -/
def tangentChordsSpec : ChangeSpec := { name := "tangentChords", fn := fun _ => fun
  | [d] => { results := [.lit (.bool true)], args := [d] }
  | _ => none }
def tangentChordsRow : OpenClaim := { program := "ytpfeegmifcodfaa", sum := "3d53cd22d7500e135f7f35f422fb5afe225890f84562484223ec27ed0e3642df", func := "ductus/ductuslaw11.TangentChords", spec := "tangentChords", unfollowed := true, recurses := true, apart := false }
def TangentChordsSaid : Prop := tangentChordsRow.holds Try.pinned (OpenSpec.ofChange tangentChordsSpec)

/-- ITS FALSE NEIGHBOUR: 'it returns false'. Refute it at one input. -/
def tangentChordsWrong : ChangeSpec := { name := "tangentChords", fn := fun _ => fun
  | [d] => { results := [.lit (.bool false)], args := [d] }
  | _ => none }
def TangentChordsWrongFalsely : Prop := tangentChordsRow.holds Try.pinned (OpenSpec.ofChange tangentChordsWrong)

/-- 'ductuslaw11.TangentLine': WHATEVER THE INPUT: true; the input reads as it did. -/
def tangentLineSpec : ChangeSpec := { name := "tangentLine", fn := fun _ => fun
  | [d1, d2] => { results := [.lit (.bool true)], args := [d1, d2] }
  | _ => none }
def tangentLineRow : OpenClaim := { program := "ytpfeegmifcodfaa", sum := "3d53cd22d7500e135f7f35f422fb5afe225890f84562484223ec27ed0e3642df", func := "ductus/ductuslaw11.TangentLine", spec := "tangentLine", unfollowed := true, recurses := true, apart := false }
def TangentLineSaid : Prop := tangentLineRow.holds Try.pinned (OpenSpec.ofChange tangentLineSpec)

/-- ITS FALSE NEIGHBOUR: 'it returns false'. Refute it at one input. -/
def tangentLineWrong : ChangeSpec := { name := "tangentLine", fn := fun _ => fun
  | [d1, d2] => { results := [.lit (.bool false)], args := [d1, d2] }
  | _ => none }
def TangentLineWrongFalsely : Prop := tangentLineRow.holds Try.pinned (OpenSpec.ofChange tangentLineWrong)

/- THE SECOND FORM. 'bulk': how many values and letters a reading holds, each counted each time it is reached (what is shared counts as often as it is met; a slice's spare places count too). A statement '..UptoSaid' is the law's where the arguments, and the package variables that the reading takes, are together of bulk at most 1048576: NARROWER than '..Said'. Prove '..Said' where nothing that the law and all that it calls make is longer than what came in: it says more and counts as full. Else prove '..UptoSaid'. A law counts once. -/
mutual
def uptoBulk {H : Type} : DataW H → Nat
  | .lit (.string bytes) => bytes.length + 1
  | .lit _ => 1
  | .nil => 1
  | .ptr d => uptoBulk d + 1
  | .slice elems spare => uptoBulkAll elems + uptoBulkAll spare + 1
  | .agg parts => uptoBulkAll parts + 1
  | .iface _ d => uptoBulk d + 1
  | .map entries => uptoBulkEntries entries + 1
  | .held _ => 1
def uptoBulkAll {H : Type} : List (DataW H) → Nat
  | [] => 0
  | d :: r => uptoBulk d + uptoBulkAll r
def uptoBulkEntries {H : Type} : List (Lit × DataW H) → Nat
  | [] => 0
  | x :: r => uptoBulkEntry x + uptoBulkEntries r
def uptoBulkEntry {H : Type} : Lit × DataW H → Nat
  | (.string bytes, d) => bytes.length + uptoBulk d + 1
  | (_, d) => uptoBulk d + 1
 end
def uptoSmall : (H : Type) → List (DataW H) → Bool := fun _ ds => decide (uptoBulkAll ds ≤ 1048576)
def OpenSpec.upto (s : _root_.Go.ChangeSpec) : _root_.Go.OpenSpec := { _root_.Go.OpenSpec.ofChange s with cond := some uptoSmall }

/-- 'ductuslaw11.TangentSegs', WHERE WHAT IT READS IS OF BULK AT MOST 1048576: true; the input reads as it did. -/
def tangentSegsUptoRow : OpenClaim := { program := "ytpfeegmifcodfaa", sum := "3d53cd22d7500e135f7f35f422fb5afe225890f84562484223ec27ed0e3642df", func := "ductus/ductuslaw11.TangentSegs", spec := "tangentSegs", unfollowed := true, recurses := true, apart := false, narrowed := true }
def TangentSegsUptoSaid : Prop := tangentSegsUptoRow.holds Try.pinned (OpenSpec.upto tangentSegsSpec)

/-- 'ductuslaw11.TangentChains', WHERE WHAT IT READS IS OF BULK AT MOST 1048576: true; the input reads as it did. -/
def tangentChainsUptoRow : OpenClaim := { program := "ytpfeegmifcodfaa", sum := "3d53cd22d7500e135f7f35f422fb5afe225890f84562484223ec27ed0e3642df", func := "ductus/ductuslaw11.TangentChains", spec := "tangentChains", unfollowed := true, recurses := true, apart := false, narrowed := true }
def TangentChainsUptoSaid : Prop := tangentChainsUptoRow.holds Try.pinned (OpenSpec.upto tangentChainsSpec)

/-- 'ductuslaw11.TangentBack', WHERE WHAT IT READS IS OF BULK AT MOST 1048576: true; the input reads as it did. -/
def tangentBackUptoRow : OpenClaim := { program := "ytpfeegmifcodfaa", sum := "3d53cd22d7500e135f7f35f422fb5afe225890f84562484223ec27ed0e3642df", func := "ductus/ductuslaw11.TangentBack", spec := "tangentBack", unfollowed := true, recurses := true, apart := false, narrowed := true }
def TangentBackUptoSaid : Prop := tangentBackUptoRow.holds Try.pinned (OpenSpec.upto tangentBackSpec)

/-- 'ductuslaw11.TangentMeet', WHERE WHAT IT READS IS OF BULK AT MOST 1048576: true; the input reads as it did. -/
def tangentMeetUptoRow : OpenClaim := { program := "ytpfeegmifcodfaa", sum := "3d53cd22d7500e135f7f35f422fb5afe225890f84562484223ec27ed0e3642df", func := "ductus/ductuslaw11.TangentMeet", spec := "tangentMeet", unfollowed := true, recurses := true, apart := false, narrowed := true }
def TangentMeetUptoSaid : Prop := tangentMeetUptoRow.holds Try.pinned (OpenSpec.upto tangentMeetSpec)

/-- 'ductuslaw11.TangentChords', WHERE WHAT IT READS IS OF BULK AT MOST 1048576: true; the input reads as it did. -/
def tangentChordsUptoRow : OpenClaim := { program := "ytpfeegmifcodfaa", sum := "3d53cd22d7500e135f7f35f422fb5afe225890f84562484223ec27ed0e3642df", func := "ductus/ductuslaw11.TangentChords", spec := "tangentChords", unfollowed := true, recurses := true, apart := false, narrowed := true }
def TangentChordsUptoSaid : Prop := tangentChordsUptoRow.holds Try.pinned (OpenSpec.upto tangentChordsSpec)

/-- 'ductuslaw11.TangentLine', WHERE WHAT IT READS IS OF BULK AT MOST 1048576: true; the input reads as it did. -/
def tangentLineUptoRow : OpenClaim := { program := "ytpfeegmifcodfaa", sum := "3d53cd22d7500e135f7f35f422fb5afe225890f84562484223ec27ed0e3642df", func := "ductus/ductuslaw11.TangentLine", spec := "tangentLine", unfollowed := true, recurses := true, apart := false, narrowed := true }
def TangentLineUptoSaid : Prop := tangentLineUptoRow.holds Try.pinned (OpenSpec.upto tangentLineSpec)

end Rows
end Go.Proofs.Ytpfeegmifcodfaa
