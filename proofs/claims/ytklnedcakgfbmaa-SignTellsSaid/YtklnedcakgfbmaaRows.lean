/-
  No cell of these rows narrows 'for every input' (looked for: loops, veiled, ifaces, maps, wideKeys, modest, calm, conditions, laid).
  DERIVED. THE GIVEN ROWS OF THIS SEAT. 7 by the template 'for every input the law returns true; each argument reads behind the call as it read before'; 0 by the template 'total and deterministic' (their statements: YtklnedcakgfbmaaTotals.lean).
  GIVEN WITH THE SEED: the statements are not yours to turn. If you find one false, say at which input.
  Laid BY PROGRAM, IN A SANDBOX (cutbox-rows.mjs): the forced cells as the released guide's own fill.sh prints them over the translation 514a75683eddf192… (all of the seat's roots in one cut). By AI agents, Wed Nov 11 2026. No macro, syntax, notation, axiom, sorry.
-/
import Derived.Test.YtklnedcakgfbmaaChecked
import GoSem.Claim
import GoSem.ClaimJoined
import GoSem.ClaimMapViews
import Derived.JoinedTies
import Derived.KernelRfl
namespace Go.Proofs.Ytklnedcakgfbmaa
/- THE CELL 'sum', in the pinned program and in every row, IS THE sha256 OF THE DUMP (.gsa) THAT YtklnedcakgfbmaaProg.lean LOADS. Nothing in Lean hashes anything: it is a label: what it is worth is what the hold of that sum in a sandbox is worth. -/
noncomputable def Try.pinned : Pinned := { name := "ytklnedcakgfbmaa", sum := "514a75683eddf192bfcadb98b4583136dedfc4fa2459c63cbba38a809829b15b", checked := Try.checked }
namespace Rows
def none {H : Type} : Left H := { results := [], args := [] }

/-- 'ductuslaw05.SignSides': WHATEVER THE INPUT: true; the input reads as it did. -/
def signSidesSpec : ChangeSpec := { name := "signSides", fn := fun _ => fun
  | [d1, d2, d3] => { results := [.lit (.bool true)], args := [d1, d2, d3] }
  | _ => none }
def signSidesRow : OpenClaim := { program := "ytklnedcakgfbmaa", sum := "514a75683eddf192bfcadb98b4583136dedfc4fa2459c63cbba38a809829b15b", func := "ductus/ductuslaw05.SignSides", spec := "signSides", inPlace := ["math/bits.Sub64"], apart := false }
def SignSidesSaid : Prop := signSidesRow.holds Try.pinned (OpenSpec.ofChange signSidesSpec)

/-- ITS FALSE NEIGHBOUR: 'it returns false'. Refute it at one input. -/
def signSidesWrong : ChangeSpec := { name := "signSides", fn := fun _ => fun
  | [d1, d2, d3] => { results := [.lit (.bool false)], args := [d1, d2, d3] }
  | _ => none }
def SignSidesWrongFalsely : Prop := signSidesRow.holds Try.pinned (OpenSpec.ofChange signSidesWrong)

/-- 'ductuslaw05.SignCorners': WHATEVER THE INPUT: true; the input reads as it did. -/
def signCornersSpec : ChangeSpec := { name := "signCorners", fn := fun _ => fun
  | [d1, d2, d3, d4] => { results := [.lit (.bool true)], args := [d1, d2, d3, d4] }
  | _ => none }
def signCornersRow : OpenClaim := { program := "ytklnedcakgfbmaa", sum := "514a75683eddf192bfcadb98b4583136dedfc4fa2459c63cbba38a809829b15b", func := "ductus/ductuslaw05.SignCorners", spec := "signCorners", inPlace := ["math/bits.Sub64"], apart := false }
def SignCornersSaid : Prop := signCornersRow.holds Try.pinned (OpenSpec.ofChange signCornersSpec)

/-- ITS FALSE NEIGHBOUR: 'it returns false'. Refute it at one input. -/
def signCornersWrong : ChangeSpec := { name := "signCorners", fn := fun _ => fun
  | [d1, d2, d3, d4] => { results := [.lit (.bool false)], args := [d1, d2, d3, d4] }
  | _ => none }
def SignCornersWrongFalsely : Prop := signCornersRow.holds Try.pinned (OpenSpec.ofChange signCornersWrong)

/-- 'ductuslaw05.SignOrder': WHATEVER THE INPUT: true; the input reads as it did. -/
def signOrderSpec : ChangeSpec := { name := "signOrder", fn := fun _ => fun
  | [d1, d2, d3] => { results := [.lit (.bool true)], args := [d1, d2, d3] }
  | _ => none }
def signOrderRow : OpenClaim := { program := "ytklnedcakgfbmaa", sum := "514a75683eddf192bfcadb98b4583136dedfc4fa2459c63cbba38a809829b15b", func := "ductus/ductuslaw05.SignOrder", spec := "signOrder", inPlace := ["math/bits.Sub64"], apart := false }
def SignOrderSaid : Prop := signOrderRow.holds Try.pinned (OpenSpec.ofChange signOrderSpec)

/-- ITS FALSE NEIGHBOUR: 'it returns false'. Refute it at one input. -/
def signOrderWrong : ChangeSpec := { name := "signOrder", fn := fun _ => fun
  | [d1, d2, d3] => { results := [.lit (.bool false)], args := [d1, d2, d3] }
  | _ => none }
def SignOrderWrongFalsely : Prop := signOrderRow.holds Try.pinned (OpenSpec.ofChange signOrderWrong)

/-- 'ductuslaw05.SignMiter': WHATEVER THE INPUT: true; the input reads as it did. -/
def signMiterSpec : ChangeSpec := { name := "signMiter", fn := fun _ => fun
  | [d1, d2, d3] => { results := [.lit (.bool true)], args := [d1, d2, d3] }
  | _ => none }
def signMiterRow : OpenClaim := { program := "ytklnedcakgfbmaa", sum := "514a75683eddf192bfcadb98b4583136dedfc4fa2459c63cbba38a809829b15b", func := "ductus/ductuslaw05.SignMiter", spec := "signMiter", inPlace := ["math/bits.Sub64"], apart := false }
def SignMiterSaid : Prop := signMiterRow.holds Try.pinned (OpenSpec.ofChange signMiterSpec)

/-- ITS FALSE NEIGHBOUR: 'it returns false'. Refute it at one input. -/
def signMiterWrong : ChangeSpec := { name := "signMiter", fn := fun _ => fun
  | [d1, d2, d3] => { results := [.lit (.bool false)], args := [d1, d2, d3] }
  | _ => none }
def SignMiterWrongFalsely : Prop := signMiterRow.holds Try.pinned (OpenSpec.ofChange signMiterWrong)

/-- 'ductuslaw05.SignShift': WHATEVER THE INPUT: true; the input reads as it did. -/
def signShiftSpec : ChangeSpec := { name := "signShift", fn := fun _ => fun
  | [d1, d2, d3, d4, d5] => { results := [.lit (.bool true)], args := [d1, d2, d3, d4, d5] }
  | _ => none }
def signShiftRow : OpenClaim := { program := "ytklnedcakgfbmaa", sum := "514a75683eddf192bfcadb98b4583136dedfc4fa2459c63cbba38a809829b15b", func := "ductus/ductuslaw05.SignShift", spec := "signShift", inPlace := ["math/bits.Sub64"], apart := false }
def SignShiftSaid : Prop := signShiftRow.holds Try.pinned (OpenSpec.ofChange signShiftSpec)

/-- ITS FALSE NEIGHBOUR: 'it returns false'. Refute it at one input. -/
def signShiftWrong : ChangeSpec := { name := "signShift", fn := fun _ => fun
  | [d1, d2, d3, d4, d5] => { results := [.lit (.bool false)], args := [d1, d2, d3, d4, d5] }
  | _ => none }
def SignShiftWrongFalsely : Prop := signShiftRow.holds Try.pinned (OpenSpec.ofChange signShiftWrong)

/-- 'ductuslaw05.SignTells': WHATEVER THE INPUT: true; the input reads as it did. -/
def signTellsSpec : ChangeSpec := { name := "signTells", fn := fun _ => fun
  | [d1, d2, d3, d4, d5] => { results := [.lit (.bool true)], args := [d1, d2, d3, d4, d5] }
  | _ => none }
def signTellsRow : OpenClaim := { program := "ytklnedcakgfbmaa", sum := "514a75683eddf192bfcadb98b4583136dedfc4fa2459c63cbba38a809829b15b", func := "ductus/ductuslaw05.SignTells", spec := "signTells", inPlace := ["math/bits.Sub64"], apart := false }
def SignTellsSaid : Prop := signTellsRow.holds Try.pinned (OpenSpec.ofChange signTellsSpec)

/-- ITS FALSE NEIGHBOUR: 'it returns false'. Refute it at one input. -/
def signTellsWrong : ChangeSpec := { name := "signTells", fn := fun _ => fun
  | [d1, d2, d3, d4, d5] => { results := [.lit (.bool false)], args := [d1, d2, d3, d4, d5] }
  | _ => none }
def SignTellsWrongFalsely : Prop := signTellsRow.holds Try.pinned (OpenSpec.ofChange signTellsWrong)

/-- 'ductuslaw05.SignQuarter': WHATEVER THE INPUT: true; the input reads as it did. -/
def signQuarterSpec : ChangeSpec := { name := "signQuarter", fn := fun _ => fun
  | [d] => { results := [.lit (.bool true)], args := [d] }
  | _ => none }
def signQuarterRow : OpenClaim := { program := "ytklnedcakgfbmaa", sum := "514a75683eddf192bfcadb98b4583136dedfc4fa2459c63cbba38a809829b15b", func := "ductus/ductuslaw05.SignQuarter", spec := "signQuarter", inPlace := ["math/bits.Sub64"], apart := false }
def SignQuarterSaid : Prop := signQuarterRow.holds Try.pinned (OpenSpec.ofChange signQuarterSpec)

/-- ITS FALSE NEIGHBOUR: 'it returns false'. Refute it at one input. -/
def signQuarterWrong : ChangeSpec := { name := "signQuarter", fn := fun _ => fun
  | [d] => { results := [.lit (.bool false)], args := [d] }
  | _ => none }
def SignQuarterWrongFalsely : Prop := signQuarterRow.holds Try.pinned (OpenSpec.ofChange signQuarterWrong)

/- THE SECOND FORM. 'bulk': how many values and letters a reading holds, each counted each time it is reached (what is shared counts as often as it is met; a slice's spare places count too). A statement '..UptoSaid' is the law's where the arguments, and the package variables that the reading takes, are together of bulk at most 1048576: NARROWER than '..Said'. Prove '..Said' where nothing that the law and all that it calls make is longer than what came in: it says more and counts as full. Else prove '..UptoSaid'. A law counts once. -/
mutual
def uptoBulk {H : Type} : DataW H → Nat
  | .lit (.string bytes) => bytes.length + 1
  | .lit _ => 1
  | .nil => 1
  | .ptr d => uptoBulk d + 1
  | .slice elems spare => uptoBulkAll elems + uptoBulkAll spare + 1
  | .agg parts => uptoBulkAll parts + 1
  | .iface _ d => uptoBulk d + 1
  | .map entries => uptoBulkEntries entries + 1
  | .held _ => 1
def uptoBulkAll {H : Type} : List (DataW H) → Nat
  | [] => 0
  | d :: r => uptoBulk d + uptoBulkAll r
def uptoBulkEntries {H : Type} : List (Lit × DataW H) → Nat
  | [] => 0
  | x :: r => uptoBulkEntry x + uptoBulkEntries r
def uptoBulkEntry {H : Type} : Lit × DataW H → Nat
  | (.string bytes, d) => bytes.length + uptoBulk d + 1
  | (_, d) => uptoBulk d + 1
 end
def uptoSmall : (H : Type) → List (DataW H) → Bool := fun _ ds => decide (uptoBulkAll ds ≤ 1048576)
def OpenSpec.upto (s : _root_.Go.ChangeSpec) : _root_.Go.OpenSpec := { _root_.Go.OpenSpec.ofChange s with cond := some uptoSmall }

/-- 'ductuslaw05.SignSides', WHERE WHAT IT READS IS OF BULK AT MOST 1048576: true; the input reads as it did. -/
def signSidesUptoRow : OpenClaim := { program := "ytklnedcakgfbmaa", sum := "514a75683eddf192bfcadb98b4583136dedfc4fa2459c63cbba38a809829b15b", func := "ductus/ductuslaw05.SignSides", spec := "signSides", inPlace := ["math/bits.Sub64"], apart := false, narrowed := true }
def SignSidesUptoSaid : Prop := signSidesUptoRow.holds Try.pinned (OpenSpec.upto signSidesSpec)

/-- 'ductuslaw05.SignCorners', WHERE WHAT IT READS IS OF BULK AT MOST 1048576: true; the input reads as it did. -/
def signCornersUptoRow : OpenClaim := { program := "ytklnedcakgfbmaa", sum := "514a75683eddf192bfcadb98b4583136dedfc4fa2459c63cbba38a809829b15b", func := "ductus/ductuslaw05.SignCorners", spec := "signCorners", inPlace := ["math/bits.Sub64"], apart := false, narrowed := true }
def SignCornersUptoSaid : Prop := signCornersUptoRow.holds Try.pinned (OpenSpec.upto signCornersSpec)

/-- 'ductuslaw05.SignOrder', WHERE WHAT IT READS IS OF BULK AT MOST 1048576: true; the input reads as it did. -/
def signOrderUptoRow : OpenClaim := { program := "ytklnedcakgfbmaa", sum := "514a75683eddf192bfcadb98b4583136dedfc4fa2459c63cbba38a809829b15b", func := "ductus/ductuslaw05.SignOrder", spec := "signOrder", inPlace := ["math/bits.Sub64"], apart := false, narrowed := true }
def SignOrderUptoSaid : Prop := signOrderUptoRow.holds Try.pinned (OpenSpec.upto signOrderSpec)

/-- 'ductuslaw05.SignMiter', WHERE WHAT IT READS IS OF BULK AT MOST 1048576: true; the input reads as it did. -/
def signMiterUptoRow : OpenClaim := { program := "ytklnedcakgfbmaa", sum := "514a75683eddf192bfcadb98b4583136dedfc4fa2459c63cbba38a809829b15b", func := "ductus/ductuslaw05.SignMiter", spec := "signMiter", inPlace := ["math/bits.Sub64"], apart := false, narrowed := true }
def SignMiterUptoSaid : Prop := signMiterUptoRow.holds Try.pinned (OpenSpec.upto signMiterSpec)

/-- 'ductuslaw05.SignShift', WHERE WHAT IT READS IS OF BULK AT MOST 1048576: true; the input reads as it did. -/
def signShiftUptoRow : OpenClaim := { program := "ytklnedcakgfbmaa", sum := "514a75683eddf192bfcadb98b4583136dedfc4fa2459c63cbba38a809829b15b", func := "ductus/ductuslaw05.SignShift", spec := "signShift", inPlace := ["math/bits.Sub64"], apart := false, narrowed := true }
def SignShiftUptoSaid : Prop := signShiftUptoRow.holds Try.pinned (OpenSpec.upto signShiftSpec)

/-- 'ductuslaw05.SignTells', WHERE WHAT IT READS IS OF BULK AT MOST 1048576: true; the input reads as it did. -/
def signTellsUptoRow : OpenClaim := { program := "ytklnedcakgfbmaa", sum := "514a75683eddf192bfcadb98b4583136dedfc4fa2459c63cbba38a809829b15b", func := "ductus/ductuslaw05.SignTells", spec := "signTells", inPlace := ["math/bits.Sub64"], apart := false, narrowed := true }
def SignTellsUptoSaid : Prop := signTellsUptoRow.holds Try.pinned (OpenSpec.upto signTellsSpec)

/-- 'ductuslaw05.SignQuarter', WHERE WHAT IT READS IS OF BULK AT MOST 1048576: true; the input reads as it did. -/
def signQuarterUptoRow : OpenClaim := { program := "ytklnedcakgfbmaa", sum := "514a75683eddf192bfcadb98b4583136dedfc4fa2459c63cbba38a809829b15b", func := "ductus/ductuslaw05.SignQuarter", spec := "signQuarter", inPlace := ["math/bits.Sub64"], apart := false, narrowed := true }
def SignQuarterUptoSaid : Prop := signQuarterUptoRow.holds Try.pinned (OpenSpec.upto signQuarterSpec)

end Rows
end Go.Proofs.Ytklnedcakgfbmaa
