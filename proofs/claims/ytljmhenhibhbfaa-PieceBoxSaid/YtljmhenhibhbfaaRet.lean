/- A struct result that lies in a block known whole. -/
import Derived.Test.YtljmhenhibhbfaaRows
import Derived.Test.YtljmhenhibhbfaaBlk
import Derived.WalkKit
namespace Go.Proofs.Ytljmhenhibhbfaa
open Go.RowKit

theorem res_pt {tmps : Array Value} {W : World} {g tr : Nat} {t : TypeId} {cs : Array Value} {v0 v1 : Value} {fn : Func} (hB : Blk W g t cs) (hfn : fn.results = #[.cell tr 23]) (ht : tmps.getD tr undef = .pointer (some ⟨g, 0, none⟩))
    (h0 : cs[0]? = some v0) (h1 : cs[1]? = some v1) : (results fn tmps).run Try.prog W = .ok (.agg #[v0, v1]) W := by
  have g0 := (hB.cell 0).trans h0
  have g1 := (hB.cell 1).trans h1
  have ht' : tmps[tr]?.getD undef = .pointer (some ⟨g, 0, none⟩) := by simpa using ht
  simp [results, hfn, ht', go_sem, g0, g1]
theorem res_pt2 {tmps : Array Value} {W : World} {g tr g' tr' : Nat} {t t' : TypeId} {cs cs' : Array Value} {v0 v1 u0 u1 : Value} {fn : Func} (hB : Blk W g t cs) (hB' : Blk W g' t' cs') (hfn : fn.results = #[.cell tr 23, .cell tr' 23])
    (ht : tmps.getD tr undef = .pointer (some ⟨g, 0, none⟩)) (ht' : tmps.getD tr' undef = .pointer (some ⟨g', 0, none⟩))
    (h0 : cs[0]? = some v0) (h1 : cs[1]? = some v1) (k0 : cs'[0]? = some u0) (k1 : cs'[1]? = some u1) : (results fn tmps).run Try.prog W = .ok (.tuple #[.agg #[v0, v1], .agg #[u0, u1]]) W := by
  have g0 := (hB.cell 0).trans h0
  have g1 := (hB.cell 1).trans h1
  have g2 := (hB'.cell 0).trans k0
  have g3 := (hB'.cell 1).trans k1
  have e : tmps[tr]?.getD undef = .pointer (some ⟨g, 0, none⟩) := by simpa using ht
  have e' : tmps[tr']?.getD undef = .pointer (some ⟨g', 0, none⟩) := by simpa using ht'
  simp [results, hfn, e, e', go_sem, g0, g1, g2, g3]
end Go.Proofs.Ytljmhenhibhbfaa
