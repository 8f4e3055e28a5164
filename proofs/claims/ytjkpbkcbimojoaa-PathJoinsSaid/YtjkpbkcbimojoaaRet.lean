/- A struct result that lies in a block known whole. -/
import Derived.Test.YtjkpbkcbimojoaaRows
import Derived.Test.YtjkpbkcbimojoaaBlk
import Derived.WalkKit
namespace Go.Proofs.Ytjkpbkcbimojoaa
open Go.RowKit

theorem res_pt {tmps : Array Value} {W : World} {g tr : Nat} {t : TypeId} {cs : Array Value} {v0 v1 : Value} {fn : Func} (hB : Blk W g t cs) (hfn : fn.results = #[.cell tr 44]) (ht : tmps.getD tr undef = .pointer (some ⟨g, 0, none⟩))
    (h0 : cs[0]? = some v0) (h1 : cs[1]? = some v1) : (results fn tmps).run Try.prog W = .ok (.agg #[v0, v1]) W := by
  have g0 := (hB.cell 0).trans h0
  have g1 := (hB.cell 1).trans h1
  have ht' : tmps[tr]?.getD undef = .pointer (some ⟨g, 0, none⟩) := by simpa using ht
  simp [results, hfn, ht', go_sem, g0, g1]
theorem res_pt2 {tmps : Array Value} {W : World} {g tr g' tr' : Nat} {t t' : TypeId} {cs cs' : Array Value} {v0 v1 u0 u1 : Value} {fn : Func} (hB : Blk W g t cs) (hB' : Blk W g' t' cs') (hfn : fn.results = #[.cell tr 44, .cell tr' 44])
    (ht : tmps.getD tr undef = .pointer (some ⟨g, 0, none⟩)) (ht' : tmps.getD tr' undef = .pointer (some ⟨g', 0, none⟩))
    (h0 : cs[0]? = some v0) (h1 : cs[1]? = some v1) (k0 : cs'[0]? = some u0) (k1 : cs'[1]? = some u1) : (results fn tmps).run Try.prog W = .ok (.tuple #[.agg #[v0, v1], .agg #[u0, u1]]) W := by
  have g0 := (hB.cell 0).trans h0
  have g1 := (hB.cell 1).trans h1
  have g2 := (hB'.cell 0).trans k0
  have g3 := (hB'.cell 1).trans k1
  have e : tmps[tr]?.getD undef = .pointer (some ⟨g, 0, none⟩) := by simpa using ht
  have e' : tmps[tr']?.getD undef = .pointer (some ⟨g', 0, none⟩) := by simpa using ht'
  simp [results, hfn, e, e', go_sem, g0, g1, g2, g3]
theorem res_seg {tmps : Array Value} {W : World} {g tr : Nat} {t : TypeId} {cs : Array Value} {v0 v1 v2 v3 v4 v5 v6 v7 v8 : Value} {fn : Func} (hB : Blk W g t cs) (hfn : fn.results = #[.cell tr 50]) (ht : tmps.getD tr undef = .pointer (some ⟨g, 0, none⟩))
    (h0 : cs = #[v0, v1, v2, v3, v4, v5, v6, v7, v8]) : (results fn tmps).run Try.prog W = .ok (.agg #[v0, v1, v2, v3, v4, v5, v6, v7, v8]) W := by
  subst h0
  have g0 : W.cell? ⟨g, 0, none⟩ = some v0 := hB.cell 0
  have g1 : W.cell? ⟨g, 1, none⟩ = some v1 := hB.cell 1
  have g2 : W.cell? ⟨g, 2, none⟩ = some v2 := hB.cell 2
  have g3 : W.cell? ⟨g, 3, none⟩ = some v3 := hB.cell 3
  have g4 : W.cell? ⟨g, 4, none⟩ = some v4 := hB.cell 4
  have g5 : W.cell? ⟨g, 5, none⟩ = some v5 := hB.cell 5
  have g6 : W.cell? ⟨g, 6, none⟩ = some v6 := hB.cell 6
  have g7 : W.cell? ⟨g, 7, none⟩ = some v7 := hB.cell 7
  have g8 : W.cell? ⟨g, 8, none⟩ = some v8 := hB.cell 8
  have ht' : tmps[tr]?.getD undef = .pointer (some ⟨g, 0, none⟩) := by simpa using ht
  simp [results, hfn, ht', go_sem, g0, g1, g2, g3, g4, g5, g6, g7, g8]
end Go.Proofs.Ytjkpbkcbimojoaa
