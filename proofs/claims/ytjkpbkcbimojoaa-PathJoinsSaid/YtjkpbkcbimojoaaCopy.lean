/- A copy of elements into a block that was just made, behind one more block and a draw. No program in sight. -/
import Derived.Test.YtjkpbkcbimojoaaBlk
import Derived.Laws.CopyRow
namespace Go.Proofs.Ytjkpbkcbimojoaa
open Go.RowKit

theorem setRow_new (W0 : World) (A B : Array Value) (t : TypeId) (O : Obj) : (((W0.alloc (.cells A t)).alloc O).drew).setRow W0.heap.size B = ((W0.alloc (.cells B t)).alloc O).drew := by
  simp only [World.setRow, World.drew, World.alloc]
  congr 1
  apply Array.ext
  · simp
  · intro k h1 h2
    simp only [Array.size_modify, Array.size_push] at h1
    simp only [Array.getElem_modify, Array.getElem_push, Array.size_push]
    by_cases hk : W0.heap.size = k
    · subst hk
      simp
    · by_cases hk2 : k < W0.heap.size
      · simp [hk, hk2]
      · simp [hk, show ¬ k < W0.heap.size + 1 by omega]

theorem copy_new {P : Program} (W0 : World) (A : List Value) (t : TypeId) (O : Obj) (dT sT ty elem : TypeId) (o dLen dCap m s : Nat) (a : Addr) (sLen sCap : Nat) (cs : List Value)
    (hu : P.underlying dT = some (.slice elem)) (hs : (P.info? elem).map (·.size) = some s) (hm : Nat.min sLen dLen = m) (hn : cs.length = m * s)
    (hsrc : ∀ j v, cs[j]? = some v → (((W0.alloc (.cells A.toArray t)).alloc O).drew).cell? (a.add j) = some v) (hfit : o + cs.length ≤ A.length) (h1 : ∀ v ∈ cs, v.oneCell' = true) :
    (Builtin.copy_ #[dT, sT] ty #[.slice (some ⟨W0.heap.size, o, none⟩) dLen dCap, .slice (some a) sLen sCap]).run P (((W0.alloc (.cells A.toArray t)).alloc O).drew) =
      .ok (goInt m) (((W0.alloc (.cells (A.take o ++ cs ++ A.drop (o + cs.length)).toArray t)).alloc O).drew) := by
  have hg : (((W0.alloc (.cells A.toArray t)).alloc O).drew).heap[W0.heap.size]? = some (.cells A.toArray t (0, 0)) := ((Blk.new W0 t A.toArray).alloc O)
  have hl := run_loadCells_list (P := P) _ a cs hsrc
  have hst := run_storeCells_at P W0.heap.size o t cs 0 A.toArray _ hg (by simpa using hfit) h1
  cases hq : P.info? elem with
  | none => simp [hq] at hs
  | some i =>
    have hi : i.size = s := by simpa [hq] using hs
    rw [setRow_new] at hst
    simp [Builtin.copy_, run_underlying hu, Builtin.lenOf, Builtin.firstCells, sizeOf, typeInfo, hq, hi, hm, ← hn, hl]
    simp at hst
    rw [hst]
    rfl
end Go.Proofs.Ytjkpbkcbimojoaa
