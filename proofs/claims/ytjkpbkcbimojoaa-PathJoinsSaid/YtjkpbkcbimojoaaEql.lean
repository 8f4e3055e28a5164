/- A segment is the same as itself: the run of the reference's comparison. -/
import Derived.Test.YtjkpbkcbimojoaaRows
import Derived.Laws.StructEq
import Derived.ChangeKeysEq
import Derived.Lib.SmallJoins
import Derived.WalkKit
namespace Go.Proofs.Ytjkpbkcbimojoaa
open Go.RowKit

theorem pt_eql (x y : Int) (w : World) : (Op.equalIn 9998 44 (.agg #[.int .i64 x, .int .i64 y]) (.agg #[.int .i64 x, .int .i64 y])).run Try.prog w = .ok true w := by
  rw [show (9998 : Nat) = 9997 + 1 from rfl, run_equalIn_struct w 9997 44 _ _ (by kernel_rfl) (by kernel_rfl)]
  simp [Op.eqFields, go_sem]
theorem pts_eql (x0 y0 x1 y1 x2 y2 x3 y3 : Int) (w : World) : (Op.equalIn 9999 48 (.agg #[.int .i64 x0, .int .i64 y0, .int .i64 x1, .int .i64 y1, .int .i64 x2, .int .i64 y2, .int .i64 x3, .int .i64 y3]) (.agg #[.int .i64 x0, .int .i64 y0, .int .i64 x1, .int .i64 y1, .int .i64 x2, .int .i64 y2, .int .i64 x3, .int .i64 y3])).run Try.prog w = .ok true w := by
  obtain ⟨i, hi⟩ : ∃ i, Try.prog.info? 44 = some i := by
    cases h : Try.prog.info? 44 with
    | some i => exact ⟨i, rfl⟩
    | none => exact absurd h (by
        have : (Try.prog.info? 44).isSome = true := by kernel_rfl
        intro h2
        rw [h2] at this
        cases this)
  rw [show (9999 : Nat) = 9998 + 1 from rfl, run_equalIn_array w 9998 _ _ Try.underlying48 hi, show Try.prog.cellsOf 44 = 2 by kernel_rfl]
  simp [Op.eqItems, List.range, List.range.loop, go_sem, pt_eql]
theorem seg_eql (x0 y0 x1 y1 x2 y2 x3 y3 n : Int) (w : World) : (Op.equal 59 (.agg #[.int .i64 x0, .int .i64 y0, .int .i64 x1, .int .i64 y1, .int .i64 x2, .int .i64 y2, .int .i64 x3, .int .i64 y3, .int .i64 n]) (.agg #[.int .i64 x0, .int .i64 y0, .int .i64 x1, .int .i64 y1, .int .i64 x2, .int .i64 y2, .int .i64 x3, .int .i64 y3, .int .i64 n])).run Try.prog w = .ok true w := by
  unfold Op.equal
  rw [show Op.maxDepth = 9999 + 1 from rfl, run_equalIn_struct w 9999 59 _ _ (by kernel_rfl) (by kernel_rfl)]
  simp [Op.eqFields, go_sem, pts_eql]
end Go.Proofs.Ytjkpbkcbimojoaa
