/- Contract of path.Dot. -/
import Derived.Test.YtjkpbkcbimojoaaQc
import Derived.Test.YtjkpbkcbimojoaaPk
import Derived.Test.YtjkpbkcbimojoaaPb
namespace Go.Proofs.Ytjkpbkcbimojoaa
open Go.RowKit

set_option maxHeartbeats 4000000 in
theorem dotf_any (g : Nat) (px py qx qy : Int) (v2 v3 v4 v5 v6 v7 v8 : Value) (w : World) (hB : Blk w g 50 #[.int .i64 px, .int .i64 py, v2, v3, v4, v5, v6, v7, v8]) :
    Calls Try.prog 40 #[.agg #[.int .i64 qx, .int .i64 qy], .pointer (some ⟨g, 0, none⟩)] w fun e w' => e = .returned (.bool (!(decide (qx = px) && decide (qy = py)))) ∧ Below w.heap.size w w' := by
  have g0 : w.cell? ⟨g, 0, none⟩ = some (.int .i64 px) := hB.cell 0
  have g1 : w.cell? ⟨g, 1, none⟩ = some (.int .i64 py) := hB.cell 1
  have lB := hB.lt
  clear hB
  have hc : (qx = px ∧ qy = py) ∨ ((qx == px) = false ∧ ¬ qx = px) ∨ ((qx == px) = true ∧ qx = px ∧ (qy == py) = false ∧ ¬ qy = py) := by
    by_cases h1 : qx = px <;> by_cases h2 : qy = py <;> simp [h1, h2]
  rcases hc with ⟨rfl, rfl⟩ | ⟨h1, h2⟩ | ⟨h1, rfl, h3, h4⟩
  · have hz : Hid ((!(decide (qx = qx) && decide (qy = qy))) = false) := Lib.hid (by simp)
    go_enter Try.func40, Try.ntmps40
    go_wp2_with fail
    go_ret
    exact ⟨by first | rfl | (rw [hz.out]; rfl), by (repeat (first | exact Below.refl _ _ | assumption | refine Below.drew ?_ | refine Below.setCell ?_ (by simp; try omega) _ | refine Below.alloc ?_ (by simp; try omega) _))⟩
  · have hz : Hid ((!(decide (qx = px) && decide (qy = py))) = true) := Lib.hid (by simp [h2])
    clear h2
    go_enter Try.func40, Try.ntmps40
    go_wp2_with fail
    go_ret
    exact ⟨by rw [hz.out]; rfl, by (repeat (first | exact Below.refl _ _ | assumption | refine Below.drew ?_ | refine Below.setCell ?_ (by simp; try omega) _ | refine Below.alloc ?_ (by simp; try omega) _))⟩
  · have hz : Hid ((!decide (qy = py)) = true) := Lib.hid (by simp [h4])
    clear h4 h1
    go_enter Try.func40, Try.ntmps40
    go_wp2_with fail
    go_ret
    exact ⟨by simp only [decide_true, Bool.true_and, hz.out]; rfl, by (repeat (first | exact Below.refl _ _ | assumption | refine Below.drew ?_ | refine Below.setCell ?_ (by simp; try omega) _ | refine Below.alloc ?_ (by simp; try omega) _))⟩
/-- The points of a segment, as many as there are. -/
def ptsG (s : SegS) : List (Int × Int) := [s.p0, s.p1, s.p2, s.p3].take (endN s.n)
def dotG (s : SegS) : Bool := !((ptsG s).any fun q => !(decide (q.1 = s.p0.1) && decide (q.2 = s.p0.2)))
theorem dot_sh (b : Int × Int) (s : SegS) (hn : 2 ≤ s.n) (hn2 : s.n ≤ 4) : dotG (shG b s) = dotG s := by
  obtain ⟨⟨a0, b0⟩, ⟨a1, b1⟩, ⟨a2, b2⟩, ⟨a3, b3⟩, n⟩ := s
  obtain ⟨bx, by_⟩ := b
  simp only at hn hn2
  rcases (by omega : n = 2 ∨ n = 3 ∨ n = 4) with rfl | rfl | rfl <;>
    simp [dotG, ptsG, shG, shP, endN, Int.add_left_inj]
theorem cf_dot (xs : Array Value) (W : World) : Sem.run Try.prog (callFunc 40 xs) W = .ok (.enter 40 xs) W := by
  first | exact cf_far1 xs W | rfl | kernel_rfl
theorem rpts_seg {W : World} {g : Nat} {t : TypeId} (s : SegS) (hB : Blk W g t (segA s)) : RPts W W.heap.size (some ⟨g, 0, none⟩) (endN s.n) (ptsG s) := by
  have h4 : endN s.n = 2 ∨ endN s.n = 3 ∨ endN s.n = 4 := by
    unfold endN
    repeat' split
    all_goals omega
  have hlt := hB.lt
  have hc := hB.cell
  clear hB
  unfold ptsG
  generalize endN s.n = e at *
  obtain ⟨⟨x0, y0⟩, ⟨x1, y1⟩, ⟨x2, y2⟩, ⟨x3, y3⟩, n⟩ := s
  rcases h4 with rfl | rfl | rfl
  all_goals
    refine ⟨rfl, fun k p hk => ⟨g, 0, rfl, hlt, ?_, ?_⟩⟩ <;> rw [hc] <;> (rcases k with _ | _ | _ | _ | k <;> simp at hk <;> subst hk <;> rfl)
set_option maxRecDepth 100000 in
set_option maxHeartbeats 4000000 in
theorem pdotg_any (s : SegS) (w : World) : Calls Try.prog 25 #[.agg (segA s)] w fun e w' => e = .returned (.bool (dotG s)) ∧ Below w.heap.size w w' := by
  have HE := Lib.hid (rpts_seg (W := w.alloc (.cells (segA s) 50)) s (Blk.new w 50 (segA s)))
  have HB := Lib.hid (Blk.new w 50 (segA s))
  have h4 := endN_cases s.n
  have HD : Hid (dotG s = !((ptsG s).any fun q => !(decide (q.1 = s.p0.1) && decide (q.2 = s.p0.2)))) := Lib.hid rfl
  generalize dotG s = dd at *
  generalize ptsG s = pp at *
  obtain ⟨⟨x0, y0⟩, ⟨x1, y1⟩, ⟨x2, y2⟩, ⟨x3, y3⟩, n⟩ := s
  simp only [segA] at HE HB HD h4 ⊢
  go_enter Try.func25, Try.ntmps25
  go_wp2_with fail
  refine (points_any w.heap.size _ _ _ _ _ _ _ _ _ _ HB.out).mono ?_
  rintro e w2 ⟨rfl, hb2⟩
  have HB2 := Lib.hid (HB.out.grow hb2)
  have HE2 := Lib.hid (HE.out.grow hb2)
  have hx : Below w.heap.size w w2 := Below.trans (by (repeat (first | exact Below.refl _ _ | assumption | refine Below.drew ?_ | refine Below.setCell ?_ (by simp; try omega) _ | refine Below.alloc ?_ (by simp; try omega) _))) (hb2.mono (by simp))
  clear HB HE hb2
  go_wp2_with fail
  refine (containsFunc_any (fun x y => !(decide (x = x0) && decide (y = y0))) #[.pointer (some ⟨w.heap.size, 0, none⟩)] 40 _ _ _ pp w2 (by omega) HE2.out cf_dot
    (fun x y W hW => dotf_any w.heap.size x0 y0 x y _ _ _ _ _ _ _ W (HB2.out.grow hW))).mono ?_
  rintro e w3 ⟨rfl, hb3⟩
  have hx3 := hx.trans (hb3.mono hx.size)
  clear hb3
  go_wp2_with fail
  go_ret
  exact ⟨by rw [HD.out]; simp only [Bool.not_and]; rfl, hx3⟩
end Go.Proofs.Ytjkpbkcbimojoaa
