/- Contracts: the points of a segment, its end, whether it is a dot. -/
import Derived.Test.YtjkpbkcbimojoaaPj
namespace Go.Proofs.Ytjkpbkcbimojoaa
open Go.RowKit

/-- How many points count. -/
def endN (n : Int) : Nat := if n ≤ 2 then 2 else if n = 3 then 3 else 4
def ptS (s : SegS) : Nat → Int × Int
  | 0 => s.p0
  | 1 => s.p1
  | 2 => s.p2
  | _ => s.p3
def endS (s : SegS) : Int × Int := if s.n ≤ 2 then s.p1 else if s.n = 3 then s.p2 else s.p3
def dotS (s : SegS) : Bool := decide (s.p1 = s.p0) && (decide (s.n ≤ 2) || (decide (s.p2 = s.p0) && (decide (s.n = 3) || decide (s.p3 = s.p0))))

set_option maxHeartbeats 400000 in
theorem points_any (g : Nat) (v0 v1 v2 v3 v4 v5 v6 v7 : Value) (n : Int) (w : World) (hB : Blk w g 50 #[v0, v1, v2, v3, v4, v5, v6, v7, .int .i64 n]) :
    Calls Try.prog 36 #[.pointer (some ⟨g, 0, none⟩)] w fun e w' => e = .returned (.slice (some ⟨g, 0, none⟩) (endN n) 4) ∧ Below w.heap.size w w' := by
  have g8 : w.cell? ⟨g, 8, none⟩ = some (.int .i64 n) := hB.cell 8
  have hc : n ≤ 2 ∨ n = 3 ∨ n = 4 ∨ 4 < n := by omega
  rcases hc with h | rfl | rfl | h
  · have HE : Hid (endN n = 2) := Lib.hid (by unfold endN; rw [if_pos h])
    go_enter Try.func36, Try.ntmps36
    go_wp2_with fail
    go_region
    go_wp2_with fail
    go_ret
    exact ⟨by rw [HE.out]; rfl, by (repeat (first | exact Below.refl _ _ | assumption | refine Below.drew ?_ | refine Below.setCell ?_ (by simp; try omega) _ | refine Below.alloc ?_ (by simp; try omega) _))⟩
  · go_enter Try.func36, Try.ntmps36
    go_wp2_with fail
    go_region
    go_wp2_with fail
    go_ret
    exact ⟨rfl, by (repeat (first | exact Below.refl _ _ | assumption | refine Below.drew ?_ | refine Below.setCell ?_ (by simp; try omega) _ | refine Below.alloc ?_ (by simp; try omega) _))⟩
  · go_enter Try.func36, Try.ntmps36
    go_wp2_with fail
    go_region
    go_wp2_with fail
    go_ret
    exact ⟨rfl, by (repeat (first | exact Below.refl _ _ | assumption | refine Below.drew ?_ | refine Below.setCell ?_ (by simp; try omega) _ | refine Below.alloc ?_ (by simp; try omega) _))⟩
  · have HE : Hid (endN n = 4) := Lib.hid (by unfold endN; rw [if_neg (by omega), if_neg (by omega)])
    go_enter Try.func36, Try.ntmps36
    go_wp2_with fail
    go_region
    go_wp2_with fail
    go_ret
    exact ⟨by rw [HE.out]; rfl, by (repeat (first | exact Below.refl _ _ | assumption | refine Below.drew ?_ | refine Below.setCell ?_ (by simp; try omega) _ | refine Below.alloc ?_ (by simp; try omega) _))⟩

theorem end_at (s : SegS) : endS s = ptS s (endN s.n - 1) := by
  unfold endS endN
  split
  · rfl
  · split <;> rfl
theorem endN_cases (n : Int) : endN n = 2 ∨ endN n = 3 ∨ endN n = 4 := by
  unfold endN
  split
  · exact .inl rfl
  · split
    · exact .inr (.inl rfl)
    · exact .inr (.inr rfl)

def segA (s : SegS) : Array Value := #[.int .i64 s.p0.1, .int .i64 s.p0.2, .int .i64 s.p1.1, .int .i64 s.p1.2, .int .i64 s.p2.1, .int .i64 s.p2.2, .int .i64 s.p3.1, .int .i64 s.p3.2, .int .i64 s.n]

set_option maxHeartbeats 400000 in
theorem end_any (s : SegS) (w : World) :
    Calls Try.prog 20 #[.agg (segA s)] w fun e w' => e = .returned (.agg #[.int .i64 (endS s).1, .int .i64 (endS s).2]) ∧ Below w.heap.size w w' := by
  have HE := Lib.hid (end_at s)
  have hB := Blk.new w 50 (segA s)
  have h4 := endN_cases s.n
  obtain ⟨⟨x0, y0⟩, ⟨x1, y1⟩, ⟨x2, y2⟩, ⟨x3, y3⟩, n⟩ := s
  simp only [segA] at hB ⊢
  have hB2 := Lib.hid (hB.alloc (.cells #[.int .i64 0, .int .i64 0] 44))
  have hN : Blk ((w.alloc (.cells #[.int .i64 x0, .int .i64 y0, .int .i64 x1, .int .i64 y1, .int .i64 x2, .int .i64 y2, .int .i64 x3, .int .i64 y3, .int .i64 n] 50)).alloc (.cells #[.int .i64 0, .int .i64 0] 44)) (w.heap.size + 1) 44 #[.int .i64 0, .int .i64 0] := by
    have h := Blk.new (w.alloc (.cells #[.int .i64 x0, .int .i64 y0, .int .i64 x1, .int .i64 y1, .int .i64 x2, .int .i64 y2, .int .i64 x3, .int .i64 y3, .int .i64 n] 50)) 44 #[.int .i64 0, .int .i64 0]
    rw [World.size_alloc] at h
    exact h
  have HN := Lib.hid hN
  have KP := Lib.hid (points_any w.heap.size _ _ _ _ _ _ _ _ _ _ hB2.out)
  clear hB hN
  go_enter Try.func20, Try.ntmps20
  go_wp2_with fail
  refine KP.out.mono ?_
  rintro e w2 ⟨rfl, hb2⟩
  have hB3 := hB2.out.grow hb2
  have hN3 := HN.out.grow hb2
  have hlB := hB3.lt
  have hlN := hN3.lt
  have hkB := hB3.cell
  have hkN := hN3.cell
  have hfN := hN3.unfrozen
  have hx3 : Below w.heap.size w w2 := Below.trans (by (repeat (first | exact Below.refl _ _ | assumption | refine Below.drew ?_ | refine Below.setCell ?_ (by simp; try omega) _ | refine Below.alloc ?_ (by simp; try omega) _))) (hb2.mono (by simp; omega))

  rcases h4 with h | h | h
  all_goals
    have HEE := HE.out
    simp only [h] at HEE
    rw [h]
    have HF := Lib.hid HEE
    clear h HEE
    go_wp2_with fail
    refine bodyPost_ret (res_pt ((hN3.set 0 _).set 1 _) rfl rfl rfl rfl) rfl ⟨by rw [HF.out]; rfl, (hx3.setCell (by simp) _).setCell (by simp) _⟩
end Go.Proofs.Ytjkpbkcbimojoaa
