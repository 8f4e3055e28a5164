/- Contract of the law's shown. -/
import Derived.Test.YtljmhenhibhbfaaKh
namespace Go.Proofs.Ytljmhenhibhbfaa
open Go.RowKit

theorem near2 {x y : Int} (h1 : -1073741824 ≤ x) (h2 : x ≤ 1073741824) (h3 : -1073741824 ≤ y) (h4 : y ≤ 1073741824) : nearK (x, y) := ⟨⟨h1, h2⟩, ⟨h3, h4⟩⟩
theorem tri_turn : turnK [(0, 0), (0, 2), (2, 0)] = [(2, 0), (0, 2), (0, 0)] := by
  rw [turn3 (near2 (by decide) (by decide) (by decide) (by decide)) (near2 (by decide) (by decide) (by decide) (by decide)) (near2 (by decide) (by decide) (by decide) (by decide)), if_pos (by decide)]
theorem tri_area : areaK [(2, 0), (0, 2), (0, 0)] = 4 := by
  rw [area3 (near2 (by decide) (by decide) (by decide) (by decide)) (near2 (by decide) (by decide) (by decide) (by decide)) (near2 (by decide) (by decide) (by decide) (by decide))]
  decide
theorem tri_convex : convexB [(2, 0), (0, 2), (0, 0)] = true :=
  convex3 (near2 (by decide) (by decide) (by decide) (by decide)) (near2 (by decide) (by decide) (by decide) (by decide)) (near2 (by decide) (by decide) (by decide) (by decide)) (by decide)
theorem tri_has1 : hasB [(2, 0), (0, 2), (0, 0)] (1, 1) = true := by
  unfold hasB
  rw [tri_convex, left3]
  decide
theorem tri_has2 : hasB [(2, 0), (0, 2), (0, 0)] (2, 1) = false := by
  unfold hasB
  rw [tri_convex, left3]
  decide
theorem tri_near : ∀ q ∈ [((2 : Int), (0 : Int)), (0, 2), (0, 0)], nearK q := by
  intro q hq
  simp only [List.mem_cons, List.not_mem_nil, or_false] at hq
  rcases hq with rfl | rfl | rfl
  all_goals exact near2 (by decide) (by decide) (by decide) (by decide)

set_option maxRecDepth 100000 in
set_option maxHeartbeats 4000000 in
theorem shown_any (w : World) : Calls Try.prog 7 #[] w fun e w' => e = .returned (.bool true) ∧ Below w.heap.size w w' := by
  have KP := Lib.hid (fun W (a : Option Addr) (hr : RPts W W.heap.size a 3 [(0, 0), (0, 2), (2, 0)]) (hnil : a = none → (3 : Nat) = 0 ∧ (3 : Nat) = 0) => put_any a 3 3 [(0, 0), (0, 2), (2, 0)] W (by omega) (by
    intro q hq
    simp only [List.mem_cons, List.not_mem_nil, or_false] at hq
    rcases hq with rfl | rfl | rfl
    all_goals exact near2 (by decide) (by decide) (by decide) (by decide)) hnil hr)
  go_enter Try.func7, Try.ntmps7
  go_wp2_with fail
  refine (KP.out _ _ (by exact RPts.new (by simp) (fun k p hk => by match k, hk with | 0, hk => (simp at hk; subst hk; simp [go_sem]) | 1, hk => (simp at hk; subst hk; simp [go_sem]) | 2, hk => (simp at hk; subst hk; simp [go_sem]))) (by intro h; cases h)).mono ?_
  rintro e w2 ⟨hb2, hpost⟩
  rw [tri_turn, tri_convex] at hpost
  rcases hpost with ⟨h, -⟩ | ⟨-, g, c, o, oc, rfl, hg, cg, hr⟩
  · cases h
  have hx2 : Below w.heap.size w w2 := Below.trans (by (repeat (first | exact Below.refl _ _ | assumption | refine Below.drew ?_ | refine Below.setCell ?_ (by simp; try omega) _ | refine Below.alloc ?_ (by simp; try omega) _))) (hb2.mono (by simp))
  clear hb2 KP
  obtain ⟨ob, oo, rfl, hob, c0, c1⟩ := hr.2 0 _ rfl
  simp only [Nat.zero_mul, Nat.add_zero] at c0 c1
  have HA := Lib.hid (fun W o oc (h : RPts W W.heap.size o 3 [(2, 0), (0, 2), (0, 0)]) => area_any o 3 oc _ W (by omega) tri_near h)
  have HC := Lib.hid (fun W o oc (h : RPts W W.heap.size o 3 [(2, 0), (0, 2), (0, 0)]) => convex_any o 3 oc _ W (by omega) tri_near h)
  have HH1 := Lib.hid (fun W o oc (h : RPts W W.heap.size o 3 [(2, 0), (0, 2), (0, 0)]) => has_any o 3 oc _ 1 1 W (by omega) tri_near (near2 (by decide) (by decide) (by decide) (by decide)) h)
  have HH2 := Lib.hid (fun W o oc (h : RPts W W.heap.size o 3 [(2, 0), (0, 2), (0, 0)]) => has_any o 3 oc _ 2 1 W (by omega) tri_near (near2 (by decide) (by decide) (by decide) (by decide)) h)
  rw [tri_area] at HA
  rw [tri_convex] at HC
  rw [tri_has1] at HH1
  rw [tri_has2] at HH2
  simp only [List.length_cons, List.length_nil, Nat.zero_add, Nat.reduceAdd] at cg hr
  go_wp2_with fail
  refine (HA.out _ _ _ hr).mono ?_
  rintro e w3 ⟨rfl, hb2⟩
  have hx3 := hx2.trans (hb2.mono hx2.size)
  replace cg := (hb2.cell (p := ⟨g, 0, none⟩) hg).trans cg
  replace c0 := (hb2.cell (p := ⟨ob, oo, none⟩) hob).trans c0
  replace c1 := (hb2.cell (p := ⟨ob, oo + 1, none⟩) hob).trans c1
  replace hg := Nat.lt_of_lt_of_le hg hb2.size
  replace hob := Nat.lt_of_lt_of_le hob hb2.size
  replace hr := hr.grow hb2
  clear hb2 hx2
  go_wp2_with fail
  refine (HC.out _ _ _ hr).mono ?_
  rintro e w4 ⟨rfl, hb2⟩
  have hx4 := hx3.trans (hb2.mono hx3.size)
  replace cg := (hb2.cell (p := ⟨g, 0, none⟩) hg).trans cg
  replace c0 := (hb2.cell (p := ⟨ob, oo, none⟩) hob).trans c0
  replace c1 := (hb2.cell (p := ⟨ob, oo + 1, none⟩) hob).trans c1
  replace hg := Nat.lt_of_lt_of_le hg hb2.size
  replace hob := Nat.lt_of_lt_of_le hob hb2.size
  replace hr := hr.grow hb2
  clear hb2 hx3
  go_wp2_with fail
  refine (HH1.out _ _ _ hr).mono ?_
  rintro e w5 ⟨rfl, hb2⟩
  have hx5 := hx4.trans (hb2.mono hx4.size)
  replace cg := (hb2.cell (p := ⟨g, 0, none⟩) hg).trans cg
  replace c0 := (hb2.cell (p := ⟨ob, oo, none⟩) hob).trans c0
  replace c1 := (hb2.cell (p := ⟨ob, oo + 1, none⟩) hob).trans c1
  replace hg := Nat.lt_of_lt_of_le hg hb2.size
  replace hob := Nat.lt_of_lt_of_le hob hb2.size
  replace hr := hr.grow hb2
  clear hb2 hx4
  go_wp2_with fail
  refine (HH2.out _ _ _ hr).mono ?_
  rintro e w6 ⟨rfl, hb2⟩
  have hx6 := hx5.trans (hb2.mono hx5.size)
  replace cg := (hb2.cell (p := ⟨g, 0, none⟩) hg).trans cg
  replace c0 := (hb2.cell (p := ⟨ob, oo, none⟩) hob).trans c0
  replace c1 := (hb2.cell (p := ⟨ob, oo + 1, none⟩) hob).trans c1
  replace hg := Nat.lt_of_lt_of_le hg hb2.size
  replace hob := Nat.lt_of_lt_of_le hob hb2.size
  replace hr := hr.grow hb2
  clear hb2 hx5
  go_wp2_with fail
  go_ret
  exact ⟨rfl, hx6⟩
end Go.Proofs.Ytljmhenhibhbfaa
