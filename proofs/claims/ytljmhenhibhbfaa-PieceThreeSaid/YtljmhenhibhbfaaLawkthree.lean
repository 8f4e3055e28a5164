/- PieceThree: of three corners a piece is put, unless they lie on one line; it has just what the triangle has. -/
import Derived.Test.YtljmhenhibhbfaaKi
import Derived.Test.YtljmhenhibhbfaaRefe
import Derived.Test.YtljmhenhibhbfaaOpenb
namespace Go.Proofs.Ytljmhenhibhbfaa
open Go.RowKit

theorem below_alloc4 {w : World} {a b c d : Obj} : Below w.heap.size w ((((w.alloc a).alloc b).alloc c).alloc d) := by (repeat (first | exact Below.refl _ _ | assumption | refine Below.drew ?_ | refine Below.setCell ?_ (by simp; try omega) _ | refine Below.alloc ?_ (by simp; try omega) _))
/-- Four points in boxes of their own. -/
def Box4 (W : World) (g : Nat) (ax ay bx py cx cy qx qy : Int) : Prop :=
  ((W.cell? ⟨g, 0, none⟩ = some (.int .i64 ax) ∧ W.cell? ⟨g, 1, none⟩ = some (.int .i64 ay)) ∧ (W.cell? ⟨g + 1, 0, none⟩ = some (.int .i64 bx) ∧ W.cell? ⟨g + 1, 1, none⟩ = some (.int .i64 py))) ∧
  ((W.cell? ⟨g + 1 + 1, 0, none⟩ = some (.int .i64 cx) ∧ W.cell? ⟨g + 1 + 1, 1, none⟩ = some (.int .i64 cy)) ∧ (W.cell? ⟨g + 1 + 1 + 1, 0, none⟩ = some (.int .i64 qx) ∧ W.cell? ⟨g + 1 + 1 + 1, 1, none⟩ = some (.int .i64 qy))) ∧
  (g + 1 + 1 + 1 < W.heap.size ∧ g + 1 + 1 < W.heap.size ∧ g + 1 < W.heap.size ∧ g < W.heap.size)
theorem Box4.grow {W W' : World} {g : Nat} {ax ay bx py cx cy qx qy : Int} (h : Box4 W g ax ay bx py cx cy qx qy) (hb : Below W.heap.size W W') : Box4 W' g ax ay bx py cx cy qx qy := by
  obtain ⟨⟨⟨h1, h2⟩, ⟨h3, h4⟩⟩, ⟨⟨h5, h6⟩, ⟨h7, h8⟩⟩, l3, l2, l1, l0⟩ := h
  have hs := hb.size
  exact ⟨⟨⟨(hb.cell (p := ⟨g, 0, none⟩) l0).trans h1, (hb.cell (p := ⟨g, 1, none⟩) l0).trans h2⟩, ⟨(hb.cell (p := ⟨g + 1, 0, none⟩) l1).trans h3, (hb.cell (p := ⟨g + 1, 1, none⟩) l1).trans h4⟩⟩,
    ⟨⟨(hb.cell (p := ⟨g + 1 + 1, 0, none⟩) l2).trans h5, (hb.cell (p := ⟨g + 1 + 1, 1, none⟩) l2).trans h6⟩, ⟨(hb.cell (p := ⟨g + 1 + 1 + 1, 0, none⟩) l3).trans h7, (hb.cell (p := ⟨g + 1 + 1 + 1, 1, none⟩) l3).trans h8⟩⟩, by omega, by omega, by omega, by omega⟩
theorem bnd4 (a b c q : Int × Int) : bndB [a, b, c, q] = true → nearK a ∧ nearK b ∧ nearK c ∧ nearK q := fun h => by
  have := (bnd_near h).1
  exact ⟨this a (by simp), this b (by simp), this c (by simp), this q (by simp)⟩

set_option maxRecDepth 100000 in
set_option maxHeartbeats 4000000 in
theorem lthree_any (ax ay bx py cx cy qx qy : Int) (w : World) :
    Calls Try.prog 3 #[.agg #[.int .i64 ax, .int .i64 ay], .agg #[.int .i64 bx, .int .i64 py], .agg #[.int .i64 cx, .int .i64 cy], .agg #[.int .i64 qx, .int .i64 qy]] w fun e w' => e = .returned (.bool true) ∧ Below w.heap.size w w' := by
  have KB := Lib.hid (fun W a (hr : RPts W W.heap.size a 4 [(ax, ay), (bx, py), (cx, cy), (qx, qy)]) => bounded_any a 4 4 _ W (by omega) hr)
  cases hbd : bndB [(ax, ay), (bx, py), (cx, cy), (qx, qy)]
  · rw [hbd] at KB
    clear hbd
    go_enter Try.func3, Try.ntmps3
    go_wp2_with fail
    refine (KB.out _ _ (by exact RPts.new (by simp) (fun k p hk => by match k, hk with | 0, hk => (simp at hk; subst hk; simp [go_sem]) | 1, hk => (simp at hk; subst hk; simp [go_sem]) | 2, hk => (simp at hk; subst hk; simp [go_sem]) | 3, hk => (simp at hk; subst hk; simp [go_sem])))).mono ?_
    rintro e w2 ⟨rfl, hb2⟩
    have hx : Below w.heap.size w w2 := Below.trans (by (repeat (first | exact Below.refl _ _ | assumption | refine Below.drew ?_ | refine Below.setCell ?_ (by simp; try omega) _ | refine Below.alloc ?_ (by simp; try omega) _))) (hb2.mono (by simp; omega))
    go_wp2_with fail
    refine (shown_any _).mono ?_
    rintro e w3 ⟨rfl, hb3⟩
    have hx3 := hx.trans (hb3.mono hx.size)
    go_wp2_with fail
    go_ret
    exact ⟨rfl, hx3⟩
  rw [hbd] at KB
  obtain ⟨na, nb, nc, nq⟩ := bnd4 _ _ _ _ hbd
  have HNR := Lib.hid (And.intro na (And.intro nb (And.intro nc nq)))
  have KS := Lib.hid (fun W => r5side_any ax ay bx py cx cy W na.1.1 na.1.2 na.2.1 na.2.2 nb.1.1 nb.1.2 nb.2.1 nb.2.2 nc.1.1 nc.1.2 nc.2.1 nc.2.2)
  have KW := Lib.hid (fun W => r5within_any ax ay bx py cx cy qx qy W na.1.1 na.1.2 na.2.1 na.2.2 nb.1.1 nb.1.2 nb.2.1 nb.2.2 nc.1.1 nc.1.2 nc.2.1 nc.2.2 nq.1.1 nq.1.2 nq.2.1 nq.2.2)
  have hC3 : ∀ q ∈ [(ax, ay), (bx, py), (cx, cy)], nearK q := by
    intro q hq
    simp only [List.mem_cons, List.not_mem_nil, or_false] at hq
    rcases hq with rfl | rfl | rfl
    · exact na
    · exact nb
    · exact nc
  have KP := Lib.hid (fun W a (hr : RPts W W.heap.size a 3 [(ax, ay), (bx, py), (cx, cy)]) (hnil : a = none → (3 : Nat) = 0 ∧ (3 : Nat) = 0) => put_any a 3 3 [(ax, ay), (bx, py), (cx, cy)] W (by omega) hC3 hnil hr)
  have HC3 := Lib.hid hC3
  have HFL := Lib.hid (three_flat na nb nc)
  have HHS := Lib.hid (fun h => three_has na nb nc h (qx, qy))
  clear na nb nc nq hbd hC3
  have hB4 : Box4 ((((w.alloc (.cells #[.int .i64 ax, .int .i64 ay] 23)).alloc (.cells #[.int .i64 bx, .int .i64 py] 23)).alloc (.cells #[.int .i64 cx, .int .i64 cy] 23)).alloc (.cells #[.int .i64 qx, .int .i64 qy] 23)) w.heap.size ax ay bx py cx cy qx qy := by
    unfold Box4
    simp [go_sem]
  have HB4 := Lib.hid hB4
  have hx0 := below_alloc4 (w := w) (a := .cells #[.int .i64 ax, .int .i64 ay] 23) (b := .cells #[.int .i64 bx, .int .i64 py] 23) (c := .cells #[.int .i64 cx, .int .i64 cy] 23) (d := .cells #[.int .i64 qx, .int .i64 qy] 23)
  clear hB4
  go_enter Try.func3, Try.ntmps3
  go_wp2_with fail
  refine (KB.out _ _ (by exact RPts.new (by simp) (fun k p hk => by match k, hk with | 0, hk => (simp at hk; subst hk; simp [go_sem]) | 1, hk => (simp at hk; subst hk; simp [go_sem]) | 2, hk => (simp at hk; subst hk; simp [go_sem]) | 3, hk => (simp at hk; subst hk; simp [go_sem])))).mono ?_
  rintro e w2 ⟨rfl, hb2⟩
  have hb2' := ((Below.refl _ _).alloc (Nat.le_refl _) (.cells #[.int .i64 ax, .int .i64 ay, .int .i64 bx, .int .i64 py, .int .i64 cx, .int .i64 cy, .int .i64 qx, .int .i64 qy] 23)).trans (hb2.mono (by simp))
  have hx2 := hx0.trans (hb2'.mono hx0.size)
  have HB2 := Lib.hid (HB4.out.grow hb2')
  clear hb2 hb2' hx0 HB4 KB
  go_wp2_with fail
  refine (shown_any _).mono ?_
  rintro e w3 ⟨rfl, hb2⟩
  have hx3 := hx2.trans (hb2.mono hx2.size)
  have HB3 := Lib.hid (HB2.out.grow hb2)
  clear hb2 hx2 HB2
  obtain ⟨⟨⟨g0, g1⟩, ⟨g2, g3⟩⟩, ⟨⟨g4, g5⟩, ⟨g6, g7⟩⟩, l3, l2, l1, l0⟩ := HB3.out
  go_wp2_with fail
  refine (KP.out _ _ (by exact RPts.new (by simp) (fun k p hk => by match k, hk with | 0, hk => (simp at hk; subst hk; simp [go_sem]) | 1, hk => (simp at hk; subst hk; simp [go_sem]) | 2, hk => (simp at hk; subst hk; simp [go_sem]))) (by intro h; cases h)).mono ?_
  rintro e w4 ⟨hb2, hpost⟩
  have hb2' := ((Below.refl _ w3).alloc (Nat.le_refl _) (.cells #[.int .i64 ax, .int .i64 ay, .int .i64 bx, .int .i64 py, .int .i64 cx, .int .i64 cy] 23)).trans (hb2.mono (by simp))
  have hx4 := hx3.trans (hb2'.mono hx3.size)
  have HB5 := Lib.hid (HB3.out.grow hb2')
  clear hb2 hb2' hx3 HB3 KP
  clear g0 g1 g2 g3 g4 g5 g6 g7 l0 l1 l2 l3
  obtain ⟨⟨⟨g0, g1⟩, ⟨g2, g3⟩⟩, ⟨⟨g4, g5⟩, ⟨g6, g7⟩⟩, l3, l2, l1, l0⟩ := HB5.out
  by_cases hs : sideS ax ay bx py cx cy = 0
  · have hfl := HFL.out hs
    rw [hs] at KS
    rcases hpost with ⟨-, rfl⟩ | ⟨h, -⟩
    · clear hs hfl
      go_wp2_with fail
      refine (KS.out _).mono ?_
      rintro e w5 ⟨rfl, hb2⟩
      have hx5 := hx4.trans (hb2.mono hx4.size)
      go_wp2_with fail
      go_ret
      exact ⟨rfl, hx5⟩
    · rw [hfl] at h; cases h
  · obtain ⟨h1, h2, h3⟩ := HHS.out hs
    have hsb : (sideS ax ay bx py cx cy == 0) = false := by simpa using hs
    rcases hpost with ⟨h, -⟩ | ⟨-, g, pc, o, oc, rfl, hg, cg, hr⟩
    · rw [h1] at h; cases h
    · simp only [List.length_cons, List.length_nil, Nat.zero_add, Nat.reduceAdd] at cg hr
      generalize sideS ax ay bx py cx cy = sd at *
      go_wp2_with fail
      refine (KS.out _).mono ?_
      rintro e w5 ⟨rfl, hb2⟩
      have hx5 := hx4.trans (hb2.mono hx4.size)
      have HB6 := Lib.hid (HB5.out.grow hb2)
      replace cg := (hb2.cell (p := ⟨g, 0, none⟩) hg).trans cg
      replace hr := hr.grow hb2
      replace hg := Nat.lt_of_lt_of_le hg hb2.size
      clear hb2 hx4 HB5 KS
      clear g0 g1 g2 g3 g4 g5 g6 g7 l0 l1 l2 l3
      obtain ⟨⟨⟨g0, g1⟩, ⟨g2, g3⟩⟩, ⟨⟨g4, g5⟩, ⟨g6, g7⟩⟩, l3, l2, l1, l0⟩ := HB6.out
      have hCT : ∀ q ∈ turnK [(ax, ay), (bx, py), (cx, cy)], nearK q := fun q hq => HC3.out q (turn_mem.1 hq)
      have KH := Lib.hid (fun W (hW : Below w5.heap.size w5 W) => has_any o 3 oc (turnK [(ax, ay), (bx, py), (cx, cy)]) qx qy W (by omega) hCT HNR.out.2.2.2 (hr.grow hW))
      have KA := Lib.hid (fun W (hW : Below w5.heap.size w5 W) => area_any o 3 oc (turnK [(ax, ay), (bx, py), (cx, cy)]) W (by omega) hCT (hr.grow hW))
      rw [h2] at KH
      clear hr hCT h1 h2 hs HFL HHS HC3
      generalize withinB ax ay bx py cx cy qx qy = wb at *
      generalize areaK (turnK [(ax, ay), (bx, py), (cx, cy)]) = ar at *
      go_wp2_with fail
      refine Reg.wp_region_all (by first | exact hb2 | exact Below.refl _ _) (by kernel_rfl) (by kernel_rfl) ?_
      repeat (go_big_quiet_step ((first | (go_at_call 10; exact Reg.calls_aft (KH.out _ (Reg.aft_below _ _ _))) | (go_at_call 11; exact Reg.calls_aft (KW.out _)) | (go_at_call 12; exact Reg.calls_aft (KA.out _ (Reg.aft_below _ _ _))))))
      refine wpQuiet_nil ?_
      intro xs hxs
      have hbx := Reg.class_below hxs
      clear hxs
      go_wp2_with fail
      go_ret
      exact ⟨rfl, hx5.trans (hbx.mono hx5.size)⟩

namespace kthree
open Go.ChangeShapes Go.WideShapes Go.ChangeAt

theorem contract {H : Type} (enc : TypeId × Value → H) (W : World) (base : Nat) (args : Array Value) (ds : List (DataW H)) (ps : List MemPlace)
    (hval : ∀ (j : Nat) t v, Try.f3.params[j]? = some t → args[j]? = some v → Value.okWide Try.checked.prog W .any base t v)
    (hA : DataW.TrodAll enc Try.checked.prog W 0 (fun _ => true) true Try.f3.params.toList args.toList ds ps) (hlt : ∀ x ∈ ps, x.block < W.heap.size) :
    Calls Try.checked.prog 3 args W fun e W' => e = .returned (.bool true) ∧ Below W.heap.size W W' := by
  rw [Try.params3] at hA hval
  obtain ⟨v0, vs0, d0, ds0, p0, q0, ea, rfl, rfl, h0, hA⟩ := trodAll_cons hA
  obtain ⟨v1, vs1, d1, ds1, p1, q1, rfl, rfl, rfl, h1, hA⟩ := trodAll_cons hA
  obtain ⟨v2, vs2, d2, ds2, p2, q2, rfl, rfl, rfl, h2, hA⟩ := trodAll_cons hA
  obtain ⟨v3, vs3, d3, ds3, p3, q3, rfl, rfl, rfl, h3, hA⟩ := trodAll_cons hA
  obtain ⟨rfl, rfl, rfl⟩ := trodAll_nil hA
  obtain rfl : args = #[v0, v1, v2, v3] := by cases args; simp_all
  have _ := hlt
  obtain ⟨ax, ay, rfl, _, _⟩ := open_pt (hval 0 _ _ rfl rfl) h0
  obtain ⟨bx, py, rfl, _, _⟩ := open_pt (hval 1 _ _ rfl rfl) h1
  obtain ⟨cx, cy, rfl, _, _⟩ := open_pt (hval 2 _ _ rfl rfl) h2
  obtain ⟨qx, qy, rfl, _, _⟩ := open_pt (hval 3 _ _ rfl rfl) h3
  exact lthree_any ax ay bx py cx cy qx qy W

set_option maxRecDepth 100000 in
theorem lifted (os : Os) (started : os.Started) (H : Type) (enc : TypeId × Value → H) :
    ReturnsInHanded {} Try.checked os 3 .any (Rows.pieceThreeSpec.pre6 enc Try.prog Try.f3 [] false) (Rows.pieceThreeSpec.post enc Try.prog Try.f3 false true false false) :=
  law_lift (bT := 4) started (by kernel_rfl) Try.func3 rfl (by kernel_rfl) (by kernel_rfl) (by kernel_rfl) (fun ds h => by match ds, h with | [_, _, _, _], _ => rfl)
    (ChangeSpec.witness6 (enc := enc) (C := Try.checked) false ⟨#[], #[.agg #[.int .i64 0, .int .i64 0], .agg #[.int .i64 0, .int .i64 0], .agg #[.int .i64 0, .int .i64 0], .agg #[.int .i64 0, .int .i64 0]], []⟩ 8 (by kernel_rfl) (by kernel_rfl) (by kernel_rfl) (by kernel_rfl))
    (fun W base args ds ps hval hA hlt => contract enc W base args ds ps hval hA hlt)

theorem holds : Rows.PieceThreeSaid :=
  OpenClaim.holds_of_wide 3 Try.f3 rfl rfl rfl rfl rfl rfl rfl ⟨rfl, rfl, rfl, rfl, rfl⟩ rfl rfl rfl rfl rfl (by kernel_rfl) Try.func3 (by kernel_rfl)
    (of_decide_eq_true (by kernel_rfl)) (by unfold Func.isWrapper; first | (rw [if_pos (by decide +kernel)]; kernel_rfl) | (rw [if_neg (by decide +kernel)]; exact ⟨rfl, rfl⟩))
    (fun os started H enc _ => lifted os started H enc)
end kthree
end Go.Proofs.Ytljmhenhibhbfaa
