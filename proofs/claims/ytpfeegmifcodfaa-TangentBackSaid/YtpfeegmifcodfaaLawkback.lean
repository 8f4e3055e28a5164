/- TangentBack: a segment that is turned back begins against where it finished, and is of the same class. -/
import Derived.Test.YtpfeegmifcodfaaTm
import Derived.Test.YtpfeegmifcodfaaLawg
import Derived.Test.YtpfeegmifcodfaaOpenb
namespace Go.Proofs.Ytpfeegmifcodfaa
open Go.RowKit

theorem back_cases {c v1 v2 : Int} (h0 : 0 ≤ c ∧ c ≤ 3) (hz : c = 0 ↔ (v1 = 0 ∧ v2 = 0)) :
    (0 ≤ c ∧ c ≤ 3 ∧ (c == 0) = true ∧ (v1 == 0) = true ∧ (v2 == 0) = true) ∨ (0 ≤ c ∧ c ≤ 3 ∧ (c == 0) = false ∧ (v1 == 0) = false) ∨ (0 ≤ c ∧ c ≤ 3 ∧ (c == 0) = false ∧ (v1 == 0) = true ∧ (v2 == 0) = false) := by
  simp only [beq_iff_eq, beq_eq_false_iff_ne]
  omega

set_option maxRecDepth 100000 in
set_option maxHeartbeats 4000000 in
theorem back2_law (x0 y0 x1 y1 x2 y2 x3 y3 : Int) (w : World) (hG : GoodP 2 x0 y0 x1 y1 x2 y2 x3 y3) :
    Calls Try.prog 5 #[.agg #[.int .i64 x0, .int .i64 y0, .int .i64 x1, .int .i64 y1, .int .i64 x2, .int .i64 y2, .int .i64 x3, .int .i64 y3, .int .i64 2]] w fun e w' => e = .returned (.bool true) ∧ Below w.heap.size w w' := by
  have KG := Lib.hid (fun W => good_yes W hG)
  have hC := hG.2.1
  obtain ⟨cc, hcc⟩ : ∃ cc, classP 2 x0 y0 x1 y1 x2 y2 x3 y3 = cc := ⟨_, rfl⟩
  obtain ⟨v, hv⟩ : ∃ v, finishP 2 x0 y0 x1 y1 x2 y2 x3 y3 = v := ⟨_, rfl⟩
  obtain ⟨v1, v2⟩ := v
  have hrange := class_range 2 x0 y0 x1 y1 x2 y2 x3 y3
  have hzero := class_zero 2 x0 y0 x1 y1 x2 y2 x3 y3 (by omega)
  have htwo := class_two x0 y0 x1 y1 x2 y2 x3 y3
  have hbd := begin_bd (n := 2) (revC2 hC)
  have hb0 : beginP 2 x1 y1 x0 y0 0 0 0 0 = (-v1, -v2) := by
    have e : (-(beginP 2 x1 y1 x0 y0 0 0 0 0).1, -(beginP 2 x1 y1 x0 y0 0 0 0 0).2) = (v1, v2) := hv
    simp only [Prod.mk.injEq] at e
    exact Prod.ext (by simp only; omega) (by simp only; omega)
  have k1 : ∀ W, Calls Try.prog 27 #[.agg #[.int .i64 x0, .int .i64 y0, .int .i64 x1, .int .i64 y1, .int .i64 x2, .int .i64 y2, .int .i64 x3, .int .i64 y3, .int .i64 2]] W fun e w' => e = .returned (.agg #[.int .i64 x1, .int .i64 y1, .int .i64 x0, .int .i64 y0, .int .i64 0, .int .i64 0, .int .i64 0, .int .i64 0, .int .i64 2]) ∧ Below W.heap.size W w' := fun W => back2_any x0 y0 x1 y1 x2 y2 x3 y3 W
  have k2 : ∀ W, Calls Try.prog 11 #[.agg #[.int .i64 x1, .int .i64 y1, .int .i64 x0, .int .i64 y0, .int .i64 0, .int .i64 0, .int .i64 0, .int .i64 0, .int .i64 2]] W fun e w' => e = .returned (.agg #[.int .i64 (-v1), .int .i64 (-v2)]) ∧ Below W.heap.size W w' := fun W => by
    have h := beginN_any 2 (by omega) (by omega) x1 y1 x0 y0 0 0 0 0 W (revC2 hC)
    rw [show beginP ((2 : Nat) : Int) x1 y1 x0 y0 0 0 0 0 = (-v1, -v2) from hb0] at h
    exact h
  have k3 : ∀ W, Calls Try.prog 13 #[.agg #[.int .i64 x0, .int .i64 y0, .int .i64 x1, .int .i64 y1, .int .i64 x2, .int .i64 y2, .int .i64 x3, .int .i64 y3, .int .i64 2]] W fun e w' => e = .returned (.agg #[.int .i64 v1, .int .i64 v2]) ∧ Below W.heap.size W w' := fun W => by
    have h := finishN_any 2 (by omega) (by omega) x0 y0 x1 y1 x2 y2 x3 y3 W hC
    rw [show finishP ((2 : Nat) : Int) x0 y0 x1 y1 x2 y2 x3 y3 = (v1, v2) from hv] at h
    exact h
  have k4 : ∀ W, Calls Try.prog 15 #[.agg #[.int .i64 x0, .int .i64 y0, .int .i64 x1, .int .i64 y1, .int .i64 x2, .int .i64 y2, .int .i64 x3, .int .i64 y3, .int .i64 2]] W fun e w' => e = .returned (.int .i64 cc) ∧ Below W.heap.size W w' := fun W => by
    have h := classN_any 2 (by omega) (by omega) x0 y0 x1 y1 x2 y2 x3 y3 W hC
    rw [show classP ((2 : Nat) : Int) x0 y0 x1 y1 x2 y2 x3 y3 = cc from hcc] at h
    exact h
  have k5 : ∀ W, Calls Try.prog 15 #[.agg #[.int .i64 x1, .int .i64 y1, .int .i64 x0, .int .i64 y0, .int .i64 0, .int .i64 0, .int .i64 0, .int .i64 0, .int .i64 2]] W fun e w' => e = .returned (.int .i64 cc) ∧ Below W.heap.size W w' := fun W => by
    have h := classN_any 2 (by omega) (by omega) x1 y1 x0 y0 0 0 0 0 W (revC2 hC)
    rw [show classP ((2 : Nat) : Int) x1 y1 x0 y0 0 0 0 0 = cc from (class_back2 x0 y0 x1 y1 x2 y2 x3 y3).trans hcc] at h
    exact h
  rw [hcc] at hrange hzero htwo
  rw [hv] at hzero
  rw [hb0] at hbd
  simp only at hzero hbd
  have K1 := Lib.hid k1
  have K2 := Lib.hid k2
  have K3 := Lib.hid k3
  have K4 := Lib.hid k4
  have K5 := Lib.hid k5
  have hvb : (-536870912 ≤ v1 ∧ v1 ≤ 536870912) ∧ (-536870912 ≤ v2 ∧ v2 ≤ 536870912) := by omega
  obtain ⟨⟨n1, n2⟩, ⟨n3, n4⟩⟩ := hvb
  have hcs := back_cases hrange hzero
  clear k1 k2 k3 k4 k5 hb0 hv hcc hbd hC hG hrange hzero
  have s1 := Blk.new w 26 #[.int .i64 x0, .int .i64 y0, .int .i64 x1, .int .i64 y1, .int .i64 x2, .int .i64 y2, .int .i64 x3, .int .i64 y3, .int .i64 2]
  rcases hcs with ⟨z1, z2, z3, z4, z5⟩ | ⟨z1, z2, z3, z4⟩ | ⟨z1, z2, z3, z4, z5⟩
  all_goals
    go_enter Try.func5, Try.ntmps5
    go_wp2_with fail
    refine (KG.out _).mono ?_
    rintro e w2 ⟨rfl, hb2⟩
    have hx2 : Below w.heap.size w w2 := Below.trans (by (repeat (first | exact Below.refl _ _ | assumption | refine Below.drew ?_ | refine Below.setCell ?_ (by simp; try omega) _ | refine Below.alloc ?_ (by simp; try omega) _))) (hb2.mono (by simp))
    have s2 := s1.grow hb2
    clear hb2
    go_wp2_with fail
    refine (shown_any _).mono ?_
    rintro e w3 ⟨rfl, hb3⟩
    have hx3 := hx2.trans (hb3.mono hx2.size)
    have s3 := s2.grow hb3
    clear hb3 hx2 s2
    have gs0 : w3.cell? ⟨w.heap.size, 0, none⟩ = some (.int .i64 x0) := s3.cell 0
    have gs1 : w3.cell? ⟨w.heap.size, 1, none⟩ = some (.int .i64 y0) := s3.cell 1
    have gs2 : w3.cell? ⟨w.heap.size, 2, none⟩ = some (.int .i64 x1) := s3.cell 2
    have gs3 : w3.cell? ⟨w.heap.size, 3, none⟩ = some (.int .i64 y1) := s3.cell 3
    have gs4 : w3.cell? ⟨w.heap.size, 4, none⟩ = some (.int .i64 x2) := s3.cell 4
    have gs5 : w3.cell? ⟨w.heap.size, 5, none⟩ = some (.int .i64 y2) := s3.cell 5
    have gs6 : w3.cell? ⟨w.heap.size, 6, none⟩ = some (.int .i64 x3) := s3.cell 6
    have gs7 : w3.cell? ⟨w.heap.size, 7, none⟩ = some (.int .i64 y3) := s3.cell 7
    have gs8 : w3.cell? ⟨w.heap.size, 8, none⟩ = some (.int .i64 2) := s3.cell 8
    go_wp2_with fail
    refine (K1.out _).mono ?_
    clear gs0 gs1 gs2 gs3 gs4 gs5 gs6 gs7 gs8
    rintro e w4 ⟨rfl, hb4⟩
    have hx4 := hx3.trans (hb4.mono hx3.size)
    have s4 := s3.grow hb4
    clear hb4 hx3 s3
    have bB := Blk.new w4 26 #[.int .i64 x1, .int .i64 y1, .int .i64 x0, .int .i64 y0, .int .i64 0, .int .i64 0, .int .i64 0, .int .i64 0, .int .i64 2]
    go_wp2_with fail
    refine (K2.out _).mono ?_
    rintro e w5 ⟨rfl, hb5⟩
    have hx4' := hx4.alloc hx4.size (.cells #[.int .i64 x1, .int .i64 y1, .int .i64 x0, .int .i64 y0, .int .i64 0, .int .i64 0, .int .i64 0, .int .i64 0, .int .i64 2] 26)
    have hx5 := hx4'.trans (hb5.mono hx4'.size)
    have s5 := (s4.alloc (.cells #[.int .i64 x1, .int .i64 y1, .int .i64 x0, .int .i64 y0, .int .i64 0, .int .i64 0, .int .i64 0, .int .i64 0, .int .i64 2] 26)).grow hb5
    have b5 := bB.grow hb5
    have hl5 := s5.lt
    have hlb5 := b5.lt
    clear hb5 hx4 hx4' s4 bB
    have gs0 : w5.cell? ⟨w.heap.size, 0, none⟩ = some (.int .i64 x0) := s5.cell 0
    have gs1 : w5.cell? ⟨w.heap.size, 1, none⟩ = some (.int .i64 y0) := s5.cell 1
    have gs2 : w5.cell? ⟨w.heap.size, 2, none⟩ = some (.int .i64 x1) := s5.cell 2
    have gs3 : w5.cell? ⟨w.heap.size, 3, none⟩ = some (.int .i64 y1) := s5.cell 3
    have gs4 : w5.cell? ⟨w.heap.size, 4, none⟩ = some (.int .i64 x2) := s5.cell 4
    have gs5 : w5.cell? ⟨w.heap.size, 5, none⟩ = some (.int .i64 y2) := s5.cell 5
    have gs6 : w5.cell? ⟨w.heap.size, 6, none⟩ = some (.int .i64 x3) := s5.cell 6
    have gs7 : w5.cell? ⟨w.heap.size, 7, none⟩ = some (.int .i64 y3) := s5.cell 7
    have gs8 : w5.cell? ⟨w.heap.size, 8, none⟩ = some (.int .i64 2) := s5.cell 8
    have bU := Blk.new w5 23 #[.int .i64 (-v1), .int .i64 (-v2)]
    go_wp2_with fail
    refine (K3.out _).mono ?_
    clear gs0 gs1 gs2 gs3 gs4 gs5 gs6 gs7 gs8
    rintro e w6 ⟨rfl, hb6⟩
    have hx5' := hx5.alloc hx5.size (.cells #[.int .i64 (-v1), .int .i64 (-v2)] 23)
    have hx6 := hx5'.trans (hb6.mono hx5'.size)
    have s6 := (s5.alloc (.cells #[.int .i64 (-v1), .int .i64 (-v2)] 23)).grow hb6
    have b6 := (b5.alloc (.cells #[.int .i64 (-v1), .int .i64 (-v2)] 23)).grow hb6
    have u6 := bU.grow hb6
    have hl6 := s6.lt
    clear hb6 hx5 hx5' s5 b5 bU
    have gs0 : w6.cell? ⟨w.heap.size, 0, none⟩ = some (.int .i64 x0) := s6.cell 0
    have gs1 : w6.cell? ⟨w.heap.size, 1, none⟩ = some (.int .i64 y0) := s6.cell 1
    have gs2 : w6.cell? ⟨w.heap.size, 2, none⟩ = some (.int .i64 x1) := s6.cell 2
    have gs3 : w6.cell? ⟨w.heap.size, 3, none⟩ = some (.int .i64 y1) := s6.cell 3
    have gs4 : w6.cell? ⟨w.heap.size, 4, none⟩ = some (.int .i64 x2) := s6.cell 4
    have gs5 : w6.cell? ⟨w.heap.size, 5, none⟩ = some (.int .i64 y2) := s6.cell 5
    have gs6 : w6.cell? ⟨w.heap.size, 6, none⟩ = some (.int .i64 x3) := s6.cell 6
    have gs7 : w6.cell? ⟨w.heap.size, 7, none⟩ = some (.int .i64 y3) := s6.cell 7
    have gs8 : w6.cell? ⟨w.heap.size, 8, none⟩ = some (.int .i64 2) := s6.cell 8
    have bV := Blk.new w6 23 #[.int .i64 v1, .int .i64 v2]
    go_wp2_with fail
    refine (K4.out _).mono ?_
    clear gs0 gs1 gs2 gs3 gs4 gs5 gs6 gs7 gs8
    rintro e w7 ⟨rfl, hb7⟩
    have hx6' := hx6.alloc hx6.size (.cells #[.int .i64 v1, .int .i64 v2] 23)
    have hx7 := hx6'.trans (hb7.mono hx6'.size)
    have s7 := (s6.alloc (.cells #[.int .i64 v1, .int .i64 v2] 23)).grow hb7
    have b7 := (b6.alloc (.cells #[.int .i64 v1, .int .i64 v2] 23)).grow hb7
    have u7 := (u6.alloc (.cells #[.int .i64 v1, .int .i64 v2] 23)).grow hb7
    have v7 := bV.grow hb7
    clear hb7 hx6 hx6' s6 b6 u6 bV
    have gb0 : w7.cell? ⟨w4.heap.size, 0, none⟩ = some (.int .i64 x1) := b7.cell 0
    have gb1 : w7.cell? ⟨w4.heap.size, 1, none⟩ = some (.int .i64 y1) := b7.cell 1
    have gb2 : w7.cell? ⟨w4.heap.size, 2, none⟩ = some (.int .i64 x0) := b7.cell 2
    have gb3 : w7.cell? ⟨w4.heap.size, 3, none⟩ = some (.int .i64 y0) := b7.cell 3
    have gb4 : w7.cell? ⟨w4.heap.size, 4, none⟩ = some (.int .i64 0) := b7.cell 4
    have gb5 : w7.cell? ⟨w4.heap.size, 5, none⟩ = some (.int .i64 0) := b7.cell 5
    have gb6 : w7.cell? ⟨w4.heap.size, 6, none⟩ = some (.int .i64 0) := b7.cell 6
    have gb7 : w7.cell? ⟨w4.heap.size, 7, none⟩ = some (.int .i64 0) := b7.cell 7
    have gb8 : w7.cell? ⟨w4.heap.size, 8, none⟩ = some (.int .i64 2) := b7.cell 8
    go_wp2_with fail
    refine (K5.out _).mono ?_
    clear gb0 gb1 gb2 gb3 gb4 gb5 gb6 gb7 gb8
    rintro e w8 ⟨rfl, hb8⟩
    have hx8 := hx7.trans (hb8.mono hx7.size)
    have s8 := s7.grow hb8
    have u8 := u7.grow hb8
    have v8 := v7.grow hb8
    clear hb8 hx7 s7 b7 u7 v7
    have gs8 : w8.cell? ⟨w.heap.size, 8, none⟩ = some (.int .i64 2) := s8.cell 8
    have gu0 : w8.cell? ⟨w5.heap.size, 0, none⟩ = some (.int .i64 (-v1)) := u8.cell 0
    have gu1 : w8.cell? ⟨w5.heap.size, 1, none⟩ = some (.int .i64 (-v2)) := u8.cell 1
    have gv0 : w8.cell? ⟨w6.heap.size, 0, none⟩ = some (.int .i64 v1) := v8.cell 0
    have gv1 : w8.cell? ⟨w6.heap.size, 1, none⟩ = some (.int .i64 v2) := v8.cell 1
    go_wp2_with fail
    go_ret
    exact ⟨rfl, hx8⟩

set_option maxRecDepth 100000 in
set_option maxHeartbeats 4000000 in
theorem back3_law (x0 y0 x1 y1 x2 y2 x3 y3 : Int) (w : World) (hG : GoodP 3 x0 y0 x1 y1 x2 y2 x3 y3) :
    Calls Try.prog 5 #[.agg #[.int .i64 x0, .int .i64 y0, .int .i64 x1, .int .i64 y1, .int .i64 x2, .int .i64 y2, .int .i64 x3, .int .i64 y3, .int .i64 3]] w fun e w' => e = .returned (.bool true) ∧ Below w.heap.size w w' := by
  have KG := Lib.hid (fun W => good_yes W hG)
  have hC := hG.2.1
  obtain ⟨cc, hcc⟩ : ∃ cc, classP 3 x0 y0 x1 y1 x2 y2 x3 y3 = cc := ⟨_, rfl⟩
  obtain ⟨v, hv⟩ : ∃ v, finishP 3 x0 y0 x1 y1 x2 y2 x3 y3 = v := ⟨_, rfl⟩
  obtain ⟨v1, v2⟩ := v
  have hrange := class_range 3 x0 y0 x1 y1 x2 y2 x3 y3
  have hzero := class_zero 3 x0 y0 x1 y1 x2 y2 x3 y3 (by omega)

  have hbd := begin_bd (n := 3) (revC3 hC)
  have hb0 : beginP 3 x2 y2 x1 y1 x0 y0 0 0 = (-v1, -v2) := by
    have e : (-(beginP 3 x2 y2 x1 y1 x0 y0 0 0).1, -(beginP 3 x2 y2 x1 y1 x0 y0 0 0).2) = (v1, v2) := hv
    simp only [Prod.mk.injEq] at e
    exact Prod.ext (by simp only; omega) (by simp only; omega)
  have k1 : ∀ W, Calls Try.prog 27 #[.agg #[.int .i64 x0, .int .i64 y0, .int .i64 x1, .int .i64 y1, .int .i64 x2, .int .i64 y2, .int .i64 x3, .int .i64 y3, .int .i64 3]] W fun e w' => e = .returned (.agg #[.int .i64 x2, .int .i64 y2, .int .i64 x1, .int .i64 y1, .int .i64 x0, .int .i64 y0, .int .i64 0, .int .i64 0, .int .i64 3]) ∧ Below W.heap.size W w' := fun W => back3_any x0 y0 x1 y1 x2 y2 x3 y3 W
  have k2 : ∀ W, Calls Try.prog 11 #[.agg #[.int .i64 x2, .int .i64 y2, .int .i64 x1, .int .i64 y1, .int .i64 x0, .int .i64 y0, .int .i64 0, .int .i64 0, .int .i64 3]] W fun e w' => e = .returned (.agg #[.int .i64 (-v1), .int .i64 (-v2)]) ∧ Below W.heap.size W w' := fun W => by
    have h := beginN_any 3 (by omega) (by omega) x2 y2 x1 y1 x0 y0 0 0 W (revC3 hC)
    rw [show beginP ((3 : Nat) : Int) x2 y2 x1 y1 x0 y0 0 0 = (-v1, -v2) from hb0] at h
    exact h
  have k3 : ∀ W, Calls Try.prog 13 #[.agg #[.int .i64 x0, .int .i64 y0, .int .i64 x1, .int .i64 y1, .int .i64 x2, .int .i64 y2, .int .i64 x3, .int .i64 y3, .int .i64 3]] W fun e w' => e = .returned (.agg #[.int .i64 v1, .int .i64 v2]) ∧ Below W.heap.size W w' := fun W => by
    have h := finishN_any 3 (by omega) (by omega) x0 y0 x1 y1 x2 y2 x3 y3 W hC
    rw [show finishP ((3 : Nat) : Int) x0 y0 x1 y1 x2 y2 x3 y3 = (v1, v2) from hv] at h
    exact h
  have k4 : ∀ W, Calls Try.prog 15 #[.agg #[.int .i64 x0, .int .i64 y0, .int .i64 x1, .int .i64 y1, .int .i64 x2, .int .i64 y2, .int .i64 x3, .int .i64 y3, .int .i64 3]] W fun e w' => e = .returned (.int .i64 cc) ∧ Below W.heap.size W w' := fun W => by
    have h := classN_any 3 (by omega) (by omega) x0 y0 x1 y1 x2 y2 x3 y3 W hC
    rw [show classP ((3 : Nat) : Int) x0 y0 x1 y1 x2 y2 x3 y3 = cc from hcc] at h
    exact h
  have k5 : ∀ W, Calls Try.prog 15 #[.agg #[.int .i64 x2, .int .i64 y2, .int .i64 x1, .int .i64 y1, .int .i64 x0, .int .i64 y0, .int .i64 0, .int .i64 0, .int .i64 3]] W fun e w' => e = .returned (.int .i64 cc) ∧ Below W.heap.size W w' := fun W => by
    have h := classN_any 3 (by omega) (by omega) x2 y2 x1 y1 x0 y0 0 0 W (revC3 hC)
    rw [show classP ((3 : Nat) : Int) x2 y2 x1 y1 x0 y0 0 0 = cc from (class_back3 x0 y0 x1 y1 x2 y2 x3 y3).trans hcc] at h
    exact h
  rw [hcc] at hrange hzero
  rw [hv] at hzero
  rw [hb0] at hbd
  simp only at hzero hbd
  have K1 := Lib.hid k1
  have K2 := Lib.hid k2
  have K3 := Lib.hid k3
  have K4 := Lib.hid k4
  have K5 := Lib.hid k5
  have hvb : (-536870912 ≤ v1 ∧ v1 ≤ 536870912) ∧ (-536870912 ≤ v2 ∧ v2 ≤ 536870912) := by omega
  obtain ⟨⟨n1, n2⟩, ⟨n3, n4⟩⟩ := hvb
  have hcs := back_cases hrange hzero
  clear k1 k2 k3 k4 k5 hb0 hv hcc hbd hC hG hrange hzero
  have s1 := Blk.new w 26 #[.int .i64 x0, .int .i64 y0, .int .i64 x1, .int .i64 y1, .int .i64 x2, .int .i64 y2, .int .i64 x3, .int .i64 y3, .int .i64 3]
  rcases hcs with ⟨z1, z2, z3, z4, z5⟩ | ⟨z1, z2, z3, z4⟩ | ⟨z1, z2, z3, z4, z5⟩
  all_goals
    go_enter Try.func5, Try.ntmps5
    go_wp2_with fail
    refine (KG.out _).mono ?_
    rintro e w2 ⟨rfl, hb2⟩
    have hx2 : Below w.heap.size w w2 := Below.trans (by (repeat (first | exact Below.refl _ _ | assumption | refine Below.drew ?_ | refine Below.setCell ?_ (by simp; try omega) _ | refine Below.alloc ?_ (by simp; try omega) _))) (hb2.mono (by simp))
    have s2 := s1.grow hb2
    clear hb2
    go_wp2_with fail
    refine (shown_any _).mono ?_
    rintro e w3 ⟨rfl, hb3⟩
    have hx3 := hx2.trans (hb3.mono hx2.size)
    have s3 := s2.grow hb3
    clear hb3 hx2 s2
    have gs0 : w3.cell? ⟨w.heap.size, 0, none⟩ = some (.int .i64 x0) := s3.cell 0
    have gs1 : w3.cell? ⟨w.heap.size, 1, none⟩ = some (.int .i64 y0) := s3.cell 1
    have gs2 : w3.cell? ⟨w.heap.size, 2, none⟩ = some (.int .i64 x1) := s3.cell 2
    have gs3 : w3.cell? ⟨w.heap.size, 3, none⟩ = some (.int .i64 y1) := s3.cell 3
    have gs4 : w3.cell? ⟨w.heap.size, 4, none⟩ = some (.int .i64 x2) := s3.cell 4
    have gs5 : w3.cell? ⟨w.heap.size, 5, none⟩ = some (.int .i64 y2) := s3.cell 5
    have gs6 : w3.cell? ⟨w.heap.size, 6, none⟩ = some (.int .i64 x3) := s3.cell 6
    have gs7 : w3.cell? ⟨w.heap.size, 7, none⟩ = some (.int .i64 y3) := s3.cell 7
    have gs8 : w3.cell? ⟨w.heap.size, 8, none⟩ = some (.int .i64 3) := s3.cell 8
    go_wp2_with fail
    refine (K1.out _).mono ?_
    clear gs0 gs1 gs2 gs3 gs4 gs5 gs6 gs7 gs8
    rintro e w4 ⟨rfl, hb4⟩
    have hx4 := hx3.trans (hb4.mono hx3.size)
    have s4 := s3.grow hb4
    clear hb4 hx3 s3
    have bB := Blk.new w4 26 #[.int .i64 x2, .int .i64 y2, .int .i64 x1, .int .i64 y1, .int .i64 x0, .int .i64 y0, .int .i64 0, .int .i64 0, .int .i64 3]
    go_wp2_with fail
    refine (K2.out _).mono ?_
    rintro e w5 ⟨rfl, hb5⟩
    have hx4' := hx4.alloc hx4.size (.cells #[.int .i64 x2, .int .i64 y2, .int .i64 x1, .int .i64 y1, .int .i64 x0, .int .i64 y0, .int .i64 0, .int .i64 0, .int .i64 3] 26)
    have hx5 := hx4'.trans (hb5.mono hx4'.size)
    have s5 := (s4.alloc (.cells #[.int .i64 x2, .int .i64 y2, .int .i64 x1, .int .i64 y1, .int .i64 x0, .int .i64 y0, .int .i64 0, .int .i64 0, .int .i64 3] 26)).grow hb5
    have b5 := bB.grow hb5
    have hl5 := s5.lt
    have hlb5 := b5.lt
    clear hb5 hx4 hx4' s4 bB
    have gs0 : w5.cell? ⟨w.heap.size, 0, none⟩ = some (.int .i64 x0) := s5.cell 0
    have gs1 : w5.cell? ⟨w.heap.size, 1, none⟩ = some (.int .i64 y0) := s5.cell 1
    have gs2 : w5.cell? ⟨w.heap.size, 2, none⟩ = some (.int .i64 x1) := s5.cell 2
    have gs3 : w5.cell? ⟨w.heap.size, 3, none⟩ = some (.int .i64 y1) := s5.cell 3
    have gs4 : w5.cell? ⟨w.heap.size, 4, none⟩ = some (.int .i64 x2) := s5.cell 4
    have gs5 : w5.cell? ⟨w.heap.size, 5, none⟩ = some (.int .i64 y2) := s5.cell 5
    have gs6 : w5.cell? ⟨w.heap.size, 6, none⟩ = some (.int .i64 x3) := s5.cell 6
    have gs7 : w5.cell? ⟨w.heap.size, 7, none⟩ = some (.int .i64 y3) := s5.cell 7
    have gs8 : w5.cell? ⟨w.heap.size, 8, none⟩ = some (.int .i64 3) := s5.cell 8
    have bU := Blk.new w5 23 #[.int .i64 (-v1), .int .i64 (-v2)]
    go_wp2_with fail
    refine (K3.out _).mono ?_
    clear gs0 gs1 gs2 gs3 gs4 gs5 gs6 gs7 gs8
    rintro e w6 ⟨rfl, hb6⟩
    have hx5' := hx5.alloc hx5.size (.cells #[.int .i64 (-v1), .int .i64 (-v2)] 23)
    have hx6 := hx5'.trans (hb6.mono hx5'.size)
    have s6 := (s5.alloc (.cells #[.int .i64 (-v1), .int .i64 (-v2)] 23)).grow hb6
    have b6 := (b5.alloc (.cells #[.int .i64 (-v1), .int .i64 (-v2)] 23)).grow hb6
    have u6 := bU.grow hb6
    have hl6 := s6.lt
    clear hb6 hx5 hx5' s5 b5 bU
    have gs0 : w6.cell? ⟨w.heap.size, 0, none⟩ = some (.int .i64 x0) := s6.cell 0
    have gs1 : w6.cell? ⟨w.heap.size, 1, none⟩ = some (.int .i64 y0) := s6.cell 1
    have gs2 : w6.cell? ⟨w.heap.size, 2, none⟩ = some (.int .i64 x1) := s6.cell 2
    have gs3 : w6.cell? ⟨w.heap.size, 3, none⟩ = some (.int .i64 y1) := s6.cell 3
    have gs4 : w6.cell? ⟨w.heap.size, 4, none⟩ = some (.int .i64 x2) := s6.cell 4
    have gs5 : w6.cell? ⟨w.heap.size, 5, none⟩ = some (.int .i64 y2) := s6.cell 5
    have gs6 : w6.cell? ⟨w.heap.size, 6, none⟩ = some (.int .i64 x3) := s6.cell 6
    have gs7 : w6.cell? ⟨w.heap.size, 7, none⟩ = some (.int .i64 y3) := s6.cell 7
    have gs8 : w6.cell? ⟨w.heap.size, 8, none⟩ = some (.int .i64 3) := s6.cell 8
    have bV := Blk.new w6 23 #[.int .i64 v1, .int .i64 v2]
    go_wp2_with fail
    refine (K4.out _).mono ?_
    clear gs0 gs1 gs2 gs3 gs4 gs5 gs6 gs7 gs8
    rintro e w7 ⟨rfl, hb7⟩
    have hx6' := hx6.alloc hx6.size (.cells #[.int .i64 v1, .int .i64 v2] 23)
    have hx7 := hx6'.trans (hb7.mono hx6'.size)
    have s7 := (s6.alloc (.cells #[.int .i64 v1, .int .i64 v2] 23)).grow hb7
    have b7 := (b6.alloc (.cells #[.int .i64 v1, .int .i64 v2] 23)).grow hb7
    have u7 := (u6.alloc (.cells #[.int .i64 v1, .int .i64 v2] 23)).grow hb7
    have v7 := bV.grow hb7
    clear hb7 hx6 hx6' s6 b6 u6 bV
    have gb0 : w7.cell? ⟨w4.heap.size, 0, none⟩ = some (.int .i64 x2) := b7.cell 0
    have gb1 : w7.cell? ⟨w4.heap.size, 1, none⟩ = some (.int .i64 y2) := b7.cell 1
    have gb2 : w7.cell? ⟨w4.heap.size, 2, none⟩ = some (.int .i64 x1) := b7.cell 2
    have gb3 : w7.cell? ⟨w4.heap.size, 3, none⟩ = some (.int .i64 y1) := b7.cell 3
    have gb4 : w7.cell? ⟨w4.heap.size, 4, none⟩ = some (.int .i64 x0) := b7.cell 4
    have gb5 : w7.cell? ⟨w4.heap.size, 5, none⟩ = some (.int .i64 y0) := b7.cell 5
    have gb6 : w7.cell? ⟨w4.heap.size, 6, none⟩ = some (.int .i64 0) := b7.cell 6
    have gb7 : w7.cell? ⟨w4.heap.size, 7, none⟩ = some (.int .i64 0) := b7.cell 7
    have gb8 : w7.cell? ⟨w4.heap.size, 8, none⟩ = some (.int .i64 3) := b7.cell 8
    go_wp2_with fail
    refine (K5.out _).mono ?_
    clear gb0 gb1 gb2 gb3 gb4 gb5 gb6 gb7 gb8
    rintro e w8 ⟨rfl, hb8⟩
    have hx8 := hx7.trans (hb8.mono hx7.size)
    have s8 := s7.grow hb8
    have u8 := u7.grow hb8
    have v8 := v7.grow hb8
    clear hb8 hx7 s7 b7 u7 v7
    have gs8 : w8.cell? ⟨w.heap.size, 8, none⟩ = some (.int .i64 3) := s8.cell 8
    have gu0 : w8.cell? ⟨w5.heap.size, 0, none⟩ = some (.int .i64 (-v1)) := u8.cell 0
    have gu1 : w8.cell? ⟨w5.heap.size, 1, none⟩ = some (.int .i64 (-v2)) := u8.cell 1
    have gv0 : w8.cell? ⟨w6.heap.size, 0, none⟩ = some (.int .i64 v1) := v8.cell 0
    have gv1 : w8.cell? ⟨w6.heap.size, 1, none⟩ = some (.int .i64 v2) := v8.cell 1
    go_wp2_with fail
    go_ret
    exact ⟨rfl, hx8⟩

set_option maxRecDepth 100000 in
set_option maxHeartbeats 4000000 in
theorem back4_law (x0 y0 x1 y1 x2 y2 x3 y3 : Int) (w : World) (hG : GoodP 4 x0 y0 x1 y1 x2 y2 x3 y3) :
    Calls Try.prog 5 #[.agg #[.int .i64 x0, .int .i64 y0, .int .i64 x1, .int .i64 y1, .int .i64 x2, .int .i64 y2, .int .i64 x3, .int .i64 y3, .int .i64 4]] w fun e w' => e = .returned (.bool true) ∧ Below w.heap.size w w' := by
  have KG := Lib.hid (fun W => good_yes W hG)
  have hC := hG.2.1
  obtain ⟨cc, hcc⟩ : ∃ cc, classP 4 x0 y0 x1 y1 x2 y2 x3 y3 = cc := ⟨_, rfl⟩
  obtain ⟨v, hv⟩ : ∃ v, finishP 4 x0 y0 x1 y1 x2 y2 x3 y3 = v := ⟨_, rfl⟩
  obtain ⟨v1, v2⟩ := v
  have hrange := class_range 4 x0 y0 x1 y1 x2 y2 x3 y3
  have hzero := class_zero 4 x0 y0 x1 y1 x2 y2 x3 y3 (by omega)

  have hbd := begin_bd (n := 4) (revC4 hC)
  have hb0 : beginP 4 x3 y3 x2 y2 x1 y1 x0 y0 = (-v1, -v2) := by
    have e : (-(beginP 4 x3 y3 x2 y2 x1 y1 x0 y0).1, -(beginP 4 x3 y3 x2 y2 x1 y1 x0 y0).2) = (v1, v2) := hv
    simp only [Prod.mk.injEq] at e
    exact Prod.ext (by simp only; omega) (by simp only; omega)
  have k1 : ∀ W, Calls Try.prog 27 #[.agg #[.int .i64 x0, .int .i64 y0, .int .i64 x1, .int .i64 y1, .int .i64 x2, .int .i64 y2, .int .i64 x3, .int .i64 y3, .int .i64 4]] W fun e w' => e = .returned (.agg #[.int .i64 x3, .int .i64 y3, .int .i64 x2, .int .i64 y2, .int .i64 x1, .int .i64 y1, .int .i64 x0, .int .i64 y0, .int .i64 4]) ∧ Below W.heap.size W w' := fun W => back4_any x0 y0 x1 y1 x2 y2 x3 y3 W
  have k2 : ∀ W, Calls Try.prog 11 #[.agg #[.int .i64 x3, .int .i64 y3, .int .i64 x2, .int .i64 y2, .int .i64 x1, .int .i64 y1, .int .i64 x0, .int .i64 y0, .int .i64 4]] W fun e w' => e = .returned (.agg #[.int .i64 (-v1), .int .i64 (-v2)]) ∧ Below W.heap.size W w' := fun W => by
    have h := beginN_any 4 (by omega) (by omega) x3 y3 x2 y2 x1 y1 x0 y0 W (revC4 hC)
    rw [show beginP ((4 : Nat) : Int) x3 y3 x2 y2 x1 y1 x0 y0 = (-v1, -v2) from hb0] at h
    exact h
  have k3 : ∀ W, Calls Try.prog 13 #[.agg #[.int .i64 x0, .int .i64 y0, .int .i64 x1, .int .i64 y1, .int .i64 x2, .int .i64 y2, .int .i64 x3, .int .i64 y3, .int .i64 4]] W fun e w' => e = .returned (.agg #[.int .i64 v1, .int .i64 v2]) ∧ Below W.heap.size W w' := fun W => by
    have h := finishN_any 4 (by omega) (by omega) x0 y0 x1 y1 x2 y2 x3 y3 W hC
    rw [show finishP ((4 : Nat) : Int) x0 y0 x1 y1 x2 y2 x3 y3 = (v1, v2) from hv] at h
    exact h
  have k4 : ∀ W, Calls Try.prog 15 #[.agg #[.int .i64 x0, .int .i64 y0, .int .i64 x1, .int .i64 y1, .int .i64 x2, .int .i64 y2, .int .i64 x3, .int .i64 y3, .int .i64 4]] W fun e w' => e = .returned (.int .i64 cc) ∧ Below W.heap.size W w' := fun W => by
    have h := classN_any 4 (by omega) (by omega) x0 y0 x1 y1 x2 y2 x3 y3 W hC
    rw [show classP ((4 : Nat) : Int) x0 y0 x1 y1 x2 y2 x3 y3 = cc from hcc] at h
    exact h
  have k5 : ∀ W, Calls Try.prog 15 #[.agg #[.int .i64 x3, .int .i64 y3, .int .i64 x2, .int .i64 y2, .int .i64 x1, .int .i64 y1, .int .i64 x0, .int .i64 y0, .int .i64 4]] W fun e w' => e = .returned (.int .i64 cc) ∧ Below W.heap.size W w' := fun W => by
    have h := classN_any 4 (by omega) (by omega) x3 y3 x2 y2 x1 y1 x0 y0 W (revC4 hC)
    rw [show classP ((4 : Nat) : Int) x3 y3 x2 y2 x1 y1 x0 y0 = cc from (class_back4 x0 y0 x1 y1 x2 y2 x3 y3).trans hcc] at h
    exact h
  rw [hcc] at hrange hzero
  rw [hv] at hzero
  rw [hb0] at hbd
  simp only at hzero hbd
  have K1 := Lib.hid k1
  have K2 := Lib.hid k2
  have K3 := Lib.hid k3
  have K4 := Lib.hid k4
  have K5 := Lib.hid k5
  have hvb : (-536870912 ≤ v1 ∧ v1 ≤ 536870912) ∧ (-536870912 ≤ v2 ∧ v2 ≤ 536870912) := by omega
  obtain ⟨⟨n1, n2⟩, ⟨n3, n4⟩⟩ := hvb
  have hcs := back_cases hrange hzero
  clear k1 k2 k3 k4 k5 hb0 hv hcc hbd hC hG hrange hzero
  have s1 := Blk.new w 26 #[.int .i64 x0, .int .i64 y0, .int .i64 x1, .int .i64 y1, .int .i64 x2, .int .i64 y2, .int .i64 x3, .int .i64 y3, .int .i64 4]
  rcases hcs with ⟨z1, z2, z3, z4, z5⟩ | ⟨z1, z2, z3, z4⟩ | ⟨z1, z2, z3, z4, z5⟩
  all_goals
    go_enter Try.func5, Try.ntmps5
    go_wp2_with fail
    refine (KG.out _).mono ?_
    rintro e w2 ⟨rfl, hb2⟩
    have hx2 : Below w.heap.size w w2 := Below.trans (by (repeat (first | exact Below.refl _ _ | assumption | refine Below.drew ?_ | refine Below.setCell ?_ (by simp; try omega) _ | refine Below.alloc ?_ (by simp; try omega) _))) (hb2.mono (by simp))
    have s2 := s1.grow hb2
    clear hb2
    go_wp2_with fail
    refine (shown_any _).mono ?_
    rintro e w3 ⟨rfl, hb3⟩
    have hx3 := hx2.trans (hb3.mono hx2.size)
    have s3 := s2.grow hb3
    clear hb3 hx2 s2
    have gs0 : w3.cell? ⟨w.heap.size, 0, none⟩ = some (.int .i64 x0) := s3.cell 0
    have gs1 : w3.cell? ⟨w.heap.size, 1, none⟩ = some (.int .i64 y0) := s3.cell 1
    have gs2 : w3.cell? ⟨w.heap.size, 2, none⟩ = some (.int .i64 x1) := s3.cell 2
    have gs3 : w3.cell? ⟨w.heap.size, 3, none⟩ = some (.int .i64 y1) := s3.cell 3
    have gs4 : w3.cell? ⟨w.heap.size, 4, none⟩ = some (.int .i64 x2) := s3.cell 4
    have gs5 : w3.cell? ⟨w.heap.size, 5, none⟩ = some (.int .i64 y2) := s3.cell 5
    have gs6 : w3.cell? ⟨w.heap.size, 6, none⟩ = some (.int .i64 x3) := s3.cell 6
    have gs7 : w3.cell? ⟨w.heap.size, 7, none⟩ = some (.int .i64 y3) := s3.cell 7
    have gs8 : w3.cell? ⟨w.heap.size, 8, none⟩ = some (.int .i64 4) := s3.cell 8
    go_wp2_with fail
    refine (K1.out _).mono ?_
    clear gs0 gs1 gs2 gs3 gs4 gs5 gs6 gs7 gs8
    rintro e w4 ⟨rfl, hb4⟩
    have hx4 := hx3.trans (hb4.mono hx3.size)
    have s4 := s3.grow hb4
    clear hb4 hx3 s3
    have bB := Blk.new w4 26 #[.int .i64 x3, .int .i64 y3, .int .i64 x2, .int .i64 y2, .int .i64 x1, .int .i64 y1, .int .i64 x0, .int .i64 y0, .int .i64 4]
    go_wp2_with fail
    refine (K2.out _).mono ?_
    rintro e w5 ⟨rfl, hb5⟩
    have hx4' := hx4.alloc hx4.size (.cells #[.int .i64 x3, .int .i64 y3, .int .i64 x2, .int .i64 y2, .int .i64 x1, .int .i64 y1, .int .i64 x0, .int .i64 y0, .int .i64 4] 26)
    have hx5 := hx4'.trans (hb5.mono hx4'.size)
    have s5 := (s4.alloc (.cells #[.int .i64 x3, .int .i64 y3, .int .i64 x2, .int .i64 y2, .int .i64 x1, .int .i64 y1, .int .i64 x0, .int .i64 y0, .int .i64 4] 26)).grow hb5
    have b5 := bB.grow hb5
    have hl5 := s5.lt
    have hlb5 := b5.lt
    clear hb5 hx4 hx4' s4 bB
    have gs0 : w5.cell? ⟨w.heap.size, 0, none⟩ = some (.int .i64 x0) := s5.cell 0
    have gs1 : w5.cell? ⟨w.heap.size, 1, none⟩ = some (.int .i64 y0) := s5.cell 1
    have gs2 : w5.cell? ⟨w.heap.size, 2, none⟩ = some (.int .i64 x1) := s5.cell 2
    have gs3 : w5.cell? ⟨w.heap.size, 3, none⟩ = some (.int .i64 y1) := s5.cell 3
    have gs4 : w5.cell? ⟨w.heap.size, 4, none⟩ = some (.int .i64 x2) := s5.cell 4
    have gs5 : w5.cell? ⟨w.heap.size, 5, none⟩ = some (.int .i64 y2) := s5.cell 5
    have gs6 : w5.cell? ⟨w.heap.size, 6, none⟩ = some (.int .i64 x3) := s5.cell 6
    have gs7 : w5.cell? ⟨w.heap.size, 7, none⟩ = some (.int .i64 y3) := s5.cell 7
    have gs8 : w5.cell? ⟨w.heap.size, 8, none⟩ = some (.int .i64 4) := s5.cell 8
    have bU := Blk.new w5 23 #[.int .i64 (-v1), .int .i64 (-v2)]
    go_wp2_with fail
    refine (K3.out _).mono ?_
    clear gs0 gs1 gs2 gs3 gs4 gs5 gs6 gs7 gs8
    rintro e w6 ⟨rfl, hb6⟩
    have hx5' := hx5.alloc hx5.size (.cells #[.int .i64 (-v1), .int .i64 (-v2)] 23)
    have hx6 := hx5'.trans (hb6.mono hx5'.size)
    have s6 := (s5.alloc (.cells #[.int .i64 (-v1), .int .i64 (-v2)] 23)).grow hb6
    have b6 := (b5.alloc (.cells #[.int .i64 (-v1), .int .i64 (-v2)] 23)).grow hb6
    have u6 := bU.grow hb6
    have hl6 := s6.lt
    clear hb6 hx5 hx5' s5 b5 bU
    have gs0 : w6.cell? ⟨w.heap.size, 0, none⟩ = some (.int .i64 x0) := s6.cell 0
    have gs1 : w6.cell? ⟨w.heap.size, 1, none⟩ = some (.int .i64 y0) := s6.cell 1
    have gs2 : w6.cell? ⟨w.heap.size, 2, none⟩ = some (.int .i64 x1) := s6.cell 2
    have gs3 : w6.cell? ⟨w.heap.size, 3, none⟩ = some (.int .i64 y1) := s6.cell 3
    have gs4 : w6.cell? ⟨w.heap.size, 4, none⟩ = some (.int .i64 x2) := s6.cell 4
    have gs5 : w6.cell? ⟨w.heap.size, 5, none⟩ = some (.int .i64 y2) := s6.cell 5
    have gs6 : w6.cell? ⟨w.heap.size, 6, none⟩ = some (.int .i64 x3) := s6.cell 6
    have gs7 : w6.cell? ⟨w.heap.size, 7, none⟩ = some (.int .i64 y3) := s6.cell 7
    have gs8 : w6.cell? ⟨w.heap.size, 8, none⟩ = some (.int .i64 4) := s6.cell 8
    have bV := Blk.new w6 23 #[.int .i64 v1, .int .i64 v2]
    go_wp2_with fail
    refine (K4.out _).mono ?_
    clear gs0 gs1 gs2 gs3 gs4 gs5 gs6 gs7 gs8
    rintro e w7 ⟨rfl, hb7⟩
    have hx6' := hx6.alloc hx6.size (.cells #[.int .i64 v1, .int .i64 v2] 23)
    have hx7 := hx6'.trans (hb7.mono hx6'.size)
    have s7 := (s6.alloc (.cells #[.int .i64 v1, .int .i64 v2] 23)).grow hb7
    have b7 := (b6.alloc (.cells #[.int .i64 v1, .int .i64 v2] 23)).grow hb7
    have u7 := (u6.alloc (.cells #[.int .i64 v1, .int .i64 v2] 23)).grow hb7
    have v7 := bV.grow hb7
    clear hb7 hx6 hx6' s6 b6 u6 bV
    have gb0 : w7.cell? ⟨w4.heap.size, 0, none⟩ = some (.int .i64 x3) := b7.cell 0
    have gb1 : w7.cell? ⟨w4.heap.size, 1, none⟩ = some (.int .i64 y3) := b7.cell 1
    have gb2 : w7.cell? ⟨w4.heap.size, 2, none⟩ = some (.int .i64 x2) := b7.cell 2
    have gb3 : w7.cell? ⟨w4.heap.size, 3, none⟩ = some (.int .i64 y2) := b7.cell 3
    have gb4 : w7.cell? ⟨w4.heap.size, 4, none⟩ = some (.int .i64 x1) := b7.cell 4
    have gb5 : w7.cell? ⟨w4.heap.size, 5, none⟩ = some (.int .i64 y1) := b7.cell 5
    have gb6 : w7.cell? ⟨w4.heap.size, 6, none⟩ = some (.int .i64 x0) := b7.cell 6
    have gb7 : w7.cell? ⟨w4.heap.size, 7, none⟩ = some (.int .i64 y0) := b7.cell 7
    have gb8 : w7.cell? ⟨w4.heap.size, 8, none⟩ = some (.int .i64 4) := b7.cell 8
    go_wp2_with fail
    refine (K5.out _).mono ?_
    clear gb0 gb1 gb2 gb3 gb4 gb5 gb6 gb7 gb8
    rintro e w8 ⟨rfl, hb8⟩
    have hx8 := hx7.trans (hb8.mono hx7.size)
    have s8 := s7.grow hb8
    have u8 := u7.grow hb8
    have v8 := v7.grow hb8
    clear hb8 hx7 s7 b7 u7 v7
    have gs8 : w8.cell? ⟨w.heap.size, 8, none⟩ = some (.int .i64 4) := s8.cell 8
    have gu0 : w8.cell? ⟨w5.heap.size, 0, none⟩ = some (.int .i64 (-v1)) := u8.cell 0
    have gu1 : w8.cell? ⟨w5.heap.size, 1, none⟩ = some (.int .i64 (-v2)) := u8.cell 1
    have gv0 : w8.cell? ⟨w6.heap.size, 0, none⟩ = some (.int .i64 v1) := v8.cell 0
    have gv1 : w8.cell? ⟨w6.heap.size, 1, none⟩ = some (.int .i64 v2) := v8.cell 1
    go_wp2_with fail
    go_ret
    exact ⟨rfl, hx8⟩

theorem back_law (n x0 y0 x1 y1 x2 y2 x3 y3 : Int) (w : World) :
    Calls Try.prog 5 #[.agg #[.int .i64 x0, .int .i64 y0, .int .i64 x1, .int .i64 y1, .int .i64 x2, .int .i64 y2, .int .i64 x3, .int .i64 y3, .int .i64 n]] w fun e w' => e = .returned (.bool true) ∧ Below w.heap.size w w' := by
  by_cases hG : GoodP n x0 y0 x1 y1 x2 y2 x3 y3
  · rcases (by have := hG.1; omega : n = 2 ∨ n = 3 ∨ n = 4) with rfl | rfl | rfl
    · exact back2_law x0 y0 x1 y1 x2 y2 x3 y3 w hG
    · exact back3_law x0 y0 x1 y1 x2 y2 x3 y3 w hG
    · exact back4_law x0 y0 x1 y1 x2 y2 x3 y3 w hG
  · have KG := Lib.hid (fun W => good_no W hG)
    clear hG
    go_enter Try.func5, Try.ntmps5
    go_wp2_with (first | (go_at_call 9; refine (calls_from (by first | assumption | exact Below.refl _ _) (KG.out _)).mono ?_; rintro e w2 ⟨rfl, hb2⟩; have hc2 := (bcell hb2).1; have hf2 := (bcell hb2).2) | (go_at_call 10; refine (calls_from (by first | assumption | exact Below.refl _ _) (shown_any _)).mono ?_; rintro e w2 ⟨rfl, hb2⟩; have hc2 := (bcell hb2).1; have hf2 := (bcell hb2).2))
    go_ret
    exact ⟨rfl, by (first | ((repeat (first | exact Below.refl _ _ | assumption | refine Below.drew ?_ | refine Below.setCell ?_ (by simp; try omega) _ | refine Below.alloc ?_ (by simp; try omega) _)); done) | exact Below.trans (by (repeat (first | exact Below.refl _ _ | assumption | refine Below.drew ?_ | refine Below.setCell ?_ (by simp; try omega) _ | refine Below.alloc ?_ (by simp; try omega) _))) (hb2.mono (by simp; try omega)))⟩

namespace tback
open Go.ChangeShapes Go.WideShapes Go.ChangeAt

theorem contract {H : Type} (enc : TypeId × Value → H) (W : World) (base : Nat) (args : Array Value) (ds : List (DataW H)) (ps : List MemPlace)
    (hval : ∀ (j : Nat) t v, Try.f5.params[j]? = some t → args[j]? = some v → Value.okWide Try.checked.prog W .any base t v)
    (hA : DataW.TrodAll enc Try.checked.prog W 0 (fun _ => true) true Try.f5.params.toList args.toList ds ps) (hlt : ∀ x ∈ ps, x.block < W.heap.size) :
    Calls Try.checked.prog 5 args W fun e W' => e = .returned (.bool true) ∧ Below W.heap.size W W' := by
  rw [Try.params5] at hA hval
  obtain ⟨v0, vs0, d0, ds0, p0, q0, ea, rfl, rfl, h0, hA⟩ := trodAll_cons hA
  obtain ⟨rfl, rfl, rfl⟩ := trodAll_nil hA
  obtain rfl : args = #[v0] := by cases args; simp_all
  have _ := hlt
  obtain ⟨x0, y0, x1, y1, x2, y2, x3, y3, n, rfl, _⟩ := open_seg (hval 0 _ _ rfl rfl) h0
  exact back_law n x0 y0 x1 y1 x2 y2 x3 y3 W

set_option maxRecDepth 100000 in
theorem lifted (os : Os) (started : os.Started) (H : Type) (enc : TypeId × Value → H) :
    ReturnsInHanded {} Try.checked os 5 .any (Rows.tangentBackSpec.pre6 enc Try.prog Try.f5 [] false) (Rows.tangentBackSpec.post enc Try.prog Try.f5 false true false false) :=
  law_lift (bT := 4) started (by kernel_rfl) Try.func5 rfl (by kernel_rfl) (by kernel_rfl) (by kernel_rfl) (fun ds h => by match ds, h with | [_], _ => rfl)
    (ChangeSpec.witness6 (enc := enc) (C := Try.checked) false ⟨#[], #[.agg #[.int .i64 0, .int .i64 0, .int .i64 0, .int .i64 0, .int .i64 0, .int .i64 0, .int .i64 0, .int .i64 0, .int .i64 0]], []⟩ 8 (by kernel_rfl) (by kernel_rfl) (by kernel_rfl) (by kernel_rfl))
    (fun W base args ds ps hval hA hlt => contract enc W base args ds ps hval hA hlt)

theorem holds : Rows.TangentBackSaid :=
  OpenClaim.holds_of_wide 5 Try.f5 rfl rfl rfl rfl rfl rfl rfl ⟨rfl, rfl, rfl, rfl, rfl⟩ rfl rfl rfl rfl rfl (by kernel_rfl) Try.func5 (by kernel_rfl)
    (of_decide_eq_true (by kernel_rfl)) (by unfold Func.isWrapper; first | (rw [if_pos (by decide +kernel)]; kernel_rfl) | (rw [if_neg (by decide +kernel)]; exact ⟨rfl, rfl⟩))
    (fun os started H enc _ => lifted os started H enc)
end tback
end Go.Proofs.Ytpfeegmifcodfaa
