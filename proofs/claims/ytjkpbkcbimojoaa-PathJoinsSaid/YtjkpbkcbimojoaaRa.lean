/- Contracts of the reference's Dot, End and Same. -/
import Derived.Test.YtjkpbkcbimojoaaQd
import Derived.Test.YtjkpbkcbimojoaaRet
namespace Go.Proofs.Ytjkpbkcbimojoaa
open Go.RowKit

theorem dotG_eq (s : SegS) : dotG s = decide (∀ j, j < endN s.n → ptS s j = s.p0) := by
  have e : ∀ q : Int × Int, (decide (q.1 = s.p0.1) && decide (q.2 = s.p0.2)) = decide (q = s.p0) := by
    intro q
    rw [← Bool.decide_and]
    exact decide_eq_decide.2 (Prod.ext_iff).symm
  rw [Bool.eq_iff_iff, decide_eq_true_iff]
  unfold dotG ptsG
  simp only [e, Bool.not_eq_true', List.any_eq_false, decide_eq_true_eq]
  rcases endN_cases s.n with h | h | h <;> rw [h]
  · constructor
    · intro hq j hj
      rcases (by omega : j = 0 ∨ j = 1) with rfl | rfl <;> simp_all [ptS]
    · intro hq
      have h0 := hq 0 (by omega)
      have h1 := hq 1 (by omega)
      simp_all [ptS]
  · constructor
    · intro hq j hj
      rcases (by omega : j = 0 ∨ j = 1 ∨ j = 2) with rfl | rfl | rfl <;> simp_all [ptS]
    · intro hq
      have h0 := hq 0 (by omega)
      have h1 := hq 1 (by omega)
      have h2 := hq 2 (by omega)
      simp_all [ptS]
  · constructor
    · intro hq j hj
      rcases (by omega : j = 0 ∨ j = 1 ∨ j = 2 ∨ j = 3) with rfl | rfl | rfl | rfl <;> simp_all [ptS]
    · intro hq
      have h0 := hq 0 (by omega)
      have h1 := hq 1 (by omega)
      have h2 := hq 2 (by omega)
      have h3 := hq 3 (by omega)
      simp_all [ptS]
theorem dotG_no {s : SegS} {i : Nat} (h : i < endN s.n) (hq : ¬ ptS s i = s.p0) : dotG s = false := by
  rw [dotG_eq]
  exact decide_eq_false fun h2 => hq (h2 i h)
theorem dotG_yes {s : SegS} (h : ∀ j, j < endN s.n → ptS s j = s.p0) : dotG s = true := by
  rw [dotG_eq]
  exact decide_eq_true h
theorem cells_at {w : World} {g : Nat} {t : TypeId} {s : SegS} (h : Blk w g t (segA s)) (j : Nat) (hj : j < 4) : w.cell? ⟨g, j * 2, none⟩ = some (.int .i64 (ptS s j).1) ∧ w.cell? ⟨g, j * 2 + 1, none⟩ = some (.int .i64 (ptS s j).2) := by
  rcases (by omega : j = 0 ∨ j = 1 ∨ j = 2 ∨ j = 3) with rfl | rfl | rfl | rfl
  · exact ⟨h.cell 0, h.cell 1⟩
  · exact ⟨h.cell 2, h.cell 3⟩
  · exact ⟨h.cell 4, h.cell 5⟩
  · exact ⟨h.cell 6, h.cell 7⟩

set_option maxRecDepth 100000 in
set_option maxHeartbeats 4000000 in
theorem rdotg_any (s : SegS) (w : World) : Calls Try.prog 26 #[.agg (segA s)] w fun e w' => e = .returned (.bool (dotG s)) ∧ Below w.heap.size w w' := by
  have HB := Lib.hid (Blk.new w 59 (segA s))
  rcases (by omega : s.n < 2 ∨ s.n = 2 ∨ s.n = 3 ∨ s.n = 4 ∨ (4 < s.n ∧ ¬ s.n < 2 ∧ ¬ s.n < 4)) with hc | hc | hc | hc | ⟨hc, hc2, hc4⟩
  · skip
    have HE : Hid (endN s.n = 2) := Lib.hid (by unfold endN; rw [if_pos (by omega)])
    have hN := Lib.hid (fun i (h : i < 2) hq => dotG_no (s := s) (i := i) (by rw [HE.out]; exact h) hq)
    have hY := Lib.hid (fun (h : ∀ j, j < 2 → ptS s j = s.p0) => dotG_yes (s := s) (by rw [HE.out]; exact h))
    go_enter Try.func26, Try.ntmps26
    go_wp2_with fail
    go_loopw [3] (fun iv wr => ∃ i : Nat, i ≤ 2 ∧ iv = .int .i64 i ∧ (∀ j, j < i → ptS s j = s.p0) ∧ Below (w.heap.size + 1) (w.alloc (.cells (segA s) 59)) wr) (fun iv _ => 4 - (intOf iv).toNat)
    case atStart => exact ⟨0, Nat.zero_le _, rfl, fun j hj => absurd hj (Nat.not_lt_zero j), Below.refl _ _⟩
    case round =>
      obtain ⟨i, hi, rfl, hall, hb⟩ := hrel
      have hB2 := HB.out.below hb (by omega)
      have e8 : wr.cell? ⟨w.heap.size, 8, none⟩ = some (.int .i64 s.n) := hB2.cell 8
      skip
      have l8 := hB2.lt
      have hx : Below w.heap.size w wr := Below.trans (by (repeat (first | exact Below.refl _ _ | assumption | refine Below.drew ?_ | refine Below.setCell ?_ (by simp; try omega) _ | refine Below.alloc ?_ (by simp; try omega) _))) (hb.mono (by omega))
      have HA := Lib.hid hall
      clear hall
      by_cases hlt : i < 2
      · obtain ⟨p1, p2⟩ := cells_at hB2 i (by omega)
        obtain ⟨q1, q2⟩ := cells_at hB2 0 (by omega)
        have HP0 : Hid (s.p0 = ptS s 0) := Lib.hid rfl
        have hlt' : (i : Int) < 2 := by omega
        have hi4 : (i : Int) < 4 := by omega
        simp only [Nat.zero_mul, Nat.zero_add] at q1 q2
        have hcs : (ptS s i = ptS s 0) ∨ (((ptS s i).1 == (ptS s 0).1) = false ∧ ¬ ptS s i = ptS s 0) ∨ (((ptS s i).1 == (ptS s 0).1) = true ∧ (ptS s i).1 = (ptS s 0).1 ∧ ((ptS s i).2 == (ptS s 0).2) = false ∧ ¬ ptS s i = ptS s 0) := by
          generalize ptS s i = u
          generalize ptS s 0 = v
          obtain ⟨u1, u2⟩ := u
          obtain ⟨v1, v2⟩ := v
          by_cases h1 : u1 = v1 <;> by_cases h2 : u2 = v2 <;> simp [h1, h2]
        rcases hcs with hc | ⟨h1, hc⟩ | ⟨-, h1, h2, hc⟩
        · rw [hc] at p1 p2
          have HA2 : Hid (∀ j, j < i + 1 → ptS s j = s.p0) := Lib.hid (fun j hj => by
            rcases Nat.lt_or_ge j i with h | h
            · exact HA.out j h
            · rw [show j = i by omega, hc]; exact HP0.out.symm)
          clear hc hN hY hB2
          generalize ptS s 0 = v at *
          obtain ⟨v1, v2⟩ := v
          generalize s.n = sn at *
          simp only at p1 p2 q1 q2
          go_wp2_with fail
          refine Reg.wp_region_all (by first | exact hb2 | exact Below.refl _ _) (by kernel_rfl) (by kernel_rfl) ?_
          repeat (go_big_quiet_step ((first | fail)))
          refine wpQuiet_nil ?_
          intro xs hxs
          have hbx := Reg.class_below hxs
          clear hxs
          go_wp2_with fail
          exact ⟨⟨i + 1, by omega, by go_num, HA2.out, hb.trans (hbx.mono (by omega))⟩, by simp [intOf]; omega⟩
        · have hN2 := Lib.hid (hN.out i hlt (by rw [HP0.out]; exact hc))
          clear hc hN hY hB2
          generalize ptS s i = u at *
          generalize ptS s 0 = v at *
          obtain ⟨v1, v2⟩ := v
          obtain ⟨u1, u2⟩ := u
          generalize s.n = sn at *
          simp only at p1 p2 q1 q2 h1
          go_wp2_with fail
          refine Reg.wp_region_all (by first | exact hb2 | exact Below.refl _ _) (by kernel_rfl) (by kernel_rfl) ?_
          repeat (go_big_quiet_step ((first | fail)))
          refine wpQuiet_nil ?_
          intro xs hxs
          have hbx := Reg.class_below hxs
          clear hxs
          go_wp2_with fail
          go_ret
          exact ⟨by rw [hN2.out]; rfl, hx.trans (hbx.mono hx.size)⟩
        · have hN2 := Lib.hid (hN.out i hlt (by rw [HP0.out]; exact hc))
          clear hc hN hY hB2
          generalize ptS s i = u at *
          generalize ptS s 0 = v at *
          obtain ⟨v1, v2⟩ := v
          obtain ⟨u1, u2⟩ := u
          simp only at p1 p2 q1 q2 h1 h2
          subst h1
          generalize s.n = sn at *
          go_wp2_with fail
          refine Reg.wp_region_all (by first | exact hb2 | exact Below.refl _ _) (by kernel_rfl) (by kernel_rfl) ?_
          repeat (go_big_quiet_step ((first | fail)))
          refine wpQuiet_nil ?_
          intro xs hxs
          have hbx := Reg.class_below hxs
          clear hxs
          go_wp2_with fail
          go_ret
          exact ⟨by rw [hN2.out]; rfl, hx.trans (hbx.mono hx.size)⟩
      · have hlt' : ¬ (i : Int) < 2 := by omega
        have hY2 := Lib.hid (hY.out (fun j hj => HA.out j (by omega)))
        clear hN hY hB2
        generalize s.n = sn at *
        go_wp2_with fail
        go_ret
        exact ⟨by rw [hY2.out]; rfl, hx⟩
  · skip
    have HE : Hid (endN s.n = 2) := Lib.hid (by unfold endN; rw [hc]; rfl)
    have hN := Lib.hid (fun i (h : i < 2) hq => dotG_no (s := s) (i := i) (by rw [HE.out]; exact h) hq)
    have hY := Lib.hid (fun (h : ∀ j, j < 2 → ptS s j = s.p0) => dotG_yes (s := s) (by rw [HE.out]; exact h))
    go_enter Try.func26, Try.ntmps26
    go_wp2_with fail
    go_loopw [3] (fun iv wr => ∃ i : Nat, i ≤ 2 ∧ iv = .int .i64 i ∧ (∀ j, j < i → ptS s j = s.p0) ∧ Below (w.heap.size + 1) (w.alloc (.cells (segA s) 59)) wr) (fun iv _ => 4 - (intOf iv).toNat)
    case atStart => exact ⟨0, Nat.zero_le _, rfl, fun j hj => absurd hj (Nat.not_lt_zero j), Below.refl _ _⟩
    case round =>
      obtain ⟨i, hi, rfl, hall, hb⟩ := hrel
      have hB2 := HB.out.below hb (by omega)
      have e8 : wr.cell? ⟨w.heap.size, 8, none⟩ = some (.int .i64 s.n) := hB2.cell 8
      rw [hc] at e8
      have l8 := hB2.lt
      have hx : Below w.heap.size w wr := Below.trans (by (repeat (first | exact Below.refl _ _ | assumption | refine Below.drew ?_ | refine Below.setCell ?_ (by simp; try omega) _ | refine Below.alloc ?_ (by simp; try omega) _))) (hb.mono (by omega))
      have HA := Lib.hid hall
      clear hall
      by_cases hlt : i < 2
      · obtain ⟨p1, p2⟩ := cells_at hB2 i (by omega)
        obtain ⟨q1, q2⟩ := cells_at hB2 0 (by omega)
        have HP0 : Hid (s.p0 = ptS s 0) := Lib.hid rfl
        have hlt' : (i : Int) < 2 := by omega
        have hi4 : (i : Int) < 4 := by omega
        simp only [Nat.zero_mul, Nat.zero_add] at q1 q2
        have hcs : (ptS s i = ptS s 0) ∨ (((ptS s i).1 == (ptS s 0).1) = false ∧ ¬ ptS s i = ptS s 0) ∨ (((ptS s i).1 == (ptS s 0).1) = true ∧ (ptS s i).1 = (ptS s 0).1 ∧ ((ptS s i).2 == (ptS s 0).2) = false ∧ ¬ ptS s i = ptS s 0) := by
          generalize ptS s i = u
          generalize ptS s 0 = v
          obtain ⟨u1, u2⟩ := u
          obtain ⟨v1, v2⟩ := v
          by_cases h1 : u1 = v1 <;> by_cases h2 : u2 = v2 <;> simp [h1, h2]
        rcases hcs with hc | ⟨h1, hc⟩ | ⟨-, h1, h2, hc⟩
        · rw [hc] at p1 p2
          have HA2 : Hid (∀ j, j < i + 1 → ptS s j = s.p0) := Lib.hid (fun j hj => by
            rcases Nat.lt_or_ge j i with h | h
            · exact HA.out j h
            · rw [show j = i by omega, hc]; exact HP0.out.symm)
          clear hc hN hY hB2
          generalize ptS s 0 = v at *
          obtain ⟨v1, v2⟩ := v
          generalize s.n = sn at *
          simp only at p1 p2 q1 q2
          go_wp2_with fail
          refine Reg.wp_region_all (by first | exact hb2 | exact Below.refl _ _) (by kernel_rfl) (by kernel_rfl) ?_
          repeat (go_big_quiet_step ((first | fail)))
          refine wpQuiet_nil ?_
          intro xs hxs
          have hbx := Reg.class_below hxs
          clear hxs
          go_wp2_with fail
          exact ⟨⟨i + 1, by omega, by go_num, HA2.out, hb.trans (hbx.mono (by omega))⟩, by simp [intOf]; omega⟩
        · have hN2 := Lib.hid (hN.out i hlt (by rw [HP0.out]; exact hc))
          clear hc hN hY hB2
          generalize ptS s i = u at *
          generalize ptS s 0 = v at *
          obtain ⟨v1, v2⟩ := v
          obtain ⟨u1, u2⟩ := u
          generalize s.n = sn at *
          simp only at p1 p2 q1 q2 h1
          go_wp2_with fail
          refine Reg.wp_region_all (by first | exact hb2 | exact Below.refl _ _) (by kernel_rfl) (by kernel_rfl) ?_
          repeat (go_big_quiet_step ((first | fail)))
          refine wpQuiet_nil ?_
          intro xs hxs
          have hbx := Reg.class_below hxs
          clear hxs
          go_wp2_with fail
          go_ret
          exact ⟨by rw [hN2.out]; rfl, hx.trans (hbx.mono hx.size)⟩
        · have hN2 := Lib.hid (hN.out i hlt (by rw [HP0.out]; exact hc))
          clear hc hN hY hB2
          generalize ptS s i = u at *
          generalize ptS s 0 = v at *
          obtain ⟨v1, v2⟩ := v
          obtain ⟨u1, u2⟩ := u
          simp only at p1 p2 q1 q2 h1 h2
          subst h1
          generalize s.n = sn at *
          go_wp2_with fail
          refine Reg.wp_region_all (by first | exact hb2 | exact Below.refl _ _) (by kernel_rfl) (by kernel_rfl) ?_
          repeat (go_big_quiet_step ((first | fail)))
          refine wpQuiet_nil ?_
          intro xs hxs
          have hbx := Reg.class_below hxs
          clear hxs
          go_wp2_with fail
          go_ret
          exact ⟨by rw [hN2.out]; rfl, hx.trans (hbx.mono hx.size)⟩
      · have hlt' : ¬ (i : Int) < 2 := by omega
        have hY2 := Lib.hid (hY.out (fun j hj => HA.out j (by omega)))
        clear hN hY hB2
        generalize s.n = sn at *
        go_wp2_with fail
        go_ret
        exact ⟨by rw [hY2.out]; rfl, hx⟩
  · skip
    have HE : Hid (endN s.n = 3) := Lib.hid (by unfold endN; rw [hc]; rfl)
    have hN := Lib.hid (fun i (h : i < 3) hq => dotG_no (s := s) (i := i) (by rw [HE.out]; exact h) hq)
    have hY := Lib.hid (fun (h : ∀ j, j < 3 → ptS s j = s.p0) => dotG_yes (s := s) (by rw [HE.out]; exact h))
    go_enter Try.func26, Try.ntmps26
    go_wp2_with fail
    go_loopw [3] (fun iv wr => ∃ i : Nat, i ≤ 3 ∧ iv = .int .i64 i ∧ (∀ j, j < i → ptS s j = s.p0) ∧ Below (w.heap.size + 1) (w.alloc (.cells (segA s) 59)) wr) (fun iv _ => 4 - (intOf iv).toNat)
    case atStart => exact ⟨0, Nat.zero_le _, rfl, fun j hj => absurd hj (Nat.not_lt_zero j), Below.refl _ _⟩
    case round =>
      obtain ⟨i, hi, rfl, hall, hb⟩ := hrel
      have hB2 := HB.out.below hb (by omega)
      have e8 : wr.cell? ⟨w.heap.size, 8, none⟩ = some (.int .i64 s.n) := hB2.cell 8
      rw [hc] at e8
      have l8 := hB2.lt
      have hx : Below w.heap.size w wr := Below.trans (by (repeat (first | exact Below.refl _ _ | assumption | refine Below.drew ?_ | refine Below.setCell ?_ (by simp; try omega) _ | refine Below.alloc ?_ (by simp; try omega) _))) (hb.mono (by omega))
      have HA := Lib.hid hall
      clear hall
      by_cases hlt : i < 3
      · obtain ⟨p1, p2⟩ := cells_at hB2 i (by omega)
        obtain ⟨q1, q2⟩ := cells_at hB2 0 (by omega)
        have HP0 : Hid (s.p0 = ptS s 0) := Lib.hid rfl
        have hlt' : (i : Int) < 3 := by omega
        have hi4 : (i : Int) < 4 := by omega
        simp only [Nat.zero_mul, Nat.zero_add] at q1 q2
        have hcs : (ptS s i = ptS s 0) ∨ (((ptS s i).1 == (ptS s 0).1) = false ∧ ¬ ptS s i = ptS s 0) ∨ (((ptS s i).1 == (ptS s 0).1) = true ∧ (ptS s i).1 = (ptS s 0).1 ∧ ((ptS s i).2 == (ptS s 0).2) = false ∧ ¬ ptS s i = ptS s 0) := by
          generalize ptS s i = u
          generalize ptS s 0 = v
          obtain ⟨u1, u2⟩ := u
          obtain ⟨v1, v2⟩ := v
          by_cases h1 : u1 = v1 <;> by_cases h2 : u2 = v2 <;> simp [h1, h2]
        rcases hcs with hc | ⟨h1, hc⟩ | ⟨-, h1, h2, hc⟩
        · rw [hc] at p1 p2
          have HA2 : Hid (∀ j, j < i + 1 → ptS s j = s.p0) := Lib.hid (fun j hj => by
            rcases Nat.lt_or_ge j i with h | h
            · exact HA.out j h
            · rw [show j = i by omega, hc]; exact HP0.out.symm)
          clear hc hN hY hB2
          generalize ptS s 0 = v at *
          obtain ⟨v1, v2⟩ := v
          generalize s.n = sn at *
          simp only at p1 p2 q1 q2
          go_wp2_with fail
          refine Reg.wp_region_all (by first | exact hb2 | exact Below.refl _ _) (by kernel_rfl) (by kernel_rfl) ?_
          repeat (go_big_quiet_step ((first | fail)))
          refine wpQuiet_nil ?_
          intro xs hxs
          have hbx := Reg.class_below hxs
          clear hxs
          go_wp2_with fail
          exact ⟨⟨i + 1, by omega, by go_num, HA2.out, hb.trans (hbx.mono (by omega))⟩, by simp [intOf]; omega⟩
        · have hN2 := Lib.hid (hN.out i hlt (by rw [HP0.out]; exact hc))
          clear hc hN hY hB2
          generalize ptS s i = u at *
          generalize ptS s 0 = v at *
          obtain ⟨v1, v2⟩ := v
          obtain ⟨u1, u2⟩ := u
          generalize s.n = sn at *
          simp only at p1 p2 q1 q2 h1
          go_wp2_with fail
          refine Reg.wp_region_all (by first | exact hb2 | exact Below.refl _ _) (by kernel_rfl) (by kernel_rfl) ?_
          repeat (go_big_quiet_step ((first | fail)))
          refine wpQuiet_nil ?_
          intro xs hxs
          have hbx := Reg.class_below hxs
          clear hxs
          go_wp2_with fail
          go_ret
          exact ⟨by rw [hN2.out]; rfl, hx.trans (hbx.mono hx.size)⟩
        · have hN2 := Lib.hid (hN.out i hlt (by rw [HP0.out]; exact hc))
          clear hc hN hY hB2
          generalize ptS s i = u at *
          generalize ptS s 0 = v at *
          obtain ⟨v1, v2⟩ := v
          obtain ⟨u1, u2⟩ := u
          simp only at p1 p2 q1 q2 h1 h2
          subst h1
          generalize s.n = sn at *
          go_wp2_with fail
          refine Reg.wp_region_all (by first | exact hb2 | exact Below.refl _ _) (by kernel_rfl) (by kernel_rfl) ?_
          repeat (go_big_quiet_step ((first | fail)))
          refine wpQuiet_nil ?_
          intro xs hxs
          have hbx := Reg.class_below hxs
          clear hxs
          go_wp2_with fail
          go_ret
          exact ⟨by rw [hN2.out]; rfl, hx.trans (hbx.mono hx.size)⟩
      · have hlt' : ¬ (i : Int) < 3 := by omega
        have hY2 := Lib.hid (hY.out (fun j hj => HA.out j (by omega)))
        clear hN hY hB2
        generalize s.n = sn at *
        go_wp2_with fail
        go_ret
        exact ⟨by rw [hY2.out]; rfl, hx⟩
  · skip
    have HE : Hid (endN s.n = 4) := Lib.hid (by unfold endN; rw [hc]; rfl)
    have hN := Lib.hid (fun i (h : i < 4) hq => dotG_no (s := s) (i := i) (by rw [HE.out]; exact h) hq)
    have hY := Lib.hid (fun (h : ∀ j, j < 4 → ptS s j = s.p0) => dotG_yes (s := s) (by rw [HE.out]; exact h))
    go_enter Try.func26, Try.ntmps26
    go_wp2_with fail
    go_loopw [3] (fun iv wr => ∃ i : Nat, i ≤ 4 ∧ iv = .int .i64 i ∧ (∀ j, j < i → ptS s j = s.p0) ∧ Below (w.heap.size + 1) (w.alloc (.cells (segA s) 59)) wr) (fun iv _ => 4 - (intOf iv).toNat)
    case atStart => exact ⟨0, Nat.zero_le _, rfl, fun j hj => absurd hj (Nat.not_lt_zero j), Below.refl _ _⟩
    case round =>
      obtain ⟨i, hi, rfl, hall, hb⟩ := hrel
      have hB2 := HB.out.below hb (by omega)
      have e8 : wr.cell? ⟨w.heap.size, 8, none⟩ = some (.int .i64 s.n) := hB2.cell 8
      rw [hc] at e8
      have l8 := hB2.lt
      have hx : Below w.heap.size w wr := Below.trans (by (repeat (first | exact Below.refl _ _ | assumption | refine Below.drew ?_ | refine Below.setCell ?_ (by simp; try omega) _ | refine Below.alloc ?_ (by simp; try omega) _))) (hb.mono (by omega))
      have HA := Lib.hid hall
      clear hall
      by_cases hlt : i < 4
      · obtain ⟨p1, p2⟩ := cells_at hB2 i (by omega)
        obtain ⟨q1, q2⟩ := cells_at hB2 0 (by omega)
        have HP0 : Hid (s.p0 = ptS s 0) := Lib.hid rfl
        have hlt' : (i : Int) < 4 := by omega
        have hi4 : (i : Int) < 4 := by omega
        simp only [Nat.zero_mul, Nat.zero_add] at q1 q2
        have hcs : (ptS s i = ptS s 0) ∨ (((ptS s i).1 == (ptS s 0).1) = false ∧ ¬ ptS s i = ptS s 0) ∨ (((ptS s i).1 == (ptS s 0).1) = true ∧ (ptS s i).1 = (ptS s 0).1 ∧ ((ptS s i).2 == (ptS s 0).2) = false ∧ ¬ ptS s i = ptS s 0) := by
          generalize ptS s i = u
          generalize ptS s 0 = v
          obtain ⟨u1, u2⟩ := u
          obtain ⟨v1, v2⟩ := v
          by_cases h1 : u1 = v1 <;> by_cases h2 : u2 = v2 <;> simp [h1, h2]
        rcases hcs with hc | ⟨h1, hc⟩ | ⟨-, h1, h2, hc⟩
        · rw [hc] at p1 p2
          have HA2 : Hid (∀ j, j < i + 1 → ptS s j = s.p0) := Lib.hid (fun j hj => by
            rcases Nat.lt_or_ge j i with h | h
            · exact HA.out j h
            · rw [show j = i by omega, hc]; exact HP0.out.symm)
          clear hc hN hY hB2
          generalize ptS s 0 = v at *
          obtain ⟨v1, v2⟩ := v
          generalize s.n = sn at *
          simp only at p1 p2 q1 q2
          go_wp2_with fail
          refine Reg.wp_region_all (by first | exact hb2 | exact Below.refl _ _) (by kernel_rfl) (by kernel_rfl) ?_
          repeat (go_big_quiet_step ((first | fail)))
          refine wpQuiet_nil ?_
          intro xs hxs
          have hbx := Reg.class_below hxs
          clear hxs
          go_wp2_with fail
          exact ⟨⟨i + 1, by omega, by go_num, HA2.out, hb.trans (hbx.mono (by omega))⟩, by simp [intOf]; omega⟩
        · have hN2 := Lib.hid (hN.out i hlt (by rw [HP0.out]; exact hc))
          clear hc hN hY hB2
          generalize ptS s i = u at *
          generalize ptS s 0 = v at *
          obtain ⟨v1, v2⟩ := v
          obtain ⟨u1, u2⟩ := u
          generalize s.n = sn at *
          simp only at p1 p2 q1 q2 h1
          go_wp2_with fail
          refine Reg.wp_region_all (by first | exact hb2 | exact Below.refl _ _) (by kernel_rfl) (by kernel_rfl) ?_
          repeat (go_big_quiet_step ((first | fail)))
          refine wpQuiet_nil ?_
          intro xs hxs
          have hbx := Reg.class_below hxs
          clear hxs
          go_wp2_with fail
          go_ret
          exact ⟨by rw [hN2.out]; rfl, hx.trans (hbx.mono hx.size)⟩
        · have hN2 := Lib.hid (hN.out i hlt (by rw [HP0.out]; exact hc))
          clear hc hN hY hB2
          generalize ptS s i = u at *
          generalize ptS s 0 = v at *
          obtain ⟨v1, v2⟩ := v
          obtain ⟨u1, u2⟩ := u
          simp only at p1 p2 q1 q2 h1 h2
          subst h1
          generalize s.n = sn at *
          go_wp2_with fail
          refine Reg.wp_region_all (by first | exact hb2 | exact Below.refl _ _) (by kernel_rfl) (by kernel_rfl) ?_
          repeat (go_big_quiet_step ((first | fail)))
          refine wpQuiet_nil ?_
          intro xs hxs
          have hbx := Reg.class_below hxs
          clear hxs
          go_wp2_with fail
          go_ret
          exact ⟨by rw [hN2.out]; rfl, hx.trans (hbx.mono hx.size)⟩
      · have hlt' : ¬ (i : Int) < 4 := by omega
        have hY2 := Lib.hid (hY.out (fun j hj => HA.out j (by omega)))
        clear hN hY hB2
        generalize s.n = sn at *
        go_wp2_with fail
        go_ret
        exact ⟨by rw [hY2.out]; rfl, hx⟩
  · skip
    have HE : Hid (endN s.n = 4) := Lib.hid (by unfold endN; rw [if_neg (by omega), if_neg (by omega)])
    have hN := Lib.hid (fun i (h : i < 4) hq => dotG_no (s := s) (i := i) (by rw [HE.out]; exact h) hq)
    have hY := Lib.hid (fun (h : ∀ j, j < 4 → ptS s j = s.p0) => dotG_yes (s := s) (by rw [HE.out]; exact h))
    go_enter Try.func26, Try.ntmps26
    go_wp2_with fail
    go_loopw [3] (fun iv wr => ∃ i : Nat, i ≤ 4 ∧ iv = .int .i64 i ∧ (∀ j, j < i → ptS s j = s.p0) ∧ Below (w.heap.size + 1) (w.alloc (.cells (segA s) 59)) wr) (fun iv _ => 4 - (intOf iv).toNat)
    case atStart => exact ⟨0, Nat.zero_le _, rfl, fun j hj => absurd hj (Nat.not_lt_zero j), Below.refl _ _⟩
    case round =>
      obtain ⟨i, hi, rfl, hall, hb⟩ := hrel
      have hB2 := HB.out.below hb (by omega)
      have e8 : wr.cell? ⟨w.heap.size, 8, none⟩ = some (.int .i64 s.n) := hB2.cell 8
      skip
      have l8 := hB2.lt
      have hx : Below w.heap.size w wr := Below.trans (by (repeat (first | exact Below.refl _ _ | assumption | refine Below.drew ?_ | refine Below.setCell ?_ (by simp; try omega) _ | refine Below.alloc ?_ (by simp; try omega) _))) (hb.mono (by omega))
      have HA := Lib.hid hall
      clear hall
      by_cases hlt : i < 4
      · obtain ⟨p1, p2⟩ := cells_at hB2 i (by omega)
        obtain ⟨q1, q2⟩ := cells_at hB2 0 (by omega)
        have HP0 : Hid (s.p0 = ptS s 0) := Lib.hid rfl
        have hlt' : (i : Int) < 4 := by omega
        have hi4 : (i : Int) < 4 := by omega
        simp only [Nat.zero_mul, Nat.zero_add] at q1 q2
        have hcs : (ptS s i = ptS s 0) ∨ (((ptS s i).1 == (ptS s 0).1) = false ∧ ¬ ptS s i = ptS s 0) ∨ (((ptS s i).1 == (ptS s 0).1) = true ∧ (ptS s i).1 = (ptS s 0).1 ∧ ((ptS s i).2 == (ptS s 0).2) = false ∧ ¬ ptS s i = ptS s 0) := by
          generalize ptS s i = u
          generalize ptS s 0 = v
          obtain ⟨u1, u2⟩ := u
          obtain ⟨v1, v2⟩ := v
          by_cases h1 : u1 = v1 <;> by_cases h2 : u2 = v2 <;> simp [h1, h2]
        rcases hcs with hc | ⟨h1, hc⟩ | ⟨-, h1, h2, hc⟩
        · rw [hc] at p1 p2
          have HA2 : Hid (∀ j, j < i + 1 → ptS s j = s.p0) := Lib.hid (fun j hj => by
            rcases Nat.lt_or_ge j i with h | h
            · exact HA.out j h
            · rw [show j = i by omega, hc]; exact HP0.out.symm)
          clear hc hN hY hB2
          generalize ptS s 0 = v at *
          obtain ⟨v1, v2⟩ := v
          generalize s.n = sn at *
          simp only at p1 p2 q1 q2
          go_wp2_with fail
          refine Reg.wp_region_all (by first | exact hb2 | exact Below.refl _ _) (by kernel_rfl) (by kernel_rfl) ?_
          repeat (go_big_quiet_step ((first | fail)))
          refine wpQuiet_nil ?_
          intro xs hxs
          have hbx := Reg.class_below hxs
          clear hxs
          go_wp2_with fail
          exact ⟨⟨i + 1, by omega, by go_num, HA2.out, hb.trans (hbx.mono (by omega))⟩, by simp [intOf]; omega⟩
        · have hN2 := Lib.hid (hN.out i hlt (by rw [HP0.out]; exact hc))
          clear hc hN hY hB2
          generalize ptS s i = u at *
          generalize ptS s 0 = v at *
          obtain ⟨v1, v2⟩ := v
          obtain ⟨u1, u2⟩ := u
          generalize s.n = sn at *
          simp only at p1 p2 q1 q2 h1
          go_wp2_with fail
          refine Reg.wp_region_all (by first | exact hb2 | exact Below.refl _ _) (by kernel_rfl) (by kernel_rfl) ?_
          repeat (go_big_quiet_step ((first | fail)))
          refine wpQuiet_nil ?_
          intro xs hxs
          have hbx := Reg.class_below hxs
          clear hxs
          go_wp2_with fail
          go_ret
          exact ⟨by rw [hN2.out]; rfl, hx.trans (hbx.mono hx.size)⟩
        · have hN2 := Lib.hid (hN.out i hlt (by rw [HP0.out]; exact hc))
          clear hc hN hY hB2
          generalize ptS s i = u at *
          generalize ptS s 0 = v at *
          obtain ⟨v1, v2⟩ := v
          obtain ⟨u1, u2⟩ := u
          simp only at p1 p2 q1 q2 h1 h2
          subst h1
          generalize s.n = sn at *
          go_wp2_with fail
          refine Reg.wp_region_all (by first | exact hb2 | exact Below.refl _ _) (by kernel_rfl) (by kernel_rfl) ?_
          repeat (go_big_quiet_step ((first | fail)))
          refine wpQuiet_nil ?_
          intro xs hxs
          have hbx := Reg.class_below hxs
          clear hxs
          go_wp2_with fail
          go_ret
          exact ⟨by rw [hN2.out]; rfl, hx.trans (hbx.mono hx.size)⟩
      · have hlt' : ¬ (i : Int) < 4 := by omega
        have hY2 := Lib.hid (hY.out (fun j hj => HA.out j (by omega)))
        clear hN hY hB2
        generalize s.n = sn at *
        go_wp2_with fail
        go_ret
        exact ⟨by rw [hY2.out]; rfl, hx⟩

set_option maxRecDepth 100000 in
set_option maxHeartbeats 4000000 in
theorem rend_any (s : SegS) (w : World) :
    Calls Try.prog 27 #[.agg (segA s)] w fun e w' => e = .returned (.agg #[.int .i64 (endS s).1, .int .i64 (endS s).2]) ∧ Below w.heap.size w w' := by
  have HB := Lib.hid ((Blk.new w 59 (segA s)).alloc (.cells #[.int .i64 0, .int .i64 0] 44))
  have HN : Hid (Blk ((w.alloc (.cells (segA s) 59)).alloc (.cells #[.int .i64 0, .int .i64 0] 44)) (w.heap.size + 1) 44 #[.int .i64 0, .int .i64 0]) := Lib.hid (by
    have h := Blk.new (w.alloc (.cells (segA s) 59)) 44 #[.int .i64 0, .int .i64 0]
    rw [World.size_alloc] at h
    exact h)
  rcases (by omega : s.n < 2 ∨ s.n = 2 ∨ s.n = 3 ∨ s.n = 4 ∨ (4 < s.n ∧ ¬ s.n < 2 ∧ ¬ s.n < 4)) with hc | hc | hc | hc | ⟨hc, hc2, hc4⟩
  · skip
    have HF : Hid (endS s = ptS s (2 - 1)) := Lib.hid (by rw [end_at]; have : endN s.n = 2 := (by unfold endN; rw [if_pos (by omega)]); rw [this])
    have HK := Lib.hid (cells_at HB.out (2 - 1) (by omega))
    have e8 : ((w.alloc (.cells (segA s) 59)).alloc (.cells #[.int .i64 0, .int .i64 0] 44)).cell? ⟨w.heap.size, 8, none⟩ = some (.int .i64 s.n) := HB.out.cell 8
    skip
    obtain ⟨p1, p2⟩ := HK.out
    have eN := HN.out.cell
    have fN := HN.out.unfrozen
    have lN := HN.out.lt
    have lB := HB.out.lt
    have hx : Below w.heap.size w ((w.alloc (.cells (segA s) 59)).alloc (.cells #[.int .i64 0, .int .i64 0] 44)) := by (repeat (first | exact Below.refl _ _ | assumption | refine Below.drew ?_ | refine Below.setCell ?_ (by simp; try omega) _ | refine Below.alloc ?_ (by simp; try omega) _))
    go_enter Try.func27, Try.ntmps27
    generalize hwz : (w.alloc (.cells (segA s) 59)).alloc (.cells #[.int .i64 0, .int .i64 0] 44) = wz at *
    go_wp2_with fail
    refine bodyPost_ret (res_pt ((HN.out.set 0 _).set 1 _) rfl rfl rfl rfl) rfl ⟨by rw [HF.out]; rfl, (hx.setCell (by simp) _).setCell (by simp) _⟩
  · skip
    have HF : Hid (endS s = ptS s (2 - 1)) := Lib.hid (by rw [end_at]; have : endN s.n = 2 := (by unfold endN; rw [hc]; rfl); rw [this])
    have HK := Lib.hid (cells_at HB.out (2 - 1) (by omega))
    have e8 : ((w.alloc (.cells (segA s) 59)).alloc (.cells #[.int .i64 0, .int .i64 0] 44)).cell? ⟨w.heap.size, 8, none⟩ = some (.int .i64 s.n) := HB.out.cell 8
    rw [hc] at e8
    obtain ⟨p1, p2⟩ := HK.out
    have eN := HN.out.cell
    have fN := HN.out.unfrozen
    have lN := HN.out.lt
    have lB := HB.out.lt
    have hx : Below w.heap.size w ((w.alloc (.cells (segA s) 59)).alloc (.cells #[.int .i64 0, .int .i64 0] 44)) := by (repeat (first | exact Below.refl _ _ | assumption | refine Below.drew ?_ | refine Below.setCell ?_ (by simp; try omega) _ | refine Below.alloc ?_ (by simp; try omega) _))
    go_enter Try.func27, Try.ntmps27
    generalize hwz : (w.alloc (.cells (segA s) 59)).alloc (.cells #[.int .i64 0, .int .i64 0] 44) = wz at *
    go_wp2_with fail
    refine bodyPost_ret (res_pt ((HN.out.set 0 _).set 1 _) rfl rfl rfl rfl) rfl ⟨by rw [HF.out]; rfl, (hx.setCell (by simp) _).setCell (by simp) _⟩
  · skip
    have HF : Hid (endS s = ptS s (3 - 1)) := Lib.hid (by rw [end_at]; have : endN s.n = 3 := (by unfold endN; rw [hc]; rfl); rw [this])
    have HK := Lib.hid (cells_at HB.out (3 - 1) (by omega))
    have e8 : ((w.alloc (.cells (segA s) 59)).alloc (.cells #[.int .i64 0, .int .i64 0] 44)).cell? ⟨w.heap.size, 8, none⟩ = some (.int .i64 s.n) := HB.out.cell 8
    rw [hc] at e8
    obtain ⟨p1, p2⟩ := HK.out
    have eN := HN.out.cell
    have fN := HN.out.unfrozen
    have lN := HN.out.lt
    have lB := HB.out.lt
    have hx : Below w.heap.size w ((w.alloc (.cells (segA s) 59)).alloc (.cells #[.int .i64 0, .int .i64 0] 44)) := by (repeat (first | exact Below.refl _ _ | assumption | refine Below.drew ?_ | refine Below.setCell ?_ (by simp; try omega) _ | refine Below.alloc ?_ (by simp; try omega) _))
    go_enter Try.func27, Try.ntmps27
    generalize hwz : (w.alloc (.cells (segA s) 59)).alloc (.cells #[.int .i64 0, .int .i64 0] 44) = wz at *
    go_wp2_with fail
    refine bodyPost_ret (res_pt ((HN.out.set 0 _).set 1 _) rfl rfl rfl rfl) rfl ⟨by rw [HF.out]; rfl, (hx.setCell (by simp) _).setCell (by simp) _⟩
  · skip
    have HF : Hid (endS s = ptS s (4 - 1)) := Lib.hid (by rw [end_at]; have : endN s.n = 4 := (by unfold endN; rw [hc]; rfl); rw [this])
    have HK := Lib.hid (cells_at HB.out (4 - 1) (by omega))
    have e8 : ((w.alloc (.cells (segA s) 59)).alloc (.cells #[.int .i64 0, .int .i64 0] 44)).cell? ⟨w.heap.size, 8, none⟩ = some (.int .i64 s.n) := HB.out.cell 8
    rw [hc] at e8
    obtain ⟨p1, p2⟩ := HK.out
    have eN := HN.out.cell
    have fN := HN.out.unfrozen
    have lN := HN.out.lt
    have lB := HB.out.lt
    have hx : Below w.heap.size w ((w.alloc (.cells (segA s) 59)).alloc (.cells #[.int .i64 0, .int .i64 0] 44)) := by (repeat (first | exact Below.refl _ _ | assumption | refine Below.drew ?_ | refine Below.setCell ?_ (by simp; try omega) _ | refine Below.alloc ?_ (by simp; try omega) _))
    go_enter Try.func27, Try.ntmps27
    generalize hwz : (w.alloc (.cells (segA s) 59)).alloc (.cells #[.int .i64 0, .int .i64 0] 44) = wz at *
    go_wp2_with fail
    refine bodyPost_ret (res_pt ((HN.out.set 0 _).set 1 _) rfl rfl rfl rfl) rfl ⟨by rw [HF.out]; rfl, (hx.setCell (by simp) _).setCell (by simp) _⟩
  · skip
    have HF : Hid (endS s = ptS s (4 - 1)) := Lib.hid (by rw [end_at]; have : endN s.n = 4 := (by unfold endN; rw [if_neg (by omega), if_neg (by omega)]); rw [this])
    have HK := Lib.hid (cells_at HB.out (4 - 1) (by omega))
    have e8 : ((w.alloc (.cells (segA s) 59)).alloc (.cells #[.int .i64 0, .int .i64 0] 44)).cell? ⟨w.heap.size, 8, none⟩ = some (.int .i64 s.n) := HB.out.cell 8
    skip
    obtain ⟨p1, p2⟩ := HK.out
    have eN := HN.out.cell
    have fN := HN.out.unfrozen
    have lN := HN.out.lt
    have lB := HB.out.lt
    have hx : Below w.heap.size w ((w.alloc (.cells (segA s) 59)).alloc (.cells #[.int .i64 0, .int .i64 0] 44)) := by (repeat (first | exact Below.refl _ _ | assumption | refine Below.drew ?_ | refine Below.setCell ?_ (by simp; try omega) _ | refine Below.alloc ?_ (by simp; try omega) _))
    go_enter Try.func27, Try.ntmps27
    generalize hwz : (w.alloc (.cells (segA s) 59)).alloc (.cells #[.int .i64 0, .int .i64 0] 44) = wz at *
    go_wp2_with fail
    refine bodyPost_ret (res_pt ((HN.out.set 0 _).set 1 _) rfl rfl rfl rfl) rfl ⟨by rw [HF.out]; rfl, (hx.setCell (by simp) _).setCell (by simp) _⟩

set_option maxRecDepth 100000 in
set_option maxHeartbeats 4000000 in
theorem same2_any (a b a' b' : Option Addr) (n m c d c' d' : Nat) (vs : List Int) (ps : List (Int × Int)) (w : World) (hn : n ≤ 100000) (hm : m ≤ 100000) (hv : RInts w w.heap.size a n vs) (hp : RPts w w.heap.size b m ps)
    (hv' : RInts w w.heap.size a' n vs) (hp' : RPts w w.heap.size b' m ps) :
    Calls Try.prog 28 #[.agg #[.slice a n c, .slice b m d], .agg #[.slice a' n c', .slice b' m d']] w fun e w' => e = .returned (.bool true) ∧ Below w.heap.size w w' := by
  have hnl := hv.1
  have hml := hp.1
  have HV := Lib.hid hv
  have HP := Lib.hid hp
  have HV' := Lib.hid hv'
  have HP' := Lib.hid hp'
  have s1 := Lib.hid ((Blk.new w 35 #[.slice a n c, .slice b m d]).alloc (.cells #[.slice a' n c', .slice b' m d'] 35))
  have s2 : Hid (Blk ((w.alloc (.cells #[.slice a n c, .slice b m d] 35)).alloc (.cells #[.slice a' n c', .slice b' m d'] 35)) (w.heap.size + 1) 35 #[.slice a' n c', .slice b' m d']) := Lib.hid (by
    have h := Blk.new (w.alloc (.cells #[.slice a n c, .slice b m d] 35)) 35 #[.slice a' n c', .slice b' m d']
    rw [World.size_alloc] at h
    exact h)
  have hx : Below w.heap.size w ((w.alloc (.cells #[.slice a n c, .slice b m d] 35)).alloc (.cells #[.slice a' n c', .slice b' m d'] 35)) := by (repeat (first | exact Below.refl _ _ | assumption | refine Below.drew ?_ | refine Below.setCell ?_ (by simp; try omega) _ | refine Below.alloc ?_ (by simp; try omega) _))
  have hwz : ((w.alloc (.cells #[.slice a n c, .slice b m d] 35)).alloc (.cells #[.slice a' n c', .slice b' m d'] 35)).heap.size = w.heap.size + 1 + 1 := by simp
  clear hv hp hv' hp'
  go_enter Try.func28, Try.ntmps28
  go_wp2_with fail
  generalize (w.alloc (.cells #[.slice a n c, .slice b m d] 35)).alloc (.cells #[.slice a' n c', .slice b' m d'] 35) = wz at *
  go_loopw [5] (fun i wr => ∃ k : Nat, k ≤ n ∧ i = .int .i64 k ∧ Below wz.heap.size wz wr) (fun i _ => n - (intOf i).toNat)
  case atStart => exact ⟨0, Nat.zero_le _, rfl, Below.refl _ _⟩
  case round =>
    obtain ⟨k, hk, rfl, hb⟩ := hrel
    have hbw := hx.trans (hb.mono hx.size)
    have S1 := s1.out.grow hb
    have S2 := s2.out.grow hb
    have l1 := S1.lt
    have l2 := S2.lt
    have g0 : wr.cell? ⟨w.heap.size, 0, none⟩ = some (.slice a n c) := S1.cell 0
    have g1 : wr.cell? ⟨w.heap.size, 1, none⟩ = some (.slice b m d) := S1.cell 1
    have g2 : wr.cell? ⟨w.heap.size + 1, 0, none⟩ = some (.slice a' n c') := S2.cell 0
    have g3 : wr.cell? ⟨w.heap.size + 1, 1, none⟩ = some (.slice b' m d') := S2.cell 1
    clear S1 S2
    by_cases hlt : k < n
    · have hlk : k < vs.length := by omega
      obtain ⟨vb, vo, ha, hvB, c1⟩ := (HV.out.below hbw).2 k vs[k] (List.getElem?_eq_getElem hlk)
      obtain ⟨ub, uo, ha', huB, c2⟩ := (HV'.out.below hbw).2 k vs[k] (List.getElem?_eq_getElem hlk)
      subst ha ha'
      have hvw : vb < wr.heap.size := by have := hbw.size; omega
      have huw : ub < wr.heap.size := by have := hbw.size; omega
      have hlt' : (k : Int) < n := by omega
      generalize vs[k] = x at *
      go_wp2_with fail
      refine Reg.wp_region_all (by first | exact hb2 | exact Below.refl _ _) (by kernel_rfl) (by kernel_rfl) ?_
      repeat (go_big_quiet_step ((first | fail)))
      refine wpQuiet_nil ?_
      intro xs hxs
      have hbx := Reg.class_below hxs
      clear hxs
      go_wp2_with fail
      exact ⟨⟨k + 1, by omega, by go_num, hb.trans (hbx.mono hb.size)⟩, by simp [intOf]; omega⟩
    · have hlt' : ¬ (k : Int) < n := by omega
      obtain ⟨wo, rfl⟩ : ∃ wo : World, wo = wr := ⟨_, rfl⟩
      clear hbw
      go_wp2_with fail
      clear g0 g1 g2 g3 l1 l2
      go_loopw [6] (fun i wr => ∃ k : Nat, k ≤ m ∧ i = .int .i64 k ∧ Below wz.heap.size wz wr) (fun i _ => m - (intOf i).toNat)
      case atStart => exact ⟨0, Nat.zero_le _, rfl, hb⟩
      case round =>
        clear hb
        obtain ⟨j, hj, rfl, hb⟩ := hrel
        have hbw := hx.trans (hb.mono hx.size)
        have S1 := s1.out.grow hb
        have S2 := s2.out.grow hb
        have l1 := S1.lt
        have l2 := S2.lt
        have g1 : wr.cell? ⟨w.heap.size, 1, none⟩ = some (.slice b m d) := S1.cell 1
        have g3 : wr.cell? ⟨w.heap.size + 1, 1, none⟩ = some (.slice b' m d') := S2.cell 1
        clear S1 S2
        by_cases hjt : j < m
        · have hjk : j < ps.length := by omega
          obtain ⟨vb, vo, ha, hvB, c1, c2⟩ := (HP.out.below hbw).2 j ps[j] (List.getElem?_eq_getElem hjk)
          obtain ⟨ub, uo, ha', huB, c3, c4⟩ := (HP'.out.below hbw).2 j ps[j] (List.getElem?_eq_getElem hjk)
          subst ha ha'
          have hvw : vb < wr.heap.size := by have := hbw.size; omega
          have huw : ub < wr.heap.size := by have := hbw.size; omega
          have hjt' : (j : Int) < m := by omega
          generalize ps[j] = x at *
          obtain ⟨x, y⟩ := x
          simp only at c1 c2 c3 c4
          go_wp2_with fail
          refine Reg.wp_region_all (by first | exact hb2 | exact Below.refl _ _) (by kernel_rfl) (by kernel_rfl) ?_
          repeat (go_big_quiet_step ((first | fail)))
          refine wpQuiet_nil ?_
          intro xs hxs
          have hbx := Reg.class_below hxs
          clear hxs
          go_wp2_with fail
          exact ⟨⟨j + 1, by omega, by go_num, hb.trans (hbx.mono hb.size)⟩, by simp [intOf]; omega⟩
        · have hjt' : ¬ (j : Int) < m := by omega
          go_wp2_with fail
          go_ret
          exact ⟨rfl, hbw⟩
end Go.Proofs.Ytjkpbkcbimojoaa
