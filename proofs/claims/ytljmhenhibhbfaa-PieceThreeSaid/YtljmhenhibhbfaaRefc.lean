/- Contract of the reference's product of 128 bits: the walks. -/
import Derived.Test.YtljmhenhibhbfaaRefb
namespace Go.Proofs.Ytljmhenhibhbfaa
open Go.RowKit

set_option maxHeartbeats 1000000 in
theorem r1mul_pp (a b x y : Int) (w : World) (hx0 : 0 ≤ x) (hx1 : x ≤ 4611686018427387904) (hy0 : 0 ≤ y) (hy1 : y ≤ 4611686018427387904) (ha : 0 ≤ a) (hx : a = x) (hb : 0 ≤ b) (hy : b = y) :
    Calls Try.prog 21 #[.int .i64 a, .int .i64 b] w fun e w' => e = .returned (.agg #[.int .i64 (hiW (x * y)), .int .u64 (loW (x * y))]) ∧ Below w.heap.size w w' := by
  obtain ⟨p, q, r, s, pr, qs, ps, qr, N, M, ⟨ep, eq, er, es, epr, eqs, eps, eqr, eM, wM, cA, cB, cC, cR1, cR2, ⟨b1, b1'⟩, ⟨b2, b2'⟩, ⟨b3, b3'⟩, ⟨b4, b4'⟩, ⟨b5, b5'⟩, ⟨b6, b6'⟩, ⟨b7, b7'⟩, ⟨b8, b8'⟩⟩⟩ := mul_calls hx0 hx1 hy0 hy1
  rw [eM]
  subst hx
  subst hy
  have hd : (!decide (a < 0) == decide (b < 0)) = false := by
    rw [show decide (a < 0) = false from by simp; omega, show decide (b < 0) = false from by simp; omega]; rfl
  have CA := Lib.hid cA
  have CB := Lib.hid cB
  have CC := Lib.hid cC
  have CR1 := Lib.hid cR1
  have CR2 := Lib.hid cR2
  have CN := Lib.hid (fun W => r1neg_any M W wM.2 wM.1)
  clear cA cB cC cR1 cR2 eM wM
  go_enter Try.func21, Try.ntmps21
  go_wp2_with (go_at_call 28; refine (CA.out _).mono ?_; rintro e w2 ⟨rfl, hb2⟩)
  have hA := hb2.size
  simp at hA
  have hA1 : w.heap.size < w2.heap.size := by omega
  have HC0 := Lib.hid (bcell hb2)
  refine Reg.wp_region_soft 10 (by first | exact hb2 | exact Below.refl _ _) (by kernel_rfl) (by kernel_rfl) (fun u => ?_)
  simp only [List.take, List.drop]
  repeat (go_big_quiet_step ((first | (go_at_call 29; with_reducible exact Reg.calls_aft (CR1.out _)) | (go_at_call 29; with_reducible exact Reg.calls_aft (CR2.out _)) | (go_at_call 28; with_reducible exact Reg.calls_aft (CC.out _)))))
  refine wpQuiet_nil ?_
  intro xs hxs
  have hbx := Reg.class_below hxs
  clear hxs
  go_wp2_with fail
  refine (CB.out _).mono ?_
  have HB1 := Lib.hid hb2
  clear hb2
  rintro e w3 ⟨rfl, hb2⟩
  go_wp2_with fail
  refine ⟨rfl, hb2, fun z hz => ?_⟩
  have hb3 := hbx.trans ((hb2.trans (hz.mono hb2.size)).mono hbx.size)
  clear hz hb2 hbx
  obtain ⟨hc, hf⟩ := Reg.bcell hb3
  have hsz := hb3.size
  try simp at hsz
  have hz1 : w2.heap.size < z.heap.size := by omega
  have hz2 : w.heap.size < z.heap.size := by omega
  have gz0 : w2.cell? ⟨w.heap.size, 0, none⟩ = some (.int .i64 0) := by
    rw [HC0.out.1 _ _ (by simp)]
    simp [go_sem]
  have gz1 : w2.cell? ⟨w.heap.size, 1, none⟩ = some (.int .u64 0) := by
    rw [HC0.out.1 _ _ (by simp)]
    simp [go_sem]
  have fz0 : ∀ o, w2.frozen? ⟨w.heap.size, o, none⟩ = false := fun o => by
    rw [HC0.out.2 _ _ (by simp)]
    simp [go_sem]
  have hne : w.heap.size ≠ w2.heap.size := by omega
  have hne' : w2.heap.size ≠ w.heap.size := by omega
  have hlt1 : w.heap.size < w2.heap.size + 1 := by omega
  have hle1 : w.heap.size ≤ w2.heap.size := by omega
  have hbw : Below w.heap.size w z := ((Below.refl _ w).alloc (Nat.le_refl _) _).trans ((HB1.out.mono (by simp)).trans (((Below.refl _ w2).alloc (by omega) _).trans (hb3.mono (by simp; omega))))
  go_wp2_with fail
  refine bodyPost_ret (v := .agg #[.int .i64 (hiW M), .int .u64 (loW M)]) (by simp [results, Try.results21, go_sem, hc, gz0, gz1, hA1, hlt1]) rfl ⟨rfl, ?_⟩
  exact (((hbw.setCell (by simp; omega) _).setCell (by simp; omega) _).setCell (by simp) _).setCell (by simp) _

set_option maxHeartbeats 1000000 in
theorem r1mul_nn (a b x y : Int) (w : World) (hx0 : 0 ≤ x) (hx1 : x ≤ 4611686018427387904) (hy0 : 0 ≤ y) (hy1 : y ≤ 4611686018427387904) (hx : IntKind.u64.wrap (-IntKind.u64.wrap a) = x) (ha : a < 0) (hy : IntKind.u64.wrap (-IntKind.u64.wrap b) = y) (hb : b < 0) :
    Calls Try.prog 21 #[.int .i64 a, .int .i64 b] w fun e w' => e = .returned (.agg #[.int .i64 (hiW (x * y)), .int .u64 (loW (x * y))]) ∧ Below w.heap.size w w' := by
  obtain ⟨p, q, r, s, pr, qs, ps, qr, N, M, ⟨ep, eq, er, es, epr, eqs, eps, eqr, eM, wM, cA, cB, cC, cR1, cR2, ⟨b1, b1'⟩, ⟨b2, b2'⟩, ⟨b3, b3'⟩, ⟨b4, b4'⟩, ⟨b5, b5'⟩, ⟨b6, b6'⟩, ⟨b7, b7'⟩, ⟨b8, b8'⟩⟩⟩ := mul_calls hx0 hx1 hy0 hy1
  rw [eM]
  have hd : (!decide (a < 0) == decide (b < 0)) = false := by
    rw [show decide (a < 0) = true from by simp; omega, show decide (b < 0) = true from by simp; omega]; rfl
  have CA := Lib.hid cA
  have CB := Lib.hid cB
  have CC := Lib.hid cC
  have CR1 := Lib.hid cR1
  have CR2 := Lib.hid cR2
  have CN := Lib.hid (fun W => r1neg_any M W wM.2 wM.1)
  clear cA cB cC cR1 cR2 eM wM
  go_enter Try.func21, Try.ntmps21
  go_wp2_with (go_at_call 28; refine (CA.out _).mono ?_; rintro e w2 ⟨rfl, hb2⟩)
  have hA := hb2.size
  simp at hA
  have hA1 : w.heap.size < w2.heap.size := by omega
  have HC0 := Lib.hid (bcell hb2)
  refine Reg.wp_region_soft 10 (by first | exact hb2 | exact Below.refl _ _) (by kernel_rfl) (by kernel_rfl) (fun u => ?_)
  simp only [List.take, List.drop]
  repeat (go_big_quiet_step ((first | (go_at_call 29; with_reducible exact Reg.calls_aft (CR1.out _)) | (go_at_call 29; with_reducible exact Reg.calls_aft (CR2.out _)) | (go_at_call 28; with_reducible exact Reg.calls_aft (CC.out _)))))
  refine wpQuiet_nil ?_
  intro xs hxs
  have hbx := Reg.class_below hxs
  clear hxs
  go_wp2_with fail
  refine (CB.out _).mono ?_
  have HB1 := Lib.hid hb2
  clear hb2
  rintro e w3 ⟨rfl, hb2⟩
  go_wp2_with fail
  refine ⟨rfl, hb2, fun z hz => ?_⟩
  have hb3 := hbx.trans ((hb2.trans (hz.mono hb2.size)).mono hbx.size)
  clear hz hb2 hbx
  obtain ⟨hc, hf⟩ := Reg.bcell hb3
  have hsz := hb3.size
  try simp at hsz
  have hz1 : w2.heap.size < z.heap.size := by omega
  have hz2 : w.heap.size < z.heap.size := by omega
  have gz0 : w2.cell? ⟨w.heap.size, 0, none⟩ = some (.int .i64 0) := by
    rw [HC0.out.1 _ _ (by simp)]
    simp [go_sem]
  have gz1 : w2.cell? ⟨w.heap.size, 1, none⟩ = some (.int .u64 0) := by
    rw [HC0.out.1 _ _ (by simp)]
    simp [go_sem]
  have fz0 : ∀ o, w2.frozen? ⟨w.heap.size, o, none⟩ = false := fun o => by
    rw [HC0.out.2 _ _ (by simp)]
    simp [go_sem]
  have hne : w.heap.size ≠ w2.heap.size := by omega
  have hne' : w2.heap.size ≠ w.heap.size := by omega
  have hlt1 : w.heap.size < w2.heap.size + 1 := by omega
  have hle1 : w.heap.size ≤ w2.heap.size := by omega
  have hbw : Below w.heap.size w z := ((Below.refl _ w).alloc (Nat.le_refl _) _).trans ((HB1.out.mono (by simp)).trans (((Below.refl _ w2).alloc (by omega) _).trans (hb3.mono (by simp; omega))))
  go_wp2_with fail
  refine bodyPost_ret (v := .agg #[.int .i64 (hiW M), .int .u64 (loW M)]) (by simp [results, Try.results21, go_sem, hc, gz0, gz1, hA1, hlt1]) rfl ⟨rfl, ?_⟩
  exact (((hbw.setCell (by simp; omega) _).setCell (by simp; omega) _).setCell (by simp) _).setCell (by simp) _

set_option maxHeartbeats 1000000 in
theorem r1mul_np (a b x y : Int) (w : World) (hx0 : 0 ≤ x) (hx1 : x ≤ 4611686018427387904) (hy0 : 0 ≤ y) (hy1 : y ≤ 4611686018427387904) (hx : IntKind.u64.wrap (-IntKind.u64.wrap a) = x) (ha : a < 0) (hb : 0 ≤ b) (hy : b = y) :
    Calls Try.prog 21 #[.int .i64 a, .int .i64 b] w fun e w' => e = .returned (.agg #[.int .i64 (hiW (-(x * y))), .int .u64 (loW (-(x * y)))]) ∧ Below w.heap.size w w' := by
  obtain ⟨p, q, r, s, pr, qs, ps, qr, N, M, ⟨ep, eq, er, es, epr, eqs, eps, eqr, eM, wM, cA, cB, cC, cR1, cR2, ⟨b1, b1'⟩, ⟨b2, b2'⟩, ⟨b3, b3'⟩, ⟨b4, b4'⟩, ⟨b5, b5'⟩, ⟨b6, b6'⟩, ⟨b7, b7'⟩, ⟨b8, b8'⟩⟩⟩ := mul_calls hx0 hx1 hy0 hy1
  rw [eM]
  subst hy
  have hd : (!decide (a < 0) == decide (b < 0)) = true := by
    rw [show decide (a < 0) = true from by simp; omega, show decide (b < 0) = false from by simp; omega]; rfl
  have hd1 : decide (b < 0) = false := by simp; omega
  have CA := Lib.hid cA
  have CB := Lib.hid cB
  have CC := Lib.hid cC
  have CR1 := Lib.hid cR1
  have CR2 := Lib.hid cR2
  have CN := Lib.hid (fun W => r1neg_any M W wM.2 wM.1)
  clear cA cB cC cR1 cR2 eM wM
  go_enter Try.func21, Try.ntmps21
  go_wp2_with (go_at_call 28; refine (CA.out _).mono ?_; rintro e w2 ⟨rfl, hb2⟩)
  have hA := hb2.size
  simp at hA
  have hA1 : w.heap.size < w2.heap.size := by omega
  have HC0 := Lib.hid (bcell hb2)
  refine Reg.wp_region_soft 10 (by first | exact hb2 | exact Below.refl _ _) (by kernel_rfl) (by kernel_rfl) (fun u => ?_)
  simp only [List.take, List.drop]
  repeat (go_big_quiet_step ((first | (go_at_call 29; with_reducible exact Reg.calls_aft (CR1.out _)) | (go_at_call 29; with_reducible exact Reg.calls_aft (CR2.out _)) | (go_at_call 28; with_reducible exact Reg.calls_aft (CC.out _)))))
  refine wpQuiet_nil ?_
  intro xs hxs
  have hbx := Reg.class_below hxs
  clear hxs
  go_wp2_with fail
  refine (CB.out _).mono ?_
  have HB1 := Lib.hid hb2
  clear hb2
  rintro e w3 ⟨rfl, hb2⟩
  go_wp2_with fail
  refine ⟨rfl, hb2, fun z hz => ?_⟩
  have hb3 := hbx.trans ((hb2.trans (hz.mono hb2.size)).mono hbx.size)
  clear hz hb2 hbx
  obtain ⟨hc, hf⟩ := Reg.bcell hb3
  have hsz := hb3.size
  try simp at hsz
  have hz1 : w2.heap.size < z.heap.size := by omega
  have hz2 : w.heap.size < z.heap.size := by omega
  have gz0 : w2.cell? ⟨w.heap.size, 0, none⟩ = some (.int .i64 0) := by
    rw [HC0.out.1 _ _ (by simp)]
    simp [go_sem]
  have gz1 : w2.cell? ⟨w.heap.size, 1, none⟩ = some (.int .u64 0) := by
    rw [HC0.out.1 _ _ (by simp)]
    simp [go_sem]
  have fz0 : ∀ o, w2.frozen? ⟨w.heap.size, o, none⟩ = false := fun o => by
    rw [HC0.out.2 _ _ (by simp)]
    simp [go_sem]
  have hne : w.heap.size ≠ w2.heap.size := by omega
  have hne' : w2.heap.size ≠ w.heap.size := by omega
  have hlt1 : w.heap.size < w2.heap.size + 1 := by omega
  have hle1 : w.heap.size ≤ w2.heap.size := by omega
  have hbw : Below w.heap.size w z := ((Below.refl _ w).alloc (Nat.le_refl _) _).trans ((HB1.out.mono (by simp)).trans (((Below.refl _ w2).alloc (by omega) _).trans (hb3.mono (by simp; omega))))
  obtain ⟨hc, hf⟩ := bcell hb3
  go_wp2_with fail
  refine (CN.out _).mono ?_
  rintro e w4 ⟨rfl, hb4⟩
  have hsz4 := hb4.size
  simp at hsz4
  have g40 : w4.cell? ⟨w.heap.size, 0, none⟩ = some (.int .i64 0) := ((bcell hb4).1 w.heap.size 0 (by simp; omega)).trans (by simp [go_sem, hc, gz0, hA1, hlt1])
  have g41 : w4.cell? ⟨w.heap.size, 1, none⟩ = some (.int .u64 0) := ((bcell hb4).1 w.heap.size 1 (by simp; omega)).trans (by simp [go_sem, hc, gz1, hA1, hlt1])
  have f40 : w4.frozen? ⟨w.heap.size, 0, none⟩ = false := ((bcell hb4).2 w.heap.size 0 (by simp; omega)).trans (by simp [go_sem, hf, fz0, hA1, hlt1])
  have f41 : w4.frozen? ⟨w.heap.size, 1, none⟩ = false := ((bcell hb4).2 w.heap.size 1 (by simp; omega)).trans (by simp [go_sem, hf, fz0, hA1, hlt1])
  have hz4 : w.heap.size < w4.heap.size := by omega
  go_wp2_with fail
  refine bodyPost_ret (v := .agg #[.int .i64 (hiW (-M)), .int .u64 (loW (-M))]) (by simp [results, Try.results21, go_sem, g40, g41]) rfl ⟨rfl, ?_⟩
  exact (((hbw.setCell (by simp; omega) _).setCell (by simp; omega) _).trans (hb4.mono (by simp; omega))).setCell (by simp) _ |>.setCell (by simp) _

set_option maxHeartbeats 1000000 in
theorem r1mul_pn (a b x y : Int) (w : World) (hx0 : 0 ≤ x) (hx1 : x ≤ 4611686018427387904) (hy0 : 0 ≤ y) (hy1 : y ≤ 4611686018427387904) (ha : 0 ≤ a) (hx : a = x) (hy : IntKind.u64.wrap (-IntKind.u64.wrap b) = y) (hb : b < 0) :
    Calls Try.prog 21 #[.int .i64 a, .int .i64 b] w fun e w' => e = .returned (.agg #[.int .i64 (hiW (-(x * y))), .int .u64 (loW (-(x * y)))]) ∧ Below w.heap.size w w' := by
  obtain ⟨p, q, r, s, pr, qs, ps, qr, N, M, ⟨ep, eq, er, es, epr, eqs, eps, eqr, eM, wM, cA, cB, cC, cR1, cR2, ⟨b1, b1'⟩, ⟨b2, b2'⟩, ⟨b3, b3'⟩, ⟨b4, b4'⟩, ⟨b5, b5'⟩, ⟨b6, b6'⟩, ⟨b7, b7'⟩, ⟨b8, b8'⟩⟩⟩ := mul_calls hx0 hx1 hy0 hy1
  rw [eM]
  subst hx
  have hd : (!decide (a < 0) == decide (b < 0)) = true := by
    rw [show decide (a < 0) = false from by simp; omega, show decide (b < 0) = true from by simp; omega]; rfl
  have hd1 : decide (a < 0) = false := by simp; omega
  have CA := Lib.hid cA
  have CB := Lib.hid cB
  have CC := Lib.hid cC
  have CR1 := Lib.hid cR1
  have CR2 := Lib.hid cR2
  have CN := Lib.hid (fun W => r1neg_any M W wM.2 wM.1)
  clear cA cB cC cR1 cR2 eM wM
  go_enter Try.func21, Try.ntmps21
  go_wp2_with (go_at_call 28; refine (CA.out _).mono ?_; rintro e w2 ⟨rfl, hb2⟩)
  have hA := hb2.size
  simp at hA
  have hA1 : w.heap.size < w2.heap.size := by omega
  have HC0 := Lib.hid (bcell hb2)
  refine Reg.wp_region_soft 10 (by first | exact hb2 | exact Below.refl _ _) (by kernel_rfl) (by kernel_rfl) (fun u => ?_)
  simp only [List.take, List.drop]
  repeat (go_big_quiet_step ((first | (go_at_call 29; with_reducible exact Reg.calls_aft (CR1.out _)) | (go_at_call 29; with_reducible exact Reg.calls_aft (CR2.out _)) | (go_at_call 28; with_reducible exact Reg.calls_aft (CC.out _)))))
  refine wpQuiet_nil ?_
  intro xs hxs
  have hbx := Reg.class_below hxs
  clear hxs
  go_wp2_with fail
  refine (CB.out _).mono ?_
  have HB1 := Lib.hid hb2
  clear hb2
  rintro e w3 ⟨rfl, hb2⟩
  go_wp2_with fail
  refine ⟨rfl, hb2, fun z hz => ?_⟩
  have hb3 := hbx.trans ((hb2.trans (hz.mono hb2.size)).mono hbx.size)
  clear hz hb2 hbx
  obtain ⟨hc, hf⟩ := Reg.bcell hb3
  have hsz := hb3.size
  try simp at hsz
  have hz1 : w2.heap.size < z.heap.size := by omega
  have hz2 : w.heap.size < z.heap.size := by omega
  have gz0 : w2.cell? ⟨w.heap.size, 0, none⟩ = some (.int .i64 0) := by
    rw [HC0.out.1 _ _ (by simp)]
    simp [go_sem]
  have gz1 : w2.cell? ⟨w.heap.size, 1, none⟩ = some (.int .u64 0) := by
    rw [HC0.out.1 _ _ (by simp)]
    simp [go_sem]
  have fz0 : ∀ o, w2.frozen? ⟨w.heap.size, o, none⟩ = false := fun o => by
    rw [HC0.out.2 _ _ (by simp)]
    simp [go_sem]
  have hne : w.heap.size ≠ w2.heap.size := by omega
  have hne' : w2.heap.size ≠ w.heap.size := by omega
  have hlt1 : w.heap.size < w2.heap.size + 1 := by omega
  have hle1 : w.heap.size ≤ w2.heap.size := by omega
  have hbw : Below w.heap.size w z := ((Below.refl _ w).alloc (Nat.le_refl _) _).trans ((HB1.out.mono (by simp)).trans (((Below.refl _ w2).alloc (by omega) _).trans (hb3.mono (by simp; omega))))
  obtain ⟨hc, hf⟩ := bcell hb3
  go_wp2_with fail
  refine (CN.out _).mono ?_
  rintro e w4 ⟨rfl, hb4⟩
  have hsz4 := hb4.size
  simp at hsz4
  have g40 : w4.cell? ⟨w.heap.size, 0, none⟩ = some (.int .i64 0) := ((bcell hb4).1 w.heap.size 0 (by simp; omega)).trans (by simp [go_sem, hc, gz0, hA1, hlt1])
  have g41 : w4.cell? ⟨w.heap.size, 1, none⟩ = some (.int .u64 0) := ((bcell hb4).1 w.heap.size 1 (by simp; omega)).trans (by simp [go_sem, hc, gz1, hA1, hlt1])
  have f40 : w4.frozen? ⟨w.heap.size, 0, none⟩ = false := ((bcell hb4).2 w.heap.size 0 (by simp; omega)).trans (by simp [go_sem, hf, fz0, hA1, hlt1])
  have f41 : w4.frozen? ⟨w.heap.size, 1, none⟩ = false := ((bcell hb4).2 w.heap.size 1 (by simp; omega)).trans (by simp [go_sem, hf, fz0, hA1, hlt1])
  have hz4 : w.heap.size < w4.heap.size := by omega
  go_wp2_with fail
  refine bodyPost_ret (v := .agg #[.int .i64 (hiW (-M)), .int .u64 (loW (-M))]) (by simp [results, Try.results21, go_sem, g40, g41]) rfl ⟨rfl, ?_⟩
  exact (((hbw.setCell (by simp; omega) _).setCell (by simp; omega) _).trans (hb4.mono (by simp; omega))).setCell (by simp) _ |>.setCell (by simp) _

theorem r1mul_any (a b : Int) (w : World) (h1 : -4611686018427387904 ≤ a) (h2 : a ≤ 4611686018427387904) (k1 : -4611686018427387904 ≤ b) (k2 : b ≤ 4611686018427387904) :
    Calls Try.prog 21 #[.int .i64 a, .int .i64 b] w fun e w' => e = .returned (.agg #[.int .i64 (hiW (a * b)), .int .u64 (loW (a * b))]) ∧ Below w.heap.size w w' := by
  have wn : ∀ n : Int, -4611686018427387904 ≤ n → n < 0 → IntKind.u64.wrap (-IntKind.u64.wrap n) = -n := fun n h k => by rw [IntKind.wrap_u64, IntKind.wrap_u64]; omega
  rcases (by omega : a < 0 ∨ 0 ≤ a) with ha | ha <;> rcases (by omega : b < 0 ∨ 0 ≤ b) with hb | hb
  · rw [← Int.neg_mul_neg a b]
    exact r1mul_nn a b (-a) (-b) w (by omega) (by omega) (by omega) (by omega) (wn a h1 ha) ha (wn b k1 hb) hb
  · rw [show a * b = -(-a * b) by rw [Int.neg_mul, Int.neg_neg]]
    exact r1mul_np a b (-a) b w (by omega) (by omega) (by omega) (by omega) (wn a h1 ha) ha hb rfl
  · rw [show a * b = -(a * -b) by rw [Int.mul_neg, Int.neg_neg]]
    exact r1mul_pn a b a (-b) w (by omega) (by omega) (by omega) (by omega) ha rfl (wn b k1 hb) hb
  · exact r1mul_pp a b a b w (by omega) (by omega) (by omega) (by omega) ha rfl hb rfl

end Go.Proofs.Ytljmhenhibhbfaa
