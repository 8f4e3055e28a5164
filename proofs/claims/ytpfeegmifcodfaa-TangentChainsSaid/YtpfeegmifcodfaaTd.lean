/- Contracts of package tangent, fourth part: the vectors at a corner. -/
import Derived.Test.YtpfeegmifcodfaaTc
import Derived.Test.YtpfeegmifcodfaaVec
import Derived.RegionTactic
import Derived.ChangeAlike
import Derived.Deep.DeepCutAuto
namespace Go.Proofs.Ytpfeegmifcodfaa
open Go.RowKit

def subP (p q : Int × Int) : Int × Int := (p.1 - q.1, p.2 - q.2)
def atP (l : List (Int × Int)) (i : Nat) : Int × Int := l.getD i (0, 0)
def cornerU (closed : Bool) (l : List (Int × Int)) (j : Nat) : Int × Int := if closed = true ∨ 0 < j then subP (atP l j) (atP l (if j = 0 then l.length - 1 else j - 1)) else (0, 0)
def cornerV (closed : Bool) (l : List (Int × Int)) (j : Nat) : Int × Int := if closed = true ∨ j + 1 < l.length then subP (atP l (if j + 1 = l.length then 0 else j + 1)) (atP l j) else (0, 0)
def cornerS (closed : Bool) (l : List (Int × Int)) (i : Int) : (Int × Int) × (Int × Int) :=
  if i < 0 ∨ (l.length : Int) ≤ i then ((0, 0), (0, 0)) else (cornerU closed l i.toNat, cornerV closed l i.toNat)
def HalfP (p : Int × Int) : Prop := (-536870912 ≤ p.1 ∧ p.1 ≤ 536870912) ∧ (-536870912 ≤ p.2 ∧ p.2 ≤ 536870912)

set_option maxHeartbeats 1000000 in
theorem corner_out (closed : Bool) (a : Option Addr) (n c : Nat) (l : List (Int × Int)) (i : Int) (w : World) (hl : l.length = n) (hi : i < 0 ∨ (n : Int) ≤ i) :
    Calls Try.prog 19 #[.agg #[.slice a n c, .bool closed], .int .i64 i] w
      fun e w' => e = .returned (.tuple #[.agg #[.int .i64 (cornerS closed l i).1.1, .int .i64 (cornerS closed l i).1.2], .agg #[.int .i64 (cornerS closed l i).2.1, .int .i64 (cornerS closed l i).2.2]]) ∧ Below w.heap.size w w' := by
  have HE : Hid (cornerS closed l i = ((0, 0), (0, 0))) := Lib.hid (by unfold cornerS; rw [if_pos (by omega)])
  have hi' : i < 0 ∨ (¬ i < 0 ∧ (n : Int) ≤ i) := by omega
  rcases hi' with h | ⟨h, k⟩
  · go_enter Try.func19, Try.ntmps19
    go_wp2_with fail
    go_region
    all_goals
      go_wp2_with fail
      exact bodyPost_ret (v := .tuple #[.agg #[.int .i64 0, .int .i64 0], .agg #[.int .i64 0, .int .i64 0]]) (by simp [results, Try.results19, go_sem]) rfl ⟨by rw [HE.out], by (repeat (first | exact Below.refl _ _ | assumption | refine Below.drew ?_ | refine Below.setCell ?_ (by simp; try omega) _ | refine Below.alloc ?_ (by simp; try omega) _))⟩
  · go_enter Try.func19, Try.ntmps19
    go_wp2_with fail
    go_region
    all_goals
      go_wp2_with fail
      exact bodyPost_ret (v := .tuple #[.agg #[.int .i64 0, .int .i64 0], .agg #[.int .i64 0, .int .i64 0]]) (by simp [results, Try.results19, go_sem]) rfl ⟨by rw [HE.out], by (repeat (first | exact Below.refl _ _ | assumption | refine Below.drew ?_ | refine Below.setCell ?_ (by simp; try omega) _ | refine Below.alloc ?_ (by simp; try omega) _))⟩

theorem RPts.form {w : World} {B : Nat} {a : Option Addr} {n : Nat} {l : List (Int × Int)} (h : RPts w B a n l) (h0 : 0 < n) : ∃ b off, a = some ⟨b, off, none⟩ ∧ b < B ∧
    ∀ k, k < n → w.cell? ⟨b, off + k * 2, none⟩ = some (.int .i64 (atP l k).1) ∧ w.cell? ⟨b, off + k * 2 + 1, none⟩ = some (.int .i64 (atP l k).2) := by
  have hl := h.1
  obtain ⟨b, off, ha, hb, _⟩ := h.2 0 l[0] (List.getElem?_eq_getElem (by omega))
  refine ⟨b, off, ha, hb, fun k hk => ?_⟩
  obtain ⟨b', off', ha', _, hc, hc'⟩ := h.2 k (l[k]'(by omega)) (List.getElem?_eq_getElem (by omega))
  rw [ha, Option.some.injEq, Addr.mk.injEq] at ha'
  obtain ⟨rfl, rfl, _⟩ := ha'
  have e : atP l k = l[k]'(by omega) := by unfold atP; rw [List.getD_eq_getElem?_getD, List.getElem?_eq_getElem (by omega)]; rfl
  rw [e]
  exact ⟨hc, hc'⟩

/-- What Corner's blocks hold. -/
def CSt (w W : World) (sl : Value) (closed : Bool) (u v q : Int × Int) : Prop :=
  Blk W w.heap.size 36 #[sl, .bool closed] ∧ Blk W (w.heap.size + 1) 23 #[.int .i64 u.1, .int .i64 u.2] ∧ Blk W (w.heap.size + 1 + 1) 23 #[.int .i64 v.1, .int .i64 v.2] ∧
    Blk W (w.heap.size + 1 + 1 + 1) 23 #[.int .i64 q.1, .int .i64 q.2] ∧ Below w.heap.size w W
theorem CSt.start (w : World) (sl : Value) (closed : Bool) (q : Int × Int) : CSt w ((((w.alloc (.cells #[sl, .bool closed] 36)).alloc (.cells #[.int .i64 0, .int .i64 0] 23)).alloc (.cells #[.int .i64 0, .int .i64 0] 23)).alloc
    (.cells #[.int .i64 q.1, .int .i64 q.2] 23)) sl closed (0, 0) (0, 0) q := by
  refine ⟨(((Blk.new w _ _).alloc _).alloc _).alloc _, ?_, ?_, ?_, by (repeat (first | exact Below.refl _ _ | assumption | refine Below.drew ?_ | refine Below.setCell ?_ (by simp; try omega) _ | refine Below.alloc ?_ (by simp; try omega) _))⟩
  · have h := ((Blk.new (w.alloc (.cells #[sl, .bool closed] 36)) 23 #[.int .i64 0, .int .i64 0]).alloc (.cells #[.int .i64 0, .int .i64 0] 23)).alloc (.cells #[.int .i64 q.1, .int .i64 q.2] 23)
    simpa only [World.size_alloc] using h
  · have h := (Blk.new ((w.alloc (.cells #[sl, .bool closed] 36)).alloc (.cells #[.int .i64 0, .int .i64 0] 23)) 23 #[.int .i64 0, .int .i64 0]).alloc (.cells #[.int .i64 q.1, .int .i64 q.2] 23)
    simpa only [World.size_alloc] using h
  · have h := Blk.new (((w.alloc (.cells #[sl, .bool closed] 36)).alloc (.cells #[.int .i64 0, .int .i64 0] 23)).alloc (.cells #[.int .i64 0, .int .i64 0] 23)) 23 #[.int .i64 q.1, .int .i64 q.2]
    simpa only [World.size_alloc] using h
section
variable {w W W' : World} {sl : Value} {closed : Bool} {u v q : Int × Int}
theorem CSt.grow (h : CSt w W sl closed u v q) (hb : Below W.heap.size W W') : CSt w W' sl closed u v q :=
  ⟨h.1.grow hb, h.2.1.grow hb, h.2.2.1.grow hb, h.2.2.2.1.grow hb, h.2.2.2.2.trans (hb.mono h.2.2.2.2.size)⟩
theorem CSt.drew (h : CSt w W sl closed u v q) : CSt w W.drew sl closed u v q := ⟨h.1, h.2.1, h.2.2.1, h.2.2.2.1, h.2.2.2.2.drew⟩
theorem CSt.setU (h : CSt w W sl closed u v q) (x y : Int) : CSt w ((W.setCell ⟨w.heap.size + 1, 0, none⟩ (.int .i64 x)).setCell ⟨w.heap.size + 1, 1, none⟩ (.int .i64 y)) sl closed (x, y) v q :=
  ⟨(h.1.far (by omega) _).far (by omega) _, (h.2.1.set 0 _).set 1 _, (h.2.2.1.far (by omega) _).far (by omega) _, (h.2.2.2.1.far (by omega) _).far (by omega) _, (h.2.2.2.2.setCell (by simp) _).setCell (by simp) _⟩
theorem CSt.setV (h : CSt w W sl closed u v q) (x y : Int) : CSt w ((W.setCell ⟨w.heap.size + 1 + 1, 0, none⟩ (.int .i64 x)).setCell ⟨w.heap.size + 1 + 1, 1, none⟩ (.int .i64 y)) sl closed u (x, y) q :=
  ⟨(h.1.far (by omega) _).far (by omega) _, (h.2.1.far (by omega) _).far (by omega) _, (h.2.2.1.set 0 _).set 1 _, (h.2.2.2.1.far (by omega) _).far (by omega) _, (h.2.2.2.2.setCell (by simp; omega) _).setCell (by simp; omega) _⟩
theorem CSt.size (h : CSt w W sl closed u v q) : w.heap.size + 1 + 1 + 1 < W.heap.size := h.2.2.2.1.lt
end

set_option maxHeartbeats 1000000 in
theorem corner_in (closed : Bool) (a : Option Addr) (n c : Nat) (l : List (Int × Int)) (j : Nat) (w : World) (hn : n ≤ 1099511627776) (hl : RPts w w.heap.size a n l) (hb : ∀ p ∈ l, HalfP p) (hj : j < n) :
    Calls Try.prog 19 #[.agg #[.slice a n c, .bool closed], .int .i64 j] w
      fun e w' => e = .returned (.tuple #[.agg #[.int .i64 (cornerU closed l j).1, .int .i64 (cornerU closed l j).2], .agg #[.int .i64 (cornerV closed l j).1, .int .i64 (cornerV closed l j).2]]) ∧ Below w.heap.size w w' := by
  obtain ⟨b, off, rfl, hbB, hcell⟩ := hl.form (by omega)
  have hP : ∀ k, k < n → HalfP (atP l k) := fun k hk => by
    unfold atP
    rw [List.getD_eq_getElem?_getD, List.getElem?_eq_getElem (by rw [hl.1]; exact hk)]
    exact hb _ (List.getElem_mem _)
  have hln := hl.1
  have HL := Lib.hid hl
  clear hl hb
  obtain ⟨pj, hpj⟩ : ∃ pj, pj = if j = 0 then n - 1 else j - 1 := ⟨_, rfl⟩
  obtain ⟨nj, hnj⟩ : ∃ nj, nj = if j + 1 = n then 0 else j + 1 := ⟨_, rfl⟩
  have hpl : pj < n := by rw [hpj]; split <;> omega
  have hnl : nj < n := by rw [hnj]; split <;> omega
  obtain ⟨c1, c2⟩ := hcell j hj
  obtain ⟨c3, c4⟩ := hcell pj hpl
  obtain ⟨c5, c6⟩ := hcell nj hnl
  obtain ⟨⟨q1, q2⟩, ⟨q3, q4⟩⟩ := hP j hj
  obtain ⟨⟨r1, r2⟩, ⟨r3, r4⟩⟩ := hP pj hpl
  obtain ⟨⟨s1, s2⟩, ⟨s3, s4⟩⟩ := hP nj hnl
  have HU : Hid (cornerU closed l j = if closed = true ∨ 0 < j then subP (atP l j) (atP l pj) else (0, 0)) := Lib.hid (by unfold cornerU; rw [hpj, hln])
  have HV : Hid (cornerV closed l j = if closed = true ∨ j + 1 < n then subP (atP l nj) (atP l j) else (0, 0)) := Lib.hid (by unfold cornerV; rw [hnj, hln])
  have m1 : ((j : Int) + n - 1) % n = pj := by
    rw [hpj]
    split
    · subst_vars; rw [Int.emod_eq_of_lt (by omega) (by omega)]; omega
    · rw [show ((j : Int) + n - 1) = (j - 1 : Int) + n by omega, Int.add_emod_right, Int.emod_eq_of_lt (by omega) (by omega)]; omega
  have m2 : ((j : Int) + 1) % n = nj := by
    rw [hnj]
    split
    · rw [show ((j : Int) + 1) = n by omega, Int.emod_self]; rfl
    · rw [Int.emod_eq_of_lt (by omega) (by omega)]; omega
  have M1 := Lib.hid m1
  have M2 := Lib.hid m2
  clear m1 m2 hpj hnj hln hcell hP
  generalize atP l j = q at *
  generalize atP l pj = r at *
  generalize atP l nj = s at *
  obtain ⟨qx, qy⟩ := q
  obtain ⟨rx, ry⟩ := r
  obtain ⟨sx, sy⟩ := s
  simp only at *
  have m1 := M1.out
  have m2 := M2.out
  have hjn : ¬ n ≤ j := by omega
  have hl1 : b < w.heap.size + 1 := by omega
  have hl2 : b < w.heap.size + 1 + 1 := by omega
  have hl3 : b < w.heap.size + 1 + 1 + 1 := by omega
  have dn : decide ((j : Int) < 0) = false := by simp
  have hcase : closed = true ∨ (closed = false ∧ 0 < j ∧ j + 1 < n) ∨ (closed = false ∧ 0 < j ∧ ¬ j + 1 < n) ∨ (closed = false ∧ ¬ 0 < j ∧ j + 1 < n) ∨ (closed = false ∧ ¬ 0 < j ∧ ¬ j + 1 < n) := by
    cases closed <;> simp <;> omega
  have hint : (j + 1 < n → (j : Int) < (n : Int) - 1) ∧ (¬ j + 1 < n → ¬ (j : Int) < (n : Int) - 1) := by omega
  obtain ⟨hint1, hint2⟩ := hint
  rcases hcase with rfl | ⟨rfl, h0, h1⟩ | ⟨rfl, h0, h1⟩ | ⟨rfl, h0, h1⟩ | ⟨rfl, h0, h1⟩
  · have HU' : Hid (cornerU true l j = (qx - rx, qy - ry)) := Lib.hid (by rw [HU.out]; rw [if_pos (by simp; try omega)]; rfl)
    have HV' : Hid (cornerV true l j = (sx - qx, sy - qy)) := Lib.hid (by rw [HV.out]; rw [if_pos (by simp; try omega)]; rfl)
    clear hint1 hint2
    clear HU HV
    go_enter Try.func19, Try.ntmps19
    go_upto_if 30 with fail
    go_cut [] (fun wx => CSt w wx (.slice (some ⟨b, off, none⟩) n c) true (qx - rx, qy - ry) (0, 0) (qx, qy))
    case first =>
      go_wp2_with fail
      refine Reg.wp_region_soft 11 (by first | exact hb2 | exact Below.refl _ _) (by kernel_rfl) (by kernel_rfl) (fun u => ?_)
      simp only [List.take, List.drop]
      repeat (go_big_quiet_step ((first | fail)))
      refine wpQuiet_nil ?_
      intro xs hxs
      have hbx := Reg.class_below hxs
      clear hxs
      go_wp2_with fail
      refine (sub_any _ _ _ _ _ (by omega) (by omega) (by omega) (by omega) (by omega) (by omega) (by omega) (by omega)).mono ?_
      rintro e w2 ⟨rfl, hb2⟩
      go_wp2_with fail
      refine ⟨rfl, hb2, fun z hz => ?_⟩
      have hb3 := hbx.trans ((hb2.trans (hz.mono hb2.size)).mono hbx.size)
      clear hz hb2 hbx
      obtain ⟨hc, hf⟩ := Reg.bcell hb3
      have hsz := hb3.size
      try simp at hsz
      go_wp2
      go_meet
      exact ((CSt.start w _ _ (qx, qy)).grow hb3).setU _ _
    case rest =>
      have hC := hcut
      obtain ⟨b1, b2, b3, b4, hbw⟩ := hcut
      have HC := Lib.hid hC
      clear hC
      have g0 : wc.cell? ⟨w.heap.size, 0, none⟩ = some (.slice (some ⟨b, off, none⟩) n c) := b1.cell 0
      have g1 : wc.cell? ⟨w.heap.size, 1, none⟩ = some (.bool true) := b1.cell 1
      go_upto_if 50 with fail
      go_cut [] (fun wx => CSt w wx (.slice (some ⟨b, off, none⟩) n c) true (qx - rx, qy - ry) (sx - qx, sy - qy) (qx, qy))
      case first =>
        have g2 : wc.cell? ⟨w.heap.size + 1 + 1 + 1, 0, none⟩ = some (.int .i64 qx) := b4.cell 0
        have g3 : wc.cell? ⟨w.heap.size + 1 + 1 + 1, 1, none⟩ = some (.int .i64 qy) := b4.cell 1
        have hcw := (bcell hbw).1
        go_wp2_with fail
        have hs0 := b1.lt
        have hs3 := b4.lt
        have hsb : b < wc.heap.size := by omega
        refine Reg.wp_region_soft 9 (by first | exact hb2 | exact Below.refl _ _) (by kernel_rfl) (by kernel_rfl) (fun u => ?_)
        simp only [List.take, List.drop]
        repeat (go_big_quiet_step ((first | fail)))
        refine wpQuiet_nil ?_
        intro xs hxs
        have hbx := Reg.class_below hxs
        clear hxs
        go_wp2_with fail
        refine (sub_any _ _ _ _ _ (by omega) (by omega) (by omega) (by omega) (by omega) (by omega) (by omega) (by omega)).mono ?_
        rintro e w2 ⟨rfl, hb2⟩
        go_wp2_with fail
        refine ⟨rfl, hb2, fun z hz => ?_⟩
        have hb3 := hbx.trans ((hb2.trans (hz.mono hb2.size)).mono hbx.size)
        clear hz hb2 hbx
        obtain ⟨hc, hf⟩ := Reg.bcell hb3
        have hsz := hb3.size
        try simp at hsz
        have hs2 := b3.lt
        have k0 : wc.cell? ⟨w.heap.size + 1 + 1, 0, none⟩ = some (.int .i64 0) := b3.cell 0
        have k1 : wc.cell? ⟨w.heap.size + 1 + 1, 1, none⟩ = some (.int .i64 0) := b3.cell 1
        have kf := b3.unfrozen
        go_wp2
        go_meet
        exact (HC.out.grow hb3).setV _ _
      case rest =>
        clear g0 g1 b1 b2 b3 b4 hbw HC
        have hC := hcut
        obtain ⟨b1, b2, b3, b4, hbw⟩ := hcut
        have HC := Lib.hid hC
        clear hC
        have g0 : wc.cell? ⟨w.heap.size + 1, 0, none⟩ = some (.int .i64 (qx - rx)) := b2.cell 0
        have g1 : wc.cell? ⟨w.heap.size + 1, 1, none⟩ = some (.int .i64 (qy - ry)) := b2.cell 1
        have k0 : wc.cell? ⟨w.heap.size + 1 + 1, 0, none⟩ = some (.int .i64 (sx - qx)) := b3.cell 0
        have k1 : wc.cell? ⟨w.heap.size + 1 + 1, 1, none⟩ = some (.int .i64 (sy - qy)) := b3.cell 1
        have gf := b2.unfrozen
        have kf := b3.unfrozen
        have hs1 := b2.lt
        have hs2 := b3.lt
        go_wp2_with fail
        go_region
        all_goals
          go_wp2_with fail
          have hF := ((HC.out.setU (qx - rx) (qy - ry)).setV (sx - qx) (sy - qy)).drew
          refine bodyPost_ret (res_pt2 hF.2.1 hF.2.2.1 rfl rfl rfl rfl rfl rfl rfl) rfl ⟨?_, hF.2.2.2.2⟩
          rw [HU'.out, HV'.out]
          rfl
  · have HU' : Hid (cornerU false l j = (qx - rx, qy - ry)) := Lib.hid (by rw [HU.out]; rw [if_pos (by simp; try omega)]; rfl)
    have HV' : Hid (cornerV false l j = (sx - qx, sy - qy)) := Lib.hid (by rw [HV.out]; rw [if_pos (by simp; try omega)]; rfl)
    have e1 := hint1 h1
    clear hint1 hint2
    clear HU HV
    go_enter Try.func19, Try.ntmps19
    go_upto_if 30 with fail
    go_cut [] (fun wx => CSt w wx (.slice (some ⟨b, off, none⟩) n c) false (qx - rx, qy - ry) (0, 0) (qx, qy))
    case first =>
      go_wp2_with fail
      refine Reg.wp_region_soft 11 (by first | exact hb2 | exact Below.refl _ _) (by kernel_rfl) (by kernel_rfl) (fun u => ?_)
      simp only [List.take, List.drop]
      repeat (go_big_quiet_step ((first | fail)))
      refine wpQuiet_nil ?_
      intro xs hxs
      have hbx := Reg.class_below hxs
      clear hxs
      go_wp2_with fail
      refine (sub_any _ _ _ _ _ (by omega) (by omega) (by omega) (by omega) (by omega) (by omega) (by omega) (by omega)).mono ?_
      rintro e w2 ⟨rfl, hb2⟩
      go_wp2_with fail
      refine ⟨rfl, hb2, fun z hz => ?_⟩
      have hb3 := hbx.trans ((hb2.trans (hz.mono hb2.size)).mono hbx.size)
      clear hz hb2 hbx
      obtain ⟨hc, hf⟩ := Reg.bcell hb3
      have hsz := hb3.size
      try simp at hsz
      go_wp2
      go_meet
      exact ((CSt.start w _ _ (qx, qy)).grow hb3).setU _ _
    case rest =>
      have hC := hcut
      obtain ⟨b1, b2, b3, b4, hbw⟩ := hcut
      have HC := Lib.hid hC
      clear hC
      have g0 : wc.cell? ⟨w.heap.size, 0, none⟩ = some (.slice (some ⟨b, off, none⟩) n c) := b1.cell 0
      have g1 : wc.cell? ⟨w.heap.size, 1, none⟩ = some (.bool false) := b1.cell 1
      go_upto_if 50 with fail
      go_cut [] (fun wx => CSt w wx (.slice (some ⟨b, off, none⟩) n c) false (qx - rx, qy - ry) (sx - qx, sy - qy) (qx, qy))
      case first =>
        have g2 : wc.cell? ⟨w.heap.size + 1 + 1 + 1, 0, none⟩ = some (.int .i64 qx) := b4.cell 0
        have g3 : wc.cell? ⟨w.heap.size + 1 + 1 + 1, 1, none⟩ = some (.int .i64 qy) := b4.cell 1
        have hcw := (bcell hbw).1
        go_wp2_with fail
        have hs0 := b1.lt
        have hs3 := b4.lt
        have hsb : b < wc.heap.size := by omega
        refine Reg.wp_region_soft 9 (by first | exact hb2 | exact Below.refl _ _) (by kernel_rfl) (by kernel_rfl) (fun u => ?_)
        simp only [List.take, List.drop]
        repeat (go_big_quiet_step ((first | fail)))
        refine wpQuiet_nil ?_
        intro xs hxs
        have hbx := Reg.class_below hxs
        clear hxs
        go_wp2_with fail
        refine (sub_any _ _ _ _ _ (by omega) (by omega) (by omega) (by omega) (by omega) (by omega) (by omega) (by omega)).mono ?_
        rintro e w2 ⟨rfl, hb2⟩
        go_wp2_with fail
        refine ⟨rfl, hb2, fun z hz => ?_⟩
        have hb3 := hbx.trans ((hb2.trans (hz.mono hb2.size)).mono hbx.size)
        clear hz hb2 hbx
        obtain ⟨hc, hf⟩ := Reg.bcell hb3
        have hsz := hb3.size
        try simp at hsz
        have hs2 := b3.lt
        have k0 : wc.cell? ⟨w.heap.size + 1 + 1, 0, none⟩ = some (.int .i64 0) := b3.cell 0
        have k1 : wc.cell? ⟨w.heap.size + 1 + 1, 1, none⟩ = some (.int .i64 0) := b3.cell 1
        have kf := b3.unfrozen
        go_wp2
        go_meet
        exact (HC.out.grow hb3).setV _ _
      case rest =>
        clear g0 g1 b1 b2 b3 b4 hbw HC
        have hC := hcut
        obtain ⟨b1, b2, b3, b4, hbw⟩ := hcut
        have HC := Lib.hid hC
        clear hC
        have g0 : wc.cell? ⟨w.heap.size + 1, 0, none⟩ = some (.int .i64 (qx - rx)) := b2.cell 0
        have g1 : wc.cell? ⟨w.heap.size + 1, 1, none⟩ = some (.int .i64 (qy - ry)) := b2.cell 1
        have k0 : wc.cell? ⟨w.heap.size + 1 + 1, 0, none⟩ = some (.int .i64 (sx - qx)) := b3.cell 0
        have k1 : wc.cell? ⟨w.heap.size + 1 + 1, 1, none⟩ = some (.int .i64 (sy - qy)) := b3.cell 1
        have gf := b2.unfrozen
        have kf := b3.unfrozen
        have hs1 := b2.lt
        have hs2 := b3.lt
        go_wp2_with fail
        go_region
        all_goals
          go_wp2_with fail
          have hF := ((HC.out.setU (qx - rx) (qy - ry)).setV (sx - qx) (sy - qy)).drew
          refine bodyPost_ret (res_pt2 hF.2.1 hF.2.2.1 rfl rfl rfl rfl rfl rfl rfl) rfl ⟨?_, hF.2.2.2.2⟩
          rw [HU'.out, HV'.out]
          rfl
  · have HU' : Hid (cornerU false l j = (qx - rx, qy - ry)) := Lib.hid (by rw [HU.out]; rw [if_pos (by simp; try omega)]; rfl)
    have HV' : Hid (cornerV false l j = (0, 0)) := Lib.hid (by rw [HV.out]; rw [if_neg (by simp; try omega)])
    have e1 := hint2 h1
    clear hint1 hint2
    clear HU HV
    go_enter Try.func19, Try.ntmps19
    go_upto_if 30 with fail
    go_cut [] (fun wx => CSt w wx (.slice (some ⟨b, off, none⟩) n c) false (qx - rx, qy - ry) (0, 0) (qx, qy))
    case first =>
      go_wp2_with fail
      refine Reg.wp_region_soft 11 (by first | exact hb2 | exact Below.refl _ _) (by kernel_rfl) (by kernel_rfl) (fun u => ?_)
      simp only [List.take, List.drop]
      repeat (go_big_quiet_step ((first | fail)))
      refine wpQuiet_nil ?_
      intro xs hxs
      have hbx := Reg.class_below hxs
      clear hxs
      go_wp2_with fail
      refine (sub_any _ _ _ _ _ (by omega) (by omega) (by omega) (by omega) (by omega) (by omega) (by omega) (by omega)).mono ?_
      rintro e w2 ⟨rfl, hb2⟩
      go_wp2_with fail
      refine ⟨rfl, hb2, fun z hz => ?_⟩
      have hb3 := hbx.trans ((hb2.trans (hz.mono hb2.size)).mono hbx.size)
      clear hz hb2 hbx
      obtain ⟨hc, hf⟩ := Reg.bcell hb3
      have hsz := hb3.size
      try simp at hsz
      go_wp2
      go_meet
      exact ((CSt.start w _ _ (qx, qy)).grow hb3).setU _ _
    case rest =>
      have hC := hcut
      obtain ⟨b1, b2, b3, b4, hbw⟩ := hcut
      have HC := Lib.hid hC
      clear hC
      have g0 : wc.cell? ⟨w.heap.size, 0, none⟩ = some (.slice (some ⟨b, off, none⟩) n c) := b1.cell 0
      have g1 : wc.cell? ⟨w.heap.size, 1, none⟩ = some (.bool false) := b1.cell 1
      go_upto_if 50 with fail
      go_cut [] (fun wx => CSt w wx (.slice (some ⟨b, off, none⟩) n c) false (qx - rx, qy - ry) (0, 0) (qx, qy))
      case first =>
        go_wp2_with fail
        go_meet
        exact HC.out
      case rest =>
        clear g0 g1 b1 b2 b3 b4 hbw HC
        have hC := hcut
        obtain ⟨b1, b2, b3, b4, hbw⟩ := hcut
        have HC := Lib.hid hC
        clear hC
        have g0 : wc.cell? ⟨w.heap.size + 1, 0, none⟩ = some (.int .i64 (qx - rx)) := b2.cell 0
        have g1 : wc.cell? ⟨w.heap.size + 1, 1, none⟩ = some (.int .i64 (qy - ry)) := b2.cell 1
        have k0 : wc.cell? ⟨w.heap.size + 1 + 1, 0, none⟩ = some (.int .i64 0) := b3.cell 0
        have k1 : wc.cell? ⟨w.heap.size + 1 + 1, 1, none⟩ = some (.int .i64 0) := b3.cell 1
        have gf := b2.unfrozen
        have kf := b3.unfrozen
        have hs1 := b2.lt
        have hs2 := b3.lt
        go_wp2_with fail
        go_region
        all_goals
          go_wp2_with fail
          have hF := ((HC.out.setU (qx - rx) (qy - ry)).setV 0 0).drew
          refine bodyPost_ret (res_pt2 hF.2.1 hF.2.2.1 rfl rfl rfl rfl rfl rfl rfl) rfl ⟨?_, hF.2.2.2.2⟩
          rw [HU'.out, HV'.out]
          rfl
  · have HU' : Hid (cornerU false l j = (0, 0)) := Lib.hid (by rw [HU.out]; rw [if_neg (by simp; try omega)])
    have HV' : Hid (cornerV false l j = (sx - qx, sy - qy)) := Lib.hid (by rw [HV.out]; rw [if_pos (by simp; try omega)]; rfl)
    have e1 := hint1 h1
    have e0 : ¬ (0 : Int) < (j : Int) := by omega
    clear hint1 hint2
    clear HU HV
    go_enter Try.func19, Try.ntmps19
    go_upto_if 30 with fail
    go_cut [] (fun wx => CSt w wx (.slice (some ⟨b, off, none⟩) n c) false (0, 0) (0, 0) (qx, qy))
    case first =>
      go_wp2_with fail
      go_meet
      exact CSt.start w _ _ (qx, qy)
    case rest =>
      have hC := hcut
      obtain ⟨b1, b2, b3, b4, hbw⟩ := hcut
      have HC := Lib.hid hC
      clear hC
      have g0 : wc.cell? ⟨w.heap.size, 0, none⟩ = some (.slice (some ⟨b, off, none⟩) n c) := b1.cell 0
      have g1 : wc.cell? ⟨w.heap.size, 1, none⟩ = some (.bool false) := b1.cell 1
      go_upto_if 50 with fail
      go_cut [] (fun wx => CSt w wx (.slice (some ⟨b, off, none⟩) n c) false (0, 0) (sx - qx, sy - qy) (qx, qy))
      case first =>
        have g2 : wc.cell? ⟨w.heap.size + 1 + 1 + 1, 0, none⟩ = some (.int .i64 qx) := b4.cell 0
        have g3 : wc.cell? ⟨w.heap.size + 1 + 1 + 1, 1, none⟩ = some (.int .i64 qy) := b4.cell 1
        have hcw := (bcell hbw).1
        go_wp2_with fail
        have hs0 := b1.lt
        have hs3 := b4.lt
        have hsb : b < wc.heap.size := by omega
        refine Reg.wp_region_soft 9 (by first | exact hb2 | exact Below.refl _ _) (by kernel_rfl) (by kernel_rfl) (fun u => ?_)
        simp only [List.take, List.drop]
        repeat (go_big_quiet_step ((first | fail)))
        refine wpQuiet_nil ?_
        intro xs hxs
        have hbx := Reg.class_below hxs
        clear hxs
        go_wp2_with fail
        refine (sub_any _ _ _ _ _ (by omega) (by omega) (by omega) (by omega) (by omega) (by omega) (by omega) (by omega)).mono ?_
        rintro e w2 ⟨rfl, hb2⟩
        go_wp2_with fail
        refine ⟨rfl, hb2, fun z hz => ?_⟩
        have hb3 := hbx.trans ((hb2.trans (hz.mono hb2.size)).mono hbx.size)
        clear hz hb2 hbx
        obtain ⟨hc, hf⟩ := Reg.bcell hb3
        have hsz := hb3.size
        try simp at hsz
        have hs2 := b3.lt
        have k0 : wc.cell? ⟨w.heap.size + 1 + 1, 0, none⟩ = some (.int .i64 0) := b3.cell 0
        have k1 : wc.cell? ⟨w.heap.size + 1 + 1, 1, none⟩ = some (.int .i64 0) := b3.cell 1
        have kf := b3.unfrozen
        go_wp2
        go_meet
        exact (HC.out.grow hb3).setV _ _
      case rest =>
        clear g0 g1 b1 b2 b3 b4 hbw HC
        have hC := hcut
        obtain ⟨b1, b2, b3, b4, hbw⟩ := hcut
        have HC := Lib.hid hC
        clear hC
        have g0 : wc.cell? ⟨w.heap.size + 1, 0, none⟩ = some (.int .i64 0) := b2.cell 0
        have g1 : wc.cell? ⟨w.heap.size + 1, 1, none⟩ = some (.int .i64 0) := b2.cell 1
        have k0 : wc.cell? ⟨w.heap.size + 1 + 1, 0, none⟩ = some (.int .i64 (sx - qx)) := b3.cell 0
        have k1 : wc.cell? ⟨w.heap.size + 1 + 1, 1, none⟩ = some (.int .i64 (sy - qy)) := b3.cell 1
        have gf := b2.unfrozen
        have kf := b3.unfrozen
        have hs1 := b2.lt
        have hs2 := b3.lt
        go_wp2_with fail
        go_region
        all_goals
          go_wp2_with fail
          have hF := ((HC.out.setU 0 0).setV (sx - qx) (sy - qy)).drew
          refine bodyPost_ret (res_pt2 hF.2.1 hF.2.2.1 rfl rfl rfl rfl rfl rfl rfl) rfl ⟨?_, hF.2.2.2.2⟩
          rw [HU'.out, HV'.out]
          rfl
  · have HU' : Hid (cornerU false l j = (0, 0)) := Lib.hid (by rw [HU.out]; rw [if_neg (by simp; try omega)])
    have HV' : Hid (cornerV false l j = (0, 0)) := Lib.hid (by rw [HV.out]; rw [if_neg (by simp; try omega)])
    have e1 := hint2 h1
    have e0 : ¬ (0 : Int) < (j : Int) := by omega
    clear hint1 hint2
    clear HU HV
    go_enter Try.func19, Try.ntmps19
    go_upto_if 30 with fail
    go_cut [] (fun wx => CSt w wx (.slice (some ⟨b, off, none⟩) n c) false (0, 0) (0, 0) (qx, qy))
    case first =>
      go_wp2_with fail
      go_meet
      exact CSt.start w _ _ (qx, qy)
    case rest =>
      have hC := hcut
      obtain ⟨b1, b2, b3, b4, hbw⟩ := hcut
      have HC := Lib.hid hC
      clear hC
      have g0 : wc.cell? ⟨w.heap.size, 0, none⟩ = some (.slice (some ⟨b, off, none⟩) n c) := b1.cell 0
      have g1 : wc.cell? ⟨w.heap.size, 1, none⟩ = some (.bool false) := b1.cell 1
      go_upto_if 50 with fail
      go_cut [] (fun wx => CSt w wx (.slice (some ⟨b, off, none⟩) n c) false (0, 0) (0, 0) (qx, qy))
      case first =>
        go_wp2_with fail
        go_meet
        exact HC.out
      case rest =>
        clear g0 g1 b1 b2 b3 b4 hbw HC
        have hC := hcut
        obtain ⟨b1, b2, b3, b4, hbw⟩ := hcut
        have HC := Lib.hid hC
        clear hC
        have g0 : wc.cell? ⟨w.heap.size + 1, 0, none⟩ = some (.int .i64 0) := b2.cell 0
        have g1 : wc.cell? ⟨w.heap.size + 1, 1, none⟩ = some (.int .i64 0) := b2.cell 1
        have k0 : wc.cell? ⟨w.heap.size + 1 + 1, 0, none⟩ = some (.int .i64 0) := b3.cell 0
        have k1 : wc.cell? ⟨w.heap.size + 1 + 1, 1, none⟩ = some (.int .i64 0) := b3.cell 1
        have gf := b2.unfrozen
        have kf := b3.unfrozen
        have hs1 := b2.lt
        have hs2 := b3.lt
        go_wp2_with fail
        go_region
        all_goals
          go_wp2_with fail
          have hF := ((HC.out.setU 0 0).setV 0 0).drew
          refine bodyPost_ret (res_pt2 hF.2.1 hF.2.2.1 rfl rfl rfl rfl rfl rfl rfl) rfl ⟨?_, hF.2.2.2.2⟩
          rw [HU'.out, HV'.out]
          rfl

set_option maxHeartbeats 1000000 in
theorem corner_any (closed : Bool) (a : Option Addr) (n c : Nat) (l : List (Int × Int)) (i : Int) (w : World) (hn : n ≤ 1099511627776) (hl : RPts w w.heap.size a n l) (hb : ∀ p ∈ l, HalfP p) :
    Calls Try.prog 19 #[.agg #[.slice a n c, .bool closed], .int .i64 i] w
      fun e w' => e = .returned (.tuple #[.agg #[.int .i64 (cornerS closed l i).1.1, .int .i64 (cornerS closed l i).1.2], .agg #[.int .i64 (cornerS closed l i).2.1, .int .i64 (cornerS closed l i).2.2]]) ∧ Below w.heap.size w w' := by
  by_cases h : i < 0 ∨ (n : Int) ≤ i
  · exact corner_out closed a n c l i w hl.1 h
  · obtain ⟨j, rfl⟩ := Int.eq_ofNat_of_zero_le (show 0 ≤ i by omega)
    have e : cornerS closed l j = (cornerU closed l j, cornerV closed l j) := by
      unfold cornerS; rw [if_neg (by rw [hl.1]; exact h)]; rfl
    rw [e]
    exact corner_in closed a n c l j w hn hl hb (by omega)

end Go.Proofs.Ytpfeegmifcodfaa
