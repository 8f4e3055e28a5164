/- Contract of the reference's SameSubs: two readings of the same subpaths are the same. -/
import Derived.Test.YtjkpbkcbimojoaaPs
import Derived.Test.YtjkpbkcbimojoaaEql
namespace Go.Proofs.Ytjkpbkcbimojoaa
open Go.RowKit

set_option maxRecDepth 100000 in
set_option maxHeartbeats 4000000 in
theorem same_any (a b : Option Addr) (n m c d : Nat) (l : List SubS) (w : World) (hn : n ≤ 1000) (hl : RSubs w w.heap.size a n l) (hm : RSubs w w.heap.size b m l) (hs : ∀ s ∈ l, s.segs.length ≤ 1000) :
    Calls Try.prog 18 #[.slice a n c, .slice b m d] w fun e w' => e = .returned (.bool true) ∧ Below w.heap.size w w' := by
  have hnl := hl.1
  have hnm : m = n := by rw [← hm.1, hnl]
  subst hnm
  have HL := Lib.hid hl
  have HM := Lib.hid hm
  have HS := Lib.hid hs
  clear hl hm hs
  go_enter Try.func18, Try.ntmps18
  go_wp2_with fail
  go_loopw [5] (fun i wr => ∃ k : Nat, k ≤ m ∧ i = .int .i64 k ∧ Below w.heap.size w wr) (fun i _ => m - (intOf i).toNat)
  case atStart => exact ⟨0, Nat.zero_le _, rfl, Below.refl _ _⟩
  case round =>
    obtain ⟨k, hk, rfl, hb⟩ := hrel
    by_cases hlt : k < m
    · have hlk : k < l.length := by omega
      obtain ⟨sb, so, sa, sc, hsa, hsB, r0, r1, r2, r3, hsc, hseg⟩ := (HL.out.below hb).at_ k hlk
      obtain ⟨tb, to, ta, tc, hta, htB, q0, q1, q2, q3, htc, hteg⟩ := (HM.out.below hb).at_ k hlk
      subst hsa hta
      have hsm := HS.out l[k] (List.getElem_mem hlk)
      have hlw : sb < wr.heap.size := by have := hb.size; omega
      have hlt2 : tb < wr.heap.size := by have := hb.size; omega
      generalize l[k] = s at *
      obtain ⟨⟨sx, sy⟩, segs, cl⟩ := s
      simp only at r0 r1 r2 r3 q0 q1 q2 q3 hsm hsc hseg htc hteg
      have HSE := Lib.hid hseg
      have HTE := Lib.hid hteg
      have HRR := Lib.hid (And.intro r2 q2)
      clear hseg hteg
      have hlt' : (k : Int) < m := by omega
      obtain ⟨wk, rfl⟩ : ∃ wk : World, wk = wr := ⟨_, rfl⟩
      go_wp2_with fail
      refine Reg.wp_region_all (by first | exact hb2 | exact Below.refl _ _) (by kernel_rfl) (by kernel_rfl) ?_
      repeat (go_big_quiet_step ((first | fail)))
      refine wpQuiet_nil ?_
      intro xs hxs
      have hbx := Reg.class_below hxs
      clear hxs
      clear r0 r1 r2 r3 q0 q1 q2 q3
      go_wp2_with fail
      go_loopw [6] (fun j wr => ∃ i : Nat, i ≤ segs.length ∧ j = .int .i64 i ∧ Below wk.heap.size wk wr) (fun j _ => segs.length - (intOf j).toNat)
      case atStart => exact ⟨0, Nat.zero_le _, rfl, hbx⟩
      case round =>
        clear hbx
        obtain ⟨j, hj, rfl, hbi⟩ := hrel
        have r2 : wr.cell? ⟨sb, so + k * 4 + 2, none⟩ = some (.slice sa segs.length sc) := (hbi.cell (p := ⟨sb, so + k * 4 + 2, none⟩) hlw).trans HRR.out.1
        have q2 : wr.cell? ⟨tb, to + k * 4 + 2, none⟩ = some (.slice ta segs.length tc) := (hbi.cell (p := ⟨tb, to + k * 4 + 2, none⟩) hlt2).trans HRR.out.2
        by_cases hjl : j < segs.length
        · obtain ⟨gb, go, hga, hgB, e0, e1, e2, e3, e4, e5, e6, e7, e8⟩ := (HSE.out.below (hbi.mono hb.size)).at_ j hjl
          obtain ⟨fb, fo, hfa, hfB, f0, f1, f2, f3, f4, f5, f6, f7, f8⟩ := (HTE.out.below (hbi.mono hb.size)).at_ j hjl
          subst hga hfa
          have z1 : gb < wr.heap.size := by have := hb.size; have := hbi.size; omega
          have z2 : fb < wr.heap.size := by have := hb.size; have := hbi.size; omega
          have z3 : sb < wr.heap.size := by have := hbi.size; omega
          have z4 : tb < wr.heap.size := by have := hbi.size; omega
          generalize segs[j] = q at *
          obtain ⟨⟨y0, t0⟩, ⟨y1, t1⟩, ⟨y2, t2⟩, ⟨y3, t3⟩, qn⟩ := q
          simp only at e0 e1 e2 e3 e4 e5 e6 e7 e8 f0 f1 f2 f3 f4 f5 f6 f7 f8
          have heq := pts_eql y0 t0 y1 t1 y2 t2 y3 t3
          go_wp2_with fail
          refine Reg.wp_region_all (by first | exact hb2 | exact Below.refl _ _) (by kernel_rfl) (by kernel_rfl) ?_
          repeat (go_big_quiet_step ((first | fail)))
          refine wpQuiet_nil ?_
          intro xs hxs
          have hbx := Reg.class_below hxs
          clear hxs
          have hbk := hbi.trans (hbx.mono hbi.size)
          go_wp2_with fail
          exact ⟨⟨j + 1, by omega, by go_num, hbk⟩, by simp [intOf]; omega⟩
        · have hjl' : ¬ (j : Int) < segs.length := by omega
          have hbk := hb.trans (hbi.mono hb.size)
          go_wp2_with fail
          exact ⟨⟨k + 1, by omega, by go_num, hbk⟩, by simp [intOf]; omega⟩
    · have hlt' : ¬ (k : Int) < m := by omega
      go_wp2_with fail
      go_ret
      exact ⟨rfl, hb⟩
end Go.Proofs.Ytjkpbkcbimojoaa
