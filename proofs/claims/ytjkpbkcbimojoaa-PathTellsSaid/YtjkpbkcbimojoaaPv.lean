/- Contract of the reference's Split: the walk. -/
import Derived.Test.YtjkpbkcbimojoaaPu
namespace Go.Proofs.Ytjkpbkcbimojoaa
open Go.RowKit

set_option maxRecDepth 100000 in
set_option maxHeartbeats 20000000 in
theorem rsplit_ok (a b : Option Addr) (n m c d : Nat) (vs : List Int) (ps : List (Int × Int)) (w : World) (hmd : m ≤ d) (hd : d ≤ maxLen)
    (hm : m ≤ 9223372036854775807 / 2) (hv : RInts w w.heap.size a n vs) (hp : RPts w w.heap.size b m ps) (h0 : checkS vs ps = 0) :
    Calls Try.prog 12 #[.agg #[.slice a n c, .slice b m d]] w (SplitPost w (splitS vs ps) (checkS vs ps)) := by
  obtain ⟨iS, hiS, hz0S, hz1S, hz2S⟩ := info_parts infoRSub
  obtain ⟨iG, hiG, hz0G, hz1G, hz2G⟩ := info_parts infoRSeg
  have KC := Lib.hid (fun W (hW : Below w.heap.size w W) => rcheck_any a b n m c d vs ps W hm (hv.grow hW) (hp.grow hW))
  have HE : Hid (splitS vs ps = (stateS vs ps vs.length).subs) := Lib.hid (by unfold splitS; rw [if_pos h0])
  have H0 := Lib.hid h0
  obtain ⟨hv512, hcv, hto, _⟩ := check_ok h0
  have hall := checkV_all hcv
  have HA := Lib.hid (ahead_ok h0)
  have HL := Lib.hid (state_last h0)
  have HC := Lib.hid (state_count vs ps hall)
  have HG := Lib.hid (state_segs vs ps hall)
  have HPN := Lib.hid (posN_succ hall)
  have HRP := Lib.hid (rest_posN (ps := ps) hall)
  have HPP := Lib.hid (pos_pos h0)
  have HPL := Lib.hid (posN_le h0)
  have hnl := hv.1
  have HML := Lib.hid hp.1
  have HV := Lib.hid hv
  have HP := Lib.hid hp
  clear h0 hcv hall hv hp hto
  go_enter Try.func12, Try.ntmps12
  go_wp2_with fail
  have kc := KC.out _ ((Below.refl _ w).alloc (Nat.le_refl _) (.cells #[.slice a n c, .slice b m d] 35))
  rw [H0.out] at kc
  refine kc.mono ?_
  rintro e w2 ⟨rfl, hb2⟩
  clear kc
  have hz2 := hb2.size
  simp at hz2
  go_wp2_with fail
  have hx2 : Below w.heap.size w w2 := Below.trans (by (repeat (first | exact Below.refl _ _ | assumption | refine Below.drew ?_ | refine Below.setCell ?_ (by simp; try omega) _ | refine Below.alloc ?_ (by simp; try omega) _))) (hb2.mono (by simp))
  have hI : RsInv w (w2.heap.size + 1) a b n m c d vs ps (.slice (some ⟨w2.heap.size, 0, none⟩) 0 0) ((w2.alloc (.cells #[] 71)).alloc (.cells #[.int .i64 0, .int .i64 0] 44)) 0 := by
    refine ⟨.inl ⟨rfl, (own_empty w2 w.heap.size _ 4 (by omega)).alloc _⟩, ?_, ?_, (hx2.alloc (by omega) _).alloc (by simp; omega) _⟩
    · have h := Blk.new (w2.alloc (.cells #[] 71)) 44 #[.int .i64 0, .int .i64 0]
      rw [World.size_alloc] at h
      exact h
    · exact (((Blk.new w _ _).grow hb2).alloc _).alloc _
  have HI := Lib.hid hI
  clear hI hb2 hx2
  go_loopw [5, 7, 8] (fun v t i wr => ∃ k : Nat, k ≤ n ∧ i = .int .i64 k ∧ t = .int .i64 (posN vs k) ∧ RsInv w (w2.heap.size + 1) a b n m c d vs ps v wr k) (fun _ _ i _ => n - (intOf i).toNat)
  case atStart => exact ⟨0, Nat.zero_le _, rfl, rfl, HI.out⟩
  case round =>
    clear HI
    obtain ⟨k, hk, rfl, rfl, hO, hA, hS, hb⟩ := hrel
    have hlA := hA.lt
    have hlS := hS.lt
    have hbsz := hb.size
    have g0 : wr.cell? ⟨w.heap.size, 0, none⟩ = some (.slice a n c) := hS.cell 0
    have g1 : wr.cell? ⟨w.heap.size, 1, none⟩ = some (.slice b m d) := hS.cell 1
    by_cases hlt : k < n
    · have hlk : k < vs.length := by omega
      obtain ⟨vb, vo, ha, hvB, hc1⟩ := HV.out.2 k vs[k] (List.getElem?_eq_getElem hlk)
      subst ha
      have hc1' : wr.cell? ⟨vb, vo + k, none⟩ = some (.int .i64 vs[k]) := (hb.cell (p := ⟨vb, vo + k, none⟩) hvB).trans hc1
      obtain ⟨a1, a2, a3, a4⟩ := HA.out k hlk
      have hc5 := HC.out k (by omega)
      have hg5 := HG.out k (by omega)
      have hp0 := HPP.out (by omega)
      have HN := Lib.hid (HPN.out k hlk)
      have HST : Hid (stateS vs ps (k + 1) = takeS (stateS vs ps k) vs[k]) := Lib.hid (stateS_succ vs ps k hlk)
      have hrp := HRP.out k (by omega)
      rw [hrp, List.length_drop] at a3
      have hlast := HL.out k
      have htm0 := HPL.out k
      rw [HML.out] at a3 hp0 htm0
      obtain ⟨bb, off, rfl⟩ : ∃ bb off, b = some ⟨bb, off, none⟩ := by
        obtain ⟨bb, off, e, _⟩ := HP.out.2 0 (ps[0]'(by have := HML.out; omega)) (List.getElem?_eq_getElem _)
        exact ⟨bb, off, e⟩
      have HRP2 := Lib.hid hrp
      have hlk' : (k : Int) < n := by omega
      obtain ⟨t, ht⟩ : ∃ t, t = posN vs k := ⟨_, rfl⟩
      obtain ⟨st, hst⟩ : ∃ st, st = stateS vs ps k := ⟨_, rfl⟩
      rw [← ht] at a3 HN HRP2 htm0 ⊢
      rw [← hst] at hO hA hc5 hg5 HST HRP2 hlast
      clear hc1 a4 hrp ht hst
      generalize vs[k] = v at *
      rcases takesS_ok a1 with rfl | rfl | rfl | rfl | rfl
      · have htm : t + 1 ≤ m := by have : (takesS 1).toNat = 1 := rfl; omega
        have hdt : ¬ d - t = 0 := by omega
        have htd : t < d := by omega
        have hmB : m ≤ 9223372036854775807 / 2 := hm
        unfold maxLen at hd
        obtain ⟨⟨x0, y0⟩, hq0⟩ : ∃ q, q = ps[t + 0]'(by have := HML.out; omega) := ⟨_, rfl⟩
        have hcq0 := HP.out.2 (t + 0) (x0, y0) (by rw [hq0]; exact List.getElem?_eq_getElem _)
        obtain ⟨b', off', e', hbB0, cx0, cy0⟩ := hcq0
        simp only [Option.some.injEq, Addr.mk.injEq, and_true] at e'
        obtain ⟨rfl, rfl⟩ := e'
        have kx0 : wr.cell? ⟨bb, off + t * 2, none⟩ = some (.int .i64 x0) := by
          have h := (hb.cell (p := ⟨bb, off + (t + 0) * 2, none⟩) hbB0).trans cx0
          rwa [show off + (t + 0) * 2 = off + t * 2 by omega] at h
        have ky0 : wr.cell? ⟨bb, off + t * 2 + 1, none⟩ = some (.int .i64 y0) := by
          have h := (hb.cell (p := ⟨bb, off + (t + 0) * 2 + 1, none⟩) hbB0).trans cy0
          rwa [show off + (t + 0) * 2 + 1 = off + t * 2 + 1 by omega] at h
        have HQ0 : Hid (ptAt (ps.drop t) 0 = (x0, y0)) := Lib.hid (by unfold ptAt; rw [List.getD_eq_getElem?_getD, List.getElem?_drop, List.getElem?_eq_getElem (by have := HML.out; omega), hq0]; rfl)
        clear hq0 cx0 cy0
        obtain ⟨rs, hrs, hpush⟩ := hO.row hb.size (by decide)
        obtain ⟨va, vc, rfl, _⟩ := hO.slice
        have kt := Lib.hid (fun W => rtakes_at (v := 1) (k := 1) rfl W)
        have HPU := Lib.hid hpush
        have HRS := Lib.hid hrs
        clear hpush hrs hO
        go_wp2_with (first | (go_at_call 15; refine (kt.out _).mono ?_; rintro e w' ⟨rfl, rfl⟩) | (at_builtin; refine wpList_append_own _ rfl _ _ 32 rfl w.heap.size 71 iS _ 4 48 Try.underlying32 hiS hz0S hz1S hz2S rfl (by decide) _ _ _ rfl (HRS.out.alloc _) ⟨wr.heap.size, 0, none⟩ 1 1 [.int .i64 x0, .int .i64 y0, .slice none 0 0, .bool false] rfl rfl ?c1 ?c2 ?c3 ?c4 ?c5 ?_))
        case c1 => exact Blk.news (l := [.int .i64 x0, .int .i64 y0, .slice none 0 0, .bool false]) (Blk.new wr _ _)
        case c2 => simp [Value.oneCell']
        case c3 => unfold maxLen; omega
        case c4 => omega
        case c5 => simp; omega
        intro v' w8 hown8 hg8 _
        obtain ⟨a8, c8, rfl, _⟩ := own_slice hown8
        have hO8 := HPU.out _ w8 _ (.slice none 0 0) ⟨(x0, y0), [], false⟩ ((Below.refl _ _).alloc (Nat.le_refl _) (.cells #[.int .i64 x0, .int .i64 y0, .slice none 0 0, .bool false] 71)) (World.ownsRow_nil _ _ _ _) hown8 hg8
        have hA8 := (hA.alloc (.cells #[.int .i64 x0, .int .i64 y0, .slice none 0 0, .bool false] 71)).grown hg8 (own_apart_blk HRS.out hA (by decide))
        have hS8 := (hS.alloc (.cells #[.int .i64 x0, .int .i64 y0, .slice none 0 0, .bool false] 71)).grown hg8 (own_apart_blk HRS.out hS (by decide))
        have hx8 := (hb.alloc hb.size (.cells #[.int .i64 x0, .int .i64 y0, .slice none 0 0, .bool false] 71)).grown hg8 (by simp; omega) (fun q hq => (HRS.out.lt q hq).1)
        have lA8 := hA8.lt
        have kfA := hA8.unfrozen
        have eA0 : w8.cell? ⟨w2.heap.size + 1, 0, none⟩ = _ := hA8.cell 0
        have eA1 : w8.cell? ⟨w2.heap.size + 1, 1, none⟩ = _ := hA8.cell 1
        have kx0' : w8.cell? ⟨bb, off + t * 2, none⟩ = some (.int .i64 x0) := (hx8.cell (p := ⟨bb, off + t * 2, none⟩) hbB0).trans ((hb.cell (p := ⟨bb, off + t * 2, none⟩) hbB0).symm.trans kx0)
        have ky0' : w8.cell? ⟨bb, off + t * 2 + 1, none⟩ = some (.int .i64 y0) := (hx8.cell (p := ⟨bb, off + t * 2 + 1, none⟩) hbB0).trans ((hb.cell (p := ⟨bb, off + t * 2 + 1, none⟩) hbB0).symm.trans ky0)
        have hbA : bb ≠ w2.heap.size + 1 := by omega
        have hAb : w2.heap.size + 1 ≠ bb := by omega
        have HO8 := Lib.hid hO8
        clear hown8 hg8 hO8 kx0 ky0 hA hS
        go_wp2_with fail
        refine ⟨⟨k + 1, by omega, by go_num, by rw [HN.out]; rfl, ?_, ?_, ?_, ?_⟩, by simp [intOf]; omega⟩
        · rw [HST.out, takeS_move]
          have e : (⟨ptAt st.rest 0, [], false⟩ : SubS) = ⟨(x0, y0), [], false⟩ := by rw [HRP2.out, HQ0.out]
          simp only [e]
          exact (HO8.out.far hA8 (by decide) (by decide) _).far (hA8.set 0 _) (by decide) (by decide) _
        · rw [HST.out, takeS_move]
          have e : ptAt st.rest 0 = (x0, y0) := by rw [HRP2.out, HQ0.out]
          simp only [e]
          exact (hA8.set 0 _).set 1 _
        · exact (hS8.far (by omega) _).far (by omega) _
        · exact (hx8.setCell (by simp; omega) _).setCell (by simp; omega) _
      · skip
        have htm : t + 1 ≤ m := by have : (takesS 2).toNat = 1 := rfl; omega
        have hdt : ¬ d - t = 0 := by omega
        have htd : t < d := by omega
        have hmB : m ≤ 9223372036854775807 / 2 := hm
        unfold maxLen at hd
        obtain ⟨⟨x0, y0⟩, hq0⟩ : ∃ q, q = ps[t + 0]'(by have := HML.out; omega) := ⟨_, rfl⟩
        have hcq0 := HP.out.2 (t + 0) (x0, y0) (by rw [hq0]; exact List.getElem?_eq_getElem _)
        obtain ⟨b', off', e', hbB0, cx0, cy0⟩ := hcq0
        simp only [Option.some.injEq, Addr.mk.injEq, and_true] at e'
        obtain ⟨rfl, rfl⟩ := e'
        have kx0 : wr.cell? ⟨bb, off + t * 2, none⟩ = some (.int .i64 x0) := by
          have h := (hb.cell (p := ⟨bb, off + (t + 0) * 2, none⟩) hbB0).trans cx0
          rwa [show off + (t + 0) * 2 = off + t * 2 by omega] at h
        have ky0 : wr.cell? ⟨bb, off + t * 2 + 1, none⟩ = some (.int .i64 y0) := by
          have h := (hb.cell (p := ⟨bb, off + (t + 0) * 2 + 1, none⟩) hbB0).trans cy0
          rwa [show off + (t + 0) * 2 + 1 = off + t * 2 + 1 by omega] at h
        have HQ0 : Hid (ptAt (ps.drop t) 0 = (x0, y0)) := Lib.hid (by unfold ptAt; rw [List.getD_eq_getElem?_getD, List.getElem?_drop, List.getElem?_eq_getElem (by have := HML.out; omega), hq0]; rfl)
        clear hq0 cx0 cy0
        skip
        have hk0 : 0 < k := by
          rcases Nat.eq_zero_or_pos k with h | h
          · exact absurd (a2 h) (by decide)
          · exact h
        have hsl := hlast hk0 (by omega)
        obtain ⟨subs, ⟨px, py⟩, rest⟩ := st
        simp only at hsl hO hA HRP2 hc5 hg5
        rcases hO with ⟨he, _⟩ | ⟨front, ⟨⟨sx, sy⟩, segs, cl⟩, fv, lv, B, hsub, hO⟩
        · rw [he] at hsl; simp at hsl
        subst hsub
        obtain ⟨g, cap, rfl, hg1, hg2, hg3, hg4, -, -, -, -, -⟩ := hO.where_
        have kt := Lib.hid (fun W => rtakes_at (v := 2) (k := 1) rfl W)
        have hsm := hg5 _ (List.mem_append_right _ List.mem_cons_self)
        simp only at hsm
        have HO := Lib.hid hO
        have hfl : front.length ≤ 1000 := by simp at hc5; omega
        obtain ⟨la, lc, rfl, _⟩ := own_slice hO.hlast
        clear hO hlast hg5 hc5 hsl
        have fa0 : wr.cell? ⟨w2.heap.size + 1, 0, none⟩ = some (.int .i64 px) := hA.cell 0
        have fa1 : wr.cell? ⟨w2.heap.size + 1, 1, none⟩ = some (.int .i64 py) := hA.cell 1
        have fak := hA.unfrozen
        have hAS : w2.heap.size + 1 ≠ wr.heap.size := by omega
        have hSA : wr.heap.size ≠ w2.heap.size + 1 := by omega
        have hbG : bb ≠ wr.heap.size := by omega
        have hGb : wr.heap.size ≠ bb := by omega
        have hbA : bb ≠ w2.heap.size + 1 := by omega
        have hAb : w2.heap.size + 1 ≠ bb := by omega
        have hbw' : bb < wr.heap.size + 1 := by omega
        have hbw0 : bb < wr.heap.size := by omega
        have hAw' : w2.heap.size + 1 < wr.heap.size + 1 := by omega
        go_wp2_with (first | (go_at_call 15; refine (kt.out _).mono ?_; rintro e w' ⟨rfl, rfl⟩))
        refine wp_loop_rounds (1 + 1) ?_
        repeat any_goals (rw [rounds_succ]; go_wp2_with fail)
        have hB0 : ((wr.setCell ⟨w2.heap.size + 1, 0, none⟩ (.int .i64 x0)).setCell ⟨w2.heap.size + 1, 1, none⟩ (.int .i64 y0)).heap.size = wr.heap.size := by simp
        have hOa := (HO.out.far (i := 0) hA (by decide) (by decide) (.int .i64 x0)).far (i := 1) (hA.set 0 (.int .i64 x0)) (by decide) (by decide) (.int .i64 y0)
        have hAa := (hA.set 0 (.int .i64 x0)).set 1 (.int .i64 y0)
        have hSa := (hS.far (b := w2.heap.size + 1) (i := 0) (by omega) (.int .i64 x0)).far (b := w2.heap.size + 1) (i := 1) (by omega) (.int .i64 y0)
        have hba := (hb.setCell (p := ⟨w2.heap.size + 1, 0, none⟩) (by simp; omega) (.int .i64 x0)).setCell (p := ⟨w2.heap.size + 1, 1, none⟩) (by simp; omega) (.int .i64 y0)
        have hlb := (hOa.hlast.lt)
        clear hA hS hb fa0 fa1 fak g0 g1 hlA hlS hc1' kx0 ky0
        generalize (wr.setCell ⟨w2.heap.size + 1, 0, none⟩ (.int .i64 x0)).setCell ⟨w2.heap.size + 1, 1, none⟩ (.int .i64 y0) = wQ at hB0 hOa hAa hSa hba hlb ⊢
        rw [← hB0] at hGb hbG hAS hSA ⊢
        have fG := Blk.new wQ 59 #[.int .i64 px, .int .i64 py, .int .i64 x0, .int .i64 y0, .int .i64 0, .int .i64 0, .int .i64 0, .int .i64 0, .int .i64 2]
        replace hOa := hOa.grow ((Below.refl _ _).alloc (Nat.le_refl _) (.cells #[.int .i64 px, .int .i64 py, .int .i64 x0, .int .i64 y0, .int .i64 0, .int .i64 0, .int .i64 0, .int .i64 0, .int .i64 2] 59))
        replace hAa := hAa.alloc (.cells #[.int .i64 px, .int .i64 py, .int .i64 x0, .int .i64 y0, .int .i64 0, .int .i64 0, .int .i64 0, .int .i64 0, .int .i64 2] 59)
        replace hSa := hSa.alloc (.cells #[.int .i64 px, .int .i64 py, .int .i64 x0, .int .i64 y0, .int .i64 0, .int .i64 0, .int .i64 0, .int .i64 0, .int .i64 2] 59)
        replace hba := hba.alloc hba.size (.cells #[.int .i64 px, .int .i64 py, .int .i64 x0, .int .i64 y0, .int .i64 0, .int .i64 0, .int .i64 0, .int .i64 0, .int .i64 2] 59)
        have hgG : g < wQ.heap.size := by rw [hB0]; exact hg2
        clear hB0 HO hbw' hbw0 hAw' hbG hGb hAS hSA
        generalize wQ.alloc (.cells #[.int .i64 px, .int .i64 py, .int .i64 x0, .int .i64 y0, .int .i64 0, .int .i64 0, .int .i64 0, .int .i64 0, .int .i64 2] 59) = wT at fG hOa hAa hSa hba ⊢
        generalize wQ.heap.size = G at *
        have lG := fG.lt
        have hgw : g < wT.heap.size := by omega
        obtain ⟨g', cap', eg, -, -, -, -, c0, c1, c2, c3, cf⟩ := hOa.where_
        simp only [Value.slice.injEq, Option.some.injEq, Addr.mk.injEq] at eg
        obtain ⟨⟨rfl, -⟩, -, rfl⟩ := eg
        simp only at c0 c1 c2 c3
        have eG := fG.cell
        have hkS : wT.heap.size ≤ wT.heap.size := Nat.le_refl _
        refine Reg.wp_region_E (fun b => b = g ∨ b = G) (fun j => decide (16 ≤ j)) 17 rfl (by kernel_rfl) ?_
        refine Reg.wpE_hoist [0, 1, 2, 3, 4, 5, 6, 7, 8, 9, 10, 11] 5 rfl (by kernel_rfl) (by kernel_rfl) (by kernel_rfl) (fun u => ?_)
        simp only [Reg.pickL, List.drop]
        repeat (go_big_quiet_step ((first | fail)))
        refine wpQuiet_nil ?_
        clear eG c0 c1 c2 c3 cf
        refine Reg.wpE_main 12 (by kernel_rfl) (fun z1 hN => ?_)
        simp only [Reg.pickL, List.drop]
        replace hOa := hOa.grow hN
        replace hAa := hAa.grow hN
        replace hSa := hSa.grow hN
        replace hba := hba.trans (Below.mono hN hba.size)
        have hsz := Below.size hN
        clear hN
        go_wp2_with fail
        refine ⟨rfl, .inr (Reg.Kp.of_gr ((Below.refl _ _).alloc (Nat.le_refl _) _)), ?_⟩
        replace hOa := hOa.grow ((Below.refl _ _).alloc (Nat.le_refl _) (.cells (segV ⟨(px, py), (x0, y0), (0, 0), (0, 0), 2⟩).toArray 59))
        replace hAa := hAa.alloc (.cells (segV ⟨(px, py), (x0, y0), (0, 0), (0, 0), 2⟩).toArray 59)
        replace hSa := hSa.alloc (.cells (segV ⟨(px, py), (x0, y0), (0, 0), (0, 0), 2⟩).toArray 59)
        replace hba := hba.alloc hba.size (.cells (segV ⟨(px, py), (x0, y0), (0, 0), (0, 0), 2⟩).toArray 59)
        have f9 : Blk _ z1.heap.size 59 (segV ⟨(px, py), (x0, y0), (0, 0), (0, 0), 2⟩).toArray := Blk.new z1 _ _
        refine Reg.wpE_main 13 (by kernel_rfl) (fun z2 hN => ?_)
        simp only [Reg.pickL, List.drop]
        replace hOa := hOa.grow hN
        replace hAa := hAa.grow hN
        replace hSa := hSa.grow hN
        replace hba := hba.trans (Below.mono hN hba.size)
        replace f9 := f9.grow hN
        clear hN
        have hlz : z2.ownsRow B 59 9 (.slice la segs.length lc) segs.length (segsV segs) := hOa.hlast
        refine wpList_append_own _ rfl _ _ 69 rfl B 59 iG _ 9 72 Try.underlying69 hiG hz0G hz1G hz2G rfl (by decide) (.slice la segs.length lc) _ _ rfl hlz ⟨z1.heap.size, 0, none⟩ 1 1 (segV ⟨(px, py), (x0, y0), (0, 0), (0, 0), 2⟩) rfl rfl f9.news (segV_one _) (by unfold maxLen; omega) (by omega) hOa.hsize ?_
        intro lv' w5 hown5 hg5 _
        obtain ⟨a5, c5, rfl, _⟩ := own_slice hown5
        have hrowg := hOa.hrow
        go_wp2_with fail
        refine ⟨rfl, .inr (Reg.Kp.of_grown hg5 (fun b hb h => ?_)), ?_⟩
        · rcases h with rfl | rfl
          · rcases own_apart hlz hrowg (by decide) with h1 | h1
            · rw [h1] at hb; cases hb
            · exact h1 hb
          · exact Nat.lt_irrefl _ (hlb _ hb).2
        obtain ⟨d2, df, dg, dg'⟩ := hOa.grown_cell (by decide) hg5
        have hga := hOa.apart hAa (by decide)
        have hgs := hOa.apart hSa (by decide)
        have hO5 := hOa.put (s := ⟨(px, py), (x0, y0), (0, 0), (0, 0), 2⟩) (by decide) hown5 hg5
        have hA5 := hAa.grown hg5 (own_apart_blk hlz hAa (by decide))
        have hS5 := hSa.grown hg5 (own_apart_blk hlz hSa (by decide))
        have hx5 : Below w.heap.size w w5 := hba.grown hg5 hba.size (fun q hq => by have := (hlz.lt q hq).1; have := hOa.hbase; omega)
        have lgw := dg
        clear hrowg hlz f9 hown5 hg5 hOa hAa hSa hba
        refine Reg.wpE_hoist [14, 15] 1 rfl (by kernel_rfl) (by kernel_rfl) (by kernel_rfl) (fun u => ?_)
        simp only [Reg.pickL, List.drop]
        repeat (go_big_quiet_step ((first | fail)))
        refine wpQuiet_nil ?_
        refine Reg.wpE_main 16 (by kernel_rfl) (fun z3 hN => ?_)
        simp only [Reg.pickL, List.drop]
        have d3 := ((bcell hN).1 g (front.length * 4 + 2) dg).trans d2
        have df3 : ∀ j, z3.frozen? ⟨g, j, none⟩ = false := fun j => ((bcell hN).2 g j dg).trans (df j)
        have lg3 : g < z3.heap.size := Nat.lt_of_lt_of_le dg (Below.size hN)
        have hO6 := hO5.grow (by have h := below_set hN ⟨g, front.length * 4 + 2, none⟩ (.slice a5 (segs.length + 1) c5); simpa using h)
        have hA6 := (hA5.grow hN).far (i := front.length * 4 + 2) hga (.slice a5 (segs.length + 1) c5)
        have hS6 := (hS5.grow hN).far (i := front.length * 4 + 2) hgs (.slice a5 (segs.length + 1) c5)
        have hx6 := (hx5.trans (Below.mono hN hx5.size)).setCell (p := ⟨g, front.length * 4 + 2, none⟩) (by simpa using hg1) (.slice a5 (segs.length + 1) c5)
        have HO6 := Lib.hid hO6
        clear hO5 hA5 hS5 hx5 hN hO6 d2 df
        go_wp2_with fail
        refine ⟨rfl, .inl rfl, ?_⟩
        refine Reg.wpE_end (by kernel_rfl) (fun z4 hN => ?_)
        replace hA6 := hA6.grow hN
        replace hS6 := hS6.grow hN
        replace hx6 := hx6.trans (Below.mono hN hx6.size)
        have HO7 := Lib.hid (HO6.out.grow hN)
        clear hN HO6 d3 df3 lg3
        go_wp2_with fail
        refine ⟨⟨k + 1, by omega, by go_num, by rw [HN.out]; rfl, ?_, ?_, hS6, hx6⟩, by simp [intOf]; omega⟩
        · rw [HST.out, takeS_line]
          have e : curveS (px, py) rest 1 = ⟨(px, py), (x0, y0), (0, 0), (0, 0), 2⟩ := by unfold curveS; rw [HRP2.out]; simp [HQ0.out]
          refine .inr ⟨front, _, fv, .slice a5 (segs.length + 1) c5, B, modLast_snoc _ _ _, ?_⟩
          simp only [e]
          exact HO7.out
        · rw [HST.out, takeS_line]
          have e : ptAt rest (1 - 1) = (x0, y0) := by rw [HRP2.out]; exact HQ0.out
          simp only [Nat.reduceSub] at e
          simp only [e]
          exact hA6
      · skip
        have htm : t + 2 ≤ m := by have : (takesS 3).toNat = 2 := rfl; omega
        have hdt : ¬ d - t = 0 := by omega
        have htd : t < d := by omega
        have hmB : m ≤ 9223372036854775807 / 2 := hm
        unfold maxLen at hd
        obtain ⟨⟨x0, y0⟩, hq0⟩ : ∃ q, q = ps[t + 0]'(by have := HML.out; omega) := ⟨_, rfl⟩
        have hcq0 := HP.out.2 (t + 0) (x0, y0) (by rw [hq0]; exact List.getElem?_eq_getElem _)
        obtain ⟨b', off', e', hbB0, cx0, cy0⟩ := hcq0
        simp only [Option.some.injEq, Addr.mk.injEq, and_true] at e'
        obtain ⟨rfl, rfl⟩ := e'
        have kx0 : wr.cell? ⟨bb, off + t * 2, none⟩ = some (.int .i64 x0) := by
          have h := (hb.cell (p := ⟨bb, off + (t + 0) * 2, none⟩) hbB0).trans cx0
          rwa [show off + (t + 0) * 2 = off + t * 2 by omega] at h
        have ky0 : wr.cell? ⟨bb, off + t * 2 + 1, none⟩ = some (.int .i64 y0) := by
          have h := (hb.cell (p := ⟨bb, off + (t + 0) * 2 + 1, none⟩) hbB0).trans cy0
          rwa [show off + (t + 0) * 2 + 1 = off + t * 2 + 1 by omega] at h
        have HQ0 : Hid (ptAt (ps.drop t) 0 = (x0, y0)) := Lib.hid (by unfold ptAt; rw [List.getD_eq_getElem?_getD, List.getElem?_drop, List.getElem?_eq_getElem (by have := HML.out; omega), hq0]; rfl)
        clear hq0 cx0 cy0
        obtain ⟨⟨x1, y1⟩, hq1⟩ : ∃ q, q = ps[t + 1]'(by have := HML.out; omega) := ⟨_, rfl⟩
        have hcq1 := HP.out.2 (t + 1) (x1, y1) (by rw [hq1]; exact List.getElem?_eq_getElem _)
        obtain ⟨b', off', e', hbB1, cx1, cy1⟩ := hcq1
        simp only [Option.some.injEq, Addr.mk.injEq, and_true] at e'
        obtain ⟨rfl, rfl⟩ := e'
        have kx1 : wr.cell? ⟨bb, off + t * 2 + 2, none⟩ = some (.int .i64 x1) := by
          have h := (hb.cell (p := ⟨bb, off + (t + 1) * 2, none⟩) hbB1).trans cx1
          rwa [show off + (t + 1) * 2 = off + t * 2 + 2 by omega] at h
        have ky1 : wr.cell? ⟨bb, off + t * 2 + 3, none⟩ = some (.int .i64 y1) := by
          have h := (hb.cell (p := ⟨bb, off + (t + 1) * 2 + 1, none⟩) hbB1).trans cy1
          rwa [show off + (t + 1) * 2 + 1 = off + t * 2 + 3 by omega] at h
        have HQ1 : Hid (ptAt (ps.drop t) 1 = (x1, y1)) := Lib.hid (by unfold ptAt; rw [List.getD_eq_getElem?_getD, List.getElem?_drop, List.getElem?_eq_getElem (by have := HML.out; omega), hq1]; rfl)
        clear hq1 cx1 cy1
        have hk0 : 0 < k := by
          rcases Nat.eq_zero_or_pos k with h | h
          · exact absurd (a2 h) (by decide)
          · exact h
        have hsl := hlast hk0 (by omega)
        obtain ⟨subs, ⟨px, py⟩, rest⟩ := st
        simp only at hsl hO hA HRP2 hc5 hg5
        rcases hO with ⟨he, _⟩ | ⟨front, ⟨⟨sx, sy⟩, segs, cl⟩, fv, lv, B, hsub, hO⟩
        · rw [he] at hsl; simp at hsl
        subst hsub
        obtain ⟨g, cap, rfl, hg1, hg2, hg3, hg4, -, -, -, -, -⟩ := hO.where_
        have kt := Lib.hid (fun W => rtakes_at (v := 3) (k := 2) rfl W)
        have hsm := hg5 _ (List.mem_append_right _ List.mem_cons_self)
        simp only at hsm
        have HO := Lib.hid hO
        have hfl : front.length ≤ 1000 := by simp at hc5; omega
        obtain ⟨la, lc, rfl, _⟩ := own_slice hO.hlast
        clear hO hlast hg5 hc5 hsl
        have fa0 : wr.cell? ⟨w2.heap.size + 1, 0, none⟩ = some (.int .i64 px) := hA.cell 0
        have fa1 : wr.cell? ⟨w2.heap.size + 1, 1, none⟩ = some (.int .i64 py) := hA.cell 1
        have fak := hA.unfrozen
        have hAS : w2.heap.size + 1 ≠ wr.heap.size := by omega
        have hSA : wr.heap.size ≠ w2.heap.size + 1 := by omega
        have hbG : bb ≠ wr.heap.size := by omega
        have hGb : wr.heap.size ≠ bb := by omega
        have hbA : bb ≠ w2.heap.size + 1 := by omega
        have hAb : w2.heap.size + 1 ≠ bb := by omega
        have hbw' : bb < wr.heap.size + 1 := by omega
        have hbw0 : bb < wr.heap.size := by omega
        have hAw' : w2.heap.size + 1 < wr.heap.size + 1 := by omega
        go_wp2_with (first | (go_at_call 15; refine (kt.out _).mono ?_; rintro e w' ⟨rfl, rfl⟩))
        refine wp_loop_rounds (2 + 1) ?_
        repeat any_goals (rw [rounds_succ]; go_wp2_with fail)
        have hB0 : ((wr.setCell ⟨w2.heap.size + 1, 0, none⟩ (.int .i64 x1)).setCell ⟨w2.heap.size + 1, 1, none⟩ (.int .i64 y1)).heap.size = wr.heap.size := by simp
        have hOa := (HO.out.far (i := 0) hA (by decide) (by decide) (.int .i64 x1)).far (i := 1) (hA.set 0 (.int .i64 x1)) (by decide) (by decide) (.int .i64 y1)
        have hAa := (hA.set 0 (.int .i64 x1)).set 1 (.int .i64 y1)
        have hSa := (hS.far (b := w2.heap.size + 1) (i := 0) (by omega) (.int .i64 x1)).far (b := w2.heap.size + 1) (i := 1) (by omega) (.int .i64 y1)
        have hba := (hb.setCell (p := ⟨w2.heap.size + 1, 0, none⟩) (by simp; omega) (.int .i64 x1)).setCell (p := ⟨w2.heap.size + 1, 1, none⟩) (by simp; omega) (.int .i64 y1)
        have hlb := (hOa.hlast.lt)
        clear hA hS hb fa0 fa1 fak g0 g1 hlA hlS hc1' kx0 ky0 kx1 ky1
        generalize (wr.setCell ⟨w2.heap.size + 1, 0, none⟩ (.int .i64 x1)).setCell ⟨w2.heap.size + 1, 1, none⟩ (.int .i64 y1) = wQ at hB0 hOa hAa hSa hba hlb ⊢
        rw [← hB0] at hGb hbG hAS hSA ⊢
        have fG := Blk.new wQ 59 #[.int .i64 px, .int .i64 py, .int .i64 x0, .int .i64 y0, .int .i64 x1, .int .i64 y1, .int .i64 0, .int .i64 0, .int .i64 3]
        replace hOa := hOa.grow ((Below.refl _ _).alloc (Nat.le_refl _) (.cells #[.int .i64 px, .int .i64 py, .int .i64 x0, .int .i64 y0, .int .i64 x1, .int .i64 y1, .int .i64 0, .int .i64 0, .int .i64 3] 59))
        replace hAa := hAa.alloc (.cells #[.int .i64 px, .int .i64 py, .int .i64 x0, .int .i64 y0, .int .i64 x1, .int .i64 y1, .int .i64 0, .int .i64 0, .int .i64 3] 59)
        replace hSa := hSa.alloc (.cells #[.int .i64 px, .int .i64 py, .int .i64 x0, .int .i64 y0, .int .i64 x1, .int .i64 y1, .int .i64 0, .int .i64 0, .int .i64 3] 59)
        replace hba := hba.alloc hba.size (.cells #[.int .i64 px, .int .i64 py, .int .i64 x0, .int .i64 y0, .int .i64 x1, .int .i64 y1, .int .i64 0, .int .i64 0, .int .i64 3] 59)
        have hgG : g < wQ.heap.size := by rw [hB0]; exact hg2
        clear hB0 HO hbw' hbw0 hAw' hbG hGb hAS hSA
        generalize wQ.alloc (.cells #[.int .i64 px, .int .i64 py, .int .i64 x0, .int .i64 y0, .int .i64 x1, .int .i64 y1, .int .i64 0, .int .i64 0, .int .i64 3] 59) = wT at fG hOa hAa hSa hba ⊢
        generalize wQ.heap.size = G at *
        have lG := fG.lt
        have hgw : g < wT.heap.size := by omega
        obtain ⟨g', cap', eg, -, -, -, -, c0, c1, c2, c3, cf⟩ := hOa.where_
        simp only [Value.slice.injEq, Option.some.injEq, Addr.mk.injEq] at eg
        obtain ⟨⟨rfl, -⟩, -, rfl⟩ := eg
        simp only at c0 c1 c2 c3
        have eG := fG.cell
        have hkS : wT.heap.size ≤ wT.heap.size := Nat.le_refl _
        refine Reg.wp_region_E (fun b => b = g ∨ b = G) (fun j => decide (16 ≤ j)) 17 rfl (by kernel_rfl) ?_
        refine Reg.wpE_hoist [0, 1, 2, 3, 4, 5, 6, 7, 8, 9, 10, 11] 5 rfl (by kernel_rfl) (by kernel_rfl) (by kernel_rfl) (fun u => ?_)
        simp only [Reg.pickL, List.drop]
        repeat (go_big_quiet_step ((first | fail)))
        refine wpQuiet_nil ?_
        clear eG c0 c1 c2 c3 cf
        refine Reg.wpE_main 12 (by kernel_rfl) (fun z1 hN => ?_)
        simp only [Reg.pickL, List.drop]
        replace hOa := hOa.grow hN
        replace hAa := hAa.grow hN
        replace hSa := hSa.grow hN
        replace hba := hba.trans (Below.mono hN hba.size)
        have hsz := Below.size hN
        clear hN
        go_wp2_with fail
        refine ⟨rfl, .inr (Reg.Kp.of_gr ((Below.refl _ _).alloc (Nat.le_refl _) _)), ?_⟩
        replace hOa := hOa.grow ((Below.refl _ _).alloc (Nat.le_refl _) (.cells (segV ⟨(px, py), (x0, y0), (x1, y1), (0, 0), 3⟩).toArray 59))
        replace hAa := hAa.alloc (.cells (segV ⟨(px, py), (x0, y0), (x1, y1), (0, 0), 3⟩).toArray 59)
        replace hSa := hSa.alloc (.cells (segV ⟨(px, py), (x0, y0), (x1, y1), (0, 0), 3⟩).toArray 59)
        replace hba := hba.alloc hba.size (.cells (segV ⟨(px, py), (x0, y0), (x1, y1), (0, 0), 3⟩).toArray 59)
        have f9 : Blk _ z1.heap.size 59 (segV ⟨(px, py), (x0, y0), (x1, y1), (0, 0), 3⟩).toArray := Blk.new z1 _ _
        refine Reg.wpE_main 13 (by kernel_rfl) (fun z2 hN => ?_)
        simp only [Reg.pickL, List.drop]
        replace hOa := hOa.grow hN
        replace hAa := hAa.grow hN
        replace hSa := hSa.grow hN
        replace hba := hba.trans (Below.mono hN hba.size)
        replace f9 := f9.grow hN
        clear hN
        have hlz : z2.ownsRow B 59 9 (.slice la segs.length lc) segs.length (segsV segs) := hOa.hlast
        refine wpList_append_own _ rfl _ _ 69 rfl B 59 iG _ 9 72 Try.underlying69 hiG hz0G hz1G hz2G rfl (by decide) (.slice la segs.length lc) _ _ rfl hlz ⟨z1.heap.size, 0, none⟩ 1 1 (segV ⟨(px, py), (x0, y0), (x1, y1), (0, 0), 3⟩) rfl rfl f9.news (segV_one _) (by unfold maxLen; omega) (by omega) hOa.hsize ?_
        intro lv' w5 hown5 hg5 _
        obtain ⟨a5, c5, rfl, _⟩ := own_slice hown5
        have hrowg := hOa.hrow
        go_wp2_with fail
        refine ⟨rfl, .inr (Reg.Kp.of_grown hg5 (fun b hb h => ?_)), ?_⟩
        · rcases h with rfl | rfl
          · rcases own_apart hlz hrowg (by decide) with h1 | h1
            · rw [h1] at hb; cases hb
            · exact h1 hb
          · exact Nat.lt_irrefl _ (hlb _ hb).2
        obtain ⟨d2, df, dg, dg'⟩ := hOa.grown_cell (by decide) hg5
        have hga := hOa.apart hAa (by decide)
        have hgs := hOa.apart hSa (by decide)
        have hO5 := hOa.put (s := ⟨(px, py), (x0, y0), (x1, y1), (0, 0), 3⟩) (by decide) hown5 hg5
        have hA5 := hAa.grown hg5 (own_apart_blk hlz hAa (by decide))
        have hS5 := hSa.grown hg5 (own_apart_blk hlz hSa (by decide))
        have hx5 : Below w.heap.size w w5 := hba.grown hg5 hba.size (fun q hq => by have := (hlz.lt q hq).1; have := hOa.hbase; omega)
        have lgw := dg
        clear hrowg hlz f9 hown5 hg5 hOa hAa hSa hba
        refine Reg.wpE_hoist [14, 15] 1 rfl (by kernel_rfl) (by kernel_rfl) (by kernel_rfl) (fun u => ?_)
        simp only [Reg.pickL, List.drop]
        repeat (go_big_quiet_step ((first | fail)))
        refine wpQuiet_nil ?_
        refine Reg.wpE_main 16 (by kernel_rfl) (fun z3 hN => ?_)
        simp only [Reg.pickL, List.drop]
        have d3 := ((bcell hN).1 g (front.length * 4 + 2) dg).trans d2
        have df3 : ∀ j, z3.frozen? ⟨g, j, none⟩ = false := fun j => ((bcell hN).2 g j dg).trans (df j)
        have lg3 : g < z3.heap.size := Nat.lt_of_lt_of_le dg (Below.size hN)
        have hO6 := hO5.grow (by have h := below_set hN ⟨g, front.length * 4 + 2, none⟩ (.slice a5 (segs.length + 1) c5); simpa using h)
        have hA6 := (hA5.grow hN).far (i := front.length * 4 + 2) hga (.slice a5 (segs.length + 1) c5)
        have hS6 := (hS5.grow hN).far (i := front.length * 4 + 2) hgs (.slice a5 (segs.length + 1) c5)
        have hx6 := (hx5.trans (Below.mono hN hx5.size)).setCell (p := ⟨g, front.length * 4 + 2, none⟩) (by simpa using hg1) (.slice a5 (segs.length + 1) c5)
        have HO6 := Lib.hid hO6
        clear hO5 hA5 hS5 hx5 hN hO6 d2 df
        go_wp2_with fail
        refine ⟨rfl, .inl rfl, ?_⟩
        refine Reg.wpE_end (by kernel_rfl) (fun z4 hN => ?_)
        replace hA6 := hA6.grow hN
        replace hS6 := hS6.grow hN
        replace hx6 := hx6.trans (Below.mono hN hx6.size)
        have HO7 := Lib.hid (HO6.out.grow hN)
        clear hN HO6 d3 df3 lg3
        go_wp2_with fail
        refine ⟨⟨k + 1, by omega, by go_num, by rw [HN.out]; rfl, ?_, ?_, hS6, hx6⟩, by simp [intOf]; omega⟩
        · rw [HST.out, takeS_quad]
          have e : curveS (px, py) rest 2 = ⟨(px, py), (x0, y0), (x1, y1), (0, 0), 3⟩ := by unfold curveS; rw [HRP2.out]; simp [HQ0.out, HQ1.out]
          refine .inr ⟨front, _, fv, .slice a5 (segs.length + 1) c5, B, modLast_snoc _ _ _, ?_⟩
          simp only [e]
          exact HO7.out
        · rw [HST.out, takeS_quad]
          have e : ptAt rest (2 - 1) = (x1, y1) := by rw [HRP2.out]; exact HQ1.out
          simp only [Nat.reduceSub] at e
          simp only [e]
          exact hA6
      · skip
        have htm : t + 3 ≤ m := by have : (takesS 4).toNat = 3 := rfl; omega
        have hdt : ¬ d - t = 0 := by omega
        have htd : t < d := by omega
        have hmB : m ≤ 9223372036854775807 / 2 := hm
        unfold maxLen at hd
        obtain ⟨⟨x0, y0⟩, hq0⟩ : ∃ q, q = ps[t + 0]'(by have := HML.out; omega) := ⟨_, rfl⟩
        have hcq0 := HP.out.2 (t + 0) (x0, y0) (by rw [hq0]; exact List.getElem?_eq_getElem _)
        obtain ⟨b', off', e', hbB0, cx0, cy0⟩ := hcq0
        simp only [Option.some.injEq, Addr.mk.injEq, and_true] at e'
        obtain ⟨rfl, rfl⟩ := e'
        have kx0 : wr.cell? ⟨bb, off + t * 2, none⟩ = some (.int .i64 x0) := by
          have h := (hb.cell (p := ⟨bb, off + (t + 0) * 2, none⟩) hbB0).trans cx0
          rwa [show off + (t + 0) * 2 = off + t * 2 by omega] at h
        have ky0 : wr.cell? ⟨bb, off + t * 2 + 1, none⟩ = some (.int .i64 y0) := by
          have h := (hb.cell (p := ⟨bb, off + (t + 0) * 2 + 1, none⟩) hbB0).trans cy0
          rwa [show off + (t + 0) * 2 + 1 = off + t * 2 + 1 by omega] at h
        have HQ0 : Hid (ptAt (ps.drop t) 0 = (x0, y0)) := Lib.hid (by unfold ptAt; rw [List.getD_eq_getElem?_getD, List.getElem?_drop, List.getElem?_eq_getElem (by have := HML.out; omega), hq0]; rfl)
        clear hq0 cx0 cy0
        obtain ⟨⟨x1, y1⟩, hq1⟩ : ∃ q, q = ps[t + 1]'(by have := HML.out; omega) := ⟨_, rfl⟩
        have hcq1 := HP.out.2 (t + 1) (x1, y1) (by rw [hq1]; exact List.getElem?_eq_getElem _)
        obtain ⟨b', off', e', hbB1, cx1, cy1⟩ := hcq1
        simp only [Option.some.injEq, Addr.mk.injEq, and_true] at e'
        obtain ⟨rfl, rfl⟩ := e'
        have kx1 : wr.cell? ⟨bb, off + t * 2 + 2, none⟩ = some (.int .i64 x1) := by
          have h := (hb.cell (p := ⟨bb, off + (t + 1) * 2, none⟩) hbB1).trans cx1
          rwa [show off + (t + 1) * 2 = off + t * 2 + 2 by omega] at h
        have ky1 : wr.cell? ⟨bb, off + t * 2 + 3, none⟩ = some (.int .i64 y1) := by
          have h := (hb.cell (p := ⟨bb, off + (t + 1) * 2 + 1, none⟩) hbB1).trans cy1
          rwa [show off + (t + 1) * 2 + 1 = off + t * 2 + 3 by omega] at h
        have HQ1 : Hid (ptAt (ps.drop t) 1 = (x1, y1)) := Lib.hid (by unfold ptAt; rw [List.getD_eq_getElem?_getD, List.getElem?_drop, List.getElem?_eq_getElem (by have := HML.out; omega), hq1]; rfl)
        clear hq1 cx1 cy1
        obtain ⟨⟨x2, y2⟩, hq2⟩ : ∃ q, q = ps[t + 2]'(by have := HML.out; omega) := ⟨_, rfl⟩
        have hcq2 := HP.out.2 (t + 2) (x2, y2) (by rw [hq2]; exact List.getElem?_eq_getElem _)
        obtain ⟨b', off', e', hbB2, cx2, cy2⟩ := hcq2
        simp only [Option.some.injEq, Addr.mk.injEq, and_true] at e'
        obtain ⟨rfl, rfl⟩ := e'
        have kx2 : wr.cell? ⟨bb, off + t * 2 + 4, none⟩ = some (.int .i64 x2) := by
          have h := (hb.cell (p := ⟨bb, off + (t + 2) * 2, none⟩) hbB2).trans cx2
          rwa [show off + (t + 2) * 2 = off + t * 2 + 4 by omega] at h
        have ky2 : wr.cell? ⟨bb, off + t * 2 + 5, none⟩ = some (.int .i64 y2) := by
          have h := (hb.cell (p := ⟨bb, off + (t + 2) * 2 + 1, none⟩) hbB2).trans cy2
          rwa [show off + (t + 2) * 2 + 1 = off + t * 2 + 5 by omega] at h
        have HQ2 : Hid (ptAt (ps.drop t) 2 = (x2, y2)) := Lib.hid (by unfold ptAt; rw [List.getD_eq_getElem?_getD, List.getElem?_drop, List.getElem?_eq_getElem (by have := HML.out; omega), hq2]; rfl)
        clear hq2 cx2 cy2
        have hk0 : 0 < k := by
          rcases Nat.eq_zero_or_pos k with h | h
          · exact absurd (a2 h) (by decide)
          · exact h
        have hsl := hlast hk0 (by omega)
        obtain ⟨subs, ⟨px, py⟩, rest⟩ := st
        simp only at hsl hO hA HRP2 hc5 hg5
        rcases hO with ⟨he, _⟩ | ⟨front, ⟨⟨sx, sy⟩, segs, cl⟩, fv, lv, B, hsub, hO⟩
        · rw [he] at hsl; simp at hsl
        subst hsub
        obtain ⟨g, cap, rfl, hg1, hg2, hg3, hg4, -, -, -, -, -⟩ := hO.where_
        have kt := Lib.hid (fun W => rtakes_at (v := 4) (k := 3) rfl W)
        have hsm := hg5 _ (List.mem_append_right _ List.mem_cons_self)
        simp only at hsm
        have HO := Lib.hid hO
        have hfl : front.length ≤ 1000 := by simp at hc5; omega
        obtain ⟨la, lc, rfl, _⟩ := own_slice hO.hlast
        clear hO hlast hg5 hc5 hsl
        have fa0 : wr.cell? ⟨w2.heap.size + 1, 0, none⟩ = some (.int .i64 px) := hA.cell 0
        have fa1 : wr.cell? ⟨w2.heap.size + 1, 1, none⟩ = some (.int .i64 py) := hA.cell 1
        have fak := hA.unfrozen
        have hAS : w2.heap.size + 1 ≠ wr.heap.size := by omega
        have hSA : wr.heap.size ≠ w2.heap.size + 1 := by omega
        have hbG : bb ≠ wr.heap.size := by omega
        have hGb : wr.heap.size ≠ bb := by omega
        have hbA : bb ≠ w2.heap.size + 1 := by omega
        have hAb : w2.heap.size + 1 ≠ bb := by omega
        have hbw' : bb < wr.heap.size + 1 := by omega
        have hbw0 : bb < wr.heap.size := by omega
        have hAw' : w2.heap.size + 1 < wr.heap.size + 1 := by omega
        go_wp2_with (first | (go_at_call 15; refine (kt.out _).mono ?_; rintro e w' ⟨rfl, rfl⟩))
        refine wp_loop_rounds (3 + 1) ?_
        repeat any_goals (rw [rounds_succ]; go_wp2_with fail)
        have hB0 : ((wr.setCell ⟨w2.heap.size + 1, 0, none⟩ (.int .i64 x2)).setCell ⟨w2.heap.size + 1, 1, none⟩ (.int .i64 y2)).heap.size = wr.heap.size := by simp
        have hOa := (HO.out.far (i := 0) hA (by decide) (by decide) (.int .i64 x2)).far (i := 1) (hA.set 0 (.int .i64 x2)) (by decide) (by decide) (.int .i64 y2)
        have hAa := (hA.set 0 (.int .i64 x2)).set 1 (.int .i64 y2)
        have hSa := (hS.far (b := w2.heap.size + 1) (i := 0) (by omega) (.int .i64 x2)).far (b := w2.heap.size + 1) (i := 1) (by omega) (.int .i64 y2)
        have hba := (hb.setCell (p := ⟨w2.heap.size + 1, 0, none⟩) (by simp; omega) (.int .i64 x2)).setCell (p := ⟨w2.heap.size + 1, 1, none⟩) (by simp; omega) (.int .i64 y2)
        have hlb := (hOa.hlast.lt)
        clear hA hS hb fa0 fa1 fak g0 g1 hlA hlS hc1' kx0 ky0 kx1 ky1 kx2 ky2
        generalize (wr.setCell ⟨w2.heap.size + 1, 0, none⟩ (.int .i64 x2)).setCell ⟨w2.heap.size + 1, 1, none⟩ (.int .i64 y2) = wQ at hB0 hOa hAa hSa hba hlb ⊢
        rw [← hB0] at hGb hbG hAS hSA ⊢
        have fG := Blk.new wQ 59 #[.int .i64 px, .int .i64 py, .int .i64 x0, .int .i64 y0, .int .i64 x1, .int .i64 y1, .int .i64 x2, .int .i64 y2, .int .i64 4]
        replace hOa := hOa.grow ((Below.refl _ _).alloc (Nat.le_refl _) (.cells #[.int .i64 px, .int .i64 py, .int .i64 x0, .int .i64 y0, .int .i64 x1, .int .i64 y1, .int .i64 x2, .int .i64 y2, .int .i64 4] 59))
        replace hAa := hAa.alloc (.cells #[.int .i64 px, .int .i64 py, .int .i64 x0, .int .i64 y0, .int .i64 x1, .int .i64 y1, .int .i64 x2, .int .i64 y2, .int .i64 4] 59)
        replace hSa := hSa.alloc (.cells #[.int .i64 px, .int .i64 py, .int .i64 x0, .int .i64 y0, .int .i64 x1, .int .i64 y1, .int .i64 x2, .int .i64 y2, .int .i64 4] 59)
        replace hba := hba.alloc hba.size (.cells #[.int .i64 px, .int .i64 py, .int .i64 x0, .int .i64 y0, .int .i64 x1, .int .i64 y1, .int .i64 x2, .int .i64 y2, .int .i64 4] 59)
        have hgG : g < wQ.heap.size := by rw [hB0]; exact hg2
        clear hB0 HO hbw' hbw0 hAw' hbG hGb hAS hSA
        generalize wQ.alloc (.cells #[.int .i64 px, .int .i64 py, .int .i64 x0, .int .i64 y0, .int .i64 x1, .int .i64 y1, .int .i64 x2, .int .i64 y2, .int .i64 4] 59) = wT at fG hOa hAa hSa hba ⊢
        generalize wQ.heap.size = G at *
        have lG := fG.lt
        have hgw : g < wT.heap.size := by omega
        obtain ⟨g', cap', eg, -, -, -, -, c0, c1, c2, c3, cf⟩ := hOa.where_
        simp only [Value.slice.injEq, Option.some.injEq, Addr.mk.injEq] at eg
        obtain ⟨⟨rfl, -⟩, -, rfl⟩ := eg
        simp only at c0 c1 c2 c3
        have eG := fG.cell
        have hkS : wT.heap.size ≤ wT.heap.size := Nat.le_refl _
        refine Reg.wp_region_E (fun b => b = g ∨ b = G) (fun j => decide (16 ≤ j)) 17 rfl (by kernel_rfl) ?_
        refine Reg.wpE_hoist [0, 1, 2, 3, 4, 5, 6, 7, 8, 9, 10, 11] 5 rfl (by kernel_rfl) (by kernel_rfl) (by kernel_rfl) (fun u => ?_)
        simp only [Reg.pickL, List.drop]
        repeat (go_big_quiet_step ((first | fail)))
        refine wpQuiet_nil ?_
        clear eG c0 c1 c2 c3 cf
        refine Reg.wpE_main 12 (by kernel_rfl) (fun z1 hN => ?_)
        simp only [Reg.pickL, List.drop]
        replace hOa := hOa.grow hN
        replace hAa := hAa.grow hN
        replace hSa := hSa.grow hN
        replace hba := hba.trans (Below.mono hN hba.size)
        have hsz := Below.size hN
        clear hN
        go_wp2_with fail
        refine ⟨rfl, .inr (Reg.Kp.of_gr ((Below.refl _ _).alloc (Nat.le_refl _) _)), ?_⟩
        replace hOa := hOa.grow ((Below.refl _ _).alloc (Nat.le_refl _) (.cells (segV ⟨(px, py), (x0, y0), (x1, y1), (x2, y2), 4⟩).toArray 59))
        replace hAa := hAa.alloc (.cells (segV ⟨(px, py), (x0, y0), (x1, y1), (x2, y2), 4⟩).toArray 59)
        replace hSa := hSa.alloc (.cells (segV ⟨(px, py), (x0, y0), (x1, y1), (x2, y2), 4⟩).toArray 59)
        replace hba := hba.alloc hba.size (.cells (segV ⟨(px, py), (x0, y0), (x1, y1), (x2, y2), 4⟩).toArray 59)
        have f9 : Blk _ z1.heap.size 59 (segV ⟨(px, py), (x0, y0), (x1, y1), (x2, y2), 4⟩).toArray := Blk.new z1 _ _
        refine Reg.wpE_main 13 (by kernel_rfl) (fun z2 hN => ?_)
        simp only [Reg.pickL, List.drop]
        replace hOa := hOa.grow hN
        replace hAa := hAa.grow hN
        replace hSa := hSa.grow hN
        replace hba := hba.trans (Below.mono hN hba.size)
        replace f9 := f9.grow hN
        clear hN
        have hlz : z2.ownsRow B 59 9 (.slice la segs.length lc) segs.length (segsV segs) := hOa.hlast
        refine wpList_append_own _ rfl _ _ 69 rfl B 59 iG _ 9 72 Try.underlying69 hiG hz0G hz1G hz2G rfl (by decide) (.slice la segs.length lc) _ _ rfl hlz ⟨z1.heap.size, 0, none⟩ 1 1 (segV ⟨(px, py), (x0, y0), (x1, y1), (x2, y2), 4⟩) rfl rfl f9.news (segV_one _) (by unfold maxLen; omega) (by omega) hOa.hsize ?_
        intro lv' w5 hown5 hg5 _
        obtain ⟨a5, c5, rfl, _⟩ := own_slice hown5
        have hrowg := hOa.hrow
        go_wp2_with fail
        refine ⟨rfl, .inr (Reg.Kp.of_grown hg5 (fun b hb h => ?_)), ?_⟩
        · rcases h with rfl | rfl
          · rcases own_apart hlz hrowg (by decide) with h1 | h1
            · rw [h1] at hb; cases hb
            · exact h1 hb
          · exact Nat.lt_irrefl _ (hlb _ hb).2
        obtain ⟨d2, df, dg, dg'⟩ := hOa.grown_cell (by decide) hg5
        have hga := hOa.apart hAa (by decide)
        have hgs := hOa.apart hSa (by decide)
        have hO5 := hOa.put (s := ⟨(px, py), (x0, y0), (x1, y1), (x2, y2), 4⟩) (by decide) hown5 hg5
        have hA5 := hAa.grown hg5 (own_apart_blk hlz hAa (by decide))
        have hS5 := hSa.grown hg5 (own_apart_blk hlz hSa (by decide))
        have hx5 : Below w.heap.size w w5 := hba.grown hg5 hba.size (fun q hq => by have := (hlz.lt q hq).1; have := hOa.hbase; omega)
        have lgw := dg
        clear hrowg hlz f9 hown5 hg5 hOa hAa hSa hba
        refine Reg.wpE_hoist [14, 15] 1 rfl (by kernel_rfl) (by kernel_rfl) (by kernel_rfl) (fun u => ?_)
        simp only [Reg.pickL, List.drop]
        repeat (go_big_quiet_step ((first | fail)))
        refine wpQuiet_nil ?_
        refine Reg.wpE_main 16 (by kernel_rfl) (fun z3 hN => ?_)
        simp only [Reg.pickL, List.drop]
        have d3 := ((bcell hN).1 g (front.length * 4 + 2) dg).trans d2
        have df3 : ∀ j, z3.frozen? ⟨g, j, none⟩ = false := fun j => ((bcell hN).2 g j dg).trans (df j)
        have lg3 : g < z3.heap.size := Nat.lt_of_lt_of_le dg (Below.size hN)
        have hO6 := hO5.grow (by have h := below_set hN ⟨g, front.length * 4 + 2, none⟩ (.slice a5 (segs.length + 1) c5); simpa using h)
        have hA6 := (hA5.grow hN).far (i := front.length * 4 + 2) hga (.slice a5 (segs.length + 1) c5)
        have hS6 := (hS5.grow hN).far (i := front.length * 4 + 2) hgs (.slice a5 (segs.length + 1) c5)
        have hx6 := (hx5.trans (Below.mono hN hx5.size)).setCell (p := ⟨g, front.length * 4 + 2, none⟩) (by simpa using hg1) (.slice a5 (segs.length + 1) c5)
        have HO6 := Lib.hid hO6
        clear hO5 hA5 hS5 hx5 hN hO6 d2 df
        go_wp2_with fail
        refine ⟨rfl, .inl rfl, ?_⟩
        refine Reg.wpE_end (by kernel_rfl) (fun z4 hN => ?_)
        replace hA6 := hA6.grow hN
        replace hS6 := hS6.grow hN
        replace hx6 := hx6.trans (Below.mono hN hx6.size)
        have HO7 := Lib.hid (HO6.out.grow hN)
        clear hN HO6 d3 df3 lg3
        go_wp2_with fail
        refine ⟨⟨k + 1, by omega, by go_num, by rw [HN.out]; rfl, ?_, ?_, hS6, hx6⟩, by simp [intOf]; omega⟩
        · rw [HST.out, takeS_cubic]
          have e : curveS (px, py) rest 3 = ⟨(px, py), (x0, y0), (x1, y1), (x2, y2), 4⟩ := by unfold curveS; rw [HRP2.out]; simp [HQ0.out, HQ1.out, HQ2.out]
          refine .inr ⟨front, _, fv, .slice a5 (segs.length + 1) c5, B, modLast_snoc _ _ _, ?_⟩
          simp only [e]
          exact HO7.out
        · rw [HST.out, takeS_cubic]
          have e : ptAt rest (3 - 1) = (x2, y2) := by rw [HRP2.out]; exact HQ2.out
          simp only [Nat.reduceSub] at e
          simp only [e]
          exact hA6
      · have hk0 : 0 < k := by
          rcases Nat.eq_zero_or_pos k with h | h
          · exact absurd (a2 h) (by decide)
          · exact h
        have hsl := hlast hk0 (by omega)
        obtain ⟨subs, ⟨px, py⟩, rest⟩ := st
        simp only at hsl hO hA HRP2 hc5 hg5
        rcases hO with ⟨he, _⟩ | ⟨front, ⟨⟨sx, sy⟩, segs, cl⟩, fv, lv, B, hsub, hO⟩
        · rw [he] at hsl; simp at hsl
        subst hsub
        obtain ⟨g, cap, rfl, hg1, hg2, hg3, hg4, c0, c1, c2, c3, cf⟩ := hO.where_
        simp only at c0 c1 c2 c3
        have kt := Lib.hid (fun W => rtakes_at (v := 5) (k := 0) rfl W)
        have hsm := hg5 _ (List.mem_append_right _ List.mem_cons_self)
        simp only at hsm
        have HO := Lib.hid hO
        unfold maxLen at hd hg4
        have hfl : front.length ≤ 1000 := by simp at hc5; omega
        obtain ⟨la, lc, rfl, _⟩ := own_slice hO.hlast
        clear hO hlast hg5 hc5 hsl
        have fa0 : wr.cell? ⟨w2.heap.size + 1, 0, none⟩ = some (.int .i64 px) := hA.cell 0
        have fa1 : wr.cell? ⟨w2.heap.size + 1, 1, none⟩ = some (.int .i64 py) := hA.cell 1
        have hgS : g ≠ wr.heap.size := by omega
        have hSg : wr.heap.size ≠ g := by omega
        have hAS : w2.heap.size + 1 ≠ wr.heap.size := by omega
        have hSA : wr.heap.size ≠ w2.heap.size + 1 := by omega
        have hcase : (px = sx ∧ py = sy) ∨ ((px == sx) = false ∧ ¬ (px, py) = (sx, sy)) ∨ ((px == sx) = true ∧ (py == sy) = false ∧ ¬ (px, py) = (sx, sy)) := by
          by_cases h1 : px = sx <;> by_cases h2 : py = sy <;> simp [h1, h2]
        rcases hcase with ⟨rfl, rfl⟩ | hne
        · go_wp2_with (first | (go_at_call 15; refine (kt.out _).mono ?_; rintro e w' ⟨rfl, rfl⟩))
          refine ⟨⟨k + 1, by omega, by go_num, by rw [HN.out]; rfl, ?_, ?_, ?_, ?_⟩, by simp [intOf]; omega⟩
          · rw [HST.out, takeS_close]
            refine .inr ⟨front, _, fv, .slice la segs.length lc, B, modLast_snoc _ _ _, ?_⟩
            have h := (HO.out.put4 (by decide) ⟨(px, py), segs, true⟩ HO.out.hlast).grow ((Below.refl _ _).alloc (Nat.le_refl _) (.cells #[.int .i64 px, .int .i64 py, .slice la segs.length lc, .bool true] 71))
            unfold closeS
            rw [if_pos rfl]
            exact h
          · rw [HST.out, takeS_close]
            exact ((((hA.far (by have := HO.out.apart hA (by decide); exact this) _).far (by have := HO.out.apart hA (by decide); exact this) _).far (by have := HO.out.apart hA (by decide); exact this) _).far (by have := HO.out.apart hA (by decide); exact this) _).alloc _
          · exact ((((hS.far (by have := HO.out.apart hS (by decide); exact this) _).far (by have := HO.out.apart hS (by decide); exact this) _).far (by have := HO.out.apart hS (by decide); exact this) _).far (by have := HO.out.apart hS (by decide); exact this) _).alloc _
          · exact ((((hb.setCell (by simpa using hg1) _).setCell (by simpa using hg1) _).setCell (by simpa using hg1) _).setCell (by simpa using hg1) _).alloc (by simp; omega) _
        · have hne' : Hid (¬ (px, py) = (sx, sy)) := Lib.hid (by rcases hne with h | h <;> simp_all)
          have htdc : t < d ∨ d = t := by omega
          rcases hne with ⟨h1, -⟩ | ⟨h1, h2, -⟩ <;> rcases htdc with htd | rfl
          all_goals
            go_wp2_with (first | (go_at_call 15; refine (kt.out _).mono ?_; rintro e w' ⟨rfl, rfl⟩))
            have fS := Blk.new wr 71 #[.int .i64 sx, .int .i64 sy, .slice la segs.length lc, .bool true]
            have hOT := HO.out.grow ((Below.refl _ _).alloc (Nat.le_refl _) (.cells #[.int .i64 sx, .int .i64 sy, .slice la segs.length lc, .bool true] 71))
            have hAT := hA.alloc (.cells #[.int .i64 sx, .int .i64 sy, .slice la segs.length lc, .bool true] 71)
            have hST := hS.alloc (.cells #[.int .i64 sx, .int .i64 sy, .slice la segs.length lc, .bool true] 71)
            have hbT := hb.alloc hb.size (.cells #[.int .i64 sx, .int .i64 sy, .slice la segs.length lc, .bool true] 71)
            have hSw : w.heap.size ≤ wr.heap.size := hb.size
            clear hA hS hb g0 g1 hlA hlS hbsz c0 c1 c2 c3 cf fa0 fa1 hc1'
            generalize wr.alloc (.cells #[.int .i64 sx, .int .i64 sy, .slice la segs.length lc, .bool true] 71) = wT at fS hOT hAT hST hbT ⊢
            generalize wr.heap.size = S at *
            have lS := fS.lt
            have lA := hAT.lt
            have eS := fS.cell
            have eA := hAT.cell
            have hS := Below.refl wT.heap.size wT
            refine Reg.wp_region_E (fun b => b < wT.heap.size) (fun j => decide (12 ≤ j)) 13 rfl (by kernel_rfl) ?_
            refine Reg.wpE_hoist [1, 2, 4, 5, 6, 7, 8] 6 rfl (by kernel_rfl) (by kernel_rfl) (by kernel_rfl) (fun u => ?_)
            simp only [Reg.pickL, List.drop]
            repeat (go_big_quiet_step ((first | fail)))
            refine wpQuiet_nil ?_
            clear eS eA
            refine Reg.wpE_main2 0 9 (by kernel_rfl) (fun x1 hN => ?_) (fun x1 hN => ?_)
            · simp only [Reg.pickL, List.drop]
              replace hS := hS.trans (Below.mono hN hS.size)
              try replace f0 := own_grow f0 hN
              try replace f3 := own_grow f3 hN
              try replace f9 := f9.grow hN
              clear hN
              have hsz := hS.size
              go_wp2_with fail
              refine ⟨rfl, .inr (Reg.Kp.of_gr ((Below.refl _ _).alloc (Nat.le_refl _) _)), ?_⟩
              skip
              try replace f9 := f9.alloc (.cells #[] 59)
              have f0 := own_empty x1 wT.heap.size 59 9 hsz
              replace hS := hS.alloc hsz (.cells #[] 59)
              clear hsz
              refine Reg.wpE_main2 3 9 (by kernel_rfl) (fun x2 hN => ?_) (fun x2 hN => ?_)
              · simp only [Reg.pickL, List.drop]
                replace hS := hS.trans (Below.mono hN hS.size)
                try replace f0 := own_grow f0 hN
                try replace f3 := own_grow f3 hN
                try replace f9 := f9.grow hN
                clear hN
                have hsz := hS.size
                have hlx := own_grow hOT.hlast hS
                obtain ⟨hnw, hnl0⟩ := own_news hlx
                refine wpList_append_src rfl _ _ 69 rfl wT.heap.size 59 iG _ 9 72 Try.underlying69 hiG hz0G hz1G hz2G rfl (by decide) (.slice (some ⟨x1.heap.size, 0, none⟩) 0 0) _ _ rfl f0 la segs.length lc (segsV segs) rfl hnl0 (segsV_length _) hnw (segsV_one _) (by unfold maxLen; omega) (by omega) hsz ?_
                clear hlx hnw hnl0
                have hlo := f0.lt
                intro va wa hown hg
                simp only [Nat.zero_add, List.nil_append] at hown
                obtain ⟨aa, ca, rfl, _⟩ := own_slice hown
                go_wp2_with fail
                refine ⟨rfl, .inr (Reg.Kp.of_grown hg (fun b hb => Nat.not_lt.2 (hlo b hb).1)), ?_⟩
                skip
                replace hS := hS.grown hg hsz (fun q hq => (hlo q hq).1)
                have f3 := hown
                clear hown hg hlo hsz f0
                refine Reg.wpE_main 9 (by kernel_rfl) (fun x3 hN => ?_)
                simp only [Reg.pickL, List.drop]
                replace hS := hS.trans (Below.mono hN hS.size)
                try replace f0 := own_grow f0 hN
                try replace f3 := own_grow f3 hN
                try replace f9 := f9.grow hN
                clear hN
                have hsz := hS.size
                go_wp2_with fail
                refine ⟨rfl, .inr (Reg.Kp.of_gr ((Below.refl _ _).alloc (Nat.le_refl _) _)), ?_⟩
                skip
                try replace f0 := f0.alloc (.cells (segV (lineS (px, py) (sx, sy))).toArray 59)
                try replace f3 := f3.alloc (.cells (segV (lineS (px, py) (sx, sy))).toArray 59)
                have f9 : Blk _ x3.heap.size 59 (segV (lineS (px, py) (sx, sy))).toArray := Blk.new x3 _ _
                replace hS := hS.alloc hsz (.cells (segV (lineS (px, py) (sx, sy))).toArray 59)
                clear hsz
                refine Reg.wpE_main 10 (by kernel_rfl) (fun x4 hN => ?_)
                simp only [Reg.pickL, List.drop]
                replace hS := hS.trans (Below.mono hN hS.size)
                try replace f0 := own_grow f0 hN
                try replace f3 := own_grow f3 hN
                try replace f9 := f9.grow hN
                clear hN
                have hsz := hS.size
                refine wpList_append_src rfl _ _ 69 rfl wT.heap.size 59 iG _ 9 72 Try.underlying69 hiG hz0G hz1G hz2G rfl (by decide) (.slice aa segs.length ca) _ _ rfl f3 (some ⟨x3.heap.size, 0, none⟩) 1 1 (segV (lineS (px, py) (sx, sy))) rfl (by simp) rfl (fun j u hj => ⟨_, rfl, f9.news j u hj⟩) (segV_one _) (by unfold maxLen; omega) (by omega) hsz ?_
                have hlo := f3.lt
                intro va wa hown hg
                obtain ⟨ab, cb, rfl, _⟩ := own_slice hown
                go_wp2_with fail
                refine ⟨rfl, .inr (Reg.Kp.of_grown hg (fun b hb => Nat.not_lt.2 (hlo b hb).1)), ?_⟩
                replace hS := hS.grown hg hsz (fun q hq => (hlo q hq).1)
                clear hg hlo hsz f3 f9
                refine Reg.wpE_hoist [11] 1 rfl (by kernel_rfl) (by kernel_rfl) (by kernel_rfl) (fun u => ?_)
                simp only [Reg.pickL, List.drop]
                repeat (go_big_quiet_step ((first | fail)))
                refine wpQuiet_nil ?_
                refine Reg.wpE_main 12 (by kernel_rfl) (fun x5 hN => ?_)
                simp only [Reg.pickL, List.drop]
                replace hS := hS.trans (Below.mono hN hS.size)
                replace hown := own_grow hown hN
                have fS5 := fS.grow hS
                have e2 := fS5.cell 2
                have kfz := fS5.unfrozen
                have lS5 := fS5.lt
                have HOW := Lib.hid hown
                clear hown hN
                go_wp2_with fail
                refine ⟨rfl, .inl rfl, ?_⟩
                have hw6 := own_far (i := 2) HOW.out fS5 (by decide) (.slice ab (segs.length + 1) cb)
                have hO6 := (hOT.grow hS).far2 (i := 2) fS5 hgS (by decide) (.slice ab (segs.length + 1) cb)
                have hA6 := (hAT.grow hS).far (i := 2) hSA (.slice ab (segs.length + 1) cb)
                have hS6 := (hST.grow hS).far (b := S) (i := 2) (by omega) (.slice ab (segs.length + 1) cb)
                have hb6 := (hbT.trans (hS.mono hbT.size)).setCell (p := ⟨S, 2, none⟩) hSw (.slice ab (segs.length + 1) cb)
                have fS6 := fS5.set 2 (.slice ab (segs.length + 1) cb)
                refine Reg.wpE_end (by kernel_rfl) (fun x6 hN => ?_)
                replace hw6 := own_grow hw6 hN
                replace hO6 := hO6.grow hN
                replace hA6 := hA6.grow hN
                replace hS6 := hS6.grow hN
                replace fS6 := fS6.grow hN
                replace hb6 := hb6.trans (Below.mono hN hb6.size)
                have hlv6 := own_base hw6 hOT.hsize
                obtain ⟨gz, capz, eg, -, hgz, -, -, c0, c1, c2, c3, cf⟩ := hO6.where_
                simp only [Value.slice.injEq, Option.some.injEq, Addr.mk.injEq] at eg
                obtain ⟨⟨rfl, -⟩, -, rfl⟩ := eg
                simp only at c0 c1 c2 c3
                have eS := fS6.cell
                have lS6 := fS6.lt
                have HO6 := Lib.hid hO6
                have HL6 := Lib.hid hlv6
                have HA6 := Lib.hid hA6
                have HS6 := Lib.hid hS6
                have HB6 := Lib.hid hb6
                clear hw6 hO6 hlv6 hA6 hS6 hb6 hN HOW fS5 e2 kfz lS5 hS fS6 hOT hAT hST hbT fS
                go_wp2_with fail
                refine ⟨⟨k + 1, by omega, by go_num, by rw [HN.out]; rfl, ?_, ?_, ?_, ?_⟩, by simp [intOf]; omega⟩
                · rw [HST.out, takeS_close]
                  refine .inr ⟨front, _, fv, .slice ab (segs.length + 1) cb, B, modLast_snoc _ _ _, ?_⟩
                  have h := HO6.out.put4 (lv' := .slice ab (segs.length + 1) cb) (by decide) ⟨(sx, sy), segs ++ [lineS (px, py) (sx, sy)], true⟩ (by simp only [List.length_append, List.length_cons, List.length_nil, segsV_snoc]; exact HL6.out)
                  unfold closeS
                  rw [if_neg hne'.out]
                  exact h
                · rw [HST.out, takeS_close]
                  have hga := HO6.out.apart HA6.out (by decide)
                  exact (((HA6.out.far hga _).far hga _).far hga _).far hga _
                · have hga := HO6.out.apart HS6.out (by decide)
                  exact (((HS6.out.far hga _).far hga _).far hga _).far hga _
                · exact (((HB6.out.setCell (by simpa using hg1) _).setCell (by simpa using hg1) _).setCell (by simpa using hg1) _).setCell (by simpa using hg1) _
              · simp only [Reg.pickL, List.drop]
                replace hS := hS.trans (Below.mono hN hS.size)
                try replace f0 := own_grow f0 hN
                try replace f3 := own_grow f3 hN
                try replace f9 := f9.grow hN
                clear hN
                have hsz := hS.size
                go_wp2_with fail
                refine ⟨rfl, .inr (Reg.Kp.of_gr ((Below.refl _ _).alloc (Nat.le_refl _) _)), ?_⟩
                have nn : x1.heap.size ≠ x2.heap.size := by have := (f0.lt (x1.heap.size) rfl).2; omega
                try replace f0 := f0.alloc (.cells (segV (lineS (px, py) (sx, sy))).toArray 59)
                try replace f3 := f3.alloc (.cells (segV (lineS (px, py) (sx, sy))).toArray 59)
                have f9 : Blk _ x2.heap.size 59 (segV (lineS (px, py) (sx, sy))).toArray := Blk.new x2 _ _
                replace hS := hS.alloc hsz (.cells (segV (lineS (px, py) (sx, sy))).toArray 59)
                clear hsz
                refine Reg.wpE_main 3 (by kernel_rfl) (fun x3 hN => ?_)
                simp only [Reg.pickL, List.drop]
                replace hS := hS.trans (Below.mono hN hS.size)
                try replace f0 := own_grow f0 hN
                try replace f3 := own_grow f3 hN
                try replace f9 := f9.grow hN
                clear hN
                have hsz := hS.size
                have hlx := own_grow hOT.hlast hS
                obtain ⟨hnw, hnl0⟩ := own_news hlx
                refine wpList_append_src rfl _ _ 69 rfl wT.heap.size 59 iG _ 9 72 Try.underlying69 hiG hz0G hz1G hz2G rfl (by decide) (.slice (some ⟨x1.heap.size, 0, none⟩) 0 0) _ _ rfl f0 la segs.length lc (segsV segs) rfl hnl0 (segsV_length _) hnw (segsV_one _) (by unfold maxLen; omega) (by omega) hsz ?_
                clear hlx hnw hnl0
                have hlo := f0.lt
                intro va wa hown hg
                simp only [Nat.zero_add, List.nil_append] at hown
                obtain ⟨aa, ca, rfl, _⟩ := own_slice hown
                go_wp2_with fail
                refine ⟨rfl, .inr (Reg.Kp.of_grown hg (fun b hb => Nat.not_lt.2 (hlo b hb).1)), ?_⟩
                replace f9 := f9.grown hg (fun q hq => by simp [Value.ownBlock] at hq; subst hq; exact nn)
                replace hS := hS.grown hg hsz (fun q hq => (hlo q hq).1)
                have f3 := hown
                clear hown hg hlo hsz f0
                refine Reg.wpE_main 10 (by kernel_rfl) (fun x4 hN => ?_)
                simp only [Reg.pickL, List.drop]
                replace hS := hS.trans (Below.mono hN hS.size)
                try replace f0 := own_grow f0 hN
                try replace f3 := own_grow f3 hN
                try replace f9 := f9.grow hN
                clear hN
                have hsz := hS.size
                refine wpList_append_src rfl _ _ 69 rfl wT.heap.size 59 iG _ 9 72 Try.underlying69 hiG hz0G hz1G hz2G rfl (by decide) (.slice aa segs.length ca) _ _ rfl f3 (some ⟨x2.heap.size, 0, none⟩) 1 1 (segV (lineS (px, py) (sx, sy))) rfl (by simp) rfl (fun j u hj => ⟨_, rfl, f9.news j u hj⟩) (segV_one _) (by unfold maxLen; omega) (by omega) hsz ?_
                have hlo := f3.lt
                intro va wa hown hg
                obtain ⟨ab, cb, rfl, _⟩ := own_slice hown
                go_wp2_with fail
                refine ⟨rfl, .inr (Reg.Kp.of_grown hg (fun b hb => Nat.not_lt.2 (hlo b hb).1)), ?_⟩
                replace hS := hS.grown hg hsz (fun q hq => (hlo q hq).1)
                clear hg hlo hsz f3 f9
                refine Reg.wpE_hoist [11] 1 rfl (by kernel_rfl) (by kernel_rfl) (by kernel_rfl) (fun u => ?_)
                simp only [Reg.pickL, List.drop]
                repeat (go_big_quiet_step ((first | fail)))
                refine wpQuiet_nil ?_
                refine Reg.wpE_main 12 (by kernel_rfl) (fun x5 hN => ?_)
                simp only [Reg.pickL, List.drop]
                replace hS := hS.trans (Below.mono hN hS.size)
                replace hown := own_grow hown hN
                have fS5 := fS.grow hS
                have e2 := fS5.cell 2
                have kfz := fS5.unfrozen
                have lS5 := fS5.lt
                have HOW := Lib.hid hown
                clear hown hN
                go_wp2_with fail
                refine ⟨rfl, .inl rfl, ?_⟩
                have hw6 := own_far (i := 2) HOW.out fS5 (by decide) (.slice ab (segs.length + 1) cb)
                have hO6 := (hOT.grow hS).far2 (i := 2) fS5 hgS (by decide) (.slice ab (segs.length + 1) cb)
                have hA6 := (hAT.grow hS).far (i := 2) hSA (.slice ab (segs.length + 1) cb)
                have hS6 := (hST.grow hS).far (b := S) (i := 2) (by omega) (.slice ab (segs.length + 1) cb)
                have hb6 := (hbT.trans (hS.mono hbT.size)).setCell (p := ⟨S, 2, none⟩) hSw (.slice ab (segs.length + 1) cb)
                have fS6 := fS5.set 2 (.slice ab (segs.length + 1) cb)
                refine Reg.wpE_end (by kernel_rfl) (fun x6 hN => ?_)
                replace hw6 := own_grow hw6 hN
                replace hO6 := hO6.grow hN
                replace hA6 := hA6.grow hN
                replace hS6 := hS6.grow hN
                replace fS6 := fS6.grow hN
                replace hb6 := hb6.trans (Below.mono hN hb6.size)
                have hlv6 := own_base hw6 hOT.hsize
                obtain ⟨gz, capz, eg, -, hgz, -, -, c0, c1, c2, c3, cf⟩ := hO6.where_
                simp only [Value.slice.injEq, Option.some.injEq, Addr.mk.injEq] at eg
                obtain ⟨⟨rfl, -⟩, -, rfl⟩ := eg
                simp only at c0 c1 c2 c3
                have eS := fS6.cell
                have lS6 := fS6.lt
                have HO6 := Lib.hid hO6
                have HL6 := Lib.hid hlv6
                have HA6 := Lib.hid hA6
                have HS6 := Lib.hid hS6
                have HB6 := Lib.hid hb6
                clear hw6 hO6 hlv6 hA6 hS6 hb6 hN HOW fS5 e2 kfz lS5 hS fS6 hOT hAT hST hbT fS
                go_wp2_with fail
                refine ⟨⟨k + 1, by omega, by go_num, by rw [HN.out]; rfl, ?_, ?_, ?_, ?_⟩, by simp [intOf]; omega⟩
                · rw [HST.out, takeS_close]
                  refine .inr ⟨front, _, fv, .slice ab (segs.length + 1) cb, B, modLast_snoc _ _ _, ?_⟩
                  have h := HO6.out.put4 (lv' := .slice ab (segs.length + 1) cb) (by decide) ⟨(sx, sy), segs ++ [lineS (px, py) (sx, sy)], true⟩ (by simp only [List.length_append, List.length_cons, List.length_nil, segsV_snoc]; exact HL6.out)
                  unfold closeS
                  rw [if_neg hne'.out]
                  exact h
                · rw [HST.out, takeS_close]
                  have hga := HO6.out.apart HA6.out (by decide)
                  exact (((HA6.out.far hga _).far hga _).far hga _).far hga _
                · have hga := HO6.out.apart HS6.out (by decide)
                  exact (((HS6.out.far hga _).far hga _).far hga _).far hga _
                · exact (((HB6.out.setCell (by simpa using hg1) _).setCell (by simpa using hg1) _).setCell (by simpa using hg1) _).setCell (by simpa using hg1) _
            · simp only [Reg.pickL, List.drop]
              replace hS := hS.trans (Below.mono hN hS.size)
              try replace f0 := own_grow f0 hN
              try replace f3 := own_grow f3 hN
              try replace f9 := f9.grow hN
              clear hN
              have hsz := hS.size
              go_wp2_with fail
              refine ⟨rfl, .inr (Reg.Kp.of_gr ((Below.refl _ _).alloc (Nat.le_refl _) _)), ?_⟩
              skip
              try replace f0 := f0.alloc (.cells (segV (lineS (px, py) (sx, sy))).toArray 59)
              try replace f3 := f3.alloc (.cells (segV (lineS (px, py) (sx, sy))).toArray 59)
              have f9 : Blk _ x1.heap.size 59 (segV (lineS (px, py) (sx, sy))).toArray := Blk.new x1 _ _
              replace hS := hS.alloc hsz (.cells (segV (lineS (px, py) (sx, sy))).toArray 59)
              clear hsz
              refine Reg.wpE_main 0 (by kernel_rfl) (fun x2 hN => ?_)
              simp only [Reg.pickL, List.drop]
              replace hS := hS.trans (Below.mono hN hS.size)
              try replace f0 := own_grow f0 hN
              try replace f3 := own_grow f3 hN
              try replace f9 := f9.grow hN
              clear hN
              have hsz := hS.size
              go_wp2_with fail
              refine ⟨rfl, .inr (Reg.Kp.of_gr ((Below.refl _ _).alloc (Nat.le_refl _) _)), ?_⟩
              have nn : x2.heap.size ≠ x1.heap.size := by have := f9.lt; omega
              try replace f9 := f9.alloc (.cells #[] 59)
              have f0 := own_empty x2 wT.heap.size 59 9 hsz
              replace hS := hS.alloc hsz (.cells #[] 59)
              clear hsz
              refine Reg.wpE_main 3 (by kernel_rfl) (fun x3 hN => ?_)
              simp only [Reg.pickL, List.drop]
              replace hS := hS.trans (Below.mono hN hS.size)
              try replace f0 := own_grow f0 hN
              try replace f3 := own_grow f3 hN
              try replace f9 := f9.grow hN
              clear hN
              have hsz := hS.size
              have hlx := own_grow hOT.hlast hS
              obtain ⟨hnw, hnl0⟩ := own_news hlx
              refine wpList_append_src rfl _ _ 69 rfl wT.heap.size 59 iG _ 9 72 Try.underlying69 hiG hz0G hz1G hz2G rfl (by decide) (.slice (some ⟨x2.heap.size, 0, none⟩) 0 0) _ _ rfl f0 la segs.length lc (segsV segs) rfl hnl0 (segsV_length _) hnw (segsV_one _) (by unfold maxLen; omega) (by omega) hsz ?_
              clear hlx hnw hnl0
              have hlo := f0.lt
              intro va wa hown hg
              simp only [Nat.zero_add, List.nil_append] at hown
              obtain ⟨aa, ca, rfl, _⟩ := own_slice hown
              go_wp2_with fail
              refine ⟨rfl, .inr (Reg.Kp.of_grown hg (fun b hb => Nat.not_lt.2 (hlo b hb).1)), ?_⟩
              replace f9 := f9.grown hg (fun q hq => by simp [Value.ownBlock] at hq; subst hq; exact nn)
              replace hS := hS.grown hg hsz (fun q hq => (hlo q hq).1)
              have f3 := hown
              clear hown hg hlo hsz f0
              refine Reg.wpE_main 10 (by kernel_rfl) (fun x4 hN => ?_)
              simp only [Reg.pickL, List.drop]
              replace hS := hS.trans (Below.mono hN hS.size)
              try replace f0 := own_grow f0 hN
              try replace f3 := own_grow f3 hN
              try replace f9 := f9.grow hN
              clear hN
              have hsz := hS.size
              refine wpList_append_src rfl _ _ 69 rfl wT.heap.size 59 iG _ 9 72 Try.underlying69 hiG hz0G hz1G hz2G rfl (by decide) (.slice aa segs.length ca) _ _ rfl f3 (some ⟨x1.heap.size, 0, none⟩) 1 1 (segV (lineS (px, py) (sx, sy))) rfl (by simp) rfl (fun j u hj => ⟨_, rfl, f9.news j u hj⟩) (segV_one _) (by unfold maxLen; omega) (by omega) hsz ?_
              have hlo := f3.lt
              intro va wa hown hg
              obtain ⟨ab, cb, rfl, _⟩ := own_slice hown
              go_wp2_with fail
              refine ⟨rfl, .inr (Reg.Kp.of_grown hg (fun b hb => Nat.not_lt.2 (hlo b hb).1)), ?_⟩
              replace hS := hS.grown hg hsz (fun q hq => (hlo q hq).1)
              clear hg hlo hsz f3 f9
              refine Reg.wpE_hoist [11] 1 rfl (by kernel_rfl) (by kernel_rfl) (by kernel_rfl) (fun u => ?_)
              simp only [Reg.pickL, List.drop]
              repeat (go_big_quiet_step ((first | fail)))
              refine wpQuiet_nil ?_
              refine Reg.wpE_main 12 (by kernel_rfl) (fun x5 hN => ?_)
              simp only [Reg.pickL, List.drop]
              replace hS := hS.trans (Below.mono hN hS.size)
              replace hown := own_grow hown hN
              have fS5 := fS.grow hS
              have e2 := fS5.cell 2
              have kfz := fS5.unfrozen
              have lS5 := fS5.lt
              have HOW := Lib.hid hown
              clear hown hN
              go_wp2_with fail
              refine ⟨rfl, .inl rfl, ?_⟩
              have hw6 := own_far (i := 2) HOW.out fS5 (by decide) (.slice ab (segs.length + 1) cb)
              have hO6 := (hOT.grow hS).far2 (i := 2) fS5 hgS (by decide) (.slice ab (segs.length + 1) cb)
              have hA6 := (hAT.grow hS).far (i := 2) hSA (.slice ab (segs.length + 1) cb)
              have hS6 := (hST.grow hS).far (b := S) (i := 2) (by omega) (.slice ab (segs.length + 1) cb)
              have hb6 := (hbT.trans (hS.mono hbT.size)).setCell (p := ⟨S, 2, none⟩) hSw (.slice ab (segs.length + 1) cb)
              have fS6 := fS5.set 2 (.slice ab (segs.length + 1) cb)
              refine Reg.wpE_end (by kernel_rfl) (fun x6 hN => ?_)
              replace hw6 := own_grow hw6 hN
              replace hO6 := hO6.grow hN
              replace hA6 := hA6.grow hN
              replace hS6 := hS6.grow hN
              replace fS6 := fS6.grow hN
              replace hb6 := hb6.trans (Below.mono hN hb6.size)
              have hlv6 := own_base hw6 hOT.hsize
              obtain ⟨gz, capz, eg, -, hgz, -, -, c0, c1, c2, c3, cf⟩ := hO6.where_
              simp only [Value.slice.injEq, Option.some.injEq, Addr.mk.injEq] at eg
              obtain ⟨⟨rfl, -⟩, -, rfl⟩ := eg
              simp only at c0 c1 c2 c3
              have eS := fS6.cell
              have lS6 := fS6.lt
              have HO6 := Lib.hid hO6
              have HL6 := Lib.hid hlv6
              have HA6 := Lib.hid hA6
              have HS6 := Lib.hid hS6
              have HB6 := Lib.hid hb6
              clear hw6 hO6 hlv6 hA6 hS6 hb6 hN HOW fS5 e2 kfz lS5 hS fS6 hOT hAT hST hbT fS
              go_wp2_with fail
              refine ⟨⟨k + 1, by omega, by go_num, by rw [HN.out]; rfl, ?_, ?_, ?_, ?_⟩, by simp [intOf]; omega⟩
              · rw [HST.out, takeS_close]
                refine .inr ⟨front, _, fv, .slice ab (segs.length + 1) cb, B, modLast_snoc _ _ _, ?_⟩
                have h := HO6.out.put4 (lv' := .slice ab (segs.length + 1) cb) (by decide) ⟨(sx, sy), segs ++ [lineS (px, py) (sx, sy)], true⟩ (by simp only [List.length_append, List.length_cons, List.length_nil, segsV_snoc]; exact HL6.out)
                unfold closeS
                rw [if_neg hne'.out]
                exact h
              · rw [HST.out, takeS_close]
                have hga := HO6.out.apart HA6.out (by decide)
                exact (((HA6.out.far hga _).far hga _).far hga _).far hga _
              · have hga := HO6.out.apart HS6.out (by decide)
                exact (((HS6.out.far hga _).far hga _).far hga _).far hga _
              · exact (((HB6.out.setCell (by simpa using hg1) _).setCell (by simpa using hg1) _).setCell (by simpa using hg1) _).setCell (by simpa using hg1) _
    · have hkn : k = n := by omega
      have hin : ¬ (k : Int) < n := by omega
      rw [show k = vs.length by omega] at hO
      rw [← HE.out] at hO
      obtain ⟨va, vc, rfl, hvc, hr⟩ := hO.read
      have HR := Lib.hid hr
      have HB := Lib.hid hb
      clear hO hr hb
      have HKN := Lib.hid hkn
      clear hkn hnl
      go_wp2_with fail
      go_ret2
      exact ⟨va, vc, by rw [H0.out]; rfl, hvc, HR.out, HB.out⟩
end Go.Proofs.Ytjkpbkcbimojoaa
