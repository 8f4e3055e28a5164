/- Contract of the law's subs: the same subpaths, as the reference has them. -/
import Derived.Test.YtjkpbkcbimojoaaPr
import Derived.Test.YtjkpbkcbimojoaaPn
import Derived.Test.YtjkpbkcbimojoaaRegd
namespace Go.Proofs.Ytjkpbkcbimojoaa
open Go.RowKit

theorem infoRSeg : (Try.prog.info? 59).map (fun i => (i.zero, i.size, i.bytes)) = some (some (.agg #[.int .i64 0, .int .i64 0, .int .i64 0, .int .i64 0, .int .i64 0, .int .i64 0, .int .i64 0, .int .i64 0, .int .i64 0]), 9, 72) := by kernel_rfl
theorem infoRSub : (Try.prog.info? 71).map (fun i => (i.zero, i.size, i.bytes)) = some (some (.agg #[.int .i64 0, .int .i64 0, .slice none 0 0, .bool false]), 4, 48) := by kernel_rfl

/-- What hands back subpaths. -/
def SubsPost (w : World) (l : List SubS) (e : Ending) (w' : World) : Prop :=
  ∃ a c, e = .returned (.slice a l.length c) ∧ l.length ≤ c ∧ RSubs w' w'.heap.size a l.length l ∧ Below w.heap.size w w'

set_option maxRecDepth 100000 in
set_option maxHeartbeats 4000000 in
theorem subs_any (a : Option Addr) (n c : Nat) (l : List SubS) (w : World) (hn : n ≤ 1000) (hl : RSubs w w.heap.size a n l) (hs : ∀ s ∈ l, s.segs.length ≤ 1000) :
    Calls Try.prog 19 #[.slice a n c] w (SubsPost w l) := by
  obtain ⟨iS, hiS, hz0S, hz1S, hz2S⟩ := info_parts infoRSub
  obtain ⟨iG, hiG, hz0G, hz1G, hz2G⟩ := info_parts infoRSeg
  have hnl := hl.1
  have HL := Lib.hid hl
  have HS := Lib.hid hs
  clear hl hs
  go_enter Try.func19, Try.ntmps19
  go_wp2_with fail
  have h0 : OwnE (w.alloc (.cells #[] 71)) w.heap.size 71 59 (.slice (some ⟨w.heap.size, 0, none⟩) 0 0) (l.take 0) := .inl ⟨rfl, own_empty w w.heap.size _ 4 (Nat.le_refl _)⟩
  have H0 := Lib.hid h0
  clear h0
  go_loopw [3, 4] (fun v i wr => ∃ k : Nat, k ≤ n ∧ i = .int .i64 k ∧ OwnE wr w.heap.size 71 59 v (l.take k) ∧ Below w.heap.size w wr) (fun _ i _ => n - (intOf i).toNat)
  case atStart => exact ⟨0, Nat.zero_le _, rfl, H0.out, by (repeat (first | exact Below.refl _ _ | assumption | refine Below.drew ?_ | refine Below.setCell ?_ (by simp; try omega) _ | refine Below.alloc ?_ (by simp; try omega) _))⟩
  case round =>
    obtain ⟨k, hk, rfl, hO, hb⟩ := hrel
    by_cases hlt : k < n
    · have hlk : k < l.length := by omega
      obtain ⟨sb, so, sa, sc, hsa, hsB, r0, r1, r2, r3, hsc, hseg⟩ := (HL.out.below hb).at_ k hlk
      subst hsa
      have hsm := HS.out l[k] (List.getElem_mem hlk)
      have HT : Hid (l.take (k + 1) = l.take k ++ [l[k]]) := Lib.hid (take_snoc l k hlk)
      have hlw : sb < wr.heap.size := by have := hb.size; omega
      generalize l[k] = s at *
      obtain ⟨⟨sx, sy⟩, segs, cl⟩ := s
      simp only at r0 r1 r2 r3 hsm hsc hseg
      have HSE := Lib.hid hseg
      have HO := Lib.hid hO
      have HRR := Lib.hid (And.intro r0 (And.intro r1 (And.intro r2 r3)))
      clear hseg hO
      have hlt' : (k : Int) < n := by omega
      obtain ⟨wk, rfl⟩ : ∃ wk : World, wk = wr := ⟨_, rfl⟩
      go_wp2_with fail
      refine Reg.wp_region_R (fun b => b < wk.heap.size) 13 rfl (by kernel_rfl) ?_
      refine Reg.wpR_hoist [0, 1, 2, 3, 4, 5, 6, 7, 8, 9, 10] 2 rfl (by kernel_rfl) (by kernel_rfl) (fun u => ?_)
      simp only [Reg.pickL, List.drop]
      repeat (go_big_quiet_step ((first | fail)))
      refine wpQuiet_nil ?_
      refine Reg.wpR_main 11 (by kernel_rfl) (fun x1 h1 => ?_)
      simp only [Reg.pickL, List.drop]
      go_wp2_with fail
      refine ⟨rfl, Reg.Kp.of_gr ((Below.refl _ _).alloc (Nat.le_refl _) _), ?_⟩
      have f1 := Blk.new x1 71 #[.int .i64 0, .int .i64 0, .slice none 0 0, .bool false]
      have hb1 := Below.alloc h1 (Below.size h1) (.cells #[.int .i64 0, .int .i64 0, .slice none 0 0, .bool false] 71)
      have bg : wk.heap.size ≤ x1.heap.size := Below.size h1
      refine Reg.wpR_main 12 (by kernel_rfl) (fun x2 h2 => ?_)
      simp only [Reg.pickL, List.drop]
      replace f1 := f1.grow h2
      replace hb1 := hb1.trans (Below.mono h2 hb1.size)
      have e0 := f1.cell 0
      have e1 := f1.cell 1
      have e2 := f1.cell 2
      have e3 := f1.cell 3
      have kfz := f1.unfrozen
      have lf1 := f1.lt
      go_wp2_with fail
      refine ⟨rfl, Reg.Kp.trans (Reg.Kp.trans (Reg.Kp.trans (Reg.Kp.of_set _ (fun h => Nat.not_lt.2 bg h)) (Reg.Kp.of_set _ (fun h => Nat.not_lt.2 bg h))) (Reg.Kp.of_set _ (fun h => Nat.not_lt.2 bg h))) (Reg.Kp.of_set _ (fun h => Nat.not_lt.2 bg h)), ?_⟩
      replace f1 := (((f1.set 0 (.int .i64 sx)).set 1 (.int .i64 sy)).set 2 (.slice none 0 0)).set 3 (.bool cl)
      replace hb1 := (((hb1.setCell (p := ⟨x1.heap.size, 0, none⟩) bg (.int .i64 sx)).setCell (p := ⟨x1.heap.size, 1, none⟩) bg (.int .i64 sy)).setCell (p := ⟨x1.heap.size, 2, none⟩) bg (.slice none 0 0)).setCell (p := ⟨x1.heap.size, 3, none⟩) bg (.bool cl)
      refine Reg.wpR_end (by kernel_rfl) (fun x3 h3 => ?_)
      replace f1 := f1.grow h3
      replace hb1 := hb1.trans (Below.mono h3 hb1.size)
      clear e0 e1 e2 e3 kfz lf1 h1 h2 h3 r0 r1 r2 r3
      go_wp2_with fail
      generalize x1.heap.size = G at *
      have HF := Lib.hid f1
      have HB1 := Lib.hid hb1
      clear f1 hb1
      go_loopw [6] (fun j wr => ∃ i : Nat, i ≤ segs.length ∧ j = .int .i64 i ∧ (∃ lv, Blk wr G 71 #[.int .i64 sx, .int .i64 sy, lv, .bool cl] ∧ wr.ownsRow wk.heap.size 59 9 lv i (segsV (segs.take i))) ∧ Below wk.heap.size wk wr) (fun j _ => segs.length - (intOf j).toNat)
      case atStart => exact ⟨0, Nat.zero_le _, rfl, ⟨_, HF.out, World.ownsRow_nil _ _ _ _⟩, HB1.out⟩
      case round =>
        obtain ⟨j, hj, rfl, ⟨lv, hG, hlv⟩, hbi⟩ := hrel
        have hlG := hG.lt
        have r2 : wr.cell? ⟨sb, so + k * 4 + 2, none⟩ = some (.slice sa segs.length sc) := (hbi.cell (p := ⟨sb, so + k * 4 + 2, none⟩) hlw).trans HRR.out.2.2.1
        by_cases hjl : j < segs.length
        · obtain ⟨gb, go, hga, hgB, e0, e1, e2, e3, e4, e5, e6, e7, e8⟩ := (HSE.out.below (hbi.mono hb.size)).at_ j hjl
          subst hga
          have HST : Hid (segsV (segs.take (j + 1)) = segsV (segs.take j) ++ segV segs[j]) := Lib.hid (by rw [take_snoc segs j hjl, segsV_snoc])
          have hgw : gb < wk.heap.size := by have := hb.size; omega
          have hgw2 : gb < wr.heap.size := by have := hbi.size; omega
          have hsw2 : sb < wr.heap.size := by have := hbi.size; omega
          generalize segs[j] = q at *
          obtain ⟨⟨y0, z0⟩, ⟨y1, z1⟩, ⟨y2, z2⟩, ⟨y3, z3⟩, qn⟩ := q
          have g2 := hG.cell 2
          go_wp2_with fail
          refine Reg.wp_region_E (fun b => b < wk.heap.size ∨ b = G) (fun j => decide (13 ≤ j)) 14 rfl (by kernel_rfl) ?_
          refine Reg.wpE_hoist [0, 1, 2, 3, 4, 5, 6, 7, 8, 9] 4 rfl (by kernel_rfl) (by kernel_rfl) (by kernel_rfl) (fun u => ?_)
          simp only [Reg.pickL, List.drop]
          repeat (go_big_quiet_step ((first | fail)))
          refine wpQuiet_nil ?_
          refine Reg.wpE_main 10 (by kernel_rfl) (fun x4 h4 => ?_)
          simp only [Reg.pickL, List.drop]
          replace hG := hG.grow h4
          replace hlv := own_grow hlv h4
          replace hbi := hbi.trans (Below.mono h4 hbi.size)
          go_wp2_with fail
          refine ⟨rfl, .inr (Reg.Kp.of_gr ((Below.refl _ _).alloc (Nat.le_refl _) _)), ?_⟩
          have fN : Blk _ x4.heap.size 59 (segV ⟨(y0, z0), (y1, z1), (y2, z2), (y3, z3), qn⟩).toArray := Blk.new x4 _ _
          replace hG := hG.alloc (.cells (segV ⟨(y0, z0), (y1, z1), (y2, z2), (y3, z3), qn⟩).toArray 59)
          replace hlv := hlv.alloc (.cells (segV ⟨(y0, z0), (y1, z1), (y2, z2), (y3, z3), qn⟩).toArray 59)
          replace hbi := hbi.alloc hbi.size (.cells (segV ⟨(y0, z0), (y1, z1), (y2, z2), (y3, z3), qn⟩).toArray 59)
          clear h4 e0 e1 e2 e3 e4 e5 e6 e7 e8 r2 g2
          refine Reg.wpE_main 11 (by kernel_rfl) (fun x5 h5 => ?_)
          simp only [Reg.pickL, List.drop]
          replace fN := fN.grow h5
          replace hG := hG.grow h5
          replace hlv := own_grow hlv h5
          replace hbi := hbi.trans (Below.mono h5 hbi.size)
          refine wpList_append_own _ rfl _ _ 69 rfl wk.heap.size 59 iG _ 9 72 Try.underlying69 hiG hz0G hz1G hz2G rfl (by decide) lv _ _ rfl hlv ⟨x4.heap.size, 0, none⟩ 1 1 (segV ⟨(y0, z0), (y1, z1), (y2, z2), (y3, z3), qn⟩) rfl rfl fN.news (segV_one _) (by unfold maxLen; omega) (by omega) hbi.size ?_
          intro lv' w5 hown hg _
          obtain ⟨a5, c5, rfl, _⟩ := own_slice hown
          go_wp2_with fail
          refine ⟨rfl, .inr (Reg.Kp.of_grown hg (fun b hb h => h.elim (Nat.not_lt.2 (hlv.lt b hb).1) (own_apart_blk hlv hG (by decide) b hb))), ?_⟩
          replace hG := hG.grown hg (own_apart_blk hlv hG (by decide))
          replace hbi := hbi.grown hg hbi.size (fun k hk => (hlv.lt k hk).1)
          clear fN hg h5 hlv
          refine Reg.wpE_hoist [12] 1 rfl (by kernel_rfl) (by kernel_rfl) (by kernel_rfl) (fun u => ?_)
          simp only [Reg.pickL, List.drop]
          repeat (go_big_quiet_step ((first | fail)))
          refine wpQuiet_nil ?_
          refine Reg.wpE_main 13 (by kernel_rfl) (fun x6 h6 => ?_)
          simp only [Reg.pickL, List.drop]
          replace hG := hG.grow h6
          replace hown := own_grow hown h6
          replace hbi := hbi.trans (Below.mono h6 hbi.size)
          have g2 := hG.cell 2
          have kfz := hG.unfrozen
          have lG := hG.lt
          have HO6 := Lib.hid hown
          clear hown h6
          go_wp2_with fail
          refine ⟨rfl, .inl rfl, ?_⟩
          have hown := own_far (i := 2) HO6.out hG (by decide) (.slice a5 (j + 1) c5)
          replace hG := hG.set 2 (.slice a5 (j + 1) c5)
          replace hbi := hbi.setCell (p := ⟨G, 2, none⟩) bg (.slice a5 (j + 1) c5)
          clear g2 kfz lG HO6
          refine Reg.wpE_end (by kernel_rfl) (fun x7 h7 => ?_)
          replace hG := hG.grow h7
          replace hown := own_grow hown h7
          replace hbi := hbi.trans (Below.mono h7 hbi.size)
          rw [← HST.out] at hown
          have HO6 := Lib.hid hown
          clear hown h7
          go_wp2_with fail
          exact ⟨⟨j + 1, by omega, by go_num, ⟨_, hG, HO6.out⟩, hbi⟩, by simp [intOf]; omega⟩
        · have hjn : j = segs.length := by omega
          subst hjn
          rw [List.take_of_length_le (Nat.le_refl _)] at hlv
          obtain ⟨rs, hrs, hpush⟩ := HO.out.row hb.size (by decide)
          have hrs2 := own_grow hrs hbi
          rw [show (l.take k).length = k by rw [List.length_take]; omega] at hrs2 hpush
          have g0 := hG.cell 0
          have g1 := hG.cell 1
          have g2 := hG.cell 2
          have g3 := hG.cell 3
          have HPU := Lib.hid hpush
          have HLV := Lib.hid hlv
          have HR2 := Lib.hid hrs2
          have hbw : w.heap.size ≤ wr.heap.size := by have := hb.size; have := hbi.size; omega
          obtain ⟨la, lc, rfl, _⟩ := own_slice hlv
          obtain ⟨va, vc, rfl, _⟩ := own_slice hrs2
          clear hrs hpush hlv hrs2
          go_wp2_with (at_builtin; refine wpList_append_own _ rfl _ _ 32 rfl w.heap.size 71 iS _ 4 48 Try.underlying32 hiS hz0S hz1S hz2S rfl (by decide) _ _ _ rfl (HR2.out.alloc _) ⟨wr.heap.size, 0, none⟩ 1 1 [.int .i64 sx, .int .i64 sy, .slice la segs.length lc, .bool cl] rfl rfl ?c1 ?c2 ?c3 ?c4 ?c5 ?_)
          case c1 => exact Blk.news (l := [.int .i64 sx, .int .i64 sy, .slice la segs.length lc, .bool cl]) (Blk.new wr _ _)
          case c2 => simp [Value.oneCell']
          case c3 => unfold maxLen; omega
          case c4 => omega
          case c5 => simp; omega
          intro v' w8 hown8 hg8 _
          obtain ⟨a8, c8, rfl, _⟩ := own_slice hown8
          have hO8 := HPU.out _ w8 _ (.slice la segs.length lc) ⟨(sx, sy), segs, cl⟩ (hbi.alloc hbi.size (.cells #[.int .i64 sx, .int .i64 sy, .slice la segs.length lc, .bool cl] 71)) (HLV.out.alloc _) hown8 hg8
          rw [← HT.out] at hO8
          have hx8 : Below w.heap.size w w8 := ((hb.trans (hbi.mono hb.size)).alloc hbw (.cells #[.int .i64 sx, .int .i64 sy, .slice la segs.length lc, .bool cl] 71)).grown hg8 (by simp; omega) (fun q hq => (HR2.out.lt q hq).1)
          have HO8 := Lib.hid hO8
          clear hown8 hg8 hO8 g0 g1 g2 g3
          go_wp2_with fail
          exact ⟨⟨k + 1, by omega, by go_num, HO8.out, hx8⟩, by simp [intOf]; omega⟩
    · have hkn : k = n := by omega
      rw [List.take_of_length_le (by omega)] at hO
      obtain ⟨va, vc, rfl, hvc, hr⟩ := hO.read
      have HR := Lib.hid hr
      clear hO hr
      have hlt' : ¬ (k : Int) < n := by omega
      have HKN := Lib.hid hkn
      clear hkn
      go_wp2_with fail
      go_ret
      exact ⟨va, vc, by rw [hnl]; rfl, hvc, HR.out, hb⟩
end Go.Proofs.Ytjkpbkcbimojoaa
