/- Contract of the reference's Join. -/
import Derived.Test.YtjkpbkcbimojoaaPz
import Derived.Test.YtjkpbkcbimojoaaRb
import Derived.Deep.DeepCutAuto
namespace Go.Proofs.Ytjkpbkcbimojoaa
open Go.RowKit

/-- A path in the making: its block and its two rows. -/
def JR (W : World) (B P : Nat) (tP tI tQ : TypeId) (xs : List Int) (ys : List (Int × Int)) : Prop :=
  ∃ v p, Blk W P tP #[v, p] ∧ W.ownsRow B tI 1 v xs.length (intsV xs) ∧ W.ownsRow B tQ 2 p ys.length (ptsV ys)
theorem below_alloc2 {w : World} {a b : Obj} : Below w.heap.size w ((w.alloc a).alloc b) := by (repeat (first | exact Below.refl _ _ | assumption | refine Below.drew ?_ | refine Below.setCell ?_ (by simp; try omega) _ | refine Below.alloc ?_ (by simp; try omega) _))

set_option maxRecDepth 100000 in
set_option maxHeartbeats 20000000 in
theorem rjoin_any (a : Option Addr) (n c : Nat) (l : List SubS) (w : World) (hn : n ≤ 1000) (hl : RSubs w w.heap.size a n l) (hs : ∀ s ∈ l, s.segs.length ≤ 1000) :
    Calls Try.prog 29 #[.slice a n c] w (JoinPost w l) := by
  obtain ⟨iI, hiI, hz0I, hz1I, hz2I⟩ := info_parts infoInt
  obtain ⟨iQ, hiQ, hz0Q, hz1Q, hz2Q⟩ := info_parts infoPt
  have hnl := hl.1
  have HL := Lib.hid hl
  have HS := Lib.hid hs
  have HLE := Lib.hid (fun k => join_le (l.take k) (fun s h => hs s (List.mem_of_mem_take h)))
  clear hl hs
  go_enter Try.func29, Try.ntmps29
  go_wp2_with fail
  have h0 : JR ((w.alloc (.cells #[.slice none 0 0, .slice none 0 0] 35)).alloc (.cells #[.slice none 0 0, .slice none 0 0] 35)) (w.heap.size + 2) (w.heap.size + 1) 35 3 44 (joinVs (l.take 0)) (joinPs (l.take 0)) := by
    have h := Blk.new (w.alloc (.cells #[.slice none 0 0, .slice none 0 0] 35)) 35 #[.slice none 0 0, .slice none 0 0]
    rw [World.size_alloc] at h
    exact ⟨_, _, h, World.ownsRow_nil _ _ _ _, World.ownsRow_nil _ _ _ _⟩
  have H0 := Lib.hid h0
  have hR : Blk ((w.alloc (.cells #[.slice none 0 0, .slice none 0 0] 35)).alloc (.cells #[.slice none 0 0, .slice none 0 0] 35)) w.heap.size 35 #[.slice none 0 0, .slice none 0 0] := (Blk.new w 35 #[.slice none 0 0, .slice none 0 0]).alloc _
  have HR := Lib.hid hR
  have hxw : Below w.heap.size w ((w.alloc (.cells #[.slice none 0 0, .slice none 0 0] 35)).alloc (.cells #[.slice none 0 0, .slice none 0 0] 35)) := below_alloc2
  have hwz : ((w.alloc (.cells #[.slice none 0 0, .slice none 0 0] 35)).alloc (.cells #[.slice none 0 0, .slice none 0 0] 35)).heap.size = w.heap.size + 2 := by simp
  clear h0 hR
  generalize (w.alloc (.cells #[.slice none 0 0, .slice none 0 0] 35)).alloc (.cells #[.slice none 0 0, .slice none 0 0] 35) = wT at *
  go_loopw [4] (fun i wr => ∃ k : Nat, k ≤ n ∧ i = .int .i64 k ∧ JR wr (w.heap.size + 2) (w.heap.size + 1) 35 3 44 (joinVs (l.take k)) (joinPs (l.take k)) ∧ Below (w.heap.size + 1) wT wr) (fun i _ => n - (intOf i).toNat)
  case atStart => exact ⟨0, Nat.zero_le _, rfl, H0.out, Below.refl _ _⟩
  case round =>
    clear H0
    obtain ⟨k, hk, rfl, ⟨v, p, fP, oV, oP⟩, hb⟩ := hrel
    have hbw := hxw.trans (hb.mono (by omega))
    have hszr : w.heap.size + 2 ≤ wr.heap.size := by have := hb.size; omega
    by_cases hlt : k < n
    · have hlk : k < l.length := by omega
      obtain ⟨sb, so, sa, sc, hsa, hsB, R0, R1, R2, R3, hsc, hseg⟩ := HL.out.at_ k hlk
      subst hsa
      have r0 := (hbw.cell (p := ⟨sb, so + k * 4, none⟩) hsB).trans R0
      have r1 := (hbw.cell (p := ⟨sb, so + k * 4 + 1, none⟩) hsB).trans R1
      have hsm := HS.out l[k] (List.getElem_mem hlk)
      have hle := HLE.out k
      rw [List.length_take, Nat.min_eq_left (Nat.le_of_lt hlk)] at hle
      have HJ : Hid (joinVs (l.take (k + 1)) = joinVs (l.take k) ++ subVs l[k] ∧ joinPs (l.take (k + 1)) = joinPs (l.take k) ++ subPs l[k]) := Lib.hid (by rw [take_snoc l k hlk, joinVs_snoc, joinPs_snoc]; exact ⟨rfl, rfl⟩)
      have hlw : sb < wr.heap.size := by omega
      generalize joinVs (l.take k) = ws at *
      generalize joinPs (l.take k) = qs at *
      generalize l[k] = s at *
      obtain ⟨⟨sx, sy⟩, segs, cl⟩ := s
      simp only at r0 r1 R0 R1 R2 R3 hsm hsc hseg
      obtain ⟨hlex, hley⟩ := hle
      have HSE := Lib.hid hseg
      have HRR := Lib.hid (And.intro R0 (And.intro R1 (And.intro R2 R3)))
      clear hseg R0 R1 R2 R3 hbw
      have hlt' : (k : Int) < n := by omega
      have eP := fP.cell
      have kP := fP.unfrozen
      have lP := fP.lt
      have HOV := Lib.hid oV
      have HOP := Lib.hid oP
      have HFP := Lib.hid fP
      have HB := Lib.hid hb
      try have HFG := Lib.hid fG
      have hBz := hb.size
      clear oV oP fP hb
      try clear fG
      go_wp2_with (at_builtin; refine wpList_append_own _ rfl _ _ 22 rfl (w.heap.size + 2) 3 iI _ 1 8 Try.underlying22 hiI hz0I hz1I hz2I rfl (by decide) _ _ _ rfl (HOV.out.alloc _) ⟨wr.heap.size, 0, none⟩ 1 1 [.int .i64 1] rfl rfl ?c1 ?c2 ?c3 ?c4 ?c5 ?_)
      case c1 => exact Blk.news (l := [.int .i64 1]) (Blk.new wr _ _)
      case c2 => simp [Value.oneCell']
      case c3 => unfold maxLen; omega
      case c4 => omega
      case c5 => simp; omega
      rintro v' w8 hown8 hg8 -
      obtain ⟨a8, c8, rfl, _⟩ := own_slice hown8
      have oP := (HOP.out.alloc (.cells #[.int .i64 1] 3)).kept hg8 (own_apart (HOP.out.alloc (.cells #[.int .i64 1] 3)) (HOV.out.alloc (.cells #[.int .i64 1] 3)) (by decide))
      have fP := (HFP.out.alloc (.cells #[.int .i64 1] 3)).grown hg8 (own_apart_blk (HOV.out.alloc (.cells #[.int .i64 1] 3)) (HFP.out.alloc (.cells #[.int .i64 1] 3)) (by decide))
      try have fG := (HFG.out.alloc (.cells #[.int .i64 1] 3)).grown hg8 (own_apart_blk (HOV.out.alloc (.cells #[.int .i64 1] 3)) (HFG.out.alloc (.cells #[.int .i64 1] 3)) (by decide))
      have hb := (HB.out.alloc (by omega) (.cells #[.int .i64 1] 3)).grown hg8 (by simp; omega) (fun q hq => Nat.le_of_succ_le ((HOV.out.alloc (.cells #[.int .i64 1] 3)).lt q hq).1)
      clear eP kP lP HOV HOP HFP HB
      try clear HFG
      have k8 := fP.unfrozen
      have l8 := fP.lt
      have e8 := fP.cell
      replace oP := own_far oP fP (i := 0) (by decide) (.slice a8 (ws.length + 1) c8)
      have oV := own_far hown8 fP (i := 0) (by decide) (.slice a8 (ws.length + 1) c8)
      try replace fG := fG.far (b := w.heap.size + 1) (i := 0) hPG (.slice a8 (ws.length + 1) c8)
      replace hb := hb.setCell (p := ⟨w.heap.size + 1, 0, none⟩) (Nat.le_refl _) (.slice a8 (ws.length + 1) c8)
      replace fP := fP.set 0 (.slice a8 (ws.length + 1) c8)
      clear hown8 hg8
      go_wp2_with fail
      clear k8 l8 e8 r0 r1
      generalize hw9 : w8.setCell ⟨w.heap.size + 1, 0, none⟩ (.slice a8 (ws.length + 1) c8) = w9 at *
      clear hw9
      have hbw := hxw.trans (hb.mono (by omega))
      have hlw9 : sb < w9.heap.size := by have := hb.size; omega
      have hszr9 : w.heap.size + 2 ≤ w9.heap.size := by have := hb.size; omega
      have r0 := (hbw.cell (p := ⟨sb, so + k * 4, none⟩) hsB).trans HRR.out.1
      have r1 := (hbw.cell (p := ⟨sb, so + k * 4 + 1, none⟩) hsB).trans HRR.out.2.1
      have eP := fP.cell
      have lP := fP.lt
      refine Reg.wp_region_soft 7 (by first | exact hb2 | exact Below.refl _ _) (by kernel_rfl) (by kernel_rfl) (fun u => ?_)
      simp only [List.take, List.drop]
      repeat (go_big_quiet_step ((first | fail)))
      refine wpQuiet_nil ?_
      intro xs hxs
      have hbx := Reg.class_below hxs
      clear hxs
      go_wp2_with fail
      refine ⟨rfl, (Below.refl _ _).alloc (Nat.le_refl _) _, fun z hz => ?_⟩
      have fN : Blk z xs.heap.size 44 (ptsV [(sx, sy)]).toArray := (Blk.new xs _ _).grow hz
      replace fP := ((fP.grow hbx).alloc (.cells (ptsV [(sx, sy)]).toArray 44)).grow hz
      replace oV := own_grow ((own_grow oV hbx).alloc (.cells (ptsV [(sx, sy)]).toArray 44)) hz
      replace oP := own_grow ((own_grow oP hbx).alloc (.cells (ptsV [(sx, sy)]).toArray 44)) hz
      have hxz := ((hbx.trans ((Below.refl _ _).alloc hbx.size (.cells (ptsV [(sx, sy)]).toArray 44))).trans (hz.mono (by have := hbx.size; simp; omega)))
      replace hb := hb.trans (hxz.mono (by omega))
      have hszz : w.heap.size + 2 ≤ z.heap.size := by have := hb.size; omega
      clear hbx hz hxz eP lP r0 r1
      refine wpList_append_own _ rfl _ _ 23 rfl (w.heap.size + 2) 44 iQ _ 2 16 Try.underlying23 hiQ hz0Q hz1Q hz2Q rfl (by decide) _ _ _ rfl oP ⟨xs.heap.size, 0, none⟩ 1 1 (ptsV [(sx, sy)]) rfl rfl fN.news (ptsV_one _) (by unfold maxLen; omega) (by omega) hszz ?_
      rintro p' w4 hown4 hg4 -
      obtain ⟨a4, c4, rfl, _⟩ := own_slice hown4
      replace fP := fP.grown hg4 (own_apart_blk oP fP (by decide))
      replace oV := oV.kept hg4 (own_apart oV oP (by decide))
      replace hb := hb.grown hg4 (by omega) (fun q hq => Nat.le_of_succ_le (oP.lt q hq).1)
      have kP := fP.unfrozen
      have lP := fP.lt
      have eP := fP.cell
      have oV2 := own_far oV fP (i := 1) (by decide) (.slice a4 (qs.length + 1) c4)
      have oP2 := own_far hown4 fP (i := 1) (by decide) (.slice a4 (qs.length + 1) c4)
      have fP2 := fP.set 1 (.slice a4 (qs.length + 1) c4)
      have hb2 := hb.setCell (p := ⟨w.heap.size + 1, 1, none⟩) (Nat.le_refl _) (.slice a4 (qs.length + 1) c4)
      have H2 := Lib.hid (And.intro oV2 (And.intro oP2 (And.intro fP2 hb2)))
      clear oV oP hown4 fP hb oV2 oP2 fP2 hb2 hg4 fN
      go_wp2_with fail
      obtain ⟨oV, oP, fP, hb⟩ := H2.out
      clear H2 kP lP eP
      generalize hw5 : w4.setCell ⟨w.heap.size + 1, 1, none⟩ (.slice a4 (qs.length + 1) c4) = w5 at *
      clear hw5
      have hX : (ws ++ [1]).length = ws.length + 1 := by simp
      have hY : (qs ++ [(sx, sy)]).length = qs.length + 1 := by simp
      have hI : JR w5 (w.heap.size + 2) (w.heap.size + 1) 35 3 44 (ws ++ [1] ++ segsVs (segs.take 0)) (qs ++ [(sx, sy)] ++ segsPs (segs.take 0)) :=
        ⟨_, _, fP, by simpa [segsVs, intsV] using oV, by simpa [segsPs, ptsV_append] using oP⟩
      have HI := Lib.hid hI
      have HB := Lib.hid hb
      clear hI fP oV oP hb hbw hlw hlw9 hszr hszr9
      go_loopw [5] (fun j wr => ∃ i : Nat, i ≤ segs.length ∧ j = .int .i64 i ∧ JR wr (w.heap.size + 2) (w.heap.size + 1) 35 3 44 (ws ++ [1] ++ segsVs (segs.take i)) (qs ++ [(sx, sy)] ++ segsPs (segs.take i)) ∧ Below (w.heap.size + 1) wT wr) (fun j _ => segs.length - (intOf j).toNat)
      case atStart => exact ⟨0, Nat.zero_le _, rfl, HI.out, HB.out⟩
      case round =>
        clear HI HB
        obtain ⟨wi, rfl⟩ : ∃ wi : World, wi = wr := ⟨_, rfl⟩
        obtain ⟨i, hi, rfl, ⟨v, p, fP, oV, oP⟩, hb⟩ := hrel
        have hbw := hxw.trans (hb.mono (by omega))
        have hszr : w.heap.size + 2 ≤ wi.heap.size := by have := hb.size; omega
        have hlw : sb < wi.heap.size := by omega
        have r2 := (hbw.cell (p := ⟨sb, so + k * 4 + 2, none⟩) hsB).trans HRR.out.2.2.1
        by_cases hil : i < segs.length
        · obtain ⟨gb, go, hga, hgB, e0, e1, e2, e3, e4, e5, e6, e7, e8⟩ := (HSE.out.below hbw).at_ i hil
          subst hga
          have HXT : Hid (ws ++ [1] ++ segsVs (segs.take (i + 1)) = ws ++ [1] ++ segsVs (segs.take i) ++ segVs segs[i] ∧ qs ++ [(sx, sy)] ++ segsPs (segs.take (i + 1)) = qs ++ [(sx, sy)] ++ segsPs (segs.take i) ++ segPs segs[i]) := Lib.hid (by rw [take_snoc segs i hil, segsVs_snoc, segsPs_snoc, ← List.append_assoc, ← List.append_assoc]; exact ⟨rfl, rfl⟩)
          have hX : (ws ++ [1] ++ segsVs (segs.take i)).length ≤ 1002 * k + 1001 := by
            have := segsVs_le (segs.take i)
            simp only [List.length_append, List.length_cons, List.length_nil, List.length_take] at this ⊢
            omega
          have hY : (qs ++ [(sx, sy)] ++ segsPs (segs.take i)).length ≤ 3001 * k + 3001 := by
            have := segsPs_le (segs.take i)
            simp only [List.length_append, List.length_cons, List.length_nil, List.length_take] at this ⊢
            omega
          have hgw : gb < wi.heap.size := by omega
          generalize ws ++ [1] ++ segsVs (segs.take i) = X at *
          generalize qs ++ [(sx, sy)] ++ segsPs (segs.take i) = Y at *
          generalize segs[i] = q at *
          obtain ⟨⟨y0, z0⟩, ⟨y1, z1⟩, ⟨y2, z2⟩, ⟨y3, z3⟩, qn⟩ := q
          simp only at e0 e1 e2 e3 e4 e5 e6 e7 e8
          have hil' : (i : Int) < segs.length := by omega
          have hPG : w.heap.size + 1 ≠ wi.heap.size := by omega
          rcases (by omega : qn = 2 ∨ qn = 3 ∨ qn = 4 ∨ qn < 2 ∨ (¬ qn < 2 ∧ 4 < qn)) with rfl | rfl | rfl | hq | ⟨hq0, hq⟩
          · skip
            go_upto_region 12 with (fail)
            have fG := Blk.new wi 59 #[.int .i64 y0, .int .i64 z0, .int .i64 y1, .int .i64 z1, .int .i64 y2, .int .i64 z2, .int .i64 y3, .int .i64 z3, .int .i64 2]
            replace fP := fP.alloc (.cells #[.int .i64 y0, .int .i64 z0, .int .i64 y1, .int .i64 z1, .int .i64 y2, .int .i64 z2, .int .i64 y3, .int .i64 z3, .int .i64 2] 59)
            replace oV := oV.alloc (.cells #[.int .i64 y0, .int .i64 z0, .int .i64 y1, .int .i64 z1, .int .i64 y2, .int .i64 z2, .int .i64 y3, .int .i64 z3, .int .i64 2] 59)
            replace oP := oP.alloc (.cells #[.int .i64 y0, .int .i64 z0, .int .i64 y1, .int .i64 z1, .int .i64 y2, .int .i64 z2, .int .i64 y3, .int .i64 z3, .int .i64 2] 59)
            replace hb := hb.alloc (by omega) (.cells #[.int .i64 y0, .int .i64 z0, .int .i64 y1, .int .i64 z1, .int .i64 y2, .int .i64 z2, .int .i64 y3, .int .i64 z3, .int .i64 2] 59)
            clear e0 e1 e2 e3 e4 e5 e6 e7 e8 r2 hgw hlw hbw
            generalize hwS : wi.alloc (.cells #[.int .i64 y0, .int .i64 z0, .int .i64 y1, .int .i64 z1, .int .i64 y2, .int .i64 z2, .int .i64 y3, .int .i64 z3, .int .i64 2] 59) = wS at *
            generalize hG : wi.heap.size = G at *
            clear hwS hG
            have eG := fG.cell
            have lG := fG.lt
            have eP := fP.cell
            have kP := fP.unfrozen
            have lP := fP.lt
            have HOV := Lib.hid oV
            have HOP := Lib.hid oP
            have HFP := Lib.hid fP
            have HB := Lib.hid hb
            try have HFG := Lib.hid fG
            have hBz := hb.size
            clear oV oP fP hb
            try clear fG
            go_wp2_with (at_builtin; refine wpList_append_own _ rfl _ _ 22 rfl (w.heap.size + 2) 3 iI _ 1 8 Try.underlying22 hiI hz0I hz1I hz2I rfl (by decide) _ _ _ rfl (HOV.out.alloc _) ⟨wS.heap.size, 0, none⟩ 1 1 [.int .i64 2] rfl rfl ?c1 ?c2 ?c3 ?c4 ?c5 ?_)
            case c1 => exact Blk.news (l := [.int .i64 2]) (Blk.new wS _ _)
            case c2 => simp [Value.oneCell']
            case c3 => unfold maxLen; omega
            case c4 => omega
            case c5 => simp; omega
            rintro v' w8 hown8 hg8 -
            obtain ⟨a8, c8, rfl, _⟩ := own_slice hown8
            have oP := (HOP.out.alloc (.cells #[.int .i64 2] 3)).kept hg8 (own_apart (HOP.out.alloc (.cells #[.int .i64 2] 3)) (HOV.out.alloc (.cells #[.int .i64 2] 3)) (by decide))
            have fP := (HFP.out.alloc (.cells #[.int .i64 2] 3)).grown hg8 (own_apart_blk (HOV.out.alloc (.cells #[.int .i64 2] 3)) (HFP.out.alloc (.cells #[.int .i64 2] 3)) (by decide))
            try have fG := (HFG.out.alloc (.cells #[.int .i64 2] 3)).grown hg8 (own_apart_blk (HOV.out.alloc (.cells #[.int .i64 2] 3)) (HFG.out.alloc (.cells #[.int .i64 2] 3)) (by decide))
            have hb := (HB.out.alloc (by omega) (.cells #[.int .i64 2] 3)).grown hg8 (by simp; omega) (fun q hq => Nat.le_of_succ_le ((HOV.out.alloc (.cells #[.int .i64 2] 3)).lt q hq).1)
            clear eP kP lP HOV HOP HFP HB
            try clear HFG
            have k8 := fP.unfrozen
            have l8 := fP.lt
            have e8 := fP.cell
            replace oP := own_far oP fP (i := 0) (by decide) (.slice a8 (X.length + 1) c8)
            have oV := own_far hown8 fP (i := 0) (by decide) (.slice a8 (X.length + 1) c8)
            try replace fG := fG.far (b := w.heap.size + 1) (i := 0) hPG (.slice a8 (X.length + 1) c8)
            replace hb := hb.setCell (p := ⟨w.heap.size + 1, 0, none⟩) (Nat.le_refl _) (.slice a8 (X.length + 1) c8)
            replace fP := fP.set 0 (.slice a8 (X.length + 1) c8)
            clear hown8 hg8
            go_wp2_with fail
            clear k8 l8 e8 eG lG
            generalize hw9 : w8.setCell ⟨w.heap.size + 1, 0, none⟩ (.slice a8 (X.length + 1) c8) = w9 at *
            clear hw9
            have hszr9 : w.heap.size + 2 ≤ w9.heap.size := by have := hb.size; omega
            have eP := fP.cell
            have lP := fP.lt
            have eG := fG.cell
            have lG := fG.lt
            refine Reg.wp_region_soft 5 (by first | exact hb2 | exact Below.refl _ _) (by kernel_rfl) (by kernel_rfl) (fun u => ?_)
            simp only [List.take, List.drop]
            repeat (go_big_quiet_step ((first | fail)))
            refine wpQuiet_nil ?_
            intro xs hxs
            have hbx := Reg.class_below hxs
            clear hxs
            go_wp2_with fail
            refine ⟨rfl, Reg.Gr.refl _, fun z hz => ?_⟩
            replace fP := (fP.grow hbx).grow hz
            replace fG := (fG.grow hbx).grow hz
            replace oV := own_grow (own_grow oV hbx) hz
            replace oP := own_grow (own_grow oP hbx) hz
            replace hb := hb.trans ((hbx.trans (hz.mono hbx.size)).mono (by omega))
            have hszz : w.heap.size + 2 ≤ z.heap.size := by have := hb.size; omega
            clear hbx hz eP lP eG lG
            refine wpList_append_own _ rfl _ _ 23 rfl (w.heap.size + 2) 44 iQ _ 2 16 Try.underlying23 hiQ hz0Q hz1Q hz2Q rfl (by decide) _ _ _ rfl oP ⟨G, 2, none⟩ 1 3 (ptsV [(y1, z1)]) rfl rfl (fG.newsAt 2 _ (by intro j u hj; rcases j with _ | _ | _ | _ | _ | _ | j <;> simp [ptsV] at hj ⊢ <;> exact hj)) (ptsV_one _) (by unfold maxLen; omega) (by omega) hszz ?_
            rintro p' w4 hown4 hg4 -
            obtain ⟨a4, c4, rfl, _⟩ := own_slice hown4
            replace fP := fP.grown hg4 (own_apart_blk oP fP (by decide))
            replace oV := oV.kept hg4 (own_apart oV oP (by decide))
            replace hb := hb.grown hg4 (by omega) (fun q hq => Nat.le_of_succ_le (oP.lt q hq).1)
            have kP := fP.unfrozen
            have lP := fP.lt
            have eP := fP.cell
            have oV2 : OwnV (w4.setCell ⟨w.heap.size + 1, 1, none⟩ (.slice a4 (Y.length + 1) c4)) (w.heap.size + 2) 3 (.slice a8 (X.length + 1) c8) (X ++ [2]) := by
              have h := own_far oV fP (i := 1) (by decide) (.slice a4 (Y.length + 1) c4)
              unfold OwnV; simpa [intsV] using h
            have oP2 : OwnQ (w4.setCell ⟨w.heap.size + 1, 1, none⟩ (.slice a4 (Y.length + 1) c4)) (w.heap.size + 2) 44 (.slice a4 (Y.length + 1) c4) (Y ++ [(y1, z1)]) := by
              have h := own_far hown4 fP (i := 1) (by decide) (.slice a4 (Y.length + 1) c4)
              unfold OwnQ; simpa [ptsV_append] using h
            have fP2 := fP.set 1 (.slice a4 (Y.length + 1) c4)
            have hb2 := hb.setCell (p := ⟨w.heap.size + 1, 1, none⟩) (Nat.le_refl _) (.slice a4 (Y.length + 1) c4)
            have H2 := Lib.hid (And.intro oV2 (And.intro oP2 (And.intro fP2 hb2)))
            clear oV oP hown4 fP hb oV2 oP2 fP2 hb2 hg4 fG
            go_wp2_with fail
            obtain ⟨oV, oP, fP, hb⟩ := H2.out
            exact ⟨⟨i + 1, by omega, by go_num, ⟨_, _, fP, by rw [HXT.out.1]; exact oV, by rw [HXT.out.2]; exact oP⟩, hb⟩, by simp [intOf]; omega⟩
          · skip
            go_upto_region 12 with (fail)
            have fG := Blk.new wi 59 #[.int .i64 y0, .int .i64 z0, .int .i64 y1, .int .i64 z1, .int .i64 y2, .int .i64 z2, .int .i64 y3, .int .i64 z3, .int .i64 3]
            replace fP := fP.alloc (.cells #[.int .i64 y0, .int .i64 z0, .int .i64 y1, .int .i64 z1, .int .i64 y2, .int .i64 z2, .int .i64 y3, .int .i64 z3, .int .i64 3] 59)
            replace oV := oV.alloc (.cells #[.int .i64 y0, .int .i64 z0, .int .i64 y1, .int .i64 z1, .int .i64 y2, .int .i64 z2, .int .i64 y3, .int .i64 z3, .int .i64 3] 59)
            replace oP := oP.alloc (.cells #[.int .i64 y0, .int .i64 z0, .int .i64 y1, .int .i64 z1, .int .i64 y2, .int .i64 z2, .int .i64 y3, .int .i64 z3, .int .i64 3] 59)
            replace hb := hb.alloc (by omega) (.cells #[.int .i64 y0, .int .i64 z0, .int .i64 y1, .int .i64 z1, .int .i64 y2, .int .i64 z2, .int .i64 y3, .int .i64 z3, .int .i64 3] 59)
            clear e0 e1 e2 e3 e4 e5 e6 e7 e8 r2 hgw hlw hbw
            generalize hwS : wi.alloc (.cells #[.int .i64 y0, .int .i64 z0, .int .i64 y1, .int .i64 z1, .int .i64 y2, .int .i64 z2, .int .i64 y3, .int .i64 z3, .int .i64 3] 59) = wS at *
            generalize hG : wi.heap.size = G at *
            clear hwS hG
            have eG := fG.cell
            have lG := fG.lt
            have eP := fP.cell
            have kP := fP.unfrozen
            have lP := fP.lt
            have HOV := Lib.hid oV
            have HOP := Lib.hid oP
            have HFP := Lib.hid fP
            have HB := Lib.hid hb
            try have HFG := Lib.hid fG
            have hBz := hb.size
            clear oV oP fP hb
            try clear fG
            go_wp2_with (at_builtin; refine wpList_append_own _ rfl _ _ 22 rfl (w.heap.size + 2) 3 iI _ 1 8 Try.underlying22 hiI hz0I hz1I hz2I rfl (by decide) _ _ _ rfl (HOV.out.alloc _) ⟨wS.heap.size, 0, none⟩ 1 1 [.int .i64 3] rfl rfl ?c1 ?c2 ?c3 ?c4 ?c5 ?_)
            case c1 => exact Blk.news (l := [.int .i64 3]) (Blk.new wS _ _)
            case c2 => simp [Value.oneCell']
            case c3 => unfold maxLen; omega
            case c4 => omega
            case c5 => simp; omega
            rintro v' w8 hown8 hg8 -
            obtain ⟨a8, c8, rfl, _⟩ := own_slice hown8
            have oP := (HOP.out.alloc (.cells #[.int .i64 3] 3)).kept hg8 (own_apart (HOP.out.alloc (.cells #[.int .i64 3] 3)) (HOV.out.alloc (.cells #[.int .i64 3] 3)) (by decide))
            have fP := (HFP.out.alloc (.cells #[.int .i64 3] 3)).grown hg8 (own_apart_blk (HOV.out.alloc (.cells #[.int .i64 3] 3)) (HFP.out.alloc (.cells #[.int .i64 3] 3)) (by decide))
            try have fG := (HFG.out.alloc (.cells #[.int .i64 3] 3)).grown hg8 (own_apart_blk (HOV.out.alloc (.cells #[.int .i64 3] 3)) (HFG.out.alloc (.cells #[.int .i64 3] 3)) (by decide))
            have hb := (HB.out.alloc (by omega) (.cells #[.int .i64 3] 3)).grown hg8 (by simp; omega) (fun q hq => Nat.le_of_succ_le ((HOV.out.alloc (.cells #[.int .i64 3] 3)).lt q hq).1)
            clear eP kP lP HOV HOP HFP HB
            try clear HFG
            have k8 := fP.unfrozen
            have l8 := fP.lt
            have e8 := fP.cell
            replace oP := own_far oP fP (i := 0) (by decide) (.slice a8 (X.length + 1) c8)
            have oV := own_far hown8 fP (i := 0) (by decide) (.slice a8 (X.length + 1) c8)
            try replace fG := fG.far (b := w.heap.size + 1) (i := 0) hPG (.slice a8 (X.length + 1) c8)
            replace hb := hb.setCell (p := ⟨w.heap.size + 1, 0, none⟩) (Nat.le_refl _) (.slice a8 (X.length + 1) c8)
            replace fP := fP.set 0 (.slice a8 (X.length + 1) c8)
            clear hown8 hg8
            go_wp2_with fail
            clear k8 l8 e8 eG lG
            generalize hw9 : w8.setCell ⟨w.heap.size + 1, 0, none⟩ (.slice a8 (X.length + 1) c8) = w9 at *
            clear hw9
            have hszr9 : w.heap.size + 2 ≤ w9.heap.size := by have := hb.size; omega
            have eP := fP.cell
            have lP := fP.lt
            have eG := fG.cell
            have lG := fG.lt
            refine Reg.wp_region_soft 5 (by first | exact hb2 | exact Below.refl _ _) (by kernel_rfl) (by kernel_rfl) (fun u => ?_)
            simp only [List.take, List.drop]
            repeat (go_big_quiet_step ((first | fail)))
            refine wpQuiet_nil ?_
            intro xs hxs
            have hbx := Reg.class_below hxs
            clear hxs
            go_wp2_with fail
            refine ⟨rfl, Reg.Gr.refl _, fun z hz => ?_⟩
            replace fP := (fP.grow hbx).grow hz
            replace fG := (fG.grow hbx).grow hz
            replace oV := own_grow (own_grow oV hbx) hz
            replace oP := own_grow (own_grow oP hbx) hz
            replace hb := hb.trans ((hbx.trans (hz.mono hbx.size)).mono (by omega))
            have hszz : w.heap.size + 2 ≤ z.heap.size := by have := hb.size; omega
            clear hbx hz eP lP eG lG
            refine wpList_append_own _ rfl _ _ 23 rfl (w.heap.size + 2) 44 iQ _ 2 16 Try.underlying23 hiQ hz0Q hz1Q hz2Q rfl (by decide) _ _ _ rfl oP ⟨G, 2, none⟩ 2 3 (ptsV [(y1, z1), (y2, z2)]) rfl rfl (fG.newsAt 2 _ (by intro j u hj; rcases j with _ | _ | _ | _ | _ | _ | j <;> simp [ptsV] at hj ⊢ <;> exact hj)) (ptsV_one _) (by unfold maxLen; omega) (by omega) hszz ?_
            rintro p' w4 hown4 hg4 -
            obtain ⟨a4, c4, rfl, _⟩ := own_slice hown4
            replace fP := fP.grown hg4 (own_apart_blk oP fP (by decide))
            replace oV := oV.kept hg4 (own_apart oV oP (by decide))
            replace hb := hb.grown hg4 (by omega) (fun q hq => Nat.le_of_succ_le (oP.lt q hq).1)
            have kP := fP.unfrozen
            have lP := fP.lt
            have eP := fP.cell
            have oV2 : OwnV (w4.setCell ⟨w.heap.size + 1, 1, none⟩ (.slice a4 (Y.length + 2) c4)) (w.heap.size + 2) 3 (.slice a8 (X.length + 1) c8) (X ++ [3]) := by
              have h := own_far oV fP (i := 1) (by decide) (.slice a4 (Y.length + 2) c4)
              unfold OwnV; simpa [intsV] using h
            have oP2 : OwnQ (w4.setCell ⟨w.heap.size + 1, 1, none⟩ (.slice a4 (Y.length + 2) c4)) (w.heap.size + 2) 44 (.slice a4 (Y.length + 2) c4) (Y ++ [(y1, z1), (y2, z2)]) := by
              have h := own_far hown4 fP (i := 1) (by decide) (.slice a4 (Y.length + 2) c4)
              unfold OwnQ; simpa [ptsV_append] using h
            have fP2 := fP.set 1 (.slice a4 (Y.length + 2) c4)
            have hb2 := hb.setCell (p := ⟨w.heap.size + 1, 1, none⟩) (Nat.le_refl _) (.slice a4 (Y.length + 2) c4)
            have H2 := Lib.hid (And.intro oV2 (And.intro oP2 (And.intro fP2 hb2)))
            clear oV oP hown4 fP hb oV2 oP2 fP2 hb2 hg4 fG
            go_wp2_with fail
            obtain ⟨oV, oP, fP, hb⟩ := H2.out
            exact ⟨⟨i + 1, by omega, by go_num, ⟨_, _, fP, by rw [HXT.out.1]; exact oV, by rw [HXT.out.2]; exact oP⟩, hb⟩, by simp [intOf]; omega⟩
          · skip
            go_upto_region 12 with (fail)
            have fG := Blk.new wi 59 #[.int .i64 y0, .int .i64 z0, .int .i64 y1, .int .i64 z1, .int .i64 y2, .int .i64 z2, .int .i64 y3, .int .i64 z3, .int .i64 4]
            replace fP := fP.alloc (.cells #[.int .i64 y0, .int .i64 z0, .int .i64 y1, .int .i64 z1, .int .i64 y2, .int .i64 z2, .int .i64 y3, .int .i64 z3, .int .i64 4] 59)
            replace oV := oV.alloc (.cells #[.int .i64 y0, .int .i64 z0, .int .i64 y1, .int .i64 z1, .int .i64 y2, .int .i64 z2, .int .i64 y3, .int .i64 z3, .int .i64 4] 59)
            replace oP := oP.alloc (.cells #[.int .i64 y0, .int .i64 z0, .int .i64 y1, .int .i64 z1, .int .i64 y2, .int .i64 z2, .int .i64 y3, .int .i64 z3, .int .i64 4] 59)
            replace hb := hb.alloc (by omega) (.cells #[.int .i64 y0, .int .i64 z0, .int .i64 y1, .int .i64 z1, .int .i64 y2, .int .i64 z2, .int .i64 y3, .int .i64 z3, .int .i64 4] 59)
            clear e0 e1 e2 e3 e4 e5 e6 e7 e8 r2 hgw hlw hbw
            generalize hwS : wi.alloc (.cells #[.int .i64 y0, .int .i64 z0, .int .i64 y1, .int .i64 z1, .int .i64 y2, .int .i64 z2, .int .i64 y3, .int .i64 z3, .int .i64 4] 59) = wS at *
            generalize hG : wi.heap.size = G at *
            clear hwS hG
            have eG := fG.cell
            have lG := fG.lt
            have eP := fP.cell
            have kP := fP.unfrozen
            have lP := fP.lt
            have HOV := Lib.hid oV
            have HOP := Lib.hid oP
            have HFP := Lib.hid fP
            have HB := Lib.hid hb
            try have HFG := Lib.hid fG
            have hBz := hb.size
            clear oV oP fP hb
            try clear fG
            go_wp2_with (at_builtin; refine wpList_append_own _ rfl _ _ 22 rfl (w.heap.size + 2) 3 iI _ 1 8 Try.underlying22 hiI hz0I hz1I hz2I rfl (by decide) _ _ _ rfl (HOV.out.alloc _) ⟨wS.heap.size, 0, none⟩ 1 1 [.int .i64 4] rfl rfl ?c1 ?c2 ?c3 ?c4 ?c5 ?_)
            case c1 => exact Blk.news (l := [.int .i64 4]) (Blk.new wS _ _)
            case c2 => simp [Value.oneCell']
            case c3 => unfold maxLen; omega
            case c4 => omega
            case c5 => simp; omega
            rintro v' w8 hown8 hg8 -
            obtain ⟨a8, c8, rfl, _⟩ := own_slice hown8
            have oP := (HOP.out.alloc (.cells #[.int .i64 4] 3)).kept hg8 (own_apart (HOP.out.alloc (.cells #[.int .i64 4] 3)) (HOV.out.alloc (.cells #[.int .i64 4] 3)) (by decide))
            have fP := (HFP.out.alloc (.cells #[.int .i64 4] 3)).grown hg8 (own_apart_blk (HOV.out.alloc (.cells #[.int .i64 4] 3)) (HFP.out.alloc (.cells #[.int .i64 4] 3)) (by decide))
            try have fG := (HFG.out.alloc (.cells #[.int .i64 4] 3)).grown hg8 (own_apart_blk (HOV.out.alloc (.cells #[.int .i64 4] 3)) (HFG.out.alloc (.cells #[.int .i64 4] 3)) (by decide))
            have hb := (HB.out.alloc (by omega) (.cells #[.int .i64 4] 3)).grown hg8 (by simp; omega) (fun q hq => Nat.le_of_succ_le ((HOV.out.alloc (.cells #[.int .i64 4] 3)).lt q hq).1)
            clear eP kP lP HOV HOP HFP HB
            try clear HFG
            have k8 := fP.unfrozen
            have l8 := fP.lt
            have e8 := fP.cell
            replace oP := own_far oP fP (i := 0) (by decide) (.slice a8 (X.length + 1) c8)
            have oV := own_far hown8 fP (i := 0) (by decide) (.slice a8 (X.length + 1) c8)
            try replace fG := fG.far (b := w.heap.size + 1) (i := 0) hPG (.slice a8 (X.length + 1) c8)
            replace hb := hb.setCell (p := ⟨w.heap.size + 1, 0, none⟩) (Nat.le_refl _) (.slice a8 (X.length + 1) c8)
            replace fP := fP.set 0 (.slice a8 (X.length + 1) c8)
            clear hown8 hg8
            go_wp2_with fail
            clear k8 l8 e8 eG lG
            generalize hw9 : w8.setCell ⟨w.heap.size + 1, 0, none⟩ (.slice a8 (X.length + 1) c8) = w9 at *
            clear hw9
            have hszr9 : w.heap.size + 2 ≤ w9.heap.size := by have := hb.size; omega
            have eP := fP.cell
            have lP := fP.lt
            have eG := fG.cell
            have lG := fG.lt
            refine Reg.wp_region_soft 5 (by first | exact hb2 | exact Below.refl _ _) (by kernel_rfl) (by kernel_rfl) (fun u => ?_)
            simp only [List.take, List.drop]
            repeat (go_big_quiet_step ((first | fail)))
            refine wpQuiet_nil ?_
            intro xs hxs
            have hbx := Reg.class_below hxs
            clear hxs
            go_wp2_with fail
            refine ⟨rfl, Reg.Gr.refl _, fun z hz => ?_⟩
            replace fP := (fP.grow hbx).grow hz
            replace fG := (fG.grow hbx).grow hz
            replace oV := own_grow (own_grow oV hbx) hz
            replace oP := own_grow (own_grow oP hbx) hz
            replace hb := hb.trans ((hbx.trans (hz.mono hbx.size)).mono (by omega))
            have hszz : w.heap.size + 2 ≤ z.heap.size := by have := hb.size; omega
            clear hbx hz eP lP eG lG
            refine wpList_append_own _ rfl _ _ 23 rfl (w.heap.size + 2) 44 iQ _ 2 16 Try.underlying23 hiQ hz0Q hz1Q hz2Q rfl (by decide) _ _ _ rfl oP ⟨G, 2, none⟩ 3 3 (ptsV [(y1, z1), (y2, z2), (y3, z3)]) rfl rfl (fG.newsAt 2 _ (by intro j u hj; rcases j with _ | _ | _ | _ | _ | _ | j <;> simp [ptsV] at hj ⊢ <;> exact hj)) (ptsV_one _) (by unfold maxLen; omega) (by omega) hszz ?_
            rintro p' w4 hown4 hg4 -
            obtain ⟨a4, c4, rfl, _⟩ := own_slice hown4
            replace fP := fP.grown hg4 (own_apart_blk oP fP (by decide))
            replace oV := oV.kept hg4 (own_apart oV oP (by decide))
            replace hb := hb.grown hg4 (by omega) (fun q hq => Nat.le_of_succ_le (oP.lt q hq).1)
            have kP := fP.unfrozen
            have lP := fP.lt
            have eP := fP.cell
            have oV2 : OwnV (w4.setCell ⟨w.heap.size + 1, 1, none⟩ (.slice a4 (Y.length + 3) c4)) (w.heap.size + 2) 3 (.slice a8 (X.length + 1) c8) (X ++ [4]) := by
              have h := own_far oV fP (i := 1) (by decide) (.slice a4 (Y.length + 3) c4)
              unfold OwnV; simpa [intsV] using h
            have oP2 : OwnQ (w4.setCell ⟨w.heap.size + 1, 1, none⟩ (.slice a4 (Y.length + 3) c4)) (w.heap.size + 2) 44 (.slice a4 (Y.length + 3) c4) (Y ++ [(y1, z1), (y2, z2), (y3, z3)]) := by
              have h := own_far hown4 fP (i := 1) (by decide) (.slice a4 (Y.length + 3) c4)
              unfold OwnQ; simpa [ptsV_append] using h
            have fP2 := fP.set 1 (.slice a4 (Y.length + 3) c4)
            have hb2 := hb.setCell (p := ⟨w.heap.size + 1, 1, none⟩) (Nat.le_refl _) (.slice a4 (Y.length + 3) c4)
            have H2 := Lib.hid (And.intro oV2 (And.intro oP2 (And.intro fP2 hb2)))
            clear oV oP hown4 fP hb oV2 oP2 fP2 hb2 hg4 fG
            go_wp2_with fail
            obtain ⟨oV, oP, fP, hb⟩ := H2.out
            exact ⟨⟨i + 1, by omega, by go_num, ⟨_, _, fP, by rw [HXT.out.1]; exact oV, by rw [HXT.out.2]; exact oP⟩, hb⟩, by simp [intOf]; omega⟩
          · skip
            have hq2 : ¬ ((2 : Int) ≤ qn ∧ qn ≤ 4) := by omega
            have ev : segVs ⟨(y0, z0), (y1, z1), (y2, z2), (y3, z3), qn⟩ = [] := by unfold segVs; rw [if_neg hq2]
            have ep : segPs ⟨(y0, z0), (y1, z1), (y2, z2), (y3, z3), qn⟩ = [] := by unfold segPs; rw [if_neg (by simp only; omega), if_neg (by simp only; omega), if_neg (by simp only; omega)]
            have HE := Lib.hid (And.intro ev ep)
            clear ev ep hq2
            go_wp2_with fail
            replace fP := fP.alloc (.cells #[.int .i64 y0, .int .i64 z0, .int .i64 y1, .int .i64 z1, .int .i64 y2, .int .i64 z2, .int .i64 y3, .int .i64 z3, .int .i64 qn] 59)
            replace oV := oV.alloc (.cells #[.int .i64 y0, .int .i64 z0, .int .i64 y1, .int .i64 z1, .int .i64 y2, .int .i64 z2, .int .i64 y3, .int .i64 z3, .int .i64 qn] 59)
            replace oP := oP.alloc (.cells #[.int .i64 y0, .int .i64 z0, .int .i64 y1, .int .i64 z1, .int .i64 y2, .int .i64 z2, .int .i64 y3, .int .i64 z3, .int .i64 qn] 59)
            replace hb := hb.alloc (by omega) (.cells #[.int .i64 y0, .int .i64 z0, .int .i64 y1, .int .i64 z1, .int .i64 y2, .int .i64 z2, .int .i64 y3, .int .i64 z3, .int .i64 qn] 59)
            exact ⟨⟨i + 1, by omega, by go_num, ⟨_, _, fP, by rw [HXT.out.1, HE.out.1, List.append_nil]; exact oV, by rw [HXT.out.2, HE.out.2, List.append_nil]; exact oP⟩, hb⟩, by simp [intOf]; omega⟩
          · skip
            have hq2 : ¬ ((2 : Int) ≤ qn ∧ qn ≤ 4) := by omega
            have ev : segVs ⟨(y0, z0), (y1, z1), (y2, z2), (y3, z3), qn⟩ = [] := by unfold segVs; rw [if_neg hq2]
            have ep : segPs ⟨(y0, z0), (y1, z1), (y2, z2), (y3, z3), qn⟩ = [] := by unfold segPs; rw [if_neg (by simp only; omega), if_neg (by simp only; omega), if_neg (by simp only; omega)]
            have HE := Lib.hid (And.intro ev ep)
            clear ev ep hq2
            go_wp2_with fail
            replace fP := fP.alloc (.cells #[.int .i64 y0, .int .i64 z0, .int .i64 y1, .int .i64 z1, .int .i64 y2, .int .i64 z2, .int .i64 y3, .int .i64 z3, .int .i64 qn] 59)
            replace oV := oV.alloc (.cells #[.int .i64 y0, .int .i64 z0, .int .i64 y1, .int .i64 z1, .int .i64 y2, .int .i64 z2, .int .i64 y3, .int .i64 z3, .int .i64 qn] 59)
            replace oP := oP.alloc (.cells #[.int .i64 y0, .int .i64 z0, .int .i64 y1, .int .i64 z1, .int .i64 y2, .int .i64 z2, .int .i64 y3, .int .i64 z3, .int .i64 qn] 59)
            replace hb := hb.alloc (by omega) (.cells #[.int .i64 y0, .int .i64 z0, .int .i64 y1, .int .i64 z1, .int .i64 y2, .int .i64 z2, .int .i64 y3, .int .i64 z3, .int .i64 qn] 59)
            exact ⟨⟨i + 1, by omega, by go_num, ⟨_, _, fP, by rw [HXT.out.1, HE.out.1, List.append_nil]; exact oV, by rw [HXT.out.2, HE.out.2, List.append_nil]; exact oP⟩, hb⟩, by simp [intOf]; omega⟩
        · have hin : i = segs.length := by omega
          subst hin
          rw [List.take_of_length_le (Nat.le_refl _)] at oV oP
          have hX : (ws ++ [1] ++ segsVs segs).length ≤ 1002 * k + 1001 := by
            have := segsVs_le segs
            simp only [List.length_append, List.length_cons, List.length_nil] at this ⊢
            omega
          have r3 := (hbw.cell (p := ⟨sb, so + k * 4 + 3, none⟩) hsB).trans HRR.out.2.2.2
          have HJ2 : Hid (joinVs (l.take (k + 1)) = ws ++ [1] ++ segsVs segs ++ endVs cl ∧ joinPs (l.take (k + 1)) = qs ++ [(sx, sy)] ++ segsPs segs) := Lib.hid (by rw [HJ.out.1, HJ.out.2]; simp [subVs, subPs])
          generalize ws ++ [1] ++ segsVs segs = X at *
          generalize qs ++ [(sx, sy)] ++ segsPs segs = Y at *
          cases cl with
          | false =>
            have H2 := Lib.hid (And.intro oV (And.intro oP (And.intro fP hb)))
            clear oV oP fP hb
            go_wp2_with fail
            obtain ⟨oV, oP, fP, hb⟩ := H2.out
            exact ⟨⟨k + 1, by omega, by go_num, ⟨_, _, fP, by rw [HJ2.out.1]; simpa [endVs] using oV, by rw [HJ2.out.2]; exact oP⟩, hb⟩, by simp [intOf]; omega⟩
          | true =>
            have eP := fP.cell
            have kP := fP.unfrozen
            have lP := fP.lt
            have HOV := Lib.hid oV
            have HOP := Lib.hid oP
            have HFP := Lib.hid fP
            have HB := Lib.hid hb
            try have HFG := Lib.hid fG
            have hBz := hb.size
            clear oV oP fP hb
            try clear fG
            go_wp2_with (at_builtin; refine wpList_append_own _ rfl _ _ 22 rfl (w.heap.size + 2) 3 iI _ 1 8 Try.underlying22 hiI hz0I hz1I hz2I rfl (by decide) _ _ _ rfl (HOV.out.alloc _) ⟨wi.heap.size, 0, none⟩ 1 1 [.int .i64 5] rfl rfl ?c1 ?c2 ?c3 ?c4 ?c5 ?_)
            case c1 => exact Blk.news (l := [.int .i64 5]) (Blk.new wi _ _)
            case c2 => simp [Value.oneCell']
            case c3 => unfold maxLen; omega
            case c4 => omega
            case c5 => simp; omega
            rintro v' w8 hown8 hg8 -
            obtain ⟨a8, c8, rfl, _⟩ := own_slice hown8
            have oP := (HOP.out.alloc (.cells #[.int .i64 5] 3)).kept hg8 (own_apart (HOP.out.alloc (.cells #[.int .i64 5] 3)) (HOV.out.alloc (.cells #[.int .i64 5] 3)) (by decide))
            have fP := (HFP.out.alloc (.cells #[.int .i64 5] 3)).grown hg8 (own_apart_blk (HOV.out.alloc (.cells #[.int .i64 5] 3)) (HFP.out.alloc (.cells #[.int .i64 5] 3)) (by decide))
            try have fG := (HFG.out.alloc (.cells #[.int .i64 5] 3)).grown hg8 (own_apart_blk (HOV.out.alloc (.cells #[.int .i64 5] 3)) (HFG.out.alloc (.cells #[.int .i64 5] 3)) (by decide))
            have hb := (HB.out.alloc (by omega) (.cells #[.int .i64 5] 3)).grown hg8 (by simp; omega) (fun q hq => Nat.le_of_succ_le ((HOV.out.alloc (.cells #[.int .i64 5] 3)).lt q hq).1)
            clear eP kP lP HOV HOP HFP HB
            try clear HFG
            have k8 := fP.unfrozen
            have l8 := fP.lt
            have e8 := fP.cell
            replace oP := own_far oP fP (i := 0) (by decide) (.slice a8 (X.length + 1) c8)
            have oV := own_far hown8 fP (i := 0) (by decide) (.slice a8 (X.length + 1) c8)
            try replace fG := fG.far (b := w.heap.size + 1) (i := 0) hPG (.slice a8 (X.length + 1) c8)
            replace hb := hb.setCell (p := ⟨w.heap.size + 1, 0, none⟩) (Nat.le_refl _) (.slice a8 (X.length + 1) c8)
            replace fP := fP.set 0 (.slice a8 (X.length + 1) c8)
            clear hown8 hg8
            have H2 := Lib.hid (And.intro oV (And.intro oP (And.intro fP hb)))
            clear oV oP fP hb
            go_wp2_with fail
            obtain ⟨oV, oP, fP, hb⟩ := H2.out
            exact ⟨⟨k + 1, by omega, by go_num, ⟨_, _, fP, by rw [HJ2.out.1]; simpa [endVs, intsV] using oV, by rw [HJ2.out.2]; exact oP⟩, hb⟩, by simp [intOf]; omega⟩
    · have hkn : k = n := by omega
      rw [List.take_of_length_le (by omega)] at oV oP
      obtain ⟨va, vc, rfl, hvc, _⟩ := own_cap oV
      obtain ⟨pa, pc, rfl, hpc, hpm⟩ := own_cap oP
      have hin : ¬ (k : Int) < n := by omega
      have S3r := HR.out.below hb (by omega)
      have eP := fP.cell
      have lP := fP.lt
      have e3 := S3r.cell
      have k3 := S3r.unfrozen
      have l3 := S3r.lt
      have HV2 := Lib.hid (own_ints (own_far (own_far oV S3r (i := 0) (by decide) (.slice va (joinVs l).length vc)) (S3r.set 0 (.slice va (joinVs l).length vc)) (i := 1) (by decide) (.slice pa (joinPs l).length pc)))
      have HP2 := Lib.hid (own_pts (own_far (own_far oP S3r (i := 0) (by decide) (.slice va (joinVs l).length vc)) (S3r.set 0 (.slice va (joinVs l).length vc)) (i := 1) (by decide) (.slice pa (joinPs l).length pc)))
      have HB2 := Lib.hid ((hbw.setCell (p := ⟨w.heap.size, 0, none⟩) (Nat.le_refl _) (.slice va (joinVs l).length vc)).setCell (p := ⟨w.heap.size, 1, none⟩) (Nat.le_refl _) (.slice pa (joinPs l).length pc))
      have HR2 := Lib.hid ((S3r.set 0 (.slice va (joinVs l).length vc)).set 1 (.slice pa (joinPs l).length pc))
      clear hb hbw oV oP fP S3r
      go_wp2_with fail
      refine bodyPost_ret (res_rpath HR2.out rfl rfl rfl rfl) rfl ?_
      exact ⟨_, _, _, _, rfl, hvc, hpc, hpm, HV2.out, HP2.out, HB2.out⟩
end Go.Proofs.Ytjkpbkcbimojoaa
