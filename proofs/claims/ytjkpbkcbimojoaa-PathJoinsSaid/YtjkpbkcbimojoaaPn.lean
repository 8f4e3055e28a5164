/- PathChains: the walk. -/
import Derived.Test.YtjkpbkcbimojoaaPl
import Derived.Test.YtjkpbkcbimojoaaPm
namespace Go.Proofs.Ytjkpbkcbimojoaa
open Go.RowKit

theorem RSubs.at_ {w : World} {B n : Nat} {a : Option Addr} {l : List SubS} (h : RSubs w B a n l) (k : Nat) (hk : k < l.length) :
    ∃ b off sa sc, a = some ⟨b, off, none⟩ ∧ b < B ∧ w.cell? ⟨b, off + k * 4, none⟩ = some (.int .i64 l[k].start.1) ∧ w.cell? ⟨b, off + k * 4 + 1, none⟩ = some (.int .i64 l[k].start.2) ∧
    w.cell? ⟨b, off + k * 4 + 2, none⟩ = some (.slice sa l[k].segs.length sc) ∧ w.cell? ⟨b, off + k * 4 + 3, none⟩ = some (.bool l[k].closed) ∧ l[k].segs.length ≤ sc ∧ RSegs w B sa l[k].segs.length l[k].segs :=
  h.2 k _ (List.getElem?_eq_getElem hk)
/-- The nine cells of a segment. -/
theorem RSegs.at_ {w : World} {B n : Nat} {a : Option Addr} {l : List SegS} (h : RSegs w B a n l) (k : Nat) (hk : k < l.length) :
    ∃ b off, a = some ⟨b, off, none⟩ ∧ b < B ∧ w.cell? ⟨b, off + k * 9, none⟩ = some (.int .i64 l[k].p0.1) ∧ w.cell? ⟨b, off + k * 9 + 1, none⟩ = some (.int .i64 l[k].p0.2) ∧ w.cell? ⟨b, off + k * 9 + 2, none⟩ = some (.int .i64 l[k].p1.1) ∧ w.cell? ⟨b, off + k * 9 + 3, none⟩ = some (.int .i64 l[k].p1.2) ∧
    w.cell? ⟨b, off + k * 9 + 4, none⟩ = some (.int .i64 l[k].p2.1) ∧ w.cell? ⟨b, off + k * 9 + 5, none⟩ = some (.int .i64 l[k].p2.2) ∧ w.cell? ⟨b, off + k * 9 + 6, none⟩ = some (.int .i64 l[k].p3.1) ∧ w.cell? ⟨b, off + k * 9 + 7, none⟩ = some (.int .i64 l[k].p3.2) ∧
    w.cell? ⟨b, off + k * 9 + 8, none⟩ = some (.int .i64 l[k].n) := by
  obtain ⟨b, off, h1, h2, h3⟩ := h.2 k _ (List.getElem?_eq_getElem hk)
  exact ⟨b, off, h1, h2, h3 0 _ rfl, h3 1 _ rfl, h3 2 _ rfl, h3 3 _ rfl, h3 4 _ rfl, h3 5 _ rfl, h3 6 _ rfl, h3 7 _ rfl, h3 8 _ rfl⟩
theorem chain_at : ∀ (l : List SegS) (a : Int × Int), ChainP a l → ∀ (k : Nat) (hk : k < l.length), 2 ≤ l[k].n ∧ l[k].n ≤ 4 ∧ l[k].p0 = endP a (l.take k)
  | g :: l, a, h, 0, _ => ⟨h.1, h.2.1, h.2.2.1⟩
  | g :: l, a, h, k + 1, hk => chain_at l (endS g) h.2.2.2 k (by simpa using hk)
theorem end_take (l : List SegS) (a : Int × Int) (k : Nat) (hk : k < l.length) : endP a (l.take (k + 1)) = endS l[k] := by
  rw [take_snoc l k hk, endP_snoc]

set_option maxRecDepth 100000 in
set_option maxHeartbeats 4000000 in
theorem lchains_any (a b : Option Addr) (n m c d : Nat) (vs : List Int) (ps : List (Int × Int)) (w : World) (hmd : m ≤ d) (hd : d ≤ maxLen) (hn : n ≤ 9223372036854775807)
    (hm : m ≤ 9223372036854775807) (hv : RInts w w.heap.size a n vs) (hp : RPts w w.heap.size b m ps) :
    Calls Try.prog 4 #[.agg #[.slice a n c, .slice b m d]] w fun e w' => e = .returned (.bool true) ∧ Below w.heap.size w w' := by
  have KB := Lib.hid (fun W => bounded_any a b n m c d W hn hm)
  cases hbd : decide (n ≤ 520) && decide (m ≤ 1600)
  · rw [hbd] at KB
    go_enter Try.func4, Try.ntmps4
    go_wp2_with (first | (go_at_call 9; refine (calls_from (by first | assumption | exact Below.refl _ _) (KB.out _)).mono ?_; rintro e w2 ⟨rfl, hb2⟩; have hc2 := (bcell hb2).1; have hf2 := (bcell hb2).2) | (go_at_call 10; refine (calls_from (by first | assumption | exact Below.refl _ _) (shown_any _)).mono ?_; rintro e w2 ⟨rfl, hb2⟩; have hc2 := (bcell hb2).1; have hf2 := (bcell hb2).2))
    go_ret
    exact ⟨rfl, by (first | ((repeat (first | exact Below.refl _ _ | assumption | refine Below.drew ?_ | refine Below.setCell ?_ (by simp; try omega) _ | refine Below.alloc ?_ (by simp; try omega) _)); done) | exact Below.trans (by (repeat (first | exact Below.refl _ _ | assumption | refine Below.drew ?_ | refine Below.setCell ?_ (by simp; try omega) _ | refine Below.alloc ?_ (by simp; try omega) _))) (hb2.mono (by simp; try omega)))⟩
  rw [hbd] at KB
  have hbd2 := hbd
  simp only [Bool.and_eq_true, decide_eq_true_eq] at hbd2
  have KS := Lib.hid (fun W (hW : Below w.heap.size w W) => split_any a b n m c d vs ps W hmd hd (by omega) (hv.grow hW) (hp.grow hW))
  clear hbd2
  have hnl := hv.1
  have HV := Lib.hid hv
  have HG := Lib.hid (split_good vs ps)
  have HM := Lib.hid (split_moves (vs := vs) (ps := ps))
  obtain ⟨hsl, hsg⟩ := split_small vs ps
  have HSG := Lib.hid hsg
  have s1 := Blk.new w 25 #[.slice a n c, .slice b m d]
  have h0 : checkS vs ps ≠ 0 → splitS vs ps = [] := fun h => by unfold splitS; rw [if_neg h]
  have H0 := Lib.hid h0
  generalize splitS vs ps = sl at *
  simp only [Bool.and_eq_true, decide_eq_true_eq] at hbd
  obtain ⟨hn5, hm6⟩ := hbd
  clear hv hp hsg h0
  go_enter Try.func4, Try.ntmps4
  go_wp2_with fail
  refine (KB.out _).mono ?_
  rintro e w2 ⟨rfl, hb2⟩
  have hx2 : Below w.heap.size w w2 := Below.trans (by (repeat (first | exact Below.refl _ _ | assumption | refine Below.drew ?_ | refine Below.setCell ?_ (by simp; try omega) _ | refine Below.alloc ?_ (by simp; try omega) _))) (hb2.mono (by simp))
  replace s1 := s1.grow hb2
  clear hb2
  go_wp2_with fail
  refine (shown_any _).mono ?_
  rintro e w3 ⟨rfl, hb2⟩
  have hx3 := hx2.trans (hb2.mono hx2.size)
  replace s1 := s1.grow hb2
  clear hb2 hx2
  have l1 := s1.lt
  have g0 : w3.cell? ⟨w.heap.size, 0, none⟩ = some (.slice a n c) := s1.cell 0
  have g1 : w3.cell? ⟨w.heap.size, 1, none⟩ = some (.slice b m d) := s1.cell 1
  go_wp2_with fail
  refine (KS.out _ hx3).mono ?_
  rintro e w4 ⟨la, lc, rfl, hlc, hr, hb2⟩
  have hx4 := hx3.trans (hb2.mono hx3.size)
  replace s1 := s1.grow hb2
  clear hb2 hx3 g0 g1 l1 KB KS
  have HR := Lib.hid hr
  clear hr
  have hmv : Hid (sl.length = if checkS vs ps = 0 then vs.count 1 else 0) := Lib.hid (by
    split
    · exact HM.out ‹_›
    · rw [H0.out ‹_›]; rfl)
  clear HM H0
  by_cases h0 : checkS vs ps = 0
  · rw [if_pos h0] at hmv
    have HMV := hmv
    rw [h0]
    clear hmv h0
    go_wp2_with fail
    go_loopw [5, 6] (fun mv i wr => ∃ k : Nat, k ≤ n ∧ i = .int .i64 k ∧ mv = .int .i64 ((vs.take k).count 1) ∧ Below w4.heap.size w4 wr) (fun _ i _ => n - (intOf i).toNat)
    case atStart => exact ⟨0, Nat.zero_le _, rfl, rfl, Below.refl _ _⟩
    case round =>
      obtain ⟨k, hk, rfl, rfl, hb⟩ := hrel
      have s2 := s1.grow hb
      have l2 := s2.lt
      have g0 : wr.cell? ⟨w.heap.size, 0, none⟩ = some (.slice a n c) := s2.cell 0
      by_cases hlt : k < n
      · have hlk : k < vs.length := by omega
        obtain ⟨bb, off, ha, hbB, hc1⟩ := HV.out.2 k vs[k] (List.getElem?_eq_getElem hlk)
        subst ha
        have hc1' : wr.cell? ⟨bb, off + k, none⟩ = some (.int .i64 vs[k]) := ((hx4.trans (hb.mono hx4.size)).cell (p := ⟨bb, off + k, none⟩) hbB).trans hc1
        have HC : Hid ((vs.take (k + 1)).count 1 = (vs.take k).count 1 + (if vs[k] = 1 then 1 else 0)) := Lib.hid (by
          rw [take_snoc vs k hlk, List.count_append, List.count_singleton]
          congr 1
          by_cases h1 : vs[k] = 1 <;> simp [h1])
        have hcl : (vs.take k).count 1 ≤ k := by have := List.count_le_length (l := vs.take k) (a := 1); rw [List.length_take] at this; omega
        clear hc1
        generalize vs[k] = v at *
        by_cases h1 : v = 1
        · subst h1
          go_wp2_with fail
          exact ⟨⟨k + 1, by omega, by go_num, by rw [HC.out]; rfl, hb⟩, by simp [intOf]; omega⟩
        · have HC2 : Hid ((vs.take (k + 1)).count 1 = (vs.take k).count 1) := Lib.hid (by rw [HC.out, if_neg h1]; rfl)
          have h1' : (v == 1) = false := by simpa using h1
          clear HC h1
          go_wp2_with fail
          exact ⟨⟨k + 1, by omega, by go_num, by rw [HC2.out], hb⟩, by simp [intOf]; omega⟩
      · have hkn : (vs.take k).count 1 = sl.length := by rw [HMV.out, List.take_of_length_le (by omega)]
        rw [hkn]
        have hin : ¬ (k : Int) < n := by omega
        have hkk : Hid (k = n) := Lib.hid (by omega)
        clear hkn s1
        go_wp2_with fail
        clear g0 s2 l2
        obtain ⟨wo, rfl⟩ : ∃ wo : World, wo = wr := ⟨_, rfl⟩
        have HB := Lib.hid hb
        clear hb
        go_loopw [7] (fun i wr => ∃ k : Nat, k ≤ sl.length ∧ i = .int .i64 k ∧ Below wo.heap.size wo wr) (fun i _ => sl.length - (intOf i).toNat)
        case atStart => exact ⟨0, Nat.zero_le _, rfl, Below.refl _ _⟩
        case round =>
          obtain ⟨k, hk, rfl, hb⟩ := hrel
          have hx := HB.out.trans (hb.mono HB.out.size)
          by_cases hlt : k < sl.length
          · obtain ⟨sb, so, sa, sc, hsa, hsB, r0, r1, r2, r3, hsc, hseg⟩ := (HR.out.below hx).at_ k hlt
            subst hsa
            have hgood := HG.out sl[k] (List.getElem_mem hlt)
            have hsm := HSG.out sl[k] (List.getElem_mem hlt)
            have hlw : sb < wr.heap.size := by have := hx.size; omega
            generalize sl[k] = s at *
            obtain ⟨⟨sx, sy⟩, segs, cl⟩ := s
            simp only at r0 r1 r2 r3 hsm hsc hseg
            obtain ⟨hch, -, hcl⟩ := hgood
            simp only at hch hcl
            have HCH := Lib.hid (chain_at segs (sx, sy) hch)
            have HCL := Lib.hid hcl
            have HSE := Lib.hid hseg
            clear hch hcl hseg
            have hlt' : (k : Int) < sl.length := by omega
            go_wp2_with fail
            have q1 : Blk (wr.alloc (.cells #[.int .i64 sx, .int .i64 sy] 44)) wr.heap.size 44 #[.int .i64 sx, .int .i64 sy] := Blk.new _ _ _
            have hbq := hb.alloc hb.size (.cells #[.int .i64 sx, .int .i64 sy] 44)
            have HQ := Lib.hid q1
            have HBQ := Lib.hid hbq
            have HRR := Lib.hid (And.intro r0 (And.intro r1 (And.intro r2 r3)))
            clear q1 hbq r0 r1 r2 r3
            obtain ⟨wk, rfl⟩ : ∃ wk : World, wk = wr := ⟨_, rfl⟩
            have hsw : sb < wk.heap.size + 1 := by omega
            go_loopw [9] (fun j wr => ∃ i : Nat, i ≤ segs.length ∧ j = .int .i64 i ∧ Blk wr wk.heap.size 44 #[.int .i64 (endP (sx, sy) (segs.take i)).1, .int .i64 (endP (sx, sy) (segs.take i)).2] ∧ Below wk.heap.size wk wr) (fun j _ => segs.length - (intOf j).toNat)
            case atStart => exact ⟨0, Nat.zero_le _, rfl, HQ.out, by (repeat (first | exact Below.refl _ _ | assumption | refine Below.drew ?_ | refine Below.setCell ?_ (by simp; try omega) _ | refine Below.alloc ?_ (by simp; try omega) _))⟩
            case round =>
              obtain ⟨j, hj, rfl, hA, hbi⟩ := hrel
              have hlA := hA.lt
              have r2 : wr.cell? ⟨sb, so + k * 4 + 2, none⟩ = some (.slice sa segs.length sc) := (hbi.cell (p := ⟨sb, so + k * 4 + 2, none⟩) hlw).trans HRR.out.2.2.1
              by_cases hjl : j < segs.length
              · obtain ⟨gb, go, hga, hgB, e0, e1, e2, e3, e4, e5, e6, e7, e8⟩ := (HSE.out.below (hbi.mono hx.size)).at_ j hjl
                subst hga
                obtain ⟨h2n, hn4, hp0⟩ := HCH.out j hjl
                have HET := Lib.hid (end_take segs (sx, sy) j hjl)
                have HEA := Lib.hid (end_any segs[j])
                rw [← hp0] at hA
                have hgw : gb < wr.heap.size := by have := hx.size; have := hbi.size; omega
                clear hp0
                generalize segs[j] = g at *
                obtain ⟨⟨x0, y0⟩, ⟨x1, y1⟩, ⟨x2, y2⟩, ⟨x3, y3⟩, gn⟩ := g
                simp only [segA] at *
                generalize endS ⟨(x0, y0), (x1, y1), (x2, y2), (x3, y3), gn⟩ = q at *
                obtain ⟨qx, qy⟩ := q
                simp only at HEA
                have f0 : wr.cell? ⟨wk.heap.size, 0, none⟩ = some (.int .i64 x0) := hA.cell 0
                have f1 : wr.cell? ⟨wk.heap.size, 1, none⟩ = some (.int .i64 y0) := hA.cell 1
                have hlA2 : wk.heap.size < wr.heap.size + 1 := by omega
                have hAr : wk.heap.size ≠ wr.heap.size := by omega
                go_wp2_with fail
                refine (HEA.out _).mono ?_
                rintro e w5 ⟨rfl, hb5⟩
                have hA5 := (hA.alloc _).grow hb5
                have hb6 := (hbi.alloc (by have := hbi.size; omega) _).trans (hb5.mono (by have := hbi.size; simp; omega))
                have f2 : w5.cell? ⟨wk.heap.size, 0, none⟩ = some (.int .i64 x0) := hA5.cell 0
                have f3 : w5.cell? ⟨wk.heap.size, 1, none⟩ = some (.int .i64 y0) := hA5.cell 1
                have f4 := hA5.unfrozen
                have hlA5 := hA5.lt
                clear f0 f1 e0 e1 e2 e3 e4 e5 e6 e7 e8 r2
                go_wp2_with fail
                refine ⟨⟨j + 1, by omega, by go_num, ?_, (hb6.setCell (by simp) _).setCell (by simp) _⟩, by simp [intOf]; omega⟩
                rw [HET.out]
                exact (hA5.set 0 _).set 1 _
              · have hjn : j = segs.length := by omega
                subst hjn
                rw [List.take_of_length_le (Nat.le_refl _)] at hA
                have r0 : wr.cell? ⟨sb, so + k * 4, none⟩ = some (.int .i64 sx) := (hbi.cell (p := ⟨sb, so + k * 4, none⟩) hlw).trans HRR.out.1
                have r1 : wr.cell? ⟨sb, so + k * 4 + 1, none⟩ = some (.int .i64 sy) := (hbi.cell (p := ⟨sb, so + k * 4 + 1, none⟩) hlw).trans HRR.out.2.1
                have r3 : wr.cell? ⟨sb, so + k * 4 + 3, none⟩ = some (.bool cl) := (hbi.cell (p := ⟨sb, so + k * 4 + 3, none⟩) hlw).trans HRR.out.2.2.2
                have hgw : sb < wr.heap.size := by have := hbi.size; omega
                cases cl
                · go_wp2_with fail
                  refine Reg.wp_region_all (by first | exact hb2 | exact Below.refl _ _) (by kernel_rfl) (by kernel_rfl) ?_
                  repeat (go_big_quiet_step ((first | fail)))
                  refine wpQuiet_nil ?_
                  intro xs hxs
                  have hbx := Reg.class_below hxs
                  clear hxs
                  have hbk := hb.trans ((hbi.trans (hbx.mono hbi.size)).mono hb.size)
                  go_wp2_with fail
                  exact ⟨⟨k + 1, by omega, by go_num, hbk⟩, by simp [intOf]; omega⟩
                · have hend := HCL.out rfl
                  rw [hend] at hA
                  have f0 : wr.cell? ⟨wk.heap.size, 0, none⟩ = some (.int .i64 sx) := hA.cell 0
                  have f1 : wr.cell? ⟨wk.heap.size, 1, none⟩ = some (.int .i64 sy) := hA.cell 1
                  have HE2 := Lib.hid hend
                  clear hend
                  go_wp2_with fail
                  refine Reg.wp_region_all (by first | exact hb2 | exact Below.refl _ _) (by kernel_rfl) (by kernel_rfl) ?_
                  repeat (go_big_quiet_step ((first | fail)))
                  refine wpQuiet_nil ?_
                  intro xs hxs
                  have hbx := Reg.class_below hxs
                  clear hxs
                  have hbk := hb.trans ((hbi.trans (hbx.mono hbi.size)).mono hb.size)
                  go_wp2_with fail
                  exact ⟨⟨k + 1, by omega, by go_num, hbk⟩, by simp [intOf]; omega⟩
          · have hkk : ¬ (k : Int) < sl.length := by omega
            have hend := hx4.trans (hx.mono hx4.size)
            go_wp2_with fail
            go_ret
            exact ⟨rfl, hend⟩
  · rw [if_neg h0] at hmv
    have h0' : (checkS vs ps == 0) = false := by simpa using h0
    have HMV := hmv
    clear hmv h0
    have l1 := s1.lt
    have g0 : w4.cell? ⟨w.heap.size, 0, none⟩ = some (.slice a n c) := s1.cell 0
    go_wp2_with fail
    go_loopw [5, 6] (fun mv i wr => i = .int .i64 0 ∧ mv = .int .i64 0 ∧ Below w4.heap.size w4 wr) (fun _ _ _ => 0)
    case atStart => exact ⟨rfl, rfl, Below.refl _ _⟩
    case round =>
      obtain ⟨rfl, rfl, hb⟩ := hrel
      rw [HMV.out]
      have s2 := s1.grow hb
      have l2 := s2.lt
      have g0 : wr.cell? ⟨w.heap.size, 0, none⟩ = some (.slice a n c) := s2.cell 0
      have hxe := hx4.trans (hb.mono hx4.size)
      by_cases hn0 : n = 0
      · have hn1 : ¬ (0 : Int) < n := by omega
        have HN0 := Lib.hid hn0
        clear hn0
        go_wp2_with fail
        go_loopw [7] (fun i wx => i = .int .i64 0 ∧ Below w.heap.size w wx) (fun _ _ => 0)
        case atStart => exact ⟨rfl, hxe⟩
        case round =>
          obtain ⟨rfl, hxf⟩ := hrel
          go_wp2_with fail
          go_ret
          exact ⟨rfl, hxf⟩
      · have hn1 : (0 : Int) < n := by omega
        go_wp2_with fail
        go_loopw [7] (fun i wx => i = .int .i64 0 ∧ Below w.heap.size w wx) (fun _ _ => 0)
        case atStart => exact ⟨rfl, hxe⟩
        case round =>
          obtain ⟨rfl, hxf⟩ := hrel
          go_wp2_with fail
          go_ret
          exact ⟨rfl, hxf⟩
end Go.Proofs.Ytjkpbkcbimojoaa
