/- PathJoins: any subpaths that are joined, and any path that is shifted, are the document's; whether a segment is a dot, and its end, too. -/
import Derived.Test.YtjkpbkcbimojoaaRa
import Derived.Test.YtjkpbkcbimojoaaRc
import Derived.Test.YtjkpbkcbimojoaaQe
import Derived.Test.YtjkpbkcbimojoaaPj
import Derived.Test.YtjkpbkcbimojoaaPl
import Derived.Test.YtjkpbkcbimojoaaOpend
namespace Go.Proofs.Ytjkpbkcbimojoaa
open Go.RowKit

theorem aftK_below (w : World) (u : Option World) (z : World) : Below w.heap.size w (Reg.aftK (fun _ => True) w u z) := by
  have h := Reg.kp_aft (fun _ => True) w u z
  exact ⟨h.os, h.tape, h.output, h.size, fun k hk => h.block k hk trivial⟩
theorem near_le {x y : Int} (h : nearQ x y = true) : -1073741824 ≤ x ∧ x ≤ 1073741824 ∧ -1073741824 ≤ y ∧ y ≤ 1073741824 := by
  simp only [nearQ, Bool.and_eq_true, decide_eq_true_eq] at h
  omega

set_option maxRecDepth 100000 in
set_option maxHeartbeats 8000000 in
theorem ljoins_any (la : Option Addr) (ln lc : Nat) (l : List SubS) (a b : Option Addr) (n m c d : Nat) (bx by_ : Int) (vs : List Int) (ps : List (Int × Int)) (w : World) (hln : ln ≤ 9223372036854775807) (hn : n ≤ 9223372036854775807)
    (hm : m ≤ 9223372036854775807) (ha : a = none → n = 0 ∧ c = 0) (hb : b = none → m = 0 ∧ d = 0) (hl : RSubs w w.heap.size la ln l) (hv : RInts w w.heap.size a n vs) (hp : RPts w w.heap.size b m ps) :
    Calls Try.prog 8 #[.slice la ln lc, .agg #[.slice a n c, .slice b m d], .agg #[.int .i64 bx, .int .i64 by_]] w fun e w' => e = .returned (.bool true) ∧ Below w.heap.size w w' := by
  have hll := hl.1
  have hpl := hp.1
  have hvl := hv.1
  subst hll hpl hvl
  have KB := Lib.hid (fun W => bounded_any a b vs.length ps.length c d W hn hm)
  have KN := Lib.hid (fun W => rnear_any bx by_ W)
  by_cases h20 : (20 : Int) < l.length
  · go_enter Try.func8, Try.ntmps8
    go_wp2_with (first | (go_at_call 10; refine (calls_from (by first | assumption | exact Below.refl _ _) (shown_any _)).mono ?_; rintro e w2 ⟨rfl, hb2⟩; have hc2 := (bcell hb2).1; have hf2 := (bcell hb2).2))
    go_ret
    exact ⟨rfl, by (first | ((repeat (first | exact Below.refl _ _ | assumption | refine Below.drew ?_ | refine Below.setCell ?_ (by simp; try omega) _ | refine Below.alloc ?_ (by simp; try omega) _)); done) | exact Below.trans (by (repeat (first | exact Below.refl _ _ | assumption | refine Below.drew ?_ | refine Below.setCell ?_ (by simp; try omega) _ | refine Below.alloc ?_ (by simp; try omega) _))) (hb2.mono (by simp; try omega)))⟩
  cases hbd : decide (vs.length ≤ 520) && decide (ps.length ≤ 1600)
  · rw [hbd] at KB
    go_enter Try.func8, Try.ntmps8
    go_wp2_with (first | (go_at_call 9; refine (calls_from (by first | assumption | exact Below.refl _ _) (KB.out _)).mono ?_; rintro e w2 ⟨rfl, hb2⟩; have hc2 := (bcell hb2).1; have hf2 := (bcell hb2).2) | (go_at_call 10; refine (calls_from (by first | assumption | exact Below.refl _ _) (shown_any _)).mono ?_; rintro e w2 ⟨rfl, hb2⟩; have hc2 := (bcell hb2).1; have hf2 := (bcell hb2).2))
    go_ret
    exact ⟨rfl, by (first | ((repeat (first | exact Below.refl _ _ | assumption | refine Below.drew ?_ | refine Below.setCell ?_ (by simp; try omega) _ | refine Below.alloc ?_ (by simp; try omega) _)); done) | exact Below.trans (by (repeat (first | exact Below.refl _ _ | assumption | refine Below.drew ?_ | refine Below.setCell ?_ (by simp; try omega) _ | refine Below.alloc ?_ (by simp; try omega) _))) (hb2.mono (by simp; try omega)))⟩
  rw [hbd] at KB
  cases hnr : nearQ bx by_
  · rw [hnr] at KN
    go_enter Try.func8, Try.ntmps8
    go_wp2_with (first | (go_at_call 9; refine (calls_from (by first | assumption | exact Below.refl _ _) (KB.out _)).mono ?_; rintro e w2 ⟨rfl, hb2⟩; have hc2 := (bcell hb2).1; have hf2 := (bcell hb2).2) | (go_at_call 22; refine (calls_from (by first | assumption | exact Below.refl _ _) (KN.out _)).mono ?_; rintro e w2 ⟨rfl, hb2⟩; have hc2 := (bcell hb2).1; have hf2 := (bcell hb2).2) | (go_at_call 10; refine (calls_from (by first | assumption | exact Below.refl _ _) (shown_any _)).mono ?_; rintro e w2 ⟨rfl, hb2⟩; have hc2 := (bcell hb2).1; have hf2 := (bcell hb2).2))
    go_ret
    exact ⟨rfl, by (first | ((repeat (first | exact Below.refl _ _ | assumption | refine Below.drew ?_ | refine Below.setCell ?_ (by simp; try omega) _ | refine Below.alloc ?_ (by simp; try omega) _)); done) | exact Below.trans (by (repeat (first | exact Below.refl _ _ | assumption | refine Below.drew ?_ | refine Below.setCell ?_ (by simp; try omega) _ | refine Below.alloc ?_ (by simp; try omega) _))) (hb2.mono (by simp; try omega)))⟩
  rw [hnr] at KN
  simp only [Bool.and_eq_true, decide_eq_true_eq] at hbd
  obtain ⟨hn5, hm6⟩ := hbd
  obtain ⟨b1, b2, b3, b4⟩ := near_le hnr
  have HL := Lib.hid hl
  have HV := Lib.hid hv
  have HP := Lib.hid hp
  have HA := Lib.hid ha
  have HB0 := Lib.hid hb
  clear hv hp hl hnr hb ha
  have s1 := (Blk.new w 25 #[.slice a vs.length c, .slice b ps.length d]).alloc (.cells #[.int .i64 bx, .int .i64 by_] 44)
  have s2 := Blk.new (w.alloc (.cells #[.slice a vs.length c, .slice b ps.length d] 25)) 44 #[.int .i64 bx, .int .i64 by_]
  simp only [World.size_alloc] at s2
  have hx0 : Below w.heap.size w ((w.alloc (.cells #[.slice a vs.length c, .slice b ps.length d] 25)).alloc (.cells #[.int .i64 bx, .int .i64 by_] 44)) := by (repeat (first | exact Below.refl _ _ | assumption | refine Below.drew ?_ | refine Below.setCell ?_ (by simp; try omega) _ | refine Below.alloc ?_ (by simp; try omega) _))
  go_enter Try.func8, Try.ntmps8
  go_wp2_with fail
  refine (KB.out _).mono ?_
  rintro e w2 ⟨rfl, hb2⟩
  have hx2 := hx0.trans (hb2.mono hx0.size)
  replace s1 := s1.grow hb2
  replace s2 := s2.grow hb2
  clear hb2
  have l1 := s1.lt
  have l2 := s2.lt
  have g0 : w2.cell? ⟨w.heap.size, 0, none⟩ = some (.slice a vs.length c) := s1.cell 0
  have g1 : w2.cell? ⟨w.heap.size, 1, none⟩ = some (.slice b ps.length d) := s1.cell 1
  have g2 : w2.cell? ⟨w.heap.size + 1, 0, none⟩ = some (.int .i64 bx) := s2.cell 0
  have g3 : w2.cell? ⟨w.heap.size + 1, 1, none⟩ = some (.int .i64 by_) := s2.cell 1
  go_wp2_with fail
  refine (KN.out _).mono ?_
  rintro e w3 ⟨rfl, hb2⟩
  have hx3 := hx2.trans (hb2.mono hx2.size)
  replace s1 := s1.grow hb2
  replace s2 := s2.grow hb2
  clear hb2 hx2 l1 l2 g0 g1 g2 g3
  have l1 := s1.lt
  have l2 := s2.lt
  have g0 : w3.cell? ⟨w.heap.size, 0, none⟩ = some (.slice a vs.length c) := s1.cell 0
  have g1 : w3.cell? ⟨w.heap.size, 1, none⟩ = some (.slice b ps.length d) := s1.cell 1
  have g2 : w3.cell? ⟨w.heap.size + 1, 0, none⟩ = some (.int .i64 bx) := s2.cell 0
  have g3 : w3.cell? ⟨w.heap.size + 1, 1, none⟩ = some (.int .i64 by_) := s2.cell 1
  go_wp2_with fail
  refine (shown_any _).mono ?_
  rintro e w5 ⟨rfl, hb2⟩
  have hx5 := hx3.trans (hb2.mono hx3.size)
  replace s1 := s1.grow hb2
  replace s2 := s2.grow hb2
  clear hb2 hx3 l1 l2 g0 g1 g2 g3
  have S1 := Lib.hid s1
  have S2 := Lib.hid s2
  clear s1 s2 hx0 KB KN
  go_wp2_with fail
  go_loopw [7] (fun i wr => ∃ k : Nat, k ≤ l.length ∧ i = .int .i64 k ∧ (∀ (j : Nat) (s : SubS), l[j]? = some s → j < k → s.segs.length ≤ 20) ∧ Below w5.heap.size w5 wr) (fun i _ => l.length - (intOf i).toNat)
  case atStart => exact ⟨0, Nat.zero_le _, rfl, fun j s _ hj => absurd hj (Nat.not_lt_zero j), Below.refl _ _⟩
  case round =>
    obtain ⟨k, hk, rfl, hall, hb⟩ := hrel
    have HALL := Lib.hid hall
    clear hall
    have hx := hx5.trans (hb.mono hx5.size)
    by_cases hlt : k < l.length
    · have hlk : k < l.length := by omega
      obtain ⟨sb, so, sa, sc, hsa, hsB, R0, R1, R2, R3, hsc, hseg⟩ := HL.out.at_ k hlk
      have HK : Hid (∀ (j : Nat) (s : SubS), l[j]? = some s → j < k + 1 → l[k].segs.length ≤ 20 → s.segs.length ≤ 20) := Lib.hid (fun j s hj hjk h => by
        rcases Nat.lt_or_ge j k with h2 | h2
        · exact HALL.out j s hj h2
        · rw [show j = k by omega, List.getElem?_eq_getElem hlk] at hj
          injection hj with hj
          rw [← hj]; exact h)
      subst hsa
      generalize l[k] = s at *
      obtain ⟨⟨sx, sy⟩, segs, cl⟩ := s
      simp only at R0 R1 R2 R3 hsc hseg HK
      have HSE := Lib.hid hseg
      have HR2 := Lib.hid R2
      have hlt' : (k : Int) < l.length := by omega
      have hlw : sb < wr.heap.size := by have := hx.size; omega
      have r2 : wr.cell? ⟨sb, so + k * 4 + 2, none⟩ = some (.slice sa segs.length sc) := (hx.cell (p := ⟨sb, so + k * 4 + 2, none⟩) hsB).trans R2
      clear hseg R0 R1 R2 R3
      by_cases hg20 : (20 : Int) < segs.length
      · go_wp2_with fail
        refine (shown_any _).mono ?_
        rintro e w6 ⟨rfl, hb2⟩
        have hx6 := hx.trans (hb2.mono hx.size)
        go_wp2_with fail
        go_ret
        exact ⟨rfl, hx6⟩
      · have HK2 : Hid (∀ (j : Nat) (s : SubS), l[j]? = some s → j < k + 1 → s.segs.length ≤ 20) := Lib.hid (fun j s h1 h2 => HK.out j s h1 h2 (by omega))
        clear HK
        go_wp2_with fail
        clear r2 hlw hx
        obtain ⟨wk, rfl⟩ : ∃ wk : World, wk = wr := ⟨_, rfl⟩
        go_loopw [8] (fun jv wr => ∃ j : Nat, j ≤ segs.length ∧ jv = .int .i64 j ∧ Below w5.heap.size w5 wr) (fun jv _ => segs.length - (intOf jv).toNat)
        case atStart => exact ⟨0, Nat.zero_le _, rfl, hb⟩
        case round =>
          clear hb
          obtain ⟨j, hj, rfl, hb⟩ := hrel
          have hx := hx5.trans (hb.mono hx5.size)
          have r2 := (hx.cell (p := ⟨sb, so + k * 4 + 2, none⟩) hsB).trans HR2.out
          have hlw : sb < wr.heap.size := by have := hx.size; omega
          by_cases hjl : j < segs.length
          · obtain ⟨gb, go, hga, hgB, e0, e1, e2, e3, e4, e5, e6, e7, e8⟩ := (HSE.out.below hx).at_ j hjl
            subst hga
            have KD1 := Lib.hid (pdotg_any segs[j])
            have KD2 := Lib.hid (rdotg_any segs[j])
            have KE1 := Lib.hid (end_any segs[j])
            have KE2 := Lib.hid (rend_any segs[j])
            have hgw : gb < wr.heap.size := by have := hx.size; omega
            generalize dotG segs[j] = dd at *
            generalize endS segs[j] = ee at *
            generalize segs[j] = g at *
            obtain ⟨ex, ey⟩ := ee
            obtain ⟨⟨x0, y0⟩, ⟨x1, y1⟩, ⟨x2, y2⟩, ⟨x3, y3⟩, gn⟩ := g
            simp only [segA] at *
            have hjl' : (j : Int) < segs.length := by omega
            have hb7 := hb.alloc hb.size (.cells #[.int .i64 x0, .int .i64 y0, .int .i64 x1, .int .i64 y1, .int .i64 x2, .int .i64 y2, .int .i64 x3, .int .i64 y3, .int .i64 gn] 50)
            have HB7 := Lib.hid hb7
            clear hb7
            go_wp2_with fail
            refine Reg.wp_region_all (by first | exact hb2 | exact Below.refl _ _) (by kernel_rfl) (by kernel_rfl) ?_
            repeat (go_big_quiet_step ((first | (go_at_call 25; exact Reg.calls_aft (KD1.out _)) | (go_at_call 26; exact Reg.calls_aft (KD2.out _)) | (go_at_call 20; exact Reg.calls_aft (KE1.out _)) | (go_at_call 27; exact Reg.calls_aft (KE2.out _)))))
            refine wpQuiet_nil ?_
            intro xs hxs
            have hbx := Reg.class_below hxs
            clear hxs
            have hb9 := HB7.out.trans (hbx.mono HB7.out.size)
            go_wp2_with fail
            exact ⟨⟨j + 1, by omega, by go_num, hb9⟩, by simp [intOf]; omega⟩
          · have hjl' : ¬ (j : Int) < segs.length := by omega
            go_wp2_with fail
            exact ⟨⟨k + 1, by omega, by go_num, HK2.out, hb⟩, by simp [intOf]; omega⟩
    · have hlt' : ¬ (k : Int) < l.length := by omega
      have hs20 : ∀ s ∈ l, s.segs.length ≤ 20 := fun s hs => by
        obtain ⟨j, hj, e⟩ := List.getElem_of_mem hs
        exact HALL.out j s (by rw [List.getElem?_eq_getElem hj, e]) (by omega)
      have HS20 := Lib.hid hs20
      clear hs20 HALL
      go_wp2_with fail
      obtain ⟨wk, rfl⟩ : ∃ wk : World, wk = wr := ⟨_, rfl⟩
      clear hx
      go_loopw [10] (fun jv wr => ∃ j : Nat, j ≤ ps.length ∧ jv = .int .i64 j ∧ (∀ (i : Nat) (q : Int × Int), ps[i]? = some q → i < j → nearQ q.1 q.2 = true) ∧ Below w5.heap.size w5 wr) (fun jv _ => ps.length - (intOf jv).toNat)
      case atStart => exact ⟨0, Nat.zero_le _, rfl, fun i q _ hi => absurd hi (Nat.not_lt_zero i), hb⟩
      case round =>
        clear hb
        obtain ⟨j, hj, rfl, hall, hb⟩ := hrel
        have HALL := Lib.hid hall
        clear hall
        have hx := hx5.trans (hb.mono hx5.size)
        have s1 := S1.out.grow hb
        have s2 := S2.out.grow hb
        have l1 := s1.lt
        have l2 := s2.lt
        have g0 : wr.cell? ⟨w.heap.size, 0, none⟩ = some (.slice a vs.length c) := s1.cell 0
        have g1 : wr.cell? ⟨w.heap.size, 1, none⟩ = some (.slice b ps.length d) := s1.cell 1
        have g2 : wr.cell? ⟨w.heap.size + 1, 0, none⟩ = some (.int .i64 bx) := s2.cell 0
        have g3 : wr.cell? ⟨w.heap.size + 1, 1, none⟩ = some (.int .i64 by_) := s2.cell 1
        by_cases hjl : j < ps.length
        · have hjk : j < ps.length := by omega
          obtain ⟨vb, vo, hba, hvB, c1, c2⟩ := (HP.out.below hx).2 j ps[j] (List.getElem?_eq_getElem hjk)
          subst hba
          have HK : Hid (nearQ ps[j].1 ps[j].2 = true → ∀ (i : Nat) (q : Int × Int), ps[i]? = some q → i < j + 1 → nearQ q.1 q.2 = true) := Lib.hid (fun h i q hi hij => by
            rcases Nat.lt_or_ge i j with h2 | h2
            · exact HALL.out i q hi h2
            · rw [show i = j by omega, List.getElem?_eq_getElem hjk] at hi
              injection hi with hi
              rw [← hi]; exact h)
          have hvw : vb < wr.heap.size := by have := hx.size; omega
          have hjl' : (j : Int) < ps.length := by omega
          generalize ps[j] = q at *
          obtain ⟨qx, qy⟩ := q
          simp only at c1 c2 HK
          have KQ := Lib.hid (fun W => rnear_any qx qy W)
          clear s1 s2
          cases hq : nearQ qx qy
          · rw [hq] at KQ
            clear HK hq
            go_wp2_with fail
            refine (KQ.out _).mono ?_
            rintro e w6 ⟨rfl, hb2⟩
            have hx6 := hx.trans (hb2.mono hx.size)
            go_wp2_with fail
            go_ret
            exact ⟨rfl, hx6⟩
          · rw [hq] at KQ
            have HK2 := Lib.hid (HK.out hq)
            clear HK hq
            go_wp2_with fail
            refine (KQ.out _).mono ?_
            rintro e w6 ⟨rfl, hb2⟩
            have hb6 := hb.trans (hb2.mono hb.size)
            go_wp2_with fail
            exact ⟨⟨j + 1, by omega, by go_num, HK2.out, hb6⟩, by simp [intOf]; omega⟩
        · have hjl' : ¬ (j : Int) < ps.length := by omega
          have hf : ∀ q ∈ ps, -1073741824 ≤ q.1 ∧ q.1 ≤ 1073741824 ∧ -1073741824 ≤ q.2 ∧ q.2 ≤ 1073741824 := fun q hq => by
            obtain ⟨i, hi, e⟩ := List.getElem_of_mem hq
            exact near_le (HALL.out i q (by rw [List.getElem?_eq_getElem hi, e]) (by omega))
          have HF := Lib.hid hf
          clear hf HALL
          go_wp2_with fail
          have hjs := join_le l (fun s hs => by have := HS20.out s hs; omega)
          obtain ⟨hj1, hj2⟩ := hjs
          have KJ := Lib.hid (fun W (hW : Below w.heap.size w W) => join_any la l.length lc l W (by omega) (HL.out.grow hW) (fun s hs => by have := HS20.out s hs; omega))
          have KU := Lib.hid (fun W (hW : Below w.heap.size w W) => subs_any la l.length lc l W (by omega) (HL.out.grow hW) (fun s hs => by have := HS20.out s hs; omega))
          have KS := Lib.hid (fun W (hW : Below w.heap.size w W) => pshift_any a b vs.length ps.length c d bx by_ vs ps W (by omega) (by omega) HA.out HB0.out b1 b2 b3 b4 HF.out (HV.out.grow hW) (HP.out.grow hW))
          have KR := Lib.hid (fun W (hW : Below w.heap.size w W) => rshift_any a b vs.length ps.length c d bx by_ vs ps W (by omega) (by omega) HA.out b1 b2 b3 b4 HF.out (HV.out.grow hW) (HP.out.grow hW))
          refine Reg.wp_region_R (fun _ => True) 19 rfl (by kernel_rfl) ?_
          refine Reg.wpR_hoist [0, 3] 17 rfl (by kernel_rfl) (by kernel_rfl) (fun u => ?_)
          simp only [Reg.pickL, List.drop]
          repeat (go_big_quiet_step ((first | fail)))
          refine wpQuiet_nil ?_
          clear l1 l2 g0 g1 g2 g3
          refine Reg.wpR_main 1 (by kernel_rfl) (fun x1 hN => ?_)
          simp only [Reg.pickL, List.drop]
          have hx1 := hx.trans (Below.mono hN hx.size)
          replace s1 := s1.grow hN
          replace s2 := s2.grow hN
          clear hN hx
          go_wp2_with fail
          refine (KJ.out _ hx1).mono ?_
          rintro e y1 ⟨va, vc, pa, pc, rfl, hvc, hpc, hpm, hjv, hjp, hb2⟩
          have hx2 := hx1.trans (hb2.mono hx1.size)
          replace s1 := s1.grow hb2
          replace s2 := s2.grow hb2
          go_wp2_with fail
          refine ⟨rfl, Reg.Kp.of_gr hb2, ?_⟩
          clear hb2 hx1 KJ
          refine Reg.wpR_hoist [2] 15 rfl (by kernel_rfl) (by kernel_rfl) (fun u => ?_)
          simp only [Reg.pickL, List.drop]
          repeat (go_big_quiet_step ((first | (go_at_call 13; exact Reg.calls_aftK (its_any _ _ _ _ _ _ _ _ _ rfl rfl)))))
          refine wpQuiet_nil ?_
          refine Reg.wpR_main 4 (by kernel_rfl) (fun x2 hN => ?_)
          simp only [Reg.pickL, List.drop]
          have hx3 := hx2.trans (Below.mono hN hx2.size)
          replace s1 := s1.grow hN
          replace s2 := s2.grow hN
          replace hjv := hjv.grow hN
          replace hjp := hjp.grow hN
          clear hN hx2
          have HJ := Lib.hid (And.intro hjv hjp)
          clear hjv hjp
          go_wp2_with fail
          refine (KU.out _ hx3).mono ?_
          rintro e y2 ⟨ua, uc, rfl, huc, hur, hb2⟩
          have hx4 := hx3.trans (hb2.mono hx3.size)
          replace s1 := s1.grow hb2
          replace s2 := s2.grow hb2
          have HJ2 := Lib.hid (And.intro (HJ.out.1.grow hb2) (HJ.out.2.grow hb2))
          go_wp2_with fail
          refine ⟨rfl, Reg.Kp.of_gr hb2, ?_⟩
          clear hb2 hx3 KU HJ
          have HU := Lib.hid hur
          clear hur
          refine Reg.wpR_main 5 (by kernel_rfl) (fun x3 hN => ?_)
          simp only [Reg.pickL, List.drop]
          have hx5 := hx4.trans (Below.mono hN hx4.size)
          replace s1 := s1.grow hN
          replace s2 := s2.grow hN
          have HJ3 := Lib.hid (And.intro (HJ2.out.1.grow hN) (HJ2.out.2.grow hN))
          have HU3 := Lib.hid (HU.out.grow hN)
          clear hN hx4 HJ2 HU
          go_wp2_with fail
          refine (rjoin_any ua l.length uc l _ (by omega) HU3.out (fun s hs => by have := HS20.out s hs; omega)).mono ?_
          rintro e y3 ⟨va', vc', pa', pc', rfl, hvc', hpc', hpm', hjv', hjp', hb2⟩
          have hx6 := hx5.trans (hb2.mono hx5.size)
          replace s1 := s1.grow hb2
          replace s2 := s2.grow hb2
          have HJ4 := Lib.hid (And.intro (HJ3.out.1.grow hb2) (HJ3.out.2.grow hb2))
          have HJ5 := Lib.hid (And.intro hjv' hjp')
          go_wp2_with fail
          refine ⟨rfl, Reg.Kp.of_gr hb2, ?_⟩
          clear hb2 hx5 HU3 HJ3 hjv' hjp'
          have KQ := Lib.hid (fun W (hW : Below y3.heap.size y3 W) => same2_any va pa va' pa' (joinVs l).length (joinPs l).length vc pc vc' pc' (joinVs l) (joinPs l) W (by omega) (by omega) (HJ4.out.1.grow hW) (HJ4.out.2.grow hW) (HJ5.out.1.grow hW) (HJ5.out.2.grow hW))
          have l1 := s1.lt
          have l2 := s2.lt
          have g0 : y3.cell? ⟨w.heap.size, 0, none⟩ = some (.slice a vs.length c) := s1.cell 0
          have g1 : y3.cell? ⟨w.heap.size, 1, none⟩ = some (.slice b ps.length d) := s1.cell 1
          have g2 : y3.cell? ⟨w.heap.size + 1, 0, none⟩ = some (.int .i64 bx) := s2.cell 0
          have g3 : y3.cell? ⟨w.heap.size + 1, 1, none⟩ = some (.int .i64 by_) := s2.cell 1
          refine Reg.wpR_hoist [6, 7, 8, 9, 12, 14] 7 rfl (by kernel_rfl) (by kernel_rfl) (fun u => ?_)
          simp only [Reg.pickL, List.drop]
          repeat (go_big_quiet_step ((first | (go_at_call 28; exact Reg.calls_aftK (KQ.out _ (aftK_below _ _ _))))))
          refine wpQuiet_nil ?_
          clear l1 l2 g0 g1 g2 g3 KQ HJ4 HJ5 s1 s2
          refine Reg.wpR_main 10 (by kernel_rfl) (fun x4 hN => ?_)
          simp only [Reg.pickL, List.drop]
          have hx7 := hx6.trans (Below.mono hN hx6.size)
          clear hN hx6
          go_wp2_with fail
          refine (KS.out _ hx7).mono ?_
          rintro e y4 ⟨qa, qc, qb, qd, rfl, hqc, hqd, hqm, hqv, hqp, hb2⟩
          have hx8 := hx7.trans (hb2.mono hx7.size)
          go_wp2_with fail
          refine ⟨rfl, Reg.Kp.of_gr hb2, ?_⟩
          clear hb2 hx7 KS
          have HQ := Lib.hid (And.intro hqv hqp)
          clear hqv hqp
          refine Reg.wpR_hoist [11, 13] 4 rfl (by kernel_rfl) (by kernel_rfl) (fun u => ?_)
          simp only [Reg.pickL, List.drop]
          repeat (go_big_quiet_step ((first | (go_at_call 13; exact Reg.calls_aftK (its_any _ _ _ _ _ _ _ _ _ rfl rfl)))))
          refine wpQuiet_nil ?_
          refine Reg.wpR_main 15 (by kernel_rfl) (fun x5 hN => ?_)
          simp only [Reg.pickL, List.drop]
          have hx9 := hx8.trans (Below.mono hN hx8.size)
          have HQ2 := Lib.hid (And.intro (HQ.out.1.grow hN) (HQ.out.2.grow hN))
          clear hN hx8 HQ
          go_wp2_with fail
          refine (KR.out _ hx9).mono ?_
          rintro e y5 ⟨ra, rc, rb, rd, rfl, hrc, hrd, hrm, hrv, hrp, hb2⟩
          have hx10 := hx9.trans (hb2.mono hx9.size)
          have HQ3 := Lib.hid (And.intro (HQ2.out.1.grow hb2) (HQ2.out.2.grow hb2))
          go_wp2_with fail
          refine ⟨rfl, Reg.Kp.of_gr hb2, ?_⟩
          clear hb2 hx9 KR HQ2
          have KQ := Lib.hid (fun W (hW : Below y5.heap.size y5 W) => same2_any qa qb ra rb vs.length ps.length qc qd rc rd vs (ps.map (shP (bx, by_))) W (by omega) (by omega) (HQ3.out.1.grow hW) (HQ3.out.2.grow hW) (hrv.grow hW) (hrp.grow hW))
          clear hrv hrp
          refine Reg.wpR_hoist [16, 17, 18] 0 rfl (by kernel_rfl) (by kernel_rfl) (fun u => ?_)
          simp only [Reg.pickL, List.drop]
          repeat (go_big_quiet_step ((first | (go_at_call 28; exact Reg.calls_aftK (KQ.out _ (aftK_below _ _ _))))))
          refine wpQuiet_nil ?_
          refine Reg.wpR_end (by kernel_rfl) (fun x6 hN => ?_)
          go_wp2_with fail
          go_ret
          exact ⟨rfl, hx10.trans (Below.mono hN hx10.size)⟩

namespace pjoins
open Go.ChangeShapes Go.WideShapes Go.ChangeAt

theorem contract {H : Type} (enc : TypeId × Value → H) (W : World) (base : Nat) (args : Array Value) (ds : List (DataW H)) (ps : List MemPlace)
    (hval : ∀ (j : Nat) t v, Try.f8.params[j]? = some t → args[j]? = some v → Value.okWide Try.checked.prog W .any base t v)
    (hA : DataW.TrodAll enc Try.checked.prog W 0 (fun _ => true) true Try.f8.params.toList args.toList ds ps) (hlt : ∀ x ∈ ps, x.block < W.heap.size) :
    Calls Try.checked.prog 8 args W fun e W' => e = .returned (.bool true) ∧ Below W.heap.size W W' := by
  rw [Try.params8] at hA hval
  obtain ⟨v0, vs0, d0, ds0, p0, q0, ea, rfl, rfl, h0, hA⟩ := trodAll_cons hA
  obtain ⟨v1, vs1, d1, ds1, p1, q1, rfl, rfl, rfl, h1, hA⟩ := trodAll_cons hA
  obtain ⟨v2, vs2, d2, ds2, p2, q2, rfl, rfl, rfl, h2, hA⟩ := trodAll_cons hA
  obtain ⟨rfl, rfl, rfl⟩ := trodAll_nil hA
  obtain rfl : args = #[v0, v1, v2] := by cases args; simp_all
  have _ := hlt
  obtain ⟨e, len, cap, rfl⟩ := okWide_slice Try.underlying28 (hval 0 _ _ rfl rfl)
  obtain ⟨la, ln, lc, l, hel, j1, j2, j3⟩ := open_subs h0 rfl
  obtain ⟨a, b, n, m, c, d, vs, ps, rfl, k1, k2, k3, k4, k5, k6, k7, k8⟩ := open_path (hval 1 _ _ rfl rfl) h1
  obtain ⟨x, y, rfl, _, _⟩ := open_pt (hval 2 _ _ rfl rfl) h2
  rw [hel]
  unfold maxLen at *
  exact ljoins_any la ln lc l a b n m c d x y vs ps W (by omega) (by omega) (by omega) k7 k8 j3 k5 k6

set_option maxRecDepth 100000 in
theorem lifted (os : Os) (started : os.Started) (H : Type) (enc : TypeId × Value → H) :
    ReturnsInHanded {} Try.checked os 8 .any (Rows.pathJoinsSpec.pre6 enc Try.prog Try.f8 [] false) (Rows.pathJoinsSpec.post enc Try.prog Try.f8 false true false false) :=
  law_lift (bT := 4) started (by kernel_rfl) Try.func8 rfl (by kernel_rfl) (by kernel_rfl) (by kernel_rfl) (fun ds h => by match ds, h with | [_, _, _], _ => rfl)
    (ChangeSpec.witness6 (enc := enc) (C := Try.checked) false ⟨#[], #[.slice none 0 0, .agg #[.slice none 0 0, .slice none 0 0], .agg #[.int .i64 0, .int .i64 0]], []⟩ 8 (by kernel_rfl) (by kernel_rfl) (by kernel_rfl) (by kernel_rfl))
    (fun W base args ds ps hval hA hlt => contract enc W base args ds ps hval hA hlt)

theorem holds : Rows.PathJoinsSaid :=
  OpenClaim.holds_of_wide 8 Try.f8 rfl rfl rfl rfl rfl rfl rfl ⟨rfl, rfl, rfl, rfl, rfl⟩ rfl rfl rfl rfl rfl (by kernel_rfl) Try.func8 (by kernel_rfl)
    (of_decide_eq_true (by kernel_rfl)) (by unfold Func.isWrapper; first | (rw [if_pos (by decide +kernel)]; kernel_rfl) | (rw [if_neg (by decide +kernel)]; exact ⟨rfl, rfl⟩))
    (fun os started H enc _ => lifted os started H enc)
end pjoins
end Go.Proofs.Ytjkpbkcbimojoaa
