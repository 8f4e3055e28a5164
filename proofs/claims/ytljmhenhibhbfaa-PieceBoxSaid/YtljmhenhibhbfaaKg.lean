/- Contracts: slices.Clone of points, slices.Reverse of a piece, slices.Clip of no pieces. -/
import Derived.Test.YtljmhenhibhbfaaKf
import Derived.Test.YtljmhenhibhbfaaApp
import Derived.WalkSpells
namespace Go.Proofs.Ytljmhenhibhbfaa
open Go.RowKit

theorem infoP2 : (Try.prog.info? 23).map (fun i => (i.zero, i.size, i.bytes)) = some (some (.agg #[.int .i64 0, .int .i64 0]), 2, 16) := by kernel_rfl
theorem own_cap2 {w : World} {base n : Nat} {e : TypeId} {size : Nat} {v : Value} {xs : List Value} (h : w.ownsRow base e size v n xs) : ∃ a c, v = .slice a n c ∧ n ≤ c ∧ c ≤ maxLen := by
  rcases h.2 with ⟨rfl, rfl⟩ | ⟨g, cap, cur, rfl, _, _, h3⟩
  · exact ⟨_, _, rfl, Nat.le_refl _, Nat.zero_le _⟩
  · exact ⟨_, _, rfl, by omega, by omega⟩
theorem ptsV_set : ∀ (L : List (Int × Int)) (k : Nat) (p : Int × Int), k < L.length → ((ptsV L).set (k * 2) (.int .i64 p.1)).set (k * 2 + 1) (.int .i64 p.2) = ptsV (L.set k p)
  | [], k, p, h => by simp at h
  | a :: L, 0, p, h => rfl
  | a :: L, k + 1, p, h => by
    have ih := ptsV_set L k p (by simpa using h)
    rw [show (k + 1) * 2 = k * 2 + 1 + 1 by omega]
    simp only [ptsV, List.flatMap_cons, List.cons_append, List.nil_append, List.set_cons_succ] at ih ⊢
    rw [ih]
set_option maxHeartbeats 2000000 in
theorem clonep_any (a : Option Addr) (n c : Nat) (ps : List (Int × Int)) (w : World) (hn : n ≤ 1000000) (hnil : a = none → n = 0 ∧ c = 0) (hv : RPts w w.heap.size a n ps) :
    Calls Try.prog 16 #[.slice a n c] w fun e w' => ∃ v, e = .returned v ∧ w'.ownsRow w.heap.size 23 2 v n (ptsV ps) ∧ Below w.heap.size w w' := by
  obtain ⟨iI, hiI, hz0I, hz1I, hz2I⟩ := info_parts infoP2
  have hnl := hv.1
  have HV := Lib.hid hv
  have HN := Lib.hid hnil
  clear hv hnil
  cases a with
  | none =>
    obtain ⟨rfl, rfl⟩ := HN.out rfl
    have hvs : ps = [] := List.eq_nil_of_length_eq_zero hnl
    subst hvs
    have qn : ∀ w : World, (binOp .eql 25 (.slice none 0 0) (.slice none 0 0)).run Try.prog w = .ok (.bool true) w := fun w => Lib.run_eql_slice_nil w _ 23 none 0 0 0 0 Try.underlying25
    go_enter Try.func16, Try.ntmps16
    go_wp2_with fail
    go_ret
    exact ⟨_, rfl, World.ownsRow_nil _ _ _ _, by (repeat (first | exact Below.refl _ _ | assumption | refine Below.drew ?_ | refine Below.setCell ?_ (by simp; try omega) _ | refine Below.alloc ?_ (by simp; try omega) _))⟩
  | some ad =>
    have qn : ∀ w : World, (binOp .eql 25 (.slice (some ad) n c) (.slice none 0 0)).run Try.prog w = .ok (.bool false) w := fun w => Lib.run_eql_slice_nil w _ 23 (some ad) n c 0 0 Try.underlying25
    go_enter Try.func16, Try.ntmps16
    go_wp2_with (at_builtin; refine wpList_append_src rfl _ _ 25 rfl w.heap.size 23 iI _ 2 16 Try.underlying25 hiI hz0I hz1I hz2I rfl (by decide) _ _ _ rfl (own_empty w w.heap.size 23 2 (Nat.le_refl _)) (some ad) n c (ptsV ps) rfl HN.out ?c0 ?c1 ?c2 ?c3 ?c4 ?c5 ?_)
    case c0 => rw [ptsV_length, hnl]
    case c1 => exact (HV.out.below ((Below.refl _ w).alloc (Nat.le_refl _) (.cells #[] 23))).news
    case c2 => exact ptsV_one _
    case c3 => unfold maxLen; omega
    case c4 => omega
    case c5 => simp
    intro v' w8 hown hg
    obtain ⟨a8, c8, rfl, _⟩ := own_slice hown
    have hb := ((Below.refl w.heap.size w).alloc (Nat.le_refl _) (.cells #[] 23)).grown hg (by simp) (fun q hq => by simp [Value.ownBlock] at hq; omega)
    have HO := Lib.hid hown
    clear hown hg
    go_wp2_with fail
    go_ret
    exact ⟨_, rfl, HO.out, hb⟩

/-- A piece with its first k corners, and its last k, changed over. -/
def revK (l : List (Int × Int)) (k : Nat) : List (Int × Int) := (List.range l.length).map fun i => ptK l (if i < k ∨ l.length ≤ i + k then l.length - 1 - i else i)
theorem revK_length (l : List (Int × Int)) (k : Nat) : (revK l k).length = l.length := by simp [revK]
theorem revK_at (l : List (Int × Int)) (k i : Nat) (hi : i < l.length) : (revK l k)[i]? = some (ptK l (if i < k ∨ l.length ≤ i + k then l.length - 1 - i else i)) := by
  unfold revK
  rw [List.getElem?_map, List.getElem?_range hi]
  rfl
theorem ptK_some {l : List (Int × Int)} {i : Nat} (hi : i < l.length) : l[i]? = some (ptK l i) := by
  unfold ptK
  rw [List.getD_eq_getElem?_getD, List.getElem?_eq_getElem hi]
  rfl
theorem revK_zero (l : List (Int × Int)) : revK l 0 = l := by
  refine List.ext_getElem? fun i => ?_
  rcases Nat.lt_or_ge i l.length with hi | hi
  · rw [revK_at l 0 i hi, if_neg (by omega), ptK_some hi]
  · rw [List.getElem?_eq_none (by rw [revK_length]; exact hi), List.getElem?_eq_none hi]
theorem revK_all (l : List (Int × Int)) (k : Nat) (hk : l.length ≤ 2 * k + 1) : revK l k = l.reverse := by
  refine List.ext_getElem? fun i => ?_
  rcases Nat.lt_or_ge i l.length with hi | hi
  · rw [revK_at l k i hi, List.getElem?_reverse hi, ptK_some (show l.length - 1 - i < l.length by omega)]
    congr 2
    split <;> omega
  · rw [List.getElem?_eq_none (by rw [revK_length]; exact hi), List.getElem?_eq_none (by simpa using hi)]
theorem revK_succ (l : List (Int × Int)) (k : Nat) (hk : 2 * k + 1 < l.length) : ((revK l k).set k (ptK l (l.length - 1 - k))).set (l.length - 1 - k) (ptK l k) = revK l (k + 1) := by
  refine List.ext_getElem? fun i => ?_
  rcases Nat.lt_or_ge i l.length with hi | hi
  · rw [revK_at l (k + 1) i hi, List.getElem?_set, List.getElem?_set]
    simp only [List.length_set, revK_length]
    by_cases h1 : l.length - 1 - k = i
    · rw [if_pos h1, if_pos (by omega), if_pos (by omega), show l.length - 1 - i = k by omega]
    · rw [if_neg h1]
      by_cases h2 : k = i
      · rw [if_pos h2, if_pos (by omega), if_pos (by omega), h2]
      · rw [if_neg h2, revK_at l k i hi]
        congr 2
        split <;> split <;> omega
  · rw [List.getElem?_eq_none (by simp only [List.length_set, revK_length]; exact hi), List.getElem?_eq_none (by rw [revK_length]; exact hi)]
theorem own_pt {w : World} {base n c g : Nat} {e : TypeId} {l : List (Int × Int)} (h : w.ownsRow base e 2 (.slice (some ⟨g, 0, none⟩) n c) n (ptsV l)) (k : Nat) (p : Int × Int) (hk : l[k]? = some p) :
    w.cell? ⟨g, k * 2, none⟩ = some (.int .i64 p.1) ∧ w.cell? ⟨g, k * 2 + 1, none⟩ = some (.int .i64 p.2) := by
  obtain ⟨h1, h2⟩ := ptsV_at l k p hk
  have c1 := h.cells (g := g) rfl _ _ h1
  have c2 := h.cells (g := g) rfl _ _ h2
  have add : ∀ i, (⟨g, 0, none⟩ : Addr).add i = ⟨g, i, none⟩ := fun i => by unfold Addr.add; split <;> simp_all
  rw [add] at c1 c2
  exact ⟨c1, c2⟩

set_option maxRecDepth 100000 in
set_option maxHeartbeats 4000000 in
theorem preverse_any (a : Option Addr) (n c base : Nat) (l : List (Int × Int)) (w : World) (hn : n ≤ 1000) (hbw : base ≤ w.heap.size) (hl : w.ownsRow base 23 2 (.slice a n c) n (ptsV l)) :
    Calls Try.prog 17 #[.slice a n c] w fun e w' => (∃ v, e = .returned v) ∧ w'.ownsRow base 23 2 (.slice a n c) n (ptsV l.reverse) ∧ Below base w w' := by
  have hll : l.length = n := by have := hl.1; rw [ptsV_length] at this; omega
  have HLL := Lib.hid hll
  have HO := Lib.hid hl
  clear hl hll
  go_enter Try.func17, Try.ntmps17
  go_wp2_with fail
  go_loopw [2, 3] (fun i j wr => ∃ k : Nat, 2 * k ≤ n ∧ i = .int .i64 k ∧ j = .int .i64 ((n : Int) - 1 - k) ∧ wr.ownsRow base 23 2 (.slice a n c) n (ptsV (revK l k)) ∧ Below base w wr) (fun i _ _ => n - (intOf i).toNat)
  case atStart => exact ⟨0, by omega, rfl, by simp, by rw [revK_zero]; exact HO.out, Below.refl _ _⟩
  case round =>
    clear HO
    obtain ⟨k, hk, rfl, rfl, oP, hb⟩ := hrel
    by_cases hlt : 2 * k + 1 < n
    · obtain ⟨nk, hnk⟩ : ∃ nk : Nat, nk = n - 1 - k := ⟨_, rfl⟩
      have hnk2 : ((n : Int) - 1 - k) = nk := by omega
      have HNK := Lib.hid hnk
      have hlt' : (k : Int) < nk := by omega
      have hkn : (k : Int) < n := by omega
      have hnkn : (nk : Int) < n := by omega
      have HR : Hid (((revK l k).set k (ptK l nk)).set nk (ptK l k) = revK l (k + 1)) := Lib.hid (by
        have h := revK_succ l k (by rw [HLL.out]; exact hlt)
        rwa [HLL.out, ← hnk] at h)
      have ha : (revK l k)[k]? = some (ptK l k) := by rw [revK_at l k k (by rw [HLL.out]; omega), if_neg (by rw [HLL.out]; omega)]
      have hb2 : (revK l k)[nk]? = some (ptK l nk) := by rw [revK_at l k nk (by rw [HLL.out]; omega), if_neg (by rw [HLL.out]; omega)]
      have HA := Lib.hid ha
      have HB := Lib.hid hb2
      have HB2 : Hid (((revK l k).set k (ptK l nk))[nk]? = some (ptK l nk)) := Lib.hid (by rw [List.getElem?_set_ne (by omega)]; exact hb2)
      have HRL : Hid ((revK l k).length = n) := Lib.hid (by rw [revK_length, HLL.out])
      rw [hnk2]
      rcases oP.2 with ⟨_, h0⟩ | ⟨g, cap, cur, hv, hgB, _⟩
      · omega
      · simp only [Value.slice.injEq] at hv
        obtain ⟨rfl, -, rfl⟩ := hv
        clear ha hb2 hnk2 hnk
        generalize ptK l k = u at *
        generalize ptK l nk = v at *
        obtain ⟨ux, uy⟩ := u
        obtain ⟨vx, vy⟩ := v
        go_wp2_with fail
        refine Reg.wp_region_R (fun _ => False) 16 rfl (by kernel_rfl) ?_
        refine Reg.wpR_hoist [0, 1, 2, 3, 4, 5, 6, 8, 9, 10] 6 rfl (by kernel_rfl) (by kernel_rfl) (fun u => ?_)
        simp only [Reg.pickL, List.drop]
        repeat (go_big_quiet_step ((first | fail)))
        refine wpQuiet_nil ?_
        refine Reg.wpR_main2 7 11 (by kernel_rfl) (fun x1 hN => ?_) (fun x1 hN => ?_)
        · simp only [Reg.pickL, List.drop]
          replace oP := own_grow oP hN
          replace hb := hb.trans (Below.mono hN (Nat.le_trans hbw hb.size))
          clear hN
          obtain ⟨c1, c2⟩ := own_pt oP nk _ HB.out
          have lg := (oP.lt g rfl).2
          go_wp2_with fail
          refine ⟨rfl, Reg.Kp.refl _ _, ?_⟩
          clear c1 c2 lg
          refine Reg.wpR_main 11 (by kernel_rfl) (fun x2 hN => ?_)
          simp only [Reg.pickL, List.drop]
          replace oP := own_grow oP hN
          replace hb := hb.trans (Below.mono hN (Nat.le_trans hbw hb.size))
          clear hN
          obtain ⟨c1, c2⟩ := own_pt oP k _ HA.out
          have lg := (oP.lt g rfl).2
          go_wp2_with fail
          refine ⟨rfl, Reg.Kp.refl _ _, ?_⟩
          clear c1 c2 lg
          refine Reg.wpR_hoist [12] 3 rfl (by kernel_rfl) (by kernel_rfl) (fun u => ?_)
          simp only [Reg.pickL, List.drop]
          repeat (go_big_quiet_step ((first | fail)))
          refine wpQuiet_nil ?_
          refine Reg.wpR_main 13 (by kernel_rfl) (fun x3 hN => ?_)
          simp only [Reg.pickL, List.drop]
          replace oP := own_grow oP hN
          replace hb := hb.trans (Below.mono hN (Nat.le_trans hbw hb.size))
          clear hN
          obtain ⟨c1, c2⟩ := own_pt oP k _ HA.out
          have lg := (oP.lt g rfl).2
          have kg := oP.frozenAt
          go_wp2_with fail
          refine ⟨rfl, Reg.Kp.trans (Reg.Kp.of_set _ id) (Reg.Kp.of_set _ id), ?_⟩
          clear c1 c2 lg kg
          replace hb := (hb.setCell (p := ⟨g, k * 2, none⟩) hgB (.int .i64 vx)).setCell (p := ⟨g, k * 2 + 1, none⟩) hgB (.int .i64 vy)
          replace oP := ((oP.stored (k * 2) (.int .i64 vx)).1.stored (k * 2 + 1) (.int .i64 vy)).1
          rw [ptsV_set _ k (vx, vy) (by first | (rw [HRL.out]; omega) | (rw [List.length_set, HRL.out]; omega))] at oP
          refine Reg.wpR_hoist [14] 1 rfl (by kernel_rfl) (by kernel_rfl) (fun u => ?_)
          simp only [Reg.pickL, List.drop]
          repeat (go_big_quiet_step ((first | fail)))
          refine wpQuiet_nil ?_
          refine Reg.wpR_main 15 (by kernel_rfl) (fun x4 hN => ?_)
          simp only [Reg.pickL, List.drop]
          replace oP := own_grow oP hN
          replace hb := hb.trans (Below.mono hN (Nat.le_trans hbw hb.size))
          clear hN
          obtain ⟨c1, c2⟩ := own_pt oP nk _ HB2.out
          have lg := (oP.lt g rfl).2
          have kg := oP.frozenAt
          go_wp2_with fail
          refine ⟨rfl, Reg.Kp.trans (Reg.Kp.of_set _ id) (Reg.Kp.of_set _ id), ?_⟩
          clear c1 c2 lg kg
          replace hb := (hb.setCell (p := ⟨g, nk * 2, none⟩) hgB (.int .i64 ux)).setCell (p := ⟨g, nk * 2 + 1, none⟩) hgB (.int .i64 uy)
          replace oP := ((oP.stored (nk * 2) (.int .i64 ux)).1.stored (nk * 2 + 1) (.int .i64 uy)).1
          rw [ptsV_set _ nk (ux, uy) (by first | (rw [HRL.out]; omega) | (rw [List.length_set, HRL.out]; omega))] at oP
          refine Reg.wpR_end (by kernel_rfl) (fun x5 hN => ?_)
          replace oP := own_grow oP hN
          replace hb := hb.trans (Below.mono hN (Nat.le_trans hbw hb.size))
          clear hN
          rw [HR.out] at oP
          have HO := Lib.hid oP
          clear oP
          go_wp2_with fail
          exact ⟨⟨k + 1, by omega, by go_num, by have h := HNK.out; go_num, HO.out, hb⟩, by simp [intOf]; omega⟩
        · simp only [Reg.pickL, List.drop]
          replace oP := own_grow oP hN
          replace hb := hb.trans (Below.mono hN (Nat.le_trans hbw hb.size))
          clear hN
          obtain ⟨c1, c2⟩ := own_pt oP k _ HA.out
          have lg := (oP.lt g rfl).2
          go_wp2_with fail
          refine ⟨rfl, Reg.Kp.refl _ _, ?_⟩
          clear c1 c2 lg
          refine Reg.wpR_main 7 (by kernel_rfl) (fun x2 hN => ?_)
          simp only [Reg.pickL, List.drop]
          replace oP := own_grow oP hN
          replace hb := hb.trans (Below.mono hN (Nat.le_trans hbw hb.size))
          clear hN
          obtain ⟨c1, c2⟩ := own_pt oP nk _ HB.out
          have lg := (oP.lt g rfl).2
          go_wp2_with fail
          refine ⟨rfl, Reg.Kp.refl _ _, ?_⟩
          clear c1 c2 lg
          refine Reg.wpR_hoist [12] 3 rfl (by kernel_rfl) (by kernel_rfl) (fun u => ?_)
          simp only [Reg.pickL, List.drop]
          repeat (go_big_quiet_step ((first | fail)))
          refine wpQuiet_nil ?_
          refine Reg.wpR_main 13 (by kernel_rfl) (fun x3 hN => ?_)
          simp only [Reg.pickL, List.drop]
          replace oP := own_grow oP hN
          replace hb := hb.trans (Below.mono hN (Nat.le_trans hbw hb.size))
          clear hN
          obtain ⟨c1, c2⟩ := own_pt oP k _ HA.out
          have lg := (oP.lt g rfl).2
          have kg := oP.frozenAt
          go_wp2_with fail
          refine ⟨rfl, Reg.Kp.trans (Reg.Kp.of_set _ id) (Reg.Kp.of_set _ id), ?_⟩
          clear c1 c2 lg kg
          replace hb := (hb.setCell (p := ⟨g, k * 2, none⟩) hgB (.int .i64 vx)).setCell (p := ⟨g, k * 2 + 1, none⟩) hgB (.int .i64 vy)
          replace oP := ((oP.stored (k * 2) (.int .i64 vx)).1.stored (k * 2 + 1) (.int .i64 vy)).1
          rw [ptsV_set _ k (vx, vy) (by first | (rw [HRL.out]; omega) | (rw [List.length_set, HRL.out]; omega))] at oP
          refine Reg.wpR_hoist [14] 1 rfl (by kernel_rfl) (by kernel_rfl) (fun u => ?_)
          simp only [Reg.pickL, List.drop]
          repeat (go_big_quiet_step ((first | fail)))
          refine wpQuiet_nil ?_
          refine Reg.wpR_main 15 (by kernel_rfl) (fun x4 hN => ?_)
          simp only [Reg.pickL, List.drop]
          replace oP := own_grow oP hN
          replace hb := hb.trans (Below.mono hN (Nat.le_trans hbw hb.size))
          clear hN
          obtain ⟨c1, c2⟩ := own_pt oP nk _ HB2.out
          have lg := (oP.lt g rfl).2
          have kg := oP.frozenAt
          go_wp2_with fail
          refine ⟨rfl, Reg.Kp.trans (Reg.Kp.of_set _ id) (Reg.Kp.of_set _ id), ?_⟩
          clear c1 c2 lg kg
          replace hb := (hb.setCell (p := ⟨g, nk * 2, none⟩) hgB (.int .i64 ux)).setCell (p := ⟨g, nk * 2 + 1, none⟩) hgB (.int .i64 uy)
          replace oP := ((oP.stored (nk * 2) (.int .i64 ux)).1.stored (nk * 2 + 1) (.int .i64 uy)).1
          rw [ptsV_set _ nk (ux, uy) (by first | (rw [HRL.out]; omega) | (rw [List.length_set, HRL.out]; omega))] at oP
          refine Reg.wpR_end (by kernel_rfl) (fun x5 hN => ?_)
          replace oP := own_grow oP hN
          replace hb := hb.trans (Below.mono hN (Nat.le_trans hbw hb.size))
          clear hN
          rw [HR.out] at oP
          have HO := Lib.hid oP
          clear oP
          go_wp2_with fail
          exact ⟨⟨k + 1, by omega, by go_num, by have h := HNK.out; go_num, HO.out, hb⟩, by simp [intOf]; omega⟩
    · have hlt' : ¬ (k : Int) < (n : Int) - 1 - k := by omega
      rw [revK_all l k (by rw [HLL.out]; omega)] at oP
      have HO := Lib.hid oP
      clear oP
      go_wp2_with fail
      refine bodyPost_end (v := .tuple #[]) (by simp [results, Try.results17, go_sem]) rfl ?_
      exact ⟨⟨_, rfl⟩, HO.out, hb⟩

set_option maxHeartbeats 400000 in
theorem pclip_any (w : World) : Calls Try.prog 18 #[.slice none 0 0] w fun e w' => e = .returned (.slice none 0 0) ∧ w = w' := by
  go_enter Try.func18, Try.ntmps18
  go_wp2
  go_ret
  exact ⟨rfl, rfl⟩
end Go.Proofs.Ytljmhenhibhbfaa
