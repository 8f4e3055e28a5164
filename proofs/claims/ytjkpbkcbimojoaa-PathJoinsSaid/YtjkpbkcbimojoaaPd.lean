/- Contracts: the reference's Check is the same function; its, bounded. -/
import Derived.Test.YtjkpbkcbimojoaaPc
namespace Go.Proofs.Ytjkpbkcbimojoaa
open Go.RowKit

theorem farP_eq (x y : Int) : farP (x, y) = (decide (x < -268435456) || decide (268435456 < x) || decide (y < -268435456) || decide (268435456 < y)) := by
  have a : (!decide (-268435456 ≤ x)) = decide (x < -268435456) := by rw [← decide_not]; congr 1; simp
  have b : (!decide (x ≤ 268435456)) = decide (268435456 < x) := by rw [← decide_not]; congr 1; simp
  have c : (!decide (-268435456 ≤ y)) = decide (y < -268435456) := by rw [← decide_not]; congr 1; simp
  have d : (!decide (y ≤ 268435456)) = decide (268435456 < y) := by rw [← decide_not]; congr 1; simp
  simp only [farP, nearC, Bool.not_and, a, b, c, d, Bool.or_assoc]

set_option maxHeartbeats 400000 in
theorem rfar_any (x y : Int) (w : World) :
    Calls Try.prog 35 #[.agg #[.int .i64 x, .int .i64 y]] w fun e w' => e = .returned (.bool (farP (x, y))) ∧ Below w.heap.size w w' := by
  have HF := Lib.hid (farP_eq x y)
  by_cases h1 : x < -268435456
  · go_enter Try.func35, Try.ntmps35
    go_wp2
    go_ret
    exact ⟨ret_bool (by rw [HF.out]; simp [h1]), (Below.refl _ _).alloc (Nat.le_refl _) _⟩
  by_cases h2 : 268435456 < x
  · go_enter Try.func35, Try.ntmps35
    go_wp2
    go_ret
    exact ⟨ret_bool (by rw [HF.out]; simp [h2]), (Below.refl _ _).alloc (Nat.le_refl _) _⟩
  by_cases h3 : y < -268435456
  · go_enter Try.func35, Try.ntmps35
    go_wp2
    go_ret
    exact ⟨ret_bool (by rw [HF.out]; simp [h3]), (Below.refl _ _).alloc (Nat.le_refl _) _⟩
  go_enter Try.func35, Try.ntmps35
  go_wp2
  go_ret
  exact ⟨ret_bool (by rw [HF.out]; simp; omega), (Below.refl _ _).alloc (Nat.le_refl _) _⟩

set_option maxHeartbeats 400000 in
theorem its_any (v1 v2 : Value) (a b : Option Addr) (n m c d : Nat) (w : World) (h1 : v1 = .slice a n c) (h2 : v2 = .slice b m d) :
    Calls Try.prog 13 #[.agg #[v1, v2]] w fun e w' => e = .returned (.agg #[v1, v2]) ∧ Below w.heap.size w w' := by
  subst h1 h2
  go_enter Try.func13, Try.ntmps13
  go_wp2
  exact bodyPost_ret (v := .agg #[.slice a n c, .slice b m d]) (by simp [results, Try.results13, go_sem]) rfl ⟨rfl, by (repeat (first | exact Below.refl _ _ | assumption | refine Below.drew ?_ | refine Below.setCell ?_ (by simp; try omega) _ | refine Below.alloc ?_ (by simp; try omega) _))⟩

set_option maxHeartbeats 400000 in
theorem bounded_any (a b : Option Addr) (n m c d : Nat) (w : World) (hn : n ≤ 9223372036854775807) (hm : m ≤ 9223372036854775807) :
    Calls Try.prog 9 #[.agg #[.slice a n c, .slice b m d]] w fun e w' => e = .returned (.bool (decide (n ≤ 520) && decide (m ≤ 1600))) ∧ Below w.heap.size w w' := by
  by_cases h1 : n ≤ 520 <;> by_cases h2 : m ≤ 1600
  all_goals
    go_enter Try.func9, Try.ntmps9
    go_wp2
    go_ret
    exact ⟨ret_bool (by simp [h1, h2]; try omega), (Below.refl _ _).alloc (Nat.le_refl _) _⟩

set_option maxHeartbeats 1000000 in
theorem rcheck_any (a b : Option Addr) (n m c d : Nat) (vs : List Int) (ps : List (Int × Int)) (w : World)
    (hm : m ≤ 9223372036854775807 / 2) (hv : RInts w w.heap.size a n vs) (hp : RPts w w.heap.size b m ps) :
    Calls Try.prog 17 #[.agg #[.slice a n c, .slice b m d]] w fun e w' => e = .returned (.int .i64 (checkS vs ps)) ∧ Below w.heap.size w w' := by
  have hnl := hv.1
  have hml := hp.1
  have HV := Lib.hid hv
  have HP := Lib.hid hp
  clear hv hp
  by_cases h512 : 512 < n
  · go_enter Try.func17, Try.ntmps17
    go_wp2_with fail
    go_ret
    exact ⟨ret_int (by unfold checkS; rw [if_pos (by omega)]), (Below.refl _ _).alloc (Nat.le_refl _) _⟩
  · go_enter Try.func17, Try.ntmps17
    go_wp2_with fail
    go_loopw [3, 4] (fun l i wr => ∃ k : Nat, k ≤ n ∧ i = .int .i64 k ∧ l = .int .i64 (totalS (vs.take k)) ∧
        checkV 5 vs = checkV (beforeAt vs k) (vs.drop k) ∧ (∀ v ∈ vs.take k, 0 ≤ takesS v) ∧ Below (w.heap.size + 1) (w.alloc (.cells #[.slice a n c, .slice b m d] 35)) wr) (fun _ i _ => n - (intOf i).toNat)
    case atStart => exact ⟨0, Nat.zero_le _, rfl, by simp [totalS], by simp [beforeAt], by simp, by simpa using Below.refl _ _⟩
    case round =>
      obtain ⟨k, hk, rfl, rfl, hcv, hpos, hb⟩ := hrel
      have Hcv := Lib.hid hcv
      have Hpos := Lib.hid hpos
      have htr := totalS_range (vs.take k)
      have htl : (vs.take k).length ≤ 512 := by rw [List.length_take]; omega
      clear hcv hpos
      have hsz := hb.size
      simp at hsz
      obtain ⟨hc, hf⟩ := bcell hb
      by_cases hlt : k < n
      · have hlk : k < vs.length := by omega
        obtain ⟨bb, off, ha, hbB, hc1⟩ := HV.out.2 k vs[k] (List.getElem?_eq_getElem hlk)
        subst ha
        have hbefore : 0 < k → w.cell? ⟨bb, off + (k - 1), none⟩ = some (.int .i64 (beforeAt vs k)) := by
          intro h0
          obtain ⟨b2, off2, e2, _, hc2⟩ := HV.out.2 (k - 1) (vs[k - 1]'(by omega)) (List.getElem?_eq_getElem (by omega))
          simp only [Option.some.injEq, Addr.mk.injEq] at e2
          obtain ⟨rfl, rfl, _⟩ := e2
          rw [hc2]
          simp [beforeAt, show k ≠ 0 by omega, List.getD, List.getElem?_eq_getElem (show k - 1 < vs.length by omega)]
        generalize hvk : vs[k] = v at *
        have Hvk := Lib.hid hvk
        clear hvk
        have htv := takesS_range v
        have HD : Hid (vs.drop k = v :: vs.drop (k + 1)) := Lib.hid (by rw [← Hvk.out]; exact drop_cons vs k hlk)
        have HT : Hid (totalS (vs.take (k + 1)) = totalS (vs.take k) + takesS v) := Lib.hid (by rw [take_snoc vs k hlk, totalS_snoc, Hvk.out])
        have HB : Hid (beforeAt vs (k + 1) = v) := Lib.hid (by rw [beforeAt_succ vs k hlk, Hvk.out])
        have HM : Hid (vs.take (k + 1) = vs.take k ++ [v]) := Lib.hid (by rw [take_snoc vs k hlk, Hvk.out])
        have hres : ∀ W, Below wr.heap.size wr W → Below w.heap.size w W := fun W hW => ((Below.refl w.heap.size w).alloc (Nat.le_refl _) _).trans ((hb.mono (by omega)).trans (hW.mono (by omega)))
        have Hres := Lib.hid hres
        clear hres
        by_cases h1 : takesS v < 0
        · go_wp2_with (go_at_call 15; refine (rtakes_any _ _).mono ?_; rintro e w2 ⟨rfl, rfl⟩)
          go_ret
          exact ⟨ret_int (checkS_verb (by omega) (by rw [Hcv.out, HD.out, checkV_arg h1]) (by omega)).symm, Hres.out _ (Below.refl _ _)⟩
        have h1' : 0 ≤ takesS v := by omega
        by_cases h3 : v = 1
        · subst h3
          go_wp2_with (go_at_call 15; refine (rtakes_any _ _).mono ?_; rintro e w2 ⟨rfl, rfl⟩)
          refine ⟨⟨k + 1, by omega, by go_num, by rw [HT.out], by rw [Hcv.out, HD.out, HB.out, checkV_next h1' (.inr rfl)], fun x hx => by
            rw [HM.out] at hx
            rcases List.mem_append.1 hx with h | h
            · exact Hpos.out x h
            · rw [List.mem_singleton.1 h]; exact h1', hb⟩, by simp [intOf]; omega⟩
        have h3' : (v != 1) = true := by simpa using h3
        have H3 := Lib.hid h3
        clear h3
        by_cases h0 : k = 0
        · subst h0
          simp only [Nat.add_zero] at hc1
          go_wp2_with (go_at_call 15; refine (rtakes_any _ _).mono ?_; rintro e w2 ⟨rfl, rfl⟩)
          go_ret
          exact ⟨ret_int (checkS_verb (by omega) (by rw [Hcv.out, HD.out]; exact checkV_start h1' rfl H3.out) (by omega)).symm, Hres.out _ (Below.refl _ _)⟩
        have h0' : ((k : Int) == 0) = false := by simpa using h0
        have hi1 : (0 : Int) ≤ (k : Int) - 1 := by omega
        have hi2 : (k : Int) - 1 < (n : Int) := by omega
        have hi3 : ((k : Int) - 1).toNat = k - 1 := by omega
        have hbf := hbefore (by omega)
        clear hbefore
        by_cases h5 : beforeAt vs k = 5
        · have H5 := Lib.hid h5
          rw [h5] at hbf
          clear h5
          go_wp2_with (go_at_call 15; refine (rtakes_any _ _).mono ?_; rintro e w2 ⟨rfl, rfl⟩)
          go_ret
          exact ⟨ret_int (checkS_verb (by omega) (by rw [Hcv.out, HD.out, checkV_start h1' H5.out H3.out]) (by omega)).symm, Hres.out _ (Below.refl _ _)⟩
        · have H5 := Lib.hid h5
          have h5' : (beforeAt vs k == 5) = false := by simpa using h5
          clear h5
          go_wp2_with (go_at_call 15; refine (rtakes_any _ _).mono ?_; rintro e w2 ⟨rfl, rfl⟩)
          refine ⟨⟨k + 1, by omega, by go_num, by rw [HT.out], by rw [Hcv.out, HD.out, HB.out, checkV_next h1' (.inl H5.out)], fun x hx => by
            rw [HM.out] at hx
            rcases List.mem_append.1 hx with h | h
            · exact Hpos.out x h
            · rw [List.mem_singleton.1 h]; exact h1', hb⟩, by simp [intOf]; omega⟩
      · have hkn : k = n := by omega
        subst hkn
        have HE : Hid (checkS vs ps = if totalS vs ≠ ps.length then 71 else if ps.any farP then 72 else 0) := Lib.hid (checkS_pts (by omega) (by rw [Hcv.out, List.drop_of_length_le (by omega)]; rfl))
        have HTk : Hid (vs.take k = vs) := Lib.hid (List.take_of_length_le (by omega))
        have hres : ∀ W, Below wr.heap.size wr W → Below w.heap.size w W := fun W hW => ((Below.refl w.heap.size w).alloc (Nat.le_refl _) _).trans ((hb.mono (by omega)).trans (hW.mono (by omega)))
        have Hres := Lib.hid hres
        clear hres
        rw [HTk.out] at htr
        by_cases ht : totalS vs = m
        · have Ht : (totalS (vs.take k) != (m : Int)) = false := by rw [HTk.out]; simpa using ht
          have Ht' := Lib.hid ht
          have htv : totalS (vs.take k) = m := by rw [HTk.out]; exact ht
          have Htv := Lib.hid htv
          clear ht htv
          go_wp2_with fail
          have hle1 : totalS (vs.take k) ≤ m := by rw [Htv.out]; exact Int.le_refl _
          have hle2 : (m : Int) ≤ totalS (vs.take k) := by rw [Htv.out]; exact Int.le_refl _
          obtain ⟨wo, rfl⟩ : ∃ wo : World, wo = wr := ⟨_, rfl⟩
          go_loopw [6] (fun i w2 => ∃ j : Nat, j ≤ m ∧ i = .int .i64 j ∧ (∀ q ∈ ps.take j, farP q = false) ∧ Below wo.heap.size wo w2) (fun i _ => m - (intOf i).toNat)
          case atStart => exact ⟨0, Nat.zero_le _, rfl, by simp, Below.refl _ _⟩
          case round =>
            obtain ⟨j, hj, rfl, hq, hb2⟩ := hrel
            obtain ⟨hc2, hf2⟩ := bcell hb2
            have hsz2 := hb2.size
            have Hq := Lib.hid hq
            clear hq
            by_cases hjm : j < m
            · have hjl : j < ps.length := by omega
              obtain ⟨bb, off, ha, hbB, hp1, hp2⟩ := HP.out.2 j ps[j] (List.getElem?_eq_getElem hjl)
              subst ha
              have HM : Hid (ps.take (j + 1) = ps.take j ++ [ps[j]]) := Lib.hid (take_snoc ps j hjl)
              have Hmem : Hid (ps[j] ∈ ps) := Lib.hid (List.getElem_mem hjl)
              generalize ps[j] = q at *
              obtain ⟨qx, qy⟩ := q
              simp only at hp1 hp2
              have hjt : (j : Int) < totalS (vs.take k) := by omega
              have hbo : bb < wo.heap.size := by omega
              have hwo : w.heap.size < wo.heap.size := by omega
              cases hfq : farP (qx, qy)
              · have Hfq := Lib.hid hfq
                go_wp2_with (go_at_call 35; refine (rfar_any _ _ _).mono ?_; rintro e w3 ⟨rfl, hb3⟩)
                refine ⟨⟨j + 1, by omega, by go_num, fun x hx => by
                  rw [HM.out] at hx
                  rcases List.mem_append.1 hx with h | h
                  · exact Hq.out x h
                  · rw [List.mem_singleton.1 h]; exact Hfq.out, hb2.trans (hb3.mono (by omega))⟩, by simp [intOf]; omega⟩
              · have Hfq := Lib.hid hfq
                go_wp2_with (go_at_call 35; refine (rfar_any _ _ _).mono ?_; rintro e w3 ⟨rfl, hb3⟩)
                go_ret
                exact ⟨ret_int (by rw [HE.out, if_neg (by have := Ht'.out; omega), if_pos (List.any_eq_true.2 ⟨_, Hmem.out, Hfq.out⟩)]), Hres.out _ (hb2.trans (hb3.mono (by omega)))⟩
            · have hjt : ¬ (j : Int) < totalS (vs.take k) := by omega
              go_wp2_with fail
              go_ret
              have hz : ps.any farP = false := by
                rw [List.any_eq_false]
                intro q hq1
                rw [Hq.out q (by rw [List.take_of_length_le (by omega)]; exact hq1)]
                simp
              exact ⟨ret_int (by rw [HE.out, if_neg (by have := Ht'.out; omega), hz]; rfl), Hres.out _ hb2⟩
        · have Ht : (totalS (vs.take k) != (m : Int)) = true := by rw [HTk.out]; simpa using ht
          have Ht' := Lib.hid ht
          clear ht
          go_wp2_with fail
          go_ret
          exact ⟨ret_int (by rw [HE.out, if_pos (by have := Ht'.out; omega)]), Hres.out _ (Below.refl _ _)⟩

end Go.Proofs.Ytjkpbkcbimojoaa
