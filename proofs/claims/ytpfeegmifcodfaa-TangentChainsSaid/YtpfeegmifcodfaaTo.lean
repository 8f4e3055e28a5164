/- Contracts of the law's its, of the reference's Turns and Ints. Printed by genturns.py. -/
import Derived.Test.YtpfeegmifcodfaaTn
import Derived.Test.YtpfeegmifcodfaaTe
namespace Go.Proofs.Ytpfeegmifcodfaa
open Go.RowKit

set_option maxHeartbeats 400000 in
theorem its_any (a : Option Addr) (n c : Nat) (closed : Bool) (w : World) :
    Calls Try.prog 21 #[.agg #[.slice a n c, .bool closed]] w fun e w' => e = .returned (.agg #[.slice a n c, .bool closed]) ∧ Below w.heap.size w w' := by
  go_enter Try.func21, Try.ntmps21
  go_wp2
  exact bodyPost_ret (v := .agg #[.slice a n c, .bool closed]) (by simp [results, Try.results21, go_sem]) rfl ⟨rfl, by (repeat (first | exact Below.refl _ _ | assumption | refine Below.drew ?_ | refine Below.setCell ?_ (by simp; try omega) _ | refine Below.alloc ?_ (by simp; try omega) _))⟩

set_option maxHeartbeats 1000000 in
theorem ints_any (n : Nat) (a b : Option Addr) (c c' : Nat) (l : List Int) (w : World) (hn : n ≤ 1099511627776) (h1 : RInts w w.heap.size a n l) (h2 : RInts w w.heap.size b n l) :
    Calls Try.prog 24 #[.slice a n c, .slice b n c'] w fun e w' => e = .returned (.bool true) ∧ Below w.heap.size w w' := by
  have hl := h1.1
  have H1 := Lib.hid h1
  have H2 := Lib.hid h2
  clear h1 h2
  go_enter Try.func24, Try.ntmps24
  go_wp2_with fail
  go_loopw [5] (fun i wr => ∃ k : Nat, k ≤ n ∧ i = .int .i64 k ∧ Below w.heap.size w wr) (fun i _ => n - (intOf i).toNat)
  case atStart => exact ⟨0, Nat.zero_le _, rfl, Below.refl _ _⟩
  case round =>
    obtain ⟨k, hk, rfl, hb⟩ := hrel
    by_cases hlt : k < n
    · have hin : (k : Int) < n := by omega
      obtain ⟨ba, oa, ea, la, ca⟩ := H1.out.2 k (l[k]'(by omega)) (List.getElem?_eq_getElem (by omega))
      obtain ⟨bb, ob, eb, lb, cb⟩ := H2.out.2 k (l[k]'(by omega)) (List.getElem?_eq_getElem (by omega))
      subst ea eb
      have ca' : wr.cell? ⟨ba, oa + k, none⟩ = _ := (hb.cell (p := ⟨ba, oa + k, none⟩) la).trans ca
      have cb' : wr.cell? ⟨bb, ob + k, none⟩ = _ := (hb.cell (p := ⟨bb, ob + k, none⟩) lb).trans cb
      have la' : ba < wr.heap.size := Nat.lt_of_lt_of_le la hb.size
      have lb' : bb < wr.heap.size := Nat.lt_of_lt_of_le lb hb.size
      clear ca cb la lb
      generalize l[k]'(by omega) = x at *
      go_wp2_with fail
      refine Reg.wp_region_all (Below.refl _ _) (by kernel_rfl) (by kernel_rfl) ?_
      repeat (go_big_quiet_step ((first | fail)))
      refine wpQuiet_nil ?_
      intro xs hxs
      have hbx := Reg.class_below hxs
      clear hxs
      go_wp2_with fail
      exact ⟨⟨k + 1, by omega, by go_num, hb.trans (hbx.mono hb.size)⟩, by simp [intOf]; omega⟩
    · have hin : ¬ (k : Int) < n := by omega
      go_wp2_with fail
      go_ret
      exact ⟨rfl, hb⟩

set_option maxHeartbeats 2000000 in
theorem rturns_any (closed : Bool) (a : Option Addr) (n c : Nat) (l : List (Int × Int)) (w : World) (hn : n ≤ 1000) (hl : RPts w w.heap.size a n l) (hb : ∀ p ∈ l, HalfP p) :
    Calls Try.prog 26 #[.agg #[.slice a n c, .bool closed]] w
      fun e w' => ∃ v, e = .returned v ∧ w'.ownsRow (w.heap.size + 1) 3 1 v (turnsS closed l).length ((turnsS closed l).map (Value.int .i64)) ∧ Below w.heap.size w w' := by
  obtain ⟨i0, hi, hz0, hz1, hz2⟩ := info_parts infoInt
  have hln := hl.1
  have hmade : ((w.alloc (.cells #[.slice a n c, .bool closed] 42)).alloc (.cells #[] 3)).ownsRow (w.heap.size + 1) 3 1 (.slice (some ⟨w.heap.size + 1, 0, none⟩) 0 0) 0 [] := by
    have h := World.ownsRow_made (size := 1) (base := w.heap.size + 1) (e := 3) (w.alloc (.cells #[.slice a n c, .bool closed] 42)) #[] 0 (by simp) (Nat.zero_le _) rfl
    simpa only [World.size_alloc] using h
  have HM := Lib.hid hmade
  have HL := Lib.hid hl
  have HB := Lib.hid hb
  clear hl hb hmade
  cases closed
  · have HT : Hid (turnsS false l = (List.range (n - 2)).map fun k => meetC (cornerS false l ((1 + k : Nat) : Int))) := Lib.hid (by
      unfold turnsS; rw [hln, show ((turnTo false n - turnFrom false).toNat) = (n - 2) by simp [turnTo, turnFrom]; try omega]; rfl)
    have hlen : (turnsS false l).length = (n - 2) := by rw [HT.out]; simp
    go_enter Try.func26, Try.ntmps26
    go_wp2_with fail
    go_loopw [3, 4] (fun v i wr => ∃ k : Nat, k ≤ n ∧ i = .int .i64 k ∧ wr.ownsRow (w.heap.size + 1) 3 1 v (min k (n - 1) - 1) (((turnsS false l).take (min k (n - 1) - 1)).map (Value.int .i64)) ∧
      Blk wr w.heap.size 42 #[.slice a n c, .bool false] ∧ Below w.heap.size w wr) (fun _ i _ => ((n : Int) - intOf i).toNat)
    case atStart =>
      refine ⟨0, Nat.zero_le _, rfl, ?_, (Blk.new w _ _).alloc _, by (repeat (first | exact Below.refl _ _ | assumption | refine Below.drew ?_ | refine Below.setCell ?_ (by simp; try omega) _ | refine Below.alloc ?_ (by simp; try omega) _))⟩
      have h := HM.out
      simpa using h
    case round =>
      obtain ⟨k, hk, rfl, hown, hS, hb⟩ := hrel
      have hlS := hS.lt
      have g0 : wr.cell? ⟨w.heap.size, 0, none⟩ = some (.slice a n c) := hS.cell 0
      have g1 : wr.cell? ⟨w.heap.size, 1, none⟩ = some (.bool false) := hS.cell 1
      by_cases hlt : k < n
      · have hin : (k : Int) < n := by omega
        rcases (by omega : k = 0 ∨ (0 < k ∧ k + 1 < n) ∨ (0 < k ∧ ¬ k + 1 < n)) with rfl | ⟨h0, h1⟩ | ⟨h0, h1⟩
        · have HO := Lib.hid hown
          clear hown
          go_wp2_with fail
          refine ⟨⟨1, by omega, by go_num, ?_, hS, hb⟩, by simp [intOf]; omega⟩
          rw [show min 1 (n - 1) - 1 = 0 by omega]
          have h := HO.out
          rw [show min 0 (n - 1) - 1 = 0 by omega] at h
          exact h
        · have e0 : (0 : Int) < (k : Int) := by omega
          have e1 : (k : Int) + 1 < n := by omega
          obtain ⟨mm, hmm⟩ : ∃ mm, min k (n - 1) - 1 = mm := ⟨_, rfl⟩
          rw [hmm] at hown
          have bd := corner_bd (closed := false) HB.out (k : Int)
          have HTk : Hid ((turnsS false l).take (mm + 1) = (turnsS false l).take mm ++ [meetC (cornerS false l (k : Int))]) := Lib.hid (by
            rw [take_snoc _ mm (by omega)]
            congr 2
            simp only [HT.out]
            rw [List.getElem_map, List.getElem_range]
            congr 2
            omega)
          obtain ⟨cs, hcs⟩ : ∃ cs, cornerS false l (k : Int) = cs := ⟨_, rfl⟩
          rw [hcs] at HTk bd
          obtain ⟨⟨u1, u2⟩, ⟨v1, v2⟩⟩ := cs
          simp only at bd
          obtain ⟨⟨⟨d1, d2⟩, ⟨d3, d4⟩⟩, ⟨⟨d5, d6⟩, ⟨d7, d8⟩⟩⟩ := bd
          have hcall := rcorner_any false a n c l (k : Int) wr (by omega) ((HL.out.below hb).more (by omega)) HB.out
          rw [hcs] at hcall
          simp only at hcall
          have HC := Lib.hid hcall
          clear hcs hcall
          go_wp2_with fail
          refine HC.out.mono ?_
          rintro e w2 ⟨rfl, hb2⟩
          have hsz2 := hb2.size
          have hx2 : Below w.heap.size w w2 := hb.trans (hb2.mono hb.size)
          have hown2 := ((own_grow hown hb2).alloc (.cells #[.int .i64 u1, .int .i64 u2] 23)).alloc (.cells #[.int .i64 v1, .int .i64 v2] 23)
          have hS2 := ((hS.grow hb2).alloc (.cells #[.int .i64 u1, .int .i64 u2] 23)).alloc (.cells #[.int .i64 v1, .int .i64 v2] 23)
          have hx2' := (hx2.alloc hx2.size (.cells #[.int .i64 u1, .int .i64 u2] 23)).alloc (by have := hx2.size; simp; omega) (.cells #[.int .i64 v1, .int .i64 v2] 23)
          clear hown hS hb hb2 g0 g1
          go_wp2_with fail
          refine (rmeet_any u1 u2 v1 v2 _ d1 d2 d3 d4 d5 d6 d7 d8).mono ?_
          rintro e w3 ⟨rfl, hb3⟩
          have hown3 := own_grow hown2 hb3
          have hS3 := hS2.grow hb3
          have hx3 : Below w.heap.size w w3 := hx2'.trans (hb3.mono hx2'.size)
          have hsz3 := hx3.size
          have hlS3 := hS3.lt
          clear hown2 hS2 hx2' hb3
          go_wp2_with (at_builtin; refine wpList_append_own _ rfl _ _ 46 rfl (w.heap.size + 1) 3 i0 (.int .i64 0) 1 8 Try.underlying46 hi hz0 hz1 hz2 rfl (by decide) _ _ _ rfl (hown3.alloc _) ⟨w3.heap.size, 0, none⟩ 1 1 [.int .i64 (meetS u1 u2 v1 v2)] rfl rfl ?c1 ?c2 ?c3 ?c4 ?c5 ?_)
          case c1 => intro j u hj; match j, hj with | 0, hj => (simp at hj; subst hj; simp [go_sem, Addr.add])
          case c2 => simp [Value.oneCell']
          case c3 => unfold maxLen; omega
          case c4 => omega
          case c5 => simp; omega
          intro v' w4 hown4 hg4 _
          have hS4 := (hS3.alloc (.cells #[.int .i64 (meetS u1 u2 v1 v2)] 3)).grown hg4 (fun k hk => by have := (hown3.lt k hk).1; omega)
          have hx4 : Below w.heap.size w w4 := (hx3.alloc hx3.size _).grown hg4 (by simp; omega) (fun k hk => by have := (hown3.lt k hk).1; omega)
          clear hown3 hS3 HC
          have HO := Lib.hid hown4
          clear hown4
          go_wp2_with fail
          refine ⟨⟨k + 1, by omega, by go_num, ?_, hS4, hx4⟩, by simp [intOf]; omega⟩
          rw [show min (k + 1) (n - 1) - 1 = mm + 1 by omega]
          rw [HTk.out, List.map_append, List.map_take]
          exact HO.out
        · have e0 : (0 : Int) < (k : Int) := by omega
          have e1 : ¬ (k : Int) + 1 < n := by omega
          have HO := Lib.hid hown
          clear hown
          go_wp2_with fail
          refine ⟨⟨k + 1, by omega, by go_num, ?_, hS, hb⟩, by simp [intOf]; omega⟩
          rw [show min (k + 1) (n - 1) - 1 = min k (n - 1) - 1 by omega]
          exact HO.out
      · have hin : ¬ (k : Int) < n := by omega
        have hkn : (min k (n - 1) - 1) = (n - 2) := by omega
        have HO := Lib.hid hown
        clear hown
        go_wp2_with fail
        go_ret
        refine ⟨_, rfl, ?_, hb⟩
        have h := HO.out
        rw [hkn, List.take_of_length_le (by omega)] at h
        exact h
  · have HT : Hid (turnsS true l = (List.range n).map fun k => meetC (cornerS true l ((0 + k : Nat) : Int))) := Lib.hid (by
      unfold turnsS; rw [hln, show ((turnTo true n - turnFrom true).toNat) = n by simp [turnTo, turnFrom]; try omega]; rfl)
    have hlen : (turnsS true l).length = n := by rw [HT.out]; simp
    go_enter Try.func26, Try.ntmps26
    go_wp2_with fail
    go_loopw [3, 4] (fun v i wr => ∃ k : Nat, k ≤ n ∧ i = .int .i64 k ∧ wr.ownsRow (w.heap.size + 1) 3 1 v k (((turnsS true l).take k).map (Value.int .i64)) ∧
      Blk wr w.heap.size 42 #[.slice a n c, .bool true] ∧ Below w.heap.size w wr) (fun _ i _ => ((n : Int) - intOf i).toNat)
    case atStart =>
      refine ⟨0, Nat.zero_le _, rfl, ?_, (Blk.new w _ _).alloc _, by (repeat (first | exact Below.refl _ _ | assumption | refine Below.drew ?_ | refine Below.setCell ?_ (by simp; try omega) _ | refine Below.alloc ?_ (by simp; try omega) _))⟩
      have h := HM.out
      simpa using h
    case round =>
      obtain ⟨k, hk, rfl, hown, hS, hb⟩ := hrel
      have hlS := hS.lt
      have g0 : wr.cell? ⟨w.heap.size, 0, none⟩ = some (.slice a n c) := hS.cell 0
      have g1 : wr.cell? ⟨w.heap.size, 1, none⟩ = some (.bool true) := hS.cell 1
      by_cases hlt : k < n
      · have hin : (k : Int) < n := by omega
        have bd := corner_bd (closed := true) HB.out (k : Int)
        have HTk : Hid ((turnsS true l).take (k + 1) = (turnsS true l).take k ++ [meetC (cornerS true l (k : Int))]) := Lib.hid (by
          rw [take_snoc _ k (by omega)]
          congr 2
          simp only [HT.out]
          rw [List.getElem_map, List.getElem_range]
          congr 2
          omega)
        obtain ⟨cs, hcs⟩ : ∃ cs, cornerS true l (k : Int) = cs := ⟨_, rfl⟩
        rw [hcs] at HTk bd
        obtain ⟨⟨u1, u2⟩, ⟨v1, v2⟩⟩ := cs
        simp only at bd
        obtain ⟨⟨⟨d1, d2⟩, ⟨d3, d4⟩⟩, ⟨⟨d5, d6⟩, ⟨d7, d8⟩⟩⟩ := bd
        have hcall := rcorner_any true a n c l (k : Int) wr (by omega) ((HL.out.below hb).more (by omega)) HB.out
        rw [hcs] at hcall
        simp only at hcall
        have HC := Lib.hid hcall
        clear hcs hcall
        go_wp2_with fail
        refine HC.out.mono ?_
        rintro e w2 ⟨rfl, hb2⟩
        have hsz2 := hb2.size
        have hx2 : Below w.heap.size w w2 := hb.trans (hb2.mono hb.size)
        have hown2 := ((own_grow hown hb2).alloc (.cells #[.int .i64 u1, .int .i64 u2] 23)).alloc (.cells #[.int .i64 v1, .int .i64 v2] 23)
        have hS2 := ((hS.grow hb2).alloc (.cells #[.int .i64 u1, .int .i64 u2] 23)).alloc (.cells #[.int .i64 v1, .int .i64 v2] 23)
        have hx2' := (hx2.alloc hx2.size (.cells #[.int .i64 u1, .int .i64 u2] 23)).alloc (by have := hx2.size; simp; omega) (.cells #[.int .i64 v1, .int .i64 v2] 23)
        clear hown hS hb hb2 g0 g1
        go_wp2_with fail
        refine (rmeet_any u1 u2 v1 v2 _ d1 d2 d3 d4 d5 d6 d7 d8).mono ?_
        rintro e w3 ⟨rfl, hb3⟩
        have hown3 := own_grow hown2 hb3
        have hS3 := hS2.grow hb3
        have hx3 : Below w.heap.size w w3 := hx2'.trans (hb3.mono hx2'.size)
        have hsz3 := hx3.size
        have hlS3 := hS3.lt
        clear hown2 hS2 hx2' hb3
        go_wp2_with (at_builtin; refine wpList_append_own _ rfl _ _ 46 rfl (w.heap.size + 1) 3 i0 (.int .i64 0) 1 8 Try.underlying46 hi hz0 hz1 hz2 rfl (by decide) _ _ _ rfl (hown3.alloc _) ⟨w3.heap.size, 0, none⟩ 1 1 [.int .i64 (meetS u1 u2 v1 v2)] rfl rfl ?c1 ?c2 ?c3 ?c4 ?c5 ?_)
        case c1 => intro j u hj; match j, hj with | 0, hj => (simp at hj; subst hj; simp [go_sem, Addr.add])
        case c2 => simp [Value.oneCell']
        case c3 => unfold maxLen; omega
        case c4 => omega
        case c5 => simp; omega
        intro v' w4 hown4 hg4 _
        have hS4 := (hS3.alloc (.cells #[.int .i64 (meetS u1 u2 v1 v2)] 3)).grown hg4 (fun k hk => by have := (hown3.lt k hk).1; omega)
        have hx4 : Below w.heap.size w w4 := (hx3.alloc hx3.size _).grown hg4 (by simp; omega) (fun k hk => by have := (hown3.lt k hk).1; omega)
        clear hown3 hS3 HC
        have HO := Lib.hid hown4
        clear hown4
        go_wp2_with fail
        refine ⟨⟨k + 1, by omega, by go_num, ?_, hS4, hx4⟩, by simp [intOf]; omega⟩
        rw [HTk.out, List.map_append, List.map_take]
        exact HO.out
      · have hin : ¬ (k : Int) < n := by omega
        have hkn : k = n := by omega
        have HO := Lib.hid hown
        clear hown
        go_wp2_with fail
        go_ret
        refine ⟨_, rfl, ?_, hb⟩
        have h := HO.out
        rw [hkn, List.take_of_length_le (by omega)] at h
        exact h

end Go.Proofs.Ytpfeegmifcodfaa
