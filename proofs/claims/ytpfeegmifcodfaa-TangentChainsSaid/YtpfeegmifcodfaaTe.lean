/- Contracts of package tangent, fifth part: the turns of a chain. -/
import Derived.Test.YtpfeegmifcodfaaTd
import Derived.Test.YtpfeegmifcodfaaOwn
namespace Go.Proofs.Ytpfeegmifcodfaa
open Go.RowKit

def meetC (c : (Int × Int) × (Int × Int)) : Int := meetS c.1.1 c.1.2 c.2.1 c.2.2
def turnFrom (closed : Bool) : Nat := if closed then 0 else 1
def turnTo (closed : Bool) (n : Nat) : Int := if closed then n else n - 1
def turnsS (closed : Bool) (l : List (Int × Int)) : List Int :=
  (List.range ((turnTo closed l.length - turnFrom closed).toNat)).map fun k => meetC (cornerS closed l (turnFrom closed + k : Nat))

theorem half_sub {p q : Int × Int} (h : HalfP p) (k : HalfP q) : (-1073741824 ≤ (subP p q).1 ∧ (subP p q).1 ≤ 1073741824) ∧ (-1073741824 ≤ (subP p q).2 ∧ (subP p q).2 ≤ 1073741824) := by
  unfold HalfP at *; unfold subP; simp only; omega
theorem half_at {l : List (Int × Int)} (h : ∀ p ∈ l, HalfP p) (i : Nat) : HalfP (atP l i) := by
  unfold atP
  rw [List.getD_eq_getElem?_getD]
  rcases Nat.lt_or_ge i l.length with k | k
  · rw [List.getElem?_eq_getElem k]; exact h _ (List.getElem_mem _)
  · rw [List.getElem?_eq_none k]; simp [HalfP]
theorem corner_bd {closed : Bool} {l : List (Int × Int)} (h : ∀ p ∈ l, HalfP p) (i : Int) :
    ((-1073741824 ≤ (cornerS closed l i).1.1 ∧ (cornerS closed l i).1.1 ≤ 1073741824) ∧ (-1073741824 ≤ (cornerS closed l i).1.2 ∧ (cornerS closed l i).1.2 ≤ 1073741824)) ∧
    ((-1073741824 ≤ (cornerS closed l i).2.1 ∧ (cornerS closed l i).2.1 ≤ 1073741824) ∧ (-1073741824 ≤ (cornerS closed l i).2.2 ∧ (cornerS closed l i).2.2 ≤ 1073741824)) := by
  unfold cornerS
  split
  · simp
  · constructor
    · simp only [cornerU]
      split
      · exact half_sub (half_at h _) (half_at h _)
      · simp
    · simp only [cornerV]
      split
      · exact half_sub (half_at h _) (half_at h _)
      · simp

theorem infoInt : (Try.prog.info? 3).map (fun i => (i.zero, i.size, i.bytes)) = some (some (.int .i64 0), 1, 8) := by kernel_rfl

set_option maxHeartbeats 1000000 in
theorem turns_any (closed : Bool) (a : Option Addr) (n c : Nat) (l : List (Int × Int)) (w : World) (hn : n ≤ 1000) (hl : RPts w w.heap.size a n l) (hb : ∀ p ∈ l, HalfP p) :
    Calls Try.prog 25 #[.agg #[.slice a n c, .bool closed]] w
      fun e w' => ∃ v, e = .returned v ∧ w'.ownsRow (w.heap.size + 1) 3 1 v (turnsS closed l).length ((turnsS closed l).map (Value.int .i64)) ∧ Below w.heap.size w w' := by
  obtain ⟨i0, hi, hz0, hz1, hz2⟩ := info_parts infoInt
  have hln := hl.1
  have HL := Lib.hid hl
  have HB := Lib.hid hb
  clear hl hb
  cases closed
  · have HT : Hid (turnsS false l = (List.range (n - 2)).map fun k => meetC (cornerS false l ((1 + k : Nat) : Int))) := Lib.hid (by
      unfold turnsS; rw [hln, show ((turnTo false n - turnFrom false).toNat) = (n - 2) by simp [turnTo, turnFrom]; try omega]; rfl)
    have hlen : (turnsS false l).length = (n - 2) := by rw [HT.out]; simp
    go_enter Try.func25, Try.ntmps25
    go_wp2_with fail
    go_region
    all_goals
      go_wp2_with fail
      go_loopw [2, 5] (fun v i wr => ∃ k : Nat, k ≤ (n - 2) ∧ i = .int .i64 ((k : Int) + 1) ∧ wr.ownsRow (w.heap.size + 1) 3 1 v k (((turnsS false l).take k).map (Value.int .i64)) ∧
        Blk wr w.heap.size 36 #[.slice a n c, .bool false] ∧ Below w.heap.size w wr) (fun _ i _ => (((n : Int) - 1) - intOf i).toNat)
      case atStart => exact ⟨0, Nat.zero_le _, rfl, World.ownsRow_nil _ _ _ _, Blk.new w _ _, by (repeat (first | exact Below.refl _ _ | assumption | refine Below.drew ?_ | refine Below.setCell ?_ (by simp; try omega) _ | refine Below.alloc ?_ (by simp; try omega) _))⟩
      case round =>
        obtain ⟨k, hk, rfl, hown, hS, hb⟩ := hrel
        have hlS := hS.lt
        by_cases hlt : k + 1 < n - 1
        · have hin : ((k : Int) + 1) < ((n : Int) - 1) := by omega
          have g0 : wr.cell? ⟨w.heap.size, 0, none⟩ = some (.slice a n c) := hS.cell 0
          have g1 : wr.cell? ⟨w.heap.size, 1, none⟩ = some (.bool false) := hS.cell 1
          have bd := corner_bd (closed := false) HB.out ((k : Int) + 1)
          have HTk : Hid ((turnsS false l).take (k + 1) = (turnsS false l).take k ++ [meetC (cornerS false l ((k : Int) + 1))]) := Lib.hid (by
            rw [take_snoc _ k (by omega)]
            congr 2
            simp only [HT.out]
            rw [List.getElem_map, List.getElem_range]
            congr 2
            omega)
          obtain ⟨cs, hcs⟩ : ∃ cs, cornerS false l ((k : Int) + 1) = cs := ⟨_, rfl⟩
          rw [hcs] at HTk bd
          obtain ⟨⟨u1, u2⟩, ⟨v1, v2⟩⟩ := cs
          simp only at bd
          obtain ⟨⟨⟨d1, d2⟩, ⟨d3, d4⟩⟩, ⟨⟨d5, d6⟩, ⟨d7, d8⟩⟩⟩ := bd
          have hcall := corner_any false a n c l ((k : Int) + 1) wr (by omega) ((HL.out.below hb).more (by omega)) HB.out
          rw [hcs] at hcall
          simp only at hcall
          have HC := Lib.hid hcall
          clear hcs hcall
          go_wp2_with fail
          refine HC.out.mono ?_
          rintro e w2 ⟨rfl, hb2⟩
          go_wp2_with fail
          refine (meet_any u1 u2 v1 v2 _ d1 d2 d3 d4 d5 d6 d7 d8).mono ?_
          rintro e w3 ⟨rfl, hb3⟩
          have hown3 := own_grow hown (hb2.trans (hb3.mono hb2.size))
          have hS3 := (hS.grow hb2).grow hb3
          have hx3 : Below w.heap.size w w3 := hb.trans ((hb2.trans (hb3.mono hb2.size)).mono hb.size)
          have hsz3 := hx3.size
          have hlS3 := hS3.lt
          go_wp2_with (at_builtin; refine wpList_append_own _ rfl _ _ 46 rfl (w.heap.size + 1) 3 i0 (.int .i64 0) 1 8 Try.underlying46 hi hz0 hz1 hz2 rfl (by decide) _ _ _ rfl (hown3.alloc _) ⟨w3.heap.size, 0, none⟩ 1 1 [.int .i64 (meetS u1 u2 v1 v2)] rfl rfl ?c1 ?c2 ?c3 ?c4 ?c5 ?_)
          case c1 => intro j u hj; match j, hj with | 0, hj => (simp at hj; subst hj; simp [go_sem, Addr.add])
          case c2 => simp [Value.oneCell']
          case c3 => unfold maxLen; omega
          case c4 => omega
          case c5 => simp; omega
          intro v' w4 hown4 hg4 _
          have hS4 := (hS3.alloc (.cells #[.int .i64 (meetS u1 u2 v1 v2)] 3)).grown hg4 (fun k hk => by have := (hown3.lt k hk).1; omega)
          have hx4 : Below w.heap.size w w4 := (hx3.alloc hx3.size _).grown hg4 (by simp; omega) (fun k hk => by have := (hown3.lt k hk).1; omega)
          clear hown3 hown hS3 hS hb hb2 hb3 g0 g1 HC
          have HO := Lib.hid hown4
          clear hown4
          go_wp2_with fail
          refine ⟨⟨k + 1, by omega, by go_num, ?_, hS4, hx4⟩, by simp [intOf]; omega⟩
          rw [HTk.out, List.map_append, List.map_take]
          exact HO.out
        · have hin : ¬ ((k : Int) + 1) < ((n : Int) - 1) := by omega
          have hkn : k = (n - 2) := by omega
          have HO := Lib.hid hown
          clear hown
          go_wp2_with fail
          go_ret
          refine ⟨_, rfl, ?_, hb⟩
          have h := HO.out
          rw [List.take_of_length_le (by omega)] at h
          rw [← hkn]
          exact h
  · have HT : Hid (turnsS true l = (List.range n).map fun k => meetC (cornerS true l ((0 + k : Nat) : Int))) := Lib.hid (by
      unfold turnsS; rw [hln, show ((turnTo true n - turnFrom true).toNat) = n by simp [turnTo, turnFrom]; try omega]; rfl)
    have hlen : (turnsS true l).length = n := by rw [HT.out]; simp
    go_enter Try.func25, Try.ntmps25
    go_wp2_with fail
    go_region
    all_goals
      go_wp2_with fail
      go_loopw [2, 5] (fun v i wr => ∃ k : Nat, k ≤ n ∧ i = .int .i64 (k : Int) ∧ wr.ownsRow (w.heap.size + 1) 3 1 v k (((turnsS true l).take k).map (Value.int .i64)) ∧
        Blk wr w.heap.size 36 #[.slice a n c, .bool true] ∧ Below w.heap.size w wr) (fun _ i _ => ((n : Int) - intOf i).toNat)
      case atStart => exact ⟨0, Nat.zero_le _, rfl, World.ownsRow_nil _ _ _ _, Blk.new w _ _, by (repeat (first | exact Below.refl _ _ | assumption | refine Below.drew ?_ | refine Below.setCell ?_ (by simp; try omega) _ | refine Below.alloc ?_ (by simp; try omega) _))⟩
      case round =>
        obtain ⟨k, hk, rfl, hown, hS, hb⟩ := hrel
        have hlS := hS.lt
        by_cases hlt : k < n
        · have hin : (k : Int) < (n : Int) := by omega
          have g0 : wr.cell? ⟨w.heap.size, 0, none⟩ = some (.slice a n c) := hS.cell 0
          have g1 : wr.cell? ⟨w.heap.size, 1, none⟩ = some (.bool true) := hS.cell 1
          have bd := corner_bd (closed := true) HB.out (k : Int)
          have HTk : Hid ((turnsS true l).take (k + 1) = (turnsS true l).take k ++ [meetC (cornerS true l (k : Int))]) := Lib.hid (by
            rw [take_snoc _ k (by omega)]
            congr 2
            simp only [HT.out]
            rw [List.getElem_map, List.getElem_range]
            congr 2
            omega)
          obtain ⟨cs, hcs⟩ : ∃ cs, cornerS true l (k : Int) = cs := ⟨_, rfl⟩
          rw [hcs] at HTk bd
          obtain ⟨⟨u1, u2⟩, ⟨v1, v2⟩⟩ := cs
          simp only at bd
          obtain ⟨⟨⟨d1, d2⟩, ⟨d3, d4⟩⟩, ⟨⟨d5, d6⟩, ⟨d7, d8⟩⟩⟩ := bd
          have hcall := corner_any true a n c l (k : Int) wr (by omega) ((HL.out.below hb).more (by omega)) HB.out
          rw [hcs] at hcall
          simp only at hcall
          have HC := Lib.hid hcall
          clear hcs hcall
          go_wp2_with fail
          refine HC.out.mono ?_
          rintro e w2 ⟨rfl, hb2⟩
          go_wp2_with fail
          refine (meet_any u1 u2 v1 v2 _ d1 d2 d3 d4 d5 d6 d7 d8).mono ?_
          rintro e w3 ⟨rfl, hb3⟩
          have hown3 := own_grow hown (hb2.trans (hb3.mono hb2.size))
          have hS3 := (hS.grow hb2).grow hb3
          have hx3 : Below w.heap.size w w3 := hb.trans ((hb2.trans (hb3.mono hb2.size)).mono hb.size)
          have hsz3 := hx3.size
          have hlS3 := hS3.lt
          go_wp2_with (at_builtin; refine wpList_append_own _ rfl _ _ 46 rfl (w.heap.size + 1) 3 i0 (.int .i64 0) 1 8 Try.underlying46 hi hz0 hz1 hz2 rfl (by decide) _ _ _ rfl (hown3.alloc _) ⟨w3.heap.size, 0, none⟩ 1 1 [.int .i64 (meetS u1 u2 v1 v2)] rfl rfl ?c1 ?c2 ?c3 ?c4 ?c5 ?_)
          case c1 => intro j u hj; match j, hj with | 0, hj => (simp at hj; subst hj; simp [go_sem, Addr.add])
          case c2 => simp [Value.oneCell']
          case c3 => unfold maxLen; omega
          case c4 => omega
          case c5 => simp; omega
          intro v' w4 hown4 hg4 _
          have hS4 := (hS3.alloc (.cells #[.int .i64 (meetS u1 u2 v1 v2)] 3)).grown hg4 (fun k hk => by have := (hown3.lt k hk).1; omega)
          have hx4 : Below w.heap.size w w4 := (hx3.alloc hx3.size _).grown hg4 (by simp; omega) (fun k hk => by have := (hown3.lt k hk).1; omega)
          clear hown3 hown hS3 hS hb hb2 hb3 g0 g1 HC
          have HO := Lib.hid hown4
          clear hown4
          go_wp2_with fail
          refine ⟨⟨k + 1, by omega, by go_num, ?_, hS4, hx4⟩, by simp [intOf]; omega⟩
          rw [HTk.out, List.map_append, List.map_take]
          exact HO.out
        · have hin : ¬ (k : Int) < (n : Int) := by omega
          have hkn : k = n := by omega
          have HO := Lib.hid hown
          clear hown
          go_wp2_with fail
          go_ret
          refine ⟨_, rfl, ?_, hb⟩
          have h := HO.out
          rw [List.take_of_length_le (by omega)] at h
          rw [← hkn]
          exact h

end Go.Proofs.Ytpfeegmifcodfaa
