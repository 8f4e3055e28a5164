/- TangentChords: what goes from a corner comes to the next one; turns are as many as corners that have both. -/
import Derived.Test.YtpfeegmifcodfaaLawh
import Derived.Test.YtpfeegmifcodfaaOpenb
namespace Go.Proofs.Ytpfeegmifcodfaa
open Go.RowKit

theorem chord_next (closed : Bool) (l : List (Int × Int)) (k : Nat) (h : k + 1 < l.length) : cornerV closed l k = cornerU closed l (k + 1) := by
  unfold cornerV cornerU
  rw [if_pos (Or.inr h), if_pos (Or.inr (by omega)), if_neg (by omega), if_neg (by omega)]
  rfl
theorem chord_last (l : List (Int × Int)) (h : 0 < l.length) : cornerV true l (l.length - 1) = cornerU true l 0 := by
  unfold cornerV cornerU
  rw [if_pos (Or.inl rfl), if_pos (Or.inl rfl), if_pos (by omega), if_pos rfl]
theorem turns_count (closed : Bool) (l : List (Int × Int)) : (turnsS closed l).length = if closed then l.length else l.length - 2 := by
  unfold turnsS turnTo turnFrom
  cases closed <;> simp
  omega

/-- Corner's contract from any world that has grown. -/
theorem corner_from (closed : Bool) (a : Option Addr) (n c : Nat) (l : List (Int × Int)) (j : Nat) (w : World) (hn : n ≤ 1099511627776) (hl : RPts w w.heap.size a n l) (hb : ∀ p ∈ l, HalfP p) (hj : j < n) (W : World) (hW : Below w.heap.size w W) :
    Calls Try.prog 19 #[.agg #[.slice a n c, .bool closed], .int .i64 j] W
      fun e w' => e = .returned (.tuple #[.agg #[.int .i64 (cornerU closed l j).1, .int .i64 (cornerU closed l j).2], .agg #[.int .i64 (cornerV closed l j).1, .int .i64 (cornerV closed l j).2]]) ∧ Below W.heap.size W w' :=
  corner_in closed a n c l j W hn ((hl.below hW).more hW.size) hb hj

set_option maxRecDepth 100000 in
set_option maxHeartbeats 4000000 in
theorem chords_any (closed : Bool) (a : Option Addr) (n c : Nat) (l : List (Int × Int)) (w : World) (hn : n ≤ 9223372036854775807) (hl : RPts w w.heap.size a n l) :
    Calls Try.prog 7 #[.agg #[.slice a n c, .bool closed]] w fun e w' => e = .returned (.bool true) ∧ Below w.heap.size w w' := by
  have KB := Lib.hid (fun W (hW : Below w.heap.size w W) => lbounded_any closed a n c l W hn ((hl.below hW).more hW.size))
  have s1 := Blk.new w 36 #[.slice a n c, .bool closed]
  cases hh : halvesB l && decide (n ≤ 100)
  · have HH := Lib.hid hh
    clear hh s1 hl
    go_enter Try.func7, Try.ntmps7
    go_wp2_with fail
    refine (KB.out _ (by (repeat (first | exact Below.refl _ _ | assumption | refine Below.drew ?_ | refine Below.setCell ?_ (by simp; try omega) _ | refine Below.alloc ?_ (by simp; try omega) _)))).mono ?_
    rw [HH.out]
    rintro e w2 ⟨rfl, hb2⟩
    have hx2 : Below w.heap.size w w2 := Below.trans (by (repeat (first | exact Below.refl _ _ | assumption | refine Below.drew ?_ | refine Below.setCell ?_ (by simp; try omega) _ | refine Below.alloc ?_ (by simp; try omega) _))) (hb2.mono (by simp))
    go_wp2_with fail
    refine (shown_any _).mono ?_
    rintro e w3 ⟨rfl, hb3⟩
    go_wp2_with fail
    go_ret
    exact ⟨rfl, hx2.trans (hb3.mono hx2.size)⟩
  · rw [Bool.and_eq_true, decide_eq_true_eq] at hh
    obtain ⟨hv, h100⟩ := hh
    have HH : Hid ((halvesB l && decide (n ≤ 100)) = true) := Lib.hid (by rw [hv]; simp [h100])
    have hh := halves_half hv
    have hll := hl.1
    have KC := Lib.hid (fun j hj W hW => corner_from closed a n c l j w (by omega) hl hh hj W hW)
    have KT := Lib.hid (fun W (hW : Below w.heap.size w W) => turns_any closed a n c l W (by omega) ((hl.below hW).more hW.size) hh)
    have HN := Lib.hid (chord_next closed l)
    have HLL := Lib.hid hll
    clear hv hl hh hll
    go_enter Try.func7, Try.ntmps7
    go_wp2_with fail
    refine (KB.out _ (by (repeat (first | exact Below.refl _ _ | assumption | refine Below.drew ?_ | refine Below.setCell ?_ (by simp; try omega) _ | refine Below.alloc ?_ (by simp; try omega) _)))).mono ?_
    rw [HH.out]
    rintro e w2 ⟨rfl, hb2⟩
    have hx2 : Below w.heap.size w w2 := Below.trans (by (repeat (first | exact Below.refl _ _ | assumption | refine Below.drew ?_ | refine Below.setCell ?_ (by simp; try omega) _ | refine Below.alloc ?_ (by simp; try omega) _))) (hb2.mono (by simp))
    have s2 := s1.grow hb2
    clear hb2 s1
    go_wp2_with fail
    refine (shown_any _).mono ?_
    rintro e w3 ⟨rfl, hb3⟩
    have hx3 := hx2.trans (hb3.mono hx2.size)
    have s3 := s2.grow hb3
    clear s2 hx2 hb3
    have g0 : w3.cell? ⟨w.heap.size, 0, none⟩ = some (.slice a n c) := s3.cell 0
    go_wp2_with fail
    clear g0
    go_loopw [4] (fun i wr => ∃ k : Nat, k ≤ n ∧ i = .int .i64 k ∧ Blk wr w.heap.size 36 #[.slice a n c, .bool closed] ∧ Below w.heap.size w wr) (fun i _ => n - (intOf i).toNat)
    case atStart => exact ⟨0, Nat.zero_le _, rfl, s3, hx3⟩
    case round =>
      clear s3 hx3
      obtain ⟨k, hk, rfl, hS, hb⟩ := hrel
      have hlS := hS.lt
      have g0 : wr.cell? ⟨w.heap.size, 0, none⟩ = some (.slice a n c) := hS.cell 0
      have g1 : wr.cell? ⟨w.heap.size, 1, none⟩ = some (.bool closed) := hS.cell 1
      by_cases hlt : k + 1 < n
      · have hin : (k : Int) + 1 < n := by omega
        have k1 := KC.out k (by omega) wr hb
        have k2 := KC.out (k + 1) hlt
        rw [HN.out k (by rw [HLL.out]; exact hlt)] at k1
        rw [show ((k + 1 : Nat) : Int) = (k : Int) + 1 by omega] at k2
        generalize cornerU closed l (k + 1) = p at k1 k2
        generalize cornerU closed l k = q at k1
        generalize cornerV closed l (k + 1) = r at k2
        obtain ⟨p1, p2⟩ := p
        obtain ⟨q1, q2⟩ := q
        obtain ⟨r1, r2⟩ := r
        simp only at k1 k2
        have K1 := Lib.hid k1
        have K2 := Lib.hid k2
        clear k1 k2
        go_wp2_with fail
        refine K1.out.mono ?_
        rintro e w4 ⟨rfl, hb4⟩
        have hx4 := hb.trans (hb4.mono hb.size)
        have s4 := hS.grow hb4
        have hls4 := s4.lt
        have m0 : w.heap.size < w4.heap.size + 1 := by omega
        have hc4 := (bcell hb4).1
        go_wp2_with fail
        have hx5 := (hx4.alloc hx4.size (.cells #[.int .i64 q1, .int .i64 q2] 23)).alloc (by have := hx4.size; simp; omega) (.cells #[.int .i64 p1, .int .i64 p2] 23)
        refine (K2.out _ hx5).mono ?_
        rintro e w5 ⟨rfl, hb5⟩
        have hx6 := hx5.trans (hb5.mono hx5.size)
        have s6 := ((s4.alloc (.cells #[.int .i64 q1, .int .i64 q2] 23)).alloc (.cells #[.int .i64 p1, .int .i64 p2] 23)).grow hb5
        have hc5 := (bcell hb5).1
        have hz5 := hb5.size
        simp at hz5
        have m1 : w4.heap.size + 1 < w5.heap.size := by omega
        have m2 : w4.heap.size + 1 < w5.heap.size + 1 := by omega
        have m3 : w4.heap.size < w5.heap.size := by omega
        go_wp2_with fail
        refine ⟨⟨k + 1, by omega, by go_num, (s6.alloc _).alloc _, (hx6.alloc hx6.size _).alloc (by have := hx6.size; simp; omega) _⟩, by simp [intOf]; omega⟩
      · have hin : ¬ (k : Int) + 1 < n := by omega
        cases closed
        · rcases (by omega : n = 0 ∨ n = 1 ∨ n = 2 ∨ 2 < n) with rfl | rfl | rfl | h2
          · go_wp2_with fail
            have hcnt : (turnsS false l).length = 0 := by rw [turns_count, HLL.out]; rfl
            have kt := KT.out _ hb
            rw [hcnt] at kt
            have KT2 := Lib.hid kt
            clear kt hcnt
            refine KT2.out.mono ?_
            rintro e w9 ⟨v, rfl, hown, hb9⟩
            obtain ⟨a9, c9, rfl, _⟩ := own_slice hown
            clear hown
            go_wp2_with fail
            go_ret
            exact ⟨rfl, Below.trans hb (hb9.mono (Below.size hb))⟩
          · go_wp2_with fail
            have hcnt : (turnsS false l).length = 0 := by rw [turns_count, HLL.out]; rfl
            have kt := KT.out _ hb
            rw [hcnt] at kt
            have KT2 := Lib.hid kt
            clear kt hcnt
            refine KT2.out.mono ?_
            rintro e w9 ⟨v, rfl, hown, hb9⟩
            obtain ⟨a9, c9, rfl, _⟩ := own_slice hown
            clear hown
            go_wp2_with fail
            go_ret
            exact ⟨rfl, Below.trans hb (hb9.mono (Below.size hb))⟩
          · go_wp2_with fail
            have hcnt : (turnsS false l).length = 0 := by rw [turns_count, HLL.out]; rfl
            have kt := KT.out _ hb
            rw [hcnt] at kt
            have KT2 := Lib.hid kt
            clear kt hcnt
            refine KT2.out.mono ?_
            rintro e w9 ⟨v, rfl, hown, hb9⟩
            obtain ⟨a9, c9, rfl, _⟩ := own_slice hown
            clear hown
            go_wp2_with fail
            go_ret
            exact ⟨rfl, Below.trans hb (hb9.mono (Below.size hb))⟩
          · go_wp2_with fail
            have hcnt : (turnsS false l).length = n - 2 := by rw [turns_count, HLL.out]; rfl
            have kt := KT.out _ hb
            rw [hcnt] at kt
            have KT2 := Lib.hid kt
            clear kt hcnt
            have e9 : (((n - 2 : Nat) : Int) == (n : Int) - 2) = true := by rw [beq_iff_eq]; omega
            refine KT2.out.mono ?_
            rintro e w9 ⟨v, rfl, hown, hb9⟩
            obtain ⟨a9, c9, rfl, _⟩ := own_slice hown
            clear hown
            go_wp2_with fail
            go_ret
            exact ⟨rfl, Below.trans hb (hb9.mono (Below.size hb))⟩
        · rcases (by omega : n = 0 ∨ 0 < n) with rfl | h0
          · go_wp2_with fail
            have hcnt : (turnsS true l).length = 0 := by rw [turns_count, HLL.out]; rfl
            have kt := KT.out _ hb
            rw [hcnt] at kt
            have KT2 := Lib.hid kt
            clear kt hcnt
            refine KT2.out.mono ?_
            rintro e w9 ⟨v, rfl, hown, hb9⟩
            obtain ⟨a9, c9, rfl, _⟩ := own_slice hown
            clear hown
            go_wp2_with fail
            go_ret
            exact ⟨rfl, Below.trans hb (hb9.mono (Below.size hb))⟩
          · have hn0 : (0 : Int) < n := by omega
            have k1 := KC.out (n - 1) (by omega) wr hb
            have k2 := KC.out 0 h0
            have hlast := chord_last l (by rw [HLL.out]; exact h0)
            rw [HLL.out] at hlast
            rw [hlast, show ((n - 1 : Nat) : Int) = (n : Int) - 1 by omega] at k1
            rw [show ((0 : Nat) : Int) = 0 from rfl] at k2
            clear hlast
            generalize cornerU true l 0 = p at k1 k2
            generalize cornerU true l (n - 1) = q at k1
            generalize cornerV true l 0 = r at k2
            obtain ⟨p1, p2⟩ := p
            obtain ⟨q1, q2⟩ := q
            obtain ⟨r1, r2⟩ := r
            simp only at k1 k2
            have K1 := Lib.hid k1
            have K2 := Lib.hid k2
            clear k1 k2
            go_wp2_with fail
            refine K1.out.mono ?_
            rintro e w4 ⟨rfl, hb4⟩
            have hx4 := hb.trans (hb4.mono hb.size)
            have s4 := hS.grow hb4
            have hls4 := s4.lt
            have m0 : w.heap.size < w4.heap.size + 1 := by omega
            have hc4 := (bcell hb4).1
            go_wp2_with fail
            have hx5 := (hx4.alloc hx4.size (.cells #[.int .i64 q1, .int .i64 q2] 23)).alloc (by have := hx4.size; simp; omega) (.cells #[.int .i64 p1, .int .i64 p2] 23)
            refine (K2.out _ hx5).mono ?_
            rintro e w5 ⟨rfl, hb5⟩
            have hx6 := hx5.trans (hb5.mono hx5.size)
            have s6 := ((s4.alloc (.cells #[.int .i64 q1, .int .i64 q2] 23)).alloc (.cells #[.int .i64 p1, .int .i64 p2] 23)).grow hb5
            have hc5 := (bcell hb5).1
            have hz5 := hb5.size
            simp at hz5
            have m1 : w4.heap.size + 1 < w5.heap.size := by omega
            have m2 : w4.heap.size + 1 < w5.heap.size + 1 := by omega
            have m3 : w4.heap.size < w5.heap.size := by omega
            have m4 : w.heap.size < w5.heap.size := by omega
            have m5 : w.heap.size < w5.heap.size + 1 := by omega
            have m6 : w.heap.size < w4.heap.size := hls4
            have hx7 := (hx6.alloc hx6.size (.cells #[.int .i64 p1, .int .i64 p2] 23)).alloc (by have := hx6.size; simp; omega) (.cells #[.int .i64 r1, .int .i64 r2] 23)
            go_wp2_with fail
            have hcnt : (turnsS true l).length = n := by rw [turns_count, HLL.out]; rfl
            have kt := KT.out _ hx7
            rw [hcnt] at kt
            have KT2 := Lib.hid kt
            clear kt hcnt
            refine KT2.out.mono ?_
            rintro e w9 ⟨v, rfl, hown, hb9⟩
            obtain ⟨a9, c9, rfl, _⟩ := own_slice hown
            clear hown
            go_wp2_with fail
            go_ret
            exact ⟨rfl, Below.trans hx7 (hb9.mono (Below.size hx7))⟩

namespace chords
open Go.ChangeShapes Go.WideShapes Go.ChangeAt

theorem contract {H : Type} (enc : TypeId × Value → H) (W : World) (base : Nat) (args : Array Value) (ds : List (DataW H)) (ps : List MemPlace)
    (hval : ∀ (j : Nat) t v, Try.f7.params[j]? = some t → args[j]? = some v → Value.okWide Try.checked.prog W .any base t v)
    (hA : DataW.TrodAll enc Try.checked.prog W 0 (fun _ => true) true Try.f7.params.toList args.toList ds ps) (hlt : ∀ x ∈ ps, x.block < W.heap.size) :
    Calls Try.checked.prog 7 args W fun e W' => e = .returned (.bool true) ∧ Below W.heap.size W W' := by
  rw [Try.params7] at hA hval
  obtain ⟨v0, vs0, d0, ds0, p0, q0, ea, rfl, rfl, h0, hA⟩ := trodAll_cons hA
  obtain ⟨rfl, rfl, rfl⟩ := trodAll_nil hA
  obtain rfl : args = #[v0] := by cases args; simp_all
  have _ := hlt
  obtain ⟨a, n, c, l, closed, rfl, hnc, hcm, hl⟩ := open_chain (hval 0 _ _ rfl rfl) h0
  exact chords_any closed a n c l W (by unfold maxLen at hcm; omega) hl

set_option maxRecDepth 100000 in
theorem lifted (os : Os) (started : os.Started) (H : Type) (enc : TypeId × Value → H) :
    ReturnsInHanded {} Try.checked os 7 .any (Rows.tangentChordsSpec.pre6 enc Try.prog Try.f7 [] false) (Rows.tangentChordsSpec.post enc Try.prog Try.f7 false true false false) :=
  law_lift (bT := 4) started (by kernel_rfl) Try.func7 rfl (by kernel_rfl) (by kernel_rfl) (by kernel_rfl) (fun ds h => by match ds, h with | [_], _ => rfl)
    (ChangeSpec.witness6 (enc := enc) (C := Try.checked) false ⟨#[], #[.agg #[.slice none 0 0, .bool false]], []⟩ 8 (by kernel_rfl) (by kernel_rfl) (by kernel_rfl) (by kernel_rfl))
    (fun W base args ds ps hval hA hlt => contract enc W base args ds ps hval hA hlt)

theorem holds : Rows.TangentChordsSaid :=
  OpenClaim.holds_of_wide 7 Try.f7 rfl rfl rfl rfl rfl rfl rfl ⟨rfl, rfl, rfl, rfl, rfl⟩ rfl rfl rfl rfl rfl (by kernel_rfl) Try.func7 (by kernel_rfl)
    (of_decide_eq_true (by kernel_rfl)) (by unfold Func.isWrapper; first | (rw [if_pos (by decide +kernel)]; kernel_rfl) | (rw [if_neg (by decide +kernel)]; exact ⟨rfl, rfl⟩))
    (fun os started H enc _ => lifted os started H enc)
end chords
end Go.Proofs.Ytpfeegmifcodfaa
