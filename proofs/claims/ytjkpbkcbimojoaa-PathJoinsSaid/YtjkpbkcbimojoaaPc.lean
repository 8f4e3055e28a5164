/- Contracts: path.Check and the reference's Check are one function of the verbs and the points. -/
import Derived.Test.YtjkpbkcbimojoaaPb
namespace Go.Proofs.Ytjkpbkcbimojoaa
open Go.RowKit

/-- The error of the verbs alone, behind the verb 'before'. -/
def checkV : Int → List Int → Int
  | _, [] => 0
  | before, v :: vs => if takesS v < 0 then 1 else if before = 5 ∧ v ≠ 1 then 70 else checkV v vs
def totalS (vs : List Int) : Int := (vs.map takesS).sum
def farP (q : Int × Int) : Bool := !nearC q.1 || !nearC q.2
def checkS (vs : List Int) (ps : List (Int × Int)) : Int :=
  if 512 < vs.length then 74 else if checkV 5 vs ≠ 0 then checkV 5 vs else if totalS vs ≠ ps.length then 71 else if ps.any farP then 72 else 0
/-- The verb ahead of place k. -/
def beforeAt (vs : List Int) (k : Nat) : Int := if k = 0 then 5 else vs.getD (k - 1) 0

theorem takesS_range (v : Int) : -1 ≤ takesS v ∧ takesS v ≤ 3 := by
  unfold takesS; repeat' split
  all_goals omega
theorem totalS_append (a b : List Int) : totalS (a ++ b) = totalS a + totalS b := by simp [totalS]
theorem totalS_snoc (a : List Int) (v : Int) : totalS (a ++ [v]) = totalS a + takesS v := by simp [totalS]
theorem totalS_range (l : List Int) : -(l.length : Int) ≤ totalS l ∧ totalS l ≤ 3 * l.length := by
  induction l with
  | nil => simp [totalS]
  | cons v l ih =>
    have := takesS_range v
    have e : totalS (v :: l) = takesS v + totalS l := by simp [totalS]
    rw [e]; simp only [List.length_cons]; omega
theorem beforeAt_succ (vs : List Int) (k : Nat) (h : k < vs.length) : beforeAt vs (k + 1) = vs[k] := by
  simp [beforeAt, List.getD, List.getElem?_eq_getElem h]

theorem checkV_arg {b v : Int} {vs : List Int} (h : takesS v < 0) : checkV b (v :: vs) = 1 := by simp [checkV, h]
theorem checkV_start {b v : Int} {vs : List Int} (h : 0 ≤ takesS v) (hb : b = 5) (hv : v ≠ 1) : checkV b (v :: vs) = 70 := by
  simp only [checkV]; rw [if_neg (by omega), if_pos ⟨hb, hv⟩]
theorem checkV_next {b v : Int} {vs : List Int} (h : 0 ≤ takesS v) (hb : b ≠ 5 ∨ v = 1) : checkV b (v :: vs) = checkV v vs := by
  simp only [checkV]; rw [if_neg (by omega), if_neg (by omega)]
theorem checkS_verb {vs : List Int} {ps : List (Int × Int)} {x : Int} (hn : ¬ 512 < vs.length) (h : checkV 5 vs = x) (hx : x ≠ 0) : checkS vs ps = x := by
  unfold checkS; rw [if_neg hn, if_pos (by rw [h]; exact hx), h]
theorem checkS_pts {vs : List Int} {ps : List (Int × Int)} (hn : ¬ 512 < vs.length) (h : checkV 5 vs = 0) : checkS vs ps = if totalS vs ≠ ps.length then 71 else if ps.any farP then 72 else 0 := by
  unfold checkS; rw [if_neg hn, if_neg (by rw [h]; simp)]

set_option maxHeartbeats 1000000 in
theorem check_any (a b : Option Addr) (n m c d : Nat) (vs : List Int) (ps : List (Int × Int)) (w : World)
    (hm : m ≤ 9223372036854775807 / 2) (hv : RInts w w.heap.size a n vs) (hp : RPts w w.heap.size b m ps) :
    Calls Try.prog 16 #[.agg #[.slice a n c, .slice b m d]] w fun e w' => e = .returned (.int .i64 (checkS vs ps)) ∧ Below w.heap.size w w' := by
  have hnl := hv.1
  have hml := hp.1
  have HV := Lib.hid hv
  have HP := Lib.hid hp
  clear hv hp
  by_cases h512 : 512 < n
  · go_enter Try.func16, Try.ntmps16
    go_wp2_with fail
    go_ret
    exact ⟨ret_int (by unfold checkS; rw [if_pos (by omega)]), (Below.refl _ _).alloc (Nat.le_refl _) _⟩
  · go_enter Try.func16, Try.ntmps16
    go_wp2_with fail
    go_loopw [3, 4, 18] (fun l f i wr => ∃ k : Nat, k ≤ n ∧ i = .int .i64 k ∧ f = .int .i64 (beforeAt vs k) ∧ l = .int .i64 (m - totalS (vs.take k)) ∧
        checkV 5 vs = checkV (beforeAt vs k) (vs.drop k) ∧ Below (w.heap.size + 1) (w.alloc (.cells #[.slice a n c, .slice b m d] 25)) wr) (fun _ _ i _ => n - (intOf i).toNat)
    case atStart => exact ⟨0, Nat.zero_le _, rfl, rfl, by simp [totalS], by simp [beforeAt], by simpa using Below.refl _ _⟩
    case round =>
      obtain ⟨k, hk, rfl, rfl, rfl, hcv, hb⟩ := hrel
      have Hcv := Lib.hid hcv
      have htr := totalS_range (vs.take k)
      have htl : (vs.take k).length ≤ 512 := by rw [List.length_take]; omega
      clear hcv
      have hsz := hb.size
      simp at hsz
      obtain ⟨hc, hf⟩ := bcell hb
      by_cases hlt : k < n
      · have hlk : k < vs.length := by omega
        obtain ⟨bb, off, ha, hbB, hc1⟩ := HV.out.2 k vs[k] (List.getElem?_eq_getElem hlk)
        subst ha
        generalize hvk : vs[k] = v at *
        have Hvk := Lib.hid hvk
        clear hvk
        have htv := takesS_range v
        have HD : Hid (vs.drop k = v :: vs.drop (k + 1)) := Lib.hid (by rw [← Hvk.out]; exact drop_cons vs k hlk)
        have HT : Hid (totalS (vs.take (k + 1)) = totalS (vs.take k) + takesS v) := Lib.hid (by rw [take_snoc vs k hlk, totalS_snoc, Hvk.out])
        have HB : Hid (beforeAt vs (k + 1) = v) := Lib.hid (by rw [beforeAt_succ vs k hlk, Hvk.out])
        have hres : ∀ W, Below wr.heap.size wr W → Below w.heap.size w W := fun W hW => ((Below.refl w.heap.size w).alloc (Nat.le_refl _) _).trans ((hb.mono (by omega)).trans (hW.mono (by omega)))
        have Hres := Lib.hid hres
        clear hres
        go_wp2_with (go_at_call 14; refine (takes_any _ _).mono ?_; rintro e w2 ⟨rfl, hb2⟩)
        · have h1 : takesS v < 0 := by assumption
          go_ret
          exact ⟨ret_int ((checkS_verb (by omega) (by rw [Hcv.out, HD.out, checkV_arg h1]) (by omega)).symm), Hres.out _ hb2⟩
        · have h1 : 0 ≤ takesS v := by assumption
          have h2 : beforeAt vs k = 5 := by assumption
          have h3 : (v != 1) = true := by assumption
          go_ret
          exact ⟨ret_int ((checkS_verb (by omega) (by rw [Hcv.out, HD.out, checkV_start h1 h2 (by simpa using h3)]) (by omega)).symm), Hres.out _ hb2⟩
        · have h1 : 0 ≤ takesS v := by assumption
          have h3 : (v != 1) = false := by assumption
          go_roundw
          case rel => exact ⟨k + 1, by omega, by go_num, by rw [HB.out], by rw [HT.out]; go_num, by rw [Hcv.out, HD.out, HB.out, checkV_next h1 (.inr (by simpa using h3))], hb.trans (hb2.mono (by omega))⟩
          case measure => simp [intOf]; omega
        · have h1 : 0 ≤ takesS v := by assumption
          have h3 : ¬ beforeAt vs k = 5 := by assumption
          go_roundw
          case rel => exact ⟨k + 1, by omega, by go_num, by rw [HB.out], by rw [HT.out]; go_num, by rw [Hcv.out, HD.out, HB.out, checkV_next h1 (.inl h3)], hb.trans (hb2.mono (by omega))⟩
          case measure => simp [intOf]; omega
      · have hkn : k = n := by omega
        subst hkn
        by_cases ht : totalS vs = m
        · have Ht : ((m : Int) - totalS (vs.take k) != 0) = false := by
            rw [List.take_of_length_le (by omega), ht]; simp
          have HC := Lib.hid (containsFunc_any (fun x y => farP (x, y)) #[] 33 b m d ps wr (by omega)
            ((HP.out.below ((Below.refl _ w).alloc (Nat.le_refl _) (.cells #[.slice a k c, .slice b m d] 25) |>.trans (hb.mono (by omega)))).more (by omega)) cf_far1 (fun x y W _ => far1_any x y W))
          go_wp2_with fail
          refine HC.out.mono ?_
          rintro e w2 ⟨rfl, hb2⟩
          have HE : Hid (checkS vs ps = if ps.any farP then 72 else 0) := Lib.hid (by rw [checkS_pts (by omega) (by rw [Hcv.out, List.drop_of_length_le (by omega)]; rfl), if_neg (by rw [ht, hml]; simp)])
          cases hany : ps.any farP
          · have Hany : (ps.any fun q => farP (q.1, q.2)) = false := hany
            go_wp2_with fail
            go_ret
            exact ⟨ret_int (by rw [HE.out, hany]; rfl), by simpa using ((Below.refl w.heap.size w).alloc (Nat.le_refl _) _).trans ((hb.mono (by omega)).trans (hb2.mono (by omega)))⟩
          · have Hany : (ps.any fun q => farP (q.1, q.2)) = true := hany
            go_wp2_with fail
            go_ret
            exact ⟨ret_int (by rw [HE.out, hany]; rfl), by simpa using ((Below.refl w.heap.size w).alloc (Nat.le_refl _) _).trans ((hb.mono (by omega)).trans (hb2.mono (by omega)))⟩
        · have Ht : ((m : Int) - totalS (vs.take k) != 0) = true := by
            rw [List.take_of_length_le (by omega)]; simp; omega
          have HE : Hid (checkS vs ps = 71) := Lib.hid (by rw [checkS_pts (by omega) (by rw [Hcv.out, List.drop_of_length_le (by omega)]; rfl), if_pos (by omega)])
          clear ht
          go_wp2_with fail
          go_ret
          exact ⟨ret_int HE.out.symm, ((Below.refl w.heap.size w).alloc (Nat.le_refl _) _).trans (hb.mono (by omega))⟩

end Go.Proofs.Ytjkpbkcbimojoaa
