/- Contract of path.Split. -/
import Derived.Test.YtjkpbkcbimojoaaPi
import Derived.Test.YtjkpbkcbimojoaaPd
namespace Go.Proofs.Ytjkpbkcbimojoaa
open Go.RowKit

theorem take_any (T B0 : Nat) (vsl : Value) (t : TakeS) (v : Int) (w : World) (hv : 0 ≤ takesS v) (hT : B0 ≤ T) (hi : TkInv w B0 T vsl t) (h0 : (takesS v).toNat ≤ t.rest.length) (hp : v ≠ 1 → 0 < t.subs.length) (hn : t.subs.length ≤ 1000) (hs : ∀ s ∈ t.subs, s.segs.length ≤ 1000) :
    Calls Try.prog 31 #[.pointer (some ⟨T, 0, none⟩), .int .i64 v] w fun e w' => e = .returned (.tuple #[]) ∧ TkInv w' B0 T vsl (takeS t v) ∧ Below B0 w w' := by
  rcases takesS_ok hv with rfl | rfl | rfl | rfl | rfl
  · exact take_move T B0 vsl t w hT hi h0 hn
  · exact take_line T B0 vsl t w hT hi h0 (hp (by omega)) hn hs
  · exact take_quad T B0 vsl t w hT hi h0 (hp (by omega)) hn hs
  · exact take_cubic T B0 vsl t w hT hi h0 (hp (by omega)) hn hs
  · exact take_close T B0 vsl t w hT hi (hp (by omega)) hn hs

/-- What a split hands back. -/
def SplitPost (w : World) (l : List SubS) (er : Int) (e : Ending) (w' : World) : Prop :=
  ∃ a c, e = .returned (.tuple #[.slice a l.length c, .int .i64 er]) ∧ l.length ≤ c ∧ RSubs w' w'.heap.size a l.length l ∧ Below w.heap.size w w'

theorem OwnT.read {w : World} {B0 : Nat} {tS tG : TypeId} {sv : Value} {subs : List SubS} (h : OwnT w B0 tS tG sv subs) : ∃ a c, sv = .slice a subs.length c ∧ subs.length ≤ c ∧ RSubs w w.heap.size a subs.length subs := by
  rcases h with ⟨rfl, rfl⟩ | ⟨front, last, fv, lv, B, rfl, hO⟩
  · exact ⟨none, 0, rfl, Nat.le_refl _, RSubs.nil _ _ _⟩
  · obtain ⟨a, c, rfl, hc, hr⟩ := hO.read
    exact ⟨a, c, by simp, by simpa using hc, by simpa using hr⟩

set_option maxHeartbeats 1000000 in
theorem split_any (a b : Option Addr) (n m c d : Nat) (vs : List Int) (ps : List (Int × Int)) (w : World) (hmd : m ≤ d) (hd : d ≤ maxLen)
    (hm : m ≤ 9223372036854775807 / 2) (hv : RInts w w.heap.size a n vs) (hp : RPts w w.heap.size b m ps) :
    Calls Try.prog 11 #[.agg #[.slice a n c, .slice b m d]] w (SplitPost w (splitS vs ps) (checkS vs ps)) := by
  have KC := Lib.hid (fun W (hW : Below w.heap.size w W) => check_any a b n m c d vs ps W hm (hv.grow hW) (hp.grow hW))
  by_cases h0 : checkS vs ps = 0
  · have HE : Hid (splitS vs ps = (stateS vs ps vs.length).subs) := Lib.hid (by unfold splitS; rw [if_pos h0])
    have H0 := Lib.hid h0
    obtain ⟨hv512, hcv, _, _⟩ := check_ok h0
    have hall := checkV_all hcv
    have HA := Lib.hid (ahead_ok h0)
    have HL := Lib.hid (state_last h0)
    have HC := Lib.hid (state_count vs ps hall)
    have HG := Lib.hid (state_segs vs ps hall)
    have hnl := hv.1
    have HV := Lib.hid hv
    have HP := Lib.hid hp
    clear h0 hcv hall hv hp
    go_enter Try.func11, Try.ntmps11
    go_wp2_with fail
    have kc := KC.out _ ((Below.refl _ w).alloc (Nat.le_refl _) (.cells #[.slice a n c, .slice b m d] 25))
    rw [H0.out] at kc
    refine kc.mono ?_
    rintro e w2 ⟨rfl, hb2⟩
    clear kc
    obtain ⟨hc2, hf2⟩ := bcell hb2
    have hz2 := hb2.size
    simp at hz2
    have l1 : w.heap.size < w2.heap.size := by omega
    go_wp2_with fail
    have hx0 : Below w.heap.size w (w2.alloc (.cells #[.slice a n c, .slice b m d, .slice none 0 0, .int .i64 0, .int .i64 0] 67)) :=
      (((Below.refl _ w).alloc (Nat.le_refl _) (.cells #[.slice a n c, .slice b m d] 25)).trans (hb2.mono (by simp))).alloc (by omega) _
    have hI0 : TkInv (w2.alloc (.cells #[.slice a n c, .slice b m d, .slice none 0 0, .int .i64 0, .int .i64 0] 67)) w.heap.size w2.heap.size (.slice a n c) (stateS vs ps 0) :=
      ⟨b, m, d, _, Blk.new w2 _ _, hmd, hd, HP.out.below hx0, .inl ⟨rfl, rfl⟩⟩
    have HX0 := Lib.hid hx0
    have HI0 := Lib.hid hI0
    clear hx0 hI0 hb2 hc2 hf2
    go_loopw [19] (fun i wr => ∃ k : Nat, k ≤ n ∧ i = .int .i64 k ∧ TkInv wr w.heap.size w2.heap.size (.slice a n c) (stateS vs ps k) ∧ Below w.heap.size w wr) (fun i _ => n - (intOf i).toNat)
    case atStart => exact ⟨0, Nat.zero_le _, rfl, HI0.out, HX0.out⟩
    case round =>
      obtain ⟨k, hk, rfl, hI, hb⟩ := hrel
      clear HI0 HX0
      by_cases hlt : k < n
      · have hlk : k < vs.length := by omega
        obtain ⟨bb, off, ha, hbB, hc1⟩ := HV.out.2 k vs[k] (List.getElem?_eq_getElem hlk)
        subst ha
        have hc1' : wr.cell? ⟨bb, off + k, none⟩ = some (.int .i64 vs[k]) := (hb.cell (p := ⟨bb, off + k, none⟩) hbB).trans hc1
        obtain ⟨a1, a2, a3, a4⟩ := HA.out k hlk
        have hc5 := HC.out k (by omega)
        have hg5 := HG.out k (by omega)
        have KT := Lib.hid (take_any w2.heap.size w.heap.size (.slice (some ⟨bb, off, none⟩) n c) (stateS vs ps k) vs[k] wr a1 (by omega) hI a3 (fun h1 => HL.out k (by rcases Nat.eq_zero_or_pos k with h | h; exact absurd (a2 h) h1; exact h) (by omega)) (by omega) (fun s hs => by have := hg5 s hs; omega))
        have HS : Hid (stateS vs ps (k + 1) = takeS (stateS vs ps k) vs[k]) := Lib.hid (stateS_succ vs ps k hlk)
        have HB := Lib.hid hb
        clear hI hb hc1 a1 a2 a3 a4 hc5 hg5
        generalize vs[k] = v at *
        go_wp2_with fail
        refine KT.out.mono ?_
        rintro e w3 ⟨rfl, hI, hb3⟩
        have HI := Lib.hid hI
        clear hI
        go_wp2_with fail
        exact ⟨⟨k + 1, by omega, by go_num, by rw [HS.out]; exact HI.out, HB.out.trans hb3⟩, by simp [intOf]; omega⟩
      · have hkn : k = vs.length := by omega
        obtain ⟨a3, n3, c3, sv, hB, -, -, -, hO⟩ := hI
        obtain ⟨a4, c4, rfl, hc4, hr⟩ := hO.read
        rw [hkn] at hr hc4 hB
        have HE2 := HE.out
        rw [← HE2] at hr hc4 hB
        have g2 : wr.cell? ⟨w2.heap.size, 2, none⟩ = some (.slice a4 (splitS vs ps).length c4) := hB.cell 2
        have hin : ¬ (k : Int) < n := by omega
        have HR := Lib.hid hr
        have HB := Lib.hid hb
        clear hr hb hkn hB hO HE2 hnl
        go_wp2_with fail
        go_ret2
        exact ⟨a4, c4, by rw [H0.out]; rfl, hc4, HR.out, HB.out⟩
  · have HE : Hid (splitS vs ps = []) := Lib.hid (by unfold splitS; rw [if_neg h0])
    have h1 : (checkS vs ps != 0) = true := by simpa using h0
    clear h0
    go_enter Try.func11, Try.ntmps11
    go_wp2_with fail
    refine (KC.out _ ((Below.refl _ w).alloc (Nat.le_refl _) (.cells #[.slice a n c, .slice b m d] 25))).mono ?_
    rintro e w2 ⟨rfl, hb2⟩
    go_wp2_with fail
    go_ret2
    exact ⟨none, 0, by rw [HE.out]; rfl, by rw [HE.out]; exact Nat.le_refl _, by rw [HE.out]; exact RSubs.nil _ _ _, ((Below.refl _ w).alloc (Nat.le_refl _) (.cells #[.slice a n c, .slice b m d] 25)).trans (hb2.mono (by simp))⟩
end Go.Proofs.Ytjkpbkcbimojoaa
