/- PathShifts: the subpaths of a path that is shifted are shifted subpaths. -/
import Derived.Test.YtjkpbkcbimojoaaQe
import Derived.Test.YtjkpbkcbimojoaaPy
import Derived.Test.YtjkpbkcbimojoaaPn
import Derived.Test.YtjkpbkcbimojoaaPj
import Derived.Test.YtjkpbkcbimojoaaPl
import Derived.Test.YtjkpbkcbimojoaaOpenc
namespace Go.Proofs.Ytjkpbkcbimojoaa
open Go.RowKit

set_option maxRecDepth 100000 in
set_option maxHeartbeats 4000000 in
theorem lshifts_out (a b : Option Addr) (n m c d : Nat) (bx by_ : Int) (vs : List Int) (ps : List (Int × Int)) (w : World) (hn : n ≤ 9223372036854775807)
    (hm : m ≤ 9223372036854775807) (hv : RInts w w.heap.size a n vs) (hp : RPts w w.heap.size b m ps) (ho : (decide (n ≤ 520) && decide (m ≤ 1600)) = false ∨ nearQ bx by_ = false ∨ (m ≤ 1600 ∧ checkS vs ps ≠ 0)) :
    Calls Try.prog 7 #[.agg #[.slice a n c, .slice b m d], .agg #[.int .i64 bx, .int .i64 by_]] w fun e w' => e = .returned (.bool true) ∧ Below w.heap.size w w' := by
  have KB := Lib.hid (fun W => bounded_any a b n m c d W hn hm)
  have KN := Lib.hid (fun W => rnear_any bx by_ W)
  cases hbd : decide (n ≤ 520) && decide (m ≤ 1600)
  · rw [hbd] at KB
    go_enter Try.func7, Try.ntmps7
    go_wp2_with (first | (go_at_call 9; refine (calls_from (by first | assumption | exact Below.refl _ _) (KB.out _)).mono ?_; rintro e w2 ⟨rfl, hb2⟩; have hc2 := (bcell hb2).1; have hf2 := (bcell hb2).2) | (go_at_call 10; refine (calls_from (by first | assumption | exact Below.refl _ _) (shown_any _)).mono ?_; rintro e w2 ⟨rfl, hb2⟩; have hc2 := (bcell hb2).1; have hf2 := (bcell hb2).2))
    go_ret
    exact ⟨rfl, by (first | ((repeat (first | exact Below.refl _ _ | assumption | refine Below.drew ?_ | refine Below.setCell ?_ (by simp; try omega) _ | refine Below.alloc ?_ (by simp; try omega) _)); done) | exact Below.trans (by (repeat (first | exact Below.refl _ _ | assumption | refine Below.drew ?_ | refine Below.setCell ?_ (by simp; try omega) _ | refine Below.alloc ?_ (by simp; try omega) _))) (hb2.mono (by simp; try omega)))⟩
  rw [hbd] at KB ho
  cases hnr : nearQ bx by_
  · rw [hnr] at KN
    go_enter Try.func7, Try.ntmps7
    go_wp2_with (first | (go_at_call 9; refine (calls_from (by first | assumption | exact Below.refl _ _) (KB.out _)).mono ?_; rintro e w2 ⟨rfl, hb2⟩; have hc2 := (bcell hb2).1; have hf2 := (bcell hb2).2) | (go_at_call 22; refine (calls_from (by first | assumption | exact Below.refl _ _) (KN.out _)).mono ?_; rintro e w2 ⟨rfl, hb2⟩; have hc2 := (bcell hb2).1; have hf2 := (bcell hb2).2) | (go_at_call 10; refine (calls_from (by first | assumption | exact Below.refl _ _) (shown_any _)).mono ?_; rintro e w2 ⟨rfl, hb2⟩; have hc2 := (bcell hb2).1; have hf2 := (bcell hb2).2))
    go_ret
    exact ⟨rfl, by (first | ((repeat (first | exact Below.refl _ _ | assumption | refine Below.drew ?_ | refine Below.setCell ?_ (by simp; try omega) _ | refine Below.alloc ?_ (by simp; try omega) _)); done) | exact Below.trans (by (repeat (first | exact Below.refl _ _ | assumption | refine Below.drew ?_ | refine Below.setCell ?_ (by simp; try omega) _ | refine Below.alloc ?_ (by simp; try omega) _))) (hb2.mono (by simp; try omega)))⟩
  rw [hnr] at KN ho
  obtain ⟨hm2, he⟩ : m ≤ 1600 ∧ checkS vs ps ≠ 0 := by rcases ho with h | h | h; cases h; cases h; exact h
  have KC := Lib.hid (fun W (hW : Below w.heap.size w W) => check_any a b n m c d vs ps W (by omega) (hv.grow hW) (hp.grow hW))
  have he2 : (checkS vs ps == 0) = false := by simpa using he
  generalize checkS vs ps = er at *
  clear hv hp ho
  have s1 := (Blk.new w 25 #[.slice a n c, .slice b m d]).alloc (.cells #[.int .i64 bx, .int .i64 by_] 44)
  have s2 := Blk.new (w.alloc (.cells #[.slice a n c, .slice b m d] 25)) 44 #[.int .i64 bx, .int .i64 by_]
  simp only [World.size_alloc] at s2
  have hx0 : Below w.heap.size w ((w.alloc (.cells #[.slice a n c, .slice b m d] 25)).alloc (.cells #[.int .i64 bx, .int .i64 by_] 44)) := by (repeat (first | exact Below.refl _ _ | assumption | refine Below.drew ?_ | refine Below.setCell ?_ (by simp; try omega) _ | refine Below.alloc ?_ (by simp; try omega) _))
  go_enter Try.func7, Try.ntmps7
  go_wp2_with fail
  refine (KB.out _).mono ?_
  rintro e w2 ⟨rfl, hb2⟩
  have hx2 := hx0.trans (hb2.mono hx0.size)
  replace s1 := s1.grow hb2
  replace s2 := s2.grow hb2
  clear hb2
  have l1 := s1.lt
  have l2 := s2.lt
  have g0 : w2.cell? ⟨w.heap.size, 0, none⟩ = some (.slice a n c) := s1.cell 0
  have g1 : w2.cell? ⟨w.heap.size, 1, none⟩ = some (.slice b m d) := s1.cell 1
  have g2 : w2.cell? ⟨w.heap.size + 1, 0, none⟩ = some (.int .i64 bx) := s2.cell 0
  have g3 : w2.cell? ⟨w.heap.size + 1, 1, none⟩ = some (.int .i64 by_) := s2.cell 1
  go_wp2_with fail
  refine (KN.out _).mono ?_
  rintro e w3 ⟨rfl, hb2⟩
  have hx3 := hx2.trans (hb2.mono hx2.size)
  replace s1 := s1.grow hb2
  replace s2 := s2.grow hb2
  clear hb2 hx2 l1 l2 g0 g1 g2 g3
  have l1 := s1.lt
  have l2 := s2.lt
  have g0 : w3.cell? ⟨w.heap.size, 0, none⟩ = some (.slice a n c) := s1.cell 0
  have g1 : w3.cell? ⟨w.heap.size, 1, none⟩ = some (.slice b m d) := s1.cell 1
  have g2 : w3.cell? ⟨w.heap.size + 1, 0, none⟩ = some (.int .i64 bx) := s2.cell 0
  have g3 : w3.cell? ⟨w.heap.size + 1, 1, none⟩ = some (.int .i64 by_) := s2.cell 1
  go_wp2_with fail
  refine (KC.out _ hx3).mono ?_
  rintro e w4 ⟨rfl, hb2⟩
  have hx4 := hx3.trans (hb2.mono hx3.size)
  replace s1 := s1.grow hb2
  replace s2 := s2.grow hb2
  clear hb2 hx3 l1 l2 g0 g1 g2 g3
  have l1 := s1.lt
  have l2 := s2.lt
  have g0 : w4.cell? ⟨w.heap.size, 0, none⟩ = some (.slice a n c) := s1.cell 0
  have g1 : w4.cell? ⟨w.heap.size, 1, none⟩ = some (.slice b m d) := s1.cell 1
  have g2 : w4.cell? ⟨w.heap.size + 1, 0, none⟩ = some (.int .i64 bx) := s2.cell 0
  have g3 : w4.cell? ⟨w.heap.size + 1, 1, none⟩ = some (.int .i64 by_) := s2.cell 1
  go_wp2_with fail
  refine (shown_any _).mono ?_
  rintro e w5 ⟨rfl, hb2⟩
  have hx5 := hx4.trans (hb2.mono hx4.size)
  replace s1 := s1.grow hb2
  replace s2 := s2.grow hb2
  clear hb2 hx4 l1 l2 g0 g1 g2 g3
  go_wp2_with fail
  go_ret
  exact ⟨rfl, hx5⟩

theorem end_in {g : SegS} (h2 : 2 ≤ g.n) (h4 : g.n ≤ 4) : endS g ∈ segPs g := by
  unfold endS segPs
  rcases (by omega : g.n = 2 ∨ g.n = 3 ∨ g.n = 4) with h | h | h <;> simp [h]
theorem end_near {s : SubS} (hg : GoodSub s) (ho : okS s) (k : Nat) (hk : k ≤ s.segs.length) : farP (endP s.start (s.segs.take k)) = false := by
  cases k with
  | zero => exact ho.1
  | succ k =>
    have hk2 : k < s.segs.length := by omega
    rw [end_take _ _ _ hk2]
    obtain ⟨h2, h4, _⟩ := chain_at s.segs s.start hg.1 k hk2
    exact ho.2 _ (List.getElem_mem hk2) _ (end_in h2 h4)
/-- All points of a segment that count are near. -/
theorem seg_near {s : SubS} (hg : GoodSub s) (ho : okS s) (k : Nat) (hk : k < s.segs.length) (j : Nat) (hj : (j : Int) < s.segs[k].n) : farP (ptS s.segs[k] j) = false := by
  obtain ⟨h2, h4, h0⟩ := chain_at s.segs s.start hg.1 k hk
  have hs := ho.2 _ (List.getElem_mem hk)
  have he := end_near hg ho k (by omega)
  rw [← h0] at he
  generalize s.segs[k] = g at *
  cases j with
  | zero => exact he
  | succ j =>
    refine hs _ ?_
    unfold segPs
    rcases (by omega : g.n = 2 ∨ g.n = 3 ∨ g.n = 4) with h | h | h
    · obtain rfl : j = 0 := by omega
      simp [h, ptS]
    · rcases (by omega : j = 0 ∨ j = 1) with rfl | rfl <;> simp [h, ptS]
    · rcases (by omega : j = 0 ∨ j = 1 ∨ j = 2) with rfl | rfl | rfl <;> simp [h, ptS]
theorem far_le {q : Int × Int} (h : farP q = false) : -268435456 ≤ q.1 ∧ q.1 ≤ 268435456 ∧ -268435456 ≤ q.2 ∧ q.2 ≤ 268435456 := by
  simp only [farP, nearC, Bool.or_eq_false_iff, Bool.not_eq_false', Bool.and_eq_true, decide_eq_true_eq] at h
  omega
theorem ptS_sh (b : Int × Int) (g : SegS) (h4 : g.n ≤ 4) (j : Nat) (hj : (j : Int) < g.n) : ptS (shG b g) j = shP b (ptS g j) := by
  rcases (by omega : j = 0 ∨ j = 1 ∨ j = 2 ∨ j = 3) with rfl | rfl | rfl | rfl
  · rfl
  · rfl
  · simp only [ptS, shG]; rw [if_pos (by omega)]
  · simp only [ptS, shG]; rw [if_pos (by omega)]
theorem RSubs.sh_at {w : World} {B n : Nat} {a : Option Addr} {l : List SubS} {b : Int × Int} (h : RSubs w B a n (l.map (shS b))) (k : Nat) (hk : k < l.length) :
    ∃ c off sa sc, a = some ⟨c, off, none⟩ ∧ c < B ∧ w.cell? ⟨c, off + k * 4, none⟩ = some (.int .i64 (l[k].start.1 + b.1)) ∧ w.cell? ⟨c, off + k * 4 + 1, none⟩ = some (.int .i64 (l[k].start.2 + b.2)) ∧
    w.cell? ⟨c, off + k * 4 + 2, none⟩ = some (.slice sa l[k].segs.length sc) ∧ w.cell? ⟨c, off + k * 4 + 3, none⟩ = some (.bool l[k].closed) ∧ l[k].segs.length ≤ sc ∧ RSegs w B sa l[k].segs.length (l[k].segs.map (shG b)) := by
  have hr := h.at_ k (by rw [List.length_map]; exact hk)
  simp only [List.getElem_map, shS, shP, List.length_map] at hr
  exact hr
/-- The cells of one segment. -/
theorem seg_cells {w : World} {g : Nat} {t : TypeId} {s : SegS} (h : Blk w g t (segA s)) (j : Nat) (hj : j < 4) : w.cell? ⟨g, j * 2, none⟩ = some (.int .i64 (ptS s j).1) ∧ w.cell? ⟨g, j * 2 + 1, none⟩ = some (.int .i64 (ptS s j).2) := by
  rcases (by omega : j = 0 ∨ j = 1 ∨ j = 2 ∨ j = 3) with rfl | rfl | rfl | rfl
  · exact ⟨h.cell 0, h.cell 1⟩
  · exact ⟨h.cell 2, h.cell 3⟩
  · exact ⟨h.cell 4, h.cell 5⟩
  · exact ⟨h.cell 6, h.cell 7⟩

set_option maxRecDepth 100000 in
set_option maxHeartbeats 4000000 in
theorem lshifts_any (a b : Option Addr) (n m c d : Nat) (bx by_ : Int) (vs : List Int) (ps : List (Int × Int)) (w : World) (hmd : m ≤ d) (hd : d ≤ maxLen) (hn : n ≤ 9223372036854775807)
    (hm : m ≤ 9223372036854775807) (ha : a = none → n = 0 ∧ c = 0) (hb : b = none → m = 0 ∧ d = 0) (hv : RInts w w.heap.size a n vs) (hp : RPts w w.heap.size b m ps) :
    Calls Try.prog 7 #[.agg #[.slice a n c, .slice b m d], .agg #[.int .i64 bx, .int .i64 by_]] w fun e w' => e = .returned (.bool true) ∧ Below w.heap.size w w' := by
  by_cases hbd : (decide (n ≤ 520) && decide (m ≤ 1600)) = false
  · exact lshifts_out a b n m c d bx by_ vs ps w hn hm hv hp (.inl hbd)
  by_cases hnr : nearQ bx by_ = false
  · exact lshifts_out a b n m c d bx by_ vs ps w hn hm hv hp (.inr (.inl hnr))
  simp only [Bool.not_eq_false] at hbd hnr
  have hbd2 := hbd
  simp only [Bool.and_eq_true, decide_eq_true_eq] at hbd2
  obtain ⟨hn5, hm6⟩ := hbd2
  by_cases h0 : checkS vs ps = 0
  case neg => exact lshifts_out a b n m c d bx by_ vs ps w hn hm hv hp (.inr (.inr ⟨hm6, h0⟩))
  have KB := Lib.hid (fun W => bounded_any a b n m c d W hn hm)
  have KN := Lib.hid (fun W => rnear_any bx by_ W)
  rw [hbd] at KB
  rw [hnr] at KN
  have hnq : -1073741824 ≤ bx ∧ bx ≤ 1073741824 ∧ -1073741824 ≤ by_ ∧ by_ ≤ 1073741824 := by
    simp only [nearQ, Bool.and_eq_true, decide_eq_true_eq] at hnr
    omega
  obtain ⟨b1, b2, b3, b4⟩ := hnq
  obtain ⟨-, -, -, hfar⟩ := check_ok h0
  have KC := Lib.hid (fun W (hW : Below w.heap.size w W) => check_any a b n m c d vs ps W (by omega) (hv.grow hW) (hp.grow hW))
  have KS := Lib.hid (fun W (hW : Below w.heap.size w W) => split_any a b n m c d vs ps W hmd hd (by omega) (hv.grow hW) (hp.grow hW))
  have KH := Lib.hid (fun W (hW : Below w.heap.size w W) => pshift_any a b n m c d bx by_ vs ps W (by omega) (by omega) ha hb b1 b2 b3 b4 (fun q hq => by have := far_le (by simpa using List.any_eq_false.1 hfar q hq : farP q = false); omega) (hv.grow hW) (hp.grow hW))
  rw [h0] at KC KS
  obtain ⟨hsl, hsg⟩ := split_small vs ps
  have HSG := Lib.hid hsg
  have HGO := Lib.hid (split_good vs ps)
  have HOK := Lib.hid (split_ok vs ps)
  have HE := Lib.hid (split_shift (vs := vs) (ps := ps) (bx, by_) h0)
  have hpl := hp.1
  have HPL : Hid (ps.length ≤ 1600) := Lib.hid (by omega)
  generalize splitS vs ps = sl at *
  clear hv hp hsg hfar h0 hbd hnr hb ha hpl
  have s1 := (Blk.new w 25 #[.slice a n c, .slice b m d]).alloc (.cells #[.int .i64 bx, .int .i64 by_] 44)
  have s2 := Blk.new (w.alloc (.cells #[.slice a n c, .slice b m d] 25)) 44 #[.int .i64 bx, .int .i64 by_]
  simp only [World.size_alloc] at s2
  have hx0 : Below w.heap.size w ((w.alloc (.cells #[.slice a n c, .slice b m d] 25)).alloc (.cells #[.int .i64 bx, .int .i64 by_] 44)) := by (repeat (first | exact Below.refl _ _ | assumption | refine Below.drew ?_ | refine Below.setCell ?_ (by simp; try omega) _ | refine Below.alloc ?_ (by simp; try omega) _))
  go_enter Try.func7, Try.ntmps7
  go_wp2_with fail
  refine (KB.out _).mono ?_
  rintro e w2 ⟨rfl, hb2⟩
  have hx2 := hx0.trans (hb2.mono hx0.size)
  replace s1 := s1.grow hb2
  replace s2 := s2.grow hb2
  clear hb2
  have l1 := s1.lt
  have l2 := s2.lt
  have g0 : w2.cell? ⟨w.heap.size, 0, none⟩ = some (.slice a n c) := s1.cell 0
  have g1 : w2.cell? ⟨w.heap.size, 1, none⟩ = some (.slice b m d) := s1.cell 1
  have g2 : w2.cell? ⟨w.heap.size + 1, 0, none⟩ = some (.int .i64 bx) := s2.cell 0
  have g3 : w2.cell? ⟨w.heap.size + 1, 1, none⟩ = some (.int .i64 by_) := s2.cell 1
  go_wp2_with fail
  refine (KN.out _).mono ?_
  rintro e w3 ⟨rfl, hb2⟩
  have hx3 := hx2.trans (hb2.mono hx2.size)
  replace s1 := s1.grow hb2
  replace s2 := s2.grow hb2
  clear hb2 hx2 l1 l2 g0 g1 g2 g3
  have l1 := s1.lt
  have l2 := s2.lt
  have g0 : w3.cell? ⟨w.heap.size, 0, none⟩ = some (.slice a n c) := s1.cell 0
  have g1 : w3.cell? ⟨w.heap.size, 1, none⟩ = some (.slice b m d) := s1.cell 1
  have g2 : w3.cell? ⟨w.heap.size + 1, 0, none⟩ = some (.int .i64 bx) := s2.cell 0
  have g3 : w3.cell? ⟨w.heap.size + 1, 1, none⟩ = some (.int .i64 by_) := s2.cell 1
  go_wp2_with fail
  refine (KC.out _ hx3).mono ?_
  rintro e w4 ⟨rfl, hb2⟩
  have hx4 := hx3.trans (hb2.mono hx3.size)
  replace s1 := s1.grow hb2
  replace s2 := s2.grow hb2
  clear hb2 hx3 l1 l2 g0 g1 g2 g3
  have l1 := s1.lt
  have l2 := s2.lt
  have g0 : w4.cell? ⟨w.heap.size, 0, none⟩ = some (.slice a n c) := s1.cell 0
  have g1 : w4.cell? ⟨w.heap.size, 1, none⟩ = some (.slice b m d) := s1.cell 1
  have g2 : w4.cell? ⟨w.heap.size + 1, 0, none⟩ = some (.int .i64 bx) := s2.cell 0
  have g3 : w4.cell? ⟨w.heap.size + 1, 1, none⟩ = some (.int .i64 by_) := s2.cell 1
  go_wp2_with fail
  refine (shown_any _).mono ?_
  rintro e w5 ⟨rfl, hb2⟩
  have hx5 := hx4.trans (hb2.mono hx4.size)
  replace s1 := s1.grow hb2
  replace s2 := s2.grow hb2
  clear hb2 hx4 l1 l2 g0 g1 g2 g3
  have l1 := s1.lt
  have l2 := s2.lt
  have g0 : w5.cell? ⟨w.heap.size, 0, none⟩ = some (.slice a n c) := s1.cell 0
  have g1 : w5.cell? ⟨w.heap.size, 1, none⟩ = some (.slice b m d) := s1.cell 1
  have g2 : w5.cell? ⟨w.heap.size + 1, 0, none⟩ = some (.int .i64 bx) := s2.cell 0
  have g3 : w5.cell? ⟨w.heap.size + 1, 1, none⟩ = some (.int .i64 by_) := s2.cell 1
  go_wp2_with fail
  refine (KS.out _ hx5).mono ?_
  rintro e w6 ⟨la, lc, rfl, hlc, hr, hb2⟩
  have hx6 := hx5.trans (hb2.mono hx5.size)
  replace s1 := s1.grow hb2
  replace s2 := s2.grow hb2
  clear hb2 hx5 l1 l2 g0 g1 g2 g3
  have HL := Lib.hid hr
  clear hr
  have l1 := s1.lt
  have l2 := s2.lt
  have g0 : w6.cell? ⟨w.heap.size, 0, none⟩ = some (.slice a n c) := s1.cell 0
  have g1 : w6.cell? ⟨w.heap.size, 1, none⟩ = some (.slice b m d) := s1.cell 1
  have g2 : w6.cell? ⟨w.heap.size + 1, 0, none⟩ = some (.int .i64 bx) := s2.cell 0
  have g3 : w6.cell? ⟨w.heap.size + 1, 1, none⟩ = some (.int .i64 by_) := s2.cell 1
  go_wp2_with fail
  refine (KH.out _ hx6).mono ?_
  rintro e w7 ⟨qa, qc, qb, qd, rfl, hqc, hqd, hqm, hqv, hqp, hb2⟩
  have HL7 := Lib.hid (HL.out.grow hb2)
  have hx7 := hx6.trans (hb2.mono hx6.size)
  replace s1 := s1.grow hb2
  replace s2 := s2.grow hb2
  clear hb2 hx6 l1 l2 g0 g1 g2 g3
  have KS2 := Lib.hid (fun W (hW : Below w7.heap.size w7 W) => split_any qa qb vs.length ps.length qc qd vs (ps.map (shP (bx, by_))) W hqd hqm (by have := HPL.out; omega) (hqv.grow hW) (hqp.grow hW))
  clear hqv hqp HL
  have hqb := (Below.refl w7.heap.size w7).alloc (Nat.le_refl _) (.cells #[.slice qa vs.length qc, .slice qb ps.length qd] 25)
  have HQB := Lib.hid hqb
  clear hqb
  go_wp2_with fail
  refine (KS2.out _ HQB.out).mono ?_
  rintro e w8 ⟨ma, mc, rfl, hmc, hr, hb2⟩
  have hx8 : Below w.heap.size w w8 := ((hx7.trans (HQB.out.mono hx7.size)).trans (hb2.mono (by have := hx7.size; have := HQB.out.size; omega)))
  have HL8 := Lib.hid ((HL7.out.grow HQB.out).grow hb2)
  have S2 := Lib.hid ((s2.grow HQB.out).grow hb2)
  have HM := Lib.hid hr
  clear hr hb2 HQB HL7 s1 s2 KS2 hx7 KB KN KC KS KH
  obtain ⟨he1, he2⟩ := HE.out
  clear HE
  by_cases he : checkS vs (ps.map (shP (bx, by_))) = 0
  · rw [he]
    have hm2 := HM.out
    have he3 := he2 he
    rw [he3] at hm2
    rw [he3, List.length_map]
    clear HM he he3 he1 he2 hmc
    rw [List.length_map] at hm2
    have HM8 := Lib.hid hm2
    clear hm2
    go_wp2_with fail
    go_loopw [10] (fun i wr => ∃ k : Nat, k ≤ sl.length ∧ i = .int .i64 k ∧ Below w8.heap.size w8 wr) (fun i _ => sl.length - (intOf i).toNat)
    case atStart => exact ⟨0, Nat.zero_le _, rfl, Below.refl _ _⟩
    case round =>
      obtain ⟨k, hk, rfl, hb⟩ := hrel
      have hx := hx8.trans (hb.mono hx8.size)
      by_cases hlt : k < sl.length
      · obtain ⟨sb, so, sa, sc, hsa, hsB, R0, R1, R2, R3, hsc, hseg⟩ := HL8.out.at_ k hlt
        obtain ⟨tb, to, ta, tc, hta, htB, T0, T1, T2, T3, htc, hteg⟩ := RSubs.sh_at HM8.out k hlt
        subst hsa hta
        have hgood := HGO.out sl[k] (List.getElem_mem hlt)
        have hok := HOK.out sl[k] (List.getElem_mem hlt)
        have hsm := HSG.out sl[k] (List.getElem_mem hlt)
        have s2 := S2.out.grow hb
        have HCH := Lib.hid (chain_at sl[k].segs sl[k].start hgood.1)
        have HNR := Lib.hid (fun j hj i hi => seg_near hgood hok j hj i hi)
        have hst := far_le hok.1
        clear hgood hok
        generalize sl[k] = s at *
        obtain ⟨⟨sx, sy⟩, segs, cl⟩ := s
        simp only at R0 R1 R2 R3 T0 T1 T2 T3 hsm hsc hseg htc hteg HCH HNR hst
        obtain ⟨n1, n2, n3, n4⟩ := hst
        have HSE := Lib.hid hseg
        have HTE := Lib.hid hteg
        have HR2 := Lib.hid R2
        have HT2 := Lib.hid T2
        have hlt' : (k : Int) < sl.length := by omega
        have hlw : sb < wr.heap.size := by have := hb.size; omega
        have htw : tb < wr.heap.size := by have := hb.size; omega
        have l2 := s2.lt
        have g2 : wr.cell? ⟨w.heap.size + 1, 0, none⟩ = some (.int .i64 bx) := s2.cell 0
        have g3 : wr.cell? ⟨w.heap.size + 1, 1, none⟩ = some (.int .i64 by_) := s2.cell 1
        have r0 : wr.cell? ⟨sb, so + k * 4, none⟩ = some (.int .i64 sx) := (hb.cell (p := ⟨sb, so + k * 4, none⟩) hsB).trans R0
        have r1 : wr.cell? ⟨sb, so + k * 4 + 1, none⟩ = some (.int .i64 sy) := (hb.cell (p := ⟨sb, so + k * 4 + 1, none⟩) hsB).trans R1
        have r2 : wr.cell? ⟨sb, so + k * 4 + 2, none⟩ = some (.slice sa segs.length sc) := (hb.cell (p := ⟨sb, so + k * 4 + 2, none⟩) hsB).trans R2
        have r3 : wr.cell? ⟨sb, so + k * 4 + 3, none⟩ = some (.bool cl) := (hb.cell (p := ⟨sb, so + k * 4 + 3, none⟩) hsB).trans R3
        have t0 : wr.cell? ⟨tb, to + k * 4, none⟩ = some (.int .i64 (sx + bx)) := (hb.cell (p := ⟨tb, to + k * 4, none⟩) htB).trans T0
        have t1 : wr.cell? ⟨tb, to + k * 4 + 1, none⟩ = some (.int .i64 (sy + by_)) := (hb.cell (p := ⟨tb, to + k * 4 + 1, none⟩) htB).trans T1
        have t2 : wr.cell? ⟨tb, to + k * 4 + 2, none⟩ = some (.slice ta segs.length tc) := (hb.cell (p := ⟨tb, to + k * 4 + 2, none⟩) htB).trans T2
        have t3 : wr.cell? ⟨tb, to + k * 4 + 3, none⟩ = some (.bool cl) := (hb.cell (p := ⟨tb, to + k * 4 + 3, none⟩) htB).trans T3
        clear hseg hteg R0 R1 R2 R3 T0 T1 T2 T3 s2
        go_wp2_with fail
        refine Reg.wp_region_all (by first | exact hb2 | exact Below.refl _ _) (by kernel_rfl) (by kernel_rfl) ?_
        repeat (go_big_quiet_step ((first | (go_at_call 24; exact Reg.calls_aft (radd_any _ _ _ _ _ (by omega) (by omega) (by omega) (by omega) (by omega) (by omega) (by omega) (by omega))))))
        refine wpQuiet_nil ?_
        intro xs hxs
        have hbx := Reg.class_below hxs
        clear hxs
        have hb9 := hb.trans (hbx.mono hb.size)
        clear r0 r1 r2 r3 t0 t1 t2 t3 g2 g3 l2 hlw htw hx hbx hb
        go_wp2_with fail
        go_loopw [11] (fun jv wr => ∃ j : Nat, j ≤ segs.length ∧ jv = .int .i64 j ∧ Below w8.heap.size w8 wr) (fun jv _ => segs.length - (intOf jv).toNat)
        case atStart => exact ⟨0, Nat.zero_le _, rfl, hb9⟩
        case round =>
          clear hb9
          obtain ⟨j, hj, rfl, hb⟩ := hrel
          have r2 := (hb.cell (p := ⟨sb, so + k * 4 + 2, none⟩) hsB).trans HR2.out
          have hlw : sb < wr.heap.size := by have := hb.size; omega
          by_cases hjl : j < segs.length
          · have t2 := (hb.cell (p := ⟨tb, to + k * 4 + 2, none⟩) htB).trans HT2.out
            have htw : tb < wr.heap.size := by have := hb.size; omega
            obtain ⟨gb, go, hga, hgB, e0, e1, e2, e3, e4, e5, e6, e7, e8⟩ := (HSE.out.below hb).at_ j hjl
            have hfs := (HTE.out.below hb).at_ j (by rw [List.length_map]; exact hjl)
            rw [List.getElem_map] at hfs
            obtain ⟨fb, fo, hfa, hfB, f0, f1, f2, f3, f4, f5, f6, f7, f8⟩ := hfs
            subst hga hfa
            obtain ⟨h2n, hn4, -⟩ := HCH.out j hjl
            have HNJ := Lib.hid (HNR.out j hjl)
            have HSH := Lib.hid (ptS_sh (bx, by_) segs[j] hn4)
            have KD1 := Lib.hid (pdotg_any segs[j])
            have KD2 := Lib.hid (pdotg_any (shG (bx, by_) segs[j]))
            have hgn : (shG (bx, by_) segs[j]).n = segs[j].n := rfl
            rw [dot_sh _ _ h2n hn4] at KD2
            have hgw : gb < wr.heap.size := by have := hb.size; omega
            have hfw : fb < wr.heap.size := by have := hb.size; omega
            generalize dotG segs[j] = dd at *
            generalize hh : shG (bx, by_) segs[j] = h at *
            clear hh
            generalize segs[j] = g at *
            have hB1 := (Blk.new wr 50 (segA g)).alloc (.cells (segA h) 50)
            have hB2 := Blk.new (wr.alloc (.cells (segA g) 50)) 50 (segA h)
            have hb7 := (hb.alloc hb.size (.cells (segA g) 50)).alloc (by have := hb.size; simp; omega) (.cells (segA h) 50)
            rw [World.size_alloc] at hB2
            have HB1 := Lib.hid hB1
            have HB2 := Lib.hid hB2
            have HB7 := Lib.hid hb7
            clear hB1 hB2 hb7
            obtain ⟨⟨x0, y0⟩, ⟨x1, y1⟩, ⟨x2, y2⟩, ⟨x3, y3⟩, gn⟩ := g
            obtain ⟨⟨z0, v0⟩, ⟨z1, v1⟩, ⟨z2, v2⟩, ⟨z3, v3⟩, hn⟩ := h
            simp only [segA] at *
            subst hgn
            have hjl' : (j : Int) < segs.length := by omega
            go_wp2_with fail
            refine Reg.wp_region_all (by first | exact hb2 | exact Below.refl _ _) (by kernel_rfl) (by kernel_rfl) ?_
            repeat (go_big_quiet_step ((first | (go_at_call 25; exact Reg.calls_aft (KD1.out _)) | (go_at_call 25; exact Reg.calls_aft (KD2.out _)))))
            refine wpQuiet_nil ?_
            intro xs hxs
            have hbx := Reg.class_below hxs
            clear hxs
            have hb9 := HB7.out.trans (hbx.mono HB7.out.size)
            have B1 := HB1.out.grow hbx
            have B2 := HB2.out.grow hbx
            clear hbx e0 e1 e2 e3 e4 e5 e6 e7 e8 f0 f1 f2 f3 f4 f5 f6 f7 f8 r2 t2 KD1 KD2 HB1 HB2 HB7 hlw htw hgw hfw hb
            have hsz := B2.lt
            have s2 := S2.out.grow hb9
            generalize hg1 : wr.heap.size = G at *
            clear hg1
            go_wp2_with fail
            go_loopw [14] (fun iv wi => ∃ i : Nat, i ≤ 4 ∧ iv = .int .i64 i ∧ Below xs.heap.size xs wi) (fun iv _ => 4 - (intOf iv).toNat)
            case atStart => exact ⟨0, Nat.zero_le _, rfl, Below.refl _ _⟩
            case round =>
              obtain ⟨i, hi, rfl, hbi⟩ := hrel
              have C1 := B1.grow hbi
              have C2 := B2.grow hbi
              have s3 := s2.grow hbi
              have c8 := C1.cell 8
              simp at c8
              have l1 := C1.lt
              have l2 := C2.lt
              have l3 := s3.lt
              have g2 : wr.cell? ⟨w.heap.size + 1, 0, none⟩ = some (.int .i64 bx) := s3.cell 0
              have g3 : wr.cell? ⟨w.heap.size + 1, 1, none⟩ = some (.int .i64 by_) := s3.cell 1
              by_cases hig : (i : Int) < hn
              · have hi4 : i < 4 := by omega
                have hi4' : (i : Int) < 4 := by omega
                obtain ⟨p1, p2⟩ := seg_cells (s := ⟨(x0, y0), (x1, y1), (x2, y2), (x3, y3), hn⟩) C1 i hi4
                obtain ⟨q1, q2⟩ := seg_cells (s := ⟨(z0, v0), (z1, v1), (z2, v2), (z3, v3), hn⟩) C2 i hi4
                have hqq := far_le (HNJ.out i hig)
                rw [HSH.out i hig] at q1 q2
                generalize ptS ⟨(x0, y0), (x1, y1), (x2, y2), (x3, y3), hn⟩ i = q at *
                obtain ⟨qx, qy⟩ := q
                simp only [shP] at q1 q2 p1 p2 hqq
                obtain ⟨n5, n6, n7, n8⟩ := hqq
                clear C1 C2 s3
                go_wp2_with fail
                refine Reg.wp_region_all (by first | exact hb2 | exact Below.refl _ _) (by kernel_rfl) (by kernel_rfl) ?_
                repeat (go_big_quiet_step ((first | (go_at_call 24; exact Reg.calls_aft (radd_any _ _ _ _ _ (by omega) (by omega) (by omega) (by omega) (by omega) (by omega) (by omega) (by omega))))))
                refine wpQuiet_nil ?_
                intro xs hxs
                have hbx := Reg.class_below hxs
                clear hxs
                go_wp2_with fail
                exact ⟨⟨i + 1, by omega, by go_num, hbi.trans (hbx.mono hbi.size)⟩, by simp [intOf]; omega⟩
              · have hend := hb9.trans (hbi.mono hb9.size)
                clear C1 C2 s3
                go_wp2_with fail
                exact ⟨⟨j + 1, by omega, by go_num, hend⟩, by simp [intOf]; omega⟩
          · have hjj : ¬ (j : Int) < segs.length := by omega
            go_wp2_with fail
            exact ⟨⟨k + 1, by omega, by go_num, hb⟩, by simp [intOf]; omega⟩
      · have hkk : ¬ (k : Int) < sl.length := by omega
        go_wp2_with fail
        go_ret
        exact ⟨rfl, hx⟩
  · have he2 : checkS vs (ps.map (shP (bx, by_))) = 72 := by
      rw [he1] at he ⊢
      split at he
      · rename_i h
        rw [if_pos h]
      · exact absurd rfl he
    rw [he2]
    clear he1 he HM
    go_wp2_with fail
    go_ret
    exact ⟨rfl, hx8⟩

namespace pshifts
open Go.ChangeShapes Go.WideShapes Go.ChangeAt

theorem contract {H : Type} (enc : TypeId × Value → H) (W : World) (base : Nat) (args : Array Value) (ds : List (DataW H)) (ps : List MemPlace)
    (hval : ∀ (j : Nat) t v, Try.f7.params[j]? = some t → args[j]? = some v → Value.okWide Try.checked.prog W .any base t v)
    (hA : DataW.TrodAll enc Try.checked.prog W 0 (fun _ => true) true Try.f7.params.toList args.toList ds ps) (hlt : ∀ x ∈ ps, x.block < W.heap.size) :
    Calls Try.checked.prog 7 args W fun e W' => e = .returned (.bool true) ∧ Below W.heap.size W W' := by
  rw [Try.params7] at hA hval
  obtain ⟨v0, vs0, d0, ds0, p0, q0, ea, rfl, rfl, h0, hA⟩ := trodAll_cons hA
  obtain ⟨v1, vs1, d1, ds1, p1, q1, rfl, rfl, rfl, h1, hA⟩ := trodAll_cons hA
  obtain ⟨rfl, rfl, rfl⟩ := trodAll_nil hA
  obtain rfl : args = #[v0, v1] := by cases args; simp_all
  have _ := hlt
  obtain ⟨a, b, n, m, c, d, vs, ps, rfl, k1, k2, k3, k4, k5, k6, k7, k8⟩ := open_path (hval 0 _ _ rfl rfl) h0
  obtain ⟨x, y, rfl, _, _⟩ := open_pt (hval 1 _ _ rfl rfl) h1
  unfold maxLen at k2 k4
  exact lshifts_any a b n m c d x y vs ps W k3 (by unfold maxLen; omega) (by omega) (by omega) k7 k8 k5 k6

set_option maxRecDepth 100000 in
theorem lifted (os : Os) (started : os.Started) (H : Type) (enc : TypeId × Value → H) :
    ReturnsInHanded {} Try.checked os 7 .any (Rows.pathShiftsSpec.pre6 enc Try.prog Try.f7 [] false) (Rows.pathShiftsSpec.post enc Try.prog Try.f7 false true false false) :=
  law_lift (bT := 4) started (by kernel_rfl) Try.func7 rfl (by kernel_rfl) (by kernel_rfl) (by kernel_rfl) (fun ds h => by match ds, h with | [_, _], _ => rfl)
    (ChangeSpec.witness6 (enc := enc) (C := Try.checked) false ⟨#[], #[.agg #[.slice none 0 0, .slice none 0 0], .agg #[.int .i64 0, .int .i64 0]], []⟩ 8 (by kernel_rfl) (by kernel_rfl) (by kernel_rfl) (by kernel_rfl))
    (fun W base args ds ps hval hA hlt => contract enc W base args ds ps hval hA hlt)

theorem holds : Rows.PathShiftsSaid :=
  OpenClaim.holds_of_wide 7 Try.f7 rfl rfl rfl rfl rfl rfl rfl ⟨rfl, rfl, rfl, rfl, rfl⟩ rfl rfl rfl rfl rfl (by kernel_rfl) Try.func7 (by kernel_rfl)
    (of_decide_eq_true (by kernel_rfl)) (by unfold Func.isWrapper; first | (rw [if_pos (by decide +kernel)]; kernel_rfl) | (rw [if_neg (by decide +kernel)]; exact ⟨rfl, rfl⟩))
    (fun os started H enc _ => lifted os started H enc)
end pshifts
end Go.Proofs.Ytjkpbkcbimojoaa
