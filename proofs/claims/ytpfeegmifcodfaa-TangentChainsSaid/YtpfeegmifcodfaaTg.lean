/- Contracts of package tangent, seventh part: the class of a segment. -/
import Derived.Test.YtpfeegmifcodfaaTf
import Derived.Sort.CutIn
namespace Go.Proofs.Ytpfeegmifcodfaa
open Go.RowKit Go.Shelf
attribute [local go_sem] Oper.semAt_some

set_option maxHeartbeats 400000 in
theorem legs_any (vs : Array Value) (w : World) (x0 y0 x1 y1 x2 y2 x3 y3 n : Int) (hv : vs = segC n x0 y0 x1 y1 x2 y2 x3 y3) :
    Calls Try.prog 32 #[.agg vs] w fun e w' => e = .returned (.func (.func 38) #[] #[.pointer (some ⟨w.heap.size, 0, none⟩)]) ∧ w' = w.alloc (.cells vs 26) := by
  subst hv
  unfold segC
  go_enter Try.func32, Try.ntmps32
  go_wp2
  go_ret
  exact ⟨rfl, rfl⟩

theorem legs_stops (m : Nat) (hm : 1 ≤ m) (Bs n : Nat) (hn2 : 2 ≤ n) (hn4 : n ≤ 4) (px py : Nat → Int) (hC : ∀ k, C28 (px k) ∧ C28 (py k)) (w : World) (hS : Blk w Bs 26 (segF px py n)) :
    SeqStopsK Fence.wide m Try.prog 38 #[.pointer (some ⟨Bs, 0, none⟩)] (fun x : SLeg => legEnc x.1) (Kept Bs) (fun ys => ys = legsF px py hC n) (fun pre => pre <+: legsF px py hC n) (n - 1) w :=
  fun l J Jx W hW hJ _ hY h0 => legs1_in m hm l Bs n hn2 hn4 px py hC J Jx (fun _ _ _ h hb => abides_below hJ h hb) hY W (hS.grow hW) h0

def bendB (u p : Int × Int) (x : Leg) : Bool := u.1 * (x.1.2 - p.2) - u.2 * (x.1.1 - p.1) != 0
def foldB (u : Int × Int) (x : Leg) : Bool := decide (u.1 * x.2.1 + u.2 * x.2.2 < 0)
def bendsB (u p : Int × Int) (l : List SLeg) : Bool := l.any fun x => bendB u p x.1
def foldsB (u : Int × Int) (l : List SLeg) : Bool := l.any fun x => foldB u x.1
theorem bendsB_snoc (u p : Int × Int) (l : List SLeg) (x : SLeg) : bendsB u p (l ++ [x]) = (bendsB u p l || bendB u p x.1) := by simp [bendsB]
theorem foldsB_snoc (u : Int × Int) (l : List SLeg) (x : SLeg) : foldsB u (l ++ [x]) = (foldsB u l || foldB u x.1) := by simp [foldsB]
/-- The class by its three questions. -/
def classS (b f : Bool) (u : Int × Int) : Int := if b then 3 else if f then 2 else if u.1 ≠ 0 ∨ u.2 ≠ 0 then 1 else 0

theorem blk_own {β : Type} (g : Nat) (t : TypeId) (f : β → Array Value) : Own (fun s W => Blk W g t (f s)) := fun s X Y row hs hg hrow =>
  (hg.block g (Blk.lt hs) (fun e' => by obtain ⟨o, ho, hc⟩ := hrow g e'.symm; rw [show X.heap[g]? = _ from hs] at ho; cases ho; cases hc)).trans hs
theorem keeps_below {A B : World} (h : Below A.heap.size A B) : KeepsOthers A B := ⟨h.size, fun k _ hk _ => (h.block k (Array.getElem?_eq_some_iff.1 hk).1).trans hk⟩

theorem res_tmp {fn : Func} {t : Nat} {tmps : Array Value} {P : Program} {W : World} {v : Value} (h : fn.results = #[.tmp t]) (hv : tmps.getD t undef = v) : (results fn tmps).run P W = .ok v W :=
  hv ▸ results_tmp h tmps P W

set_option maxRecDepth 100000 in
set_option maxHeartbeats 4000000 in
theorem class_any (n : Nat) (hn2 : 2 ≤ n) (hn4 : n ≤ 4) (px py : Nat → Int) (hC : ∀ k, C28 (px k) ∧ C28 (py k)) (u : Int × Int) (w : World)
    (hu : (-536870912 ≤ u.1 ∧ u.1 ≤ 536870912) ∧ (-536870912 ≤ u.2 ∧ u.2 ≤ 536870912))
    (hBegin : ∀ W, Calls Try.prog 11 #[.agg (segF px py n)] W fun e w' => e = .returned (.agg #[.int .i64 u.1, .int .i64 u.2]) ∧ Below W.heap.size W w') :
    Calls Try.prog 15 #[.agg (segF px py n)] w
      fun e w' => e = .returned (.int .i64 (classS (bendsB u (px 0, py 0) (legsF px py hC n)) (foldsB u (legsF px py hC n)) u)) ∧ Below w.heap.size w w' := by
  obtain ⟨u1, u2⟩ := u
  simp only at hu hBegin
  obtain ⟨⟨d1, d2⟩, ⟨d3, d4⟩⟩ := hu
  have HB := Lib.hid hBegin
  clear hBegin
  refine (callsIn_wide (n := 6)).1 ?_
  refine callsIn_of_wp_marks Try.func15 rfl trivial ?_ rfl
  simp only [Try.ntmps15, segF, segC, List.size_toArray, List.length_cons, List.length_nil, Nat.reduceAdd, Nat.reduceSub, Array.replicate_succ, Array.replicate_zero, List.push_toArray, List.append_toArray, List.nil_append, List.cons_append]
  gi_wp2_with fail
  refine ⟨trivial, ?_⟩
  refine (callsIn_wide.2 (HB.out _)).mono ?_
  rintro e w2 ⟨rfl, hb2⟩
  have hc2 := (bcell hb2).1
  have hz2 : w.heap.size < w2.heap.size := by have := hb2.size; simp at this; omega
  have hz3 : w.heap.size < w2.heap.size + 1 := by omega
  have hz4 : w.heap.size < w2.heap.size + 1 + 1 := by omega
  have hz5 : w.heap.size < w2.heap.size + 1 + 1 + 1 := by omega
  gi_wp2_with fail
  refine ⟨trivial, ?_⟩
  refine (callsIn_wide.2 (legs_any _ _ _ _ _ _ _ _ _ _ _ rfl)).mono ?_
  rintro e w' ⟨rfl, rfl⟩
  gi_wp2_with fail
  have bS := ((((Blk.new w 26 (segF px py n)).grow hb2).alloc (.cells #[.int .i64 u1, .int .i64 u2] 23)).alloc (.cells #[.bool false] 4)).alloc (.cells #[.bool false] 4) |>.alloc (.cells (segF px py n) 26)
  have bU := ((Blk.new w2 23 #[.int .i64 u1, .int .i64 u2]).alloc (.cells #[.bool false] 4)).alloc (.cells #[.bool false] 4) |>.alloc (.cells (segF px py n) 26)
  have bB := (Blk.new (w2.alloc (.cells #[.int .i64 u1, .int .i64 u2] 23)) 4 #[.bool false]).alloc (.cells #[.bool false] 4) |>.alloc (.cells (segF px py n) 26)
  have bF := (Blk.new ((w2.alloc (.cells #[.int .i64 u1, .int .i64 u2] 23)).alloc (.cells #[.bool false] 4)) 4 #[.bool false]).alloc (.cells (segF px py n) 26)
  have bL := Blk.new (((w2.alloc (.cells #[.int .i64 u1, .int .i64 u2] 23)).alloc (.cells #[.bool false] 4)).alloc (.cells #[.bool false] 4)) 26 (segF px py n)
  simp only [World.size_alloc] at bB bF bL
  have hsz : ((((w2.alloc (.cells #[.int .i64 u1, .int .i64 u2] 23)).alloc (.cells #[.bool false] 4)).alloc (.cells #[.bool false] 4)).alloc (.cells (segF px py n) 26)).heap.size = w2.heap.size + 1 + 1 + 1 + 1 := by simp
  have hx2 : Below w.heap.size w w2 := Below.trans (by (repeat (first | exact Below.refl _ _ | assumption | refine Below.drew ?_ | refine Below.setCell ?_ (by simp; try omega) _ | refine Below.alloc ?_ (by simp; try omega) _))) (hb2.mono (by simp))
  have hB0 : Below w.heap.size w ((((w2.alloc (.cells #[.int .i64 u1, .int .i64 u2] 23)).alloc (.cells #[.bool false] 4)).alloc (.cells #[.bool false] 4)).alloc (.cells (segF px py n) 26)) :=
    (((hx2.alloc hx2.size _).alloc (by simp; omega) _).alloc (by simp; omega) _).alloc (by simp; omega) _
  show Code.wpIn _ _ _ _ _ _ ((((w2.alloc (.cells #[.int .i64 u1, .int .i64 u2] 23)).alloc (.cells #[.bool false] 4)).alloc (.cells #[.bool false] 4)).alloc (.cells (segF px py n) 26))
  obtain ⟨W0, hW0⟩ : ∃ W0, ((((w2.alloc (.cells #[.int .i64 u1, .int .i64 u2] 23)).alloc (.cells #[.bool false] 4)).alloc (.cells #[.bool false] 4)).alloc (.cells (segF px py n) 26)) = W0 := ⟨_, rfl⟩
  rw [hW0] at bS bU bB bF bL hsz hB0 ⊢
  clear hW0 hc2 hb2 hx2 hz3 hz4 hz5
  generalize w2.heap.size = U at *
  have hseg : segC n (px 0) (py 0) (px 1) (py 1) (px 2) (py 2) (px 3) (py 3) = segF px py n := rfl
  refine wpIn_rangeFunc_ownH rfl (by omega) (gf := 38) (lb := #[.pointer (some ⟨U + 1 + 1 + 1, 0, none⟩)]) rfl trivial (enters_of Try.func38 (by kernel_rfl) rfl)
    (legs_stops 5 (by omega) (U + 1 + 1 + 1) n hn2 hn4 px py hC W0 bL) kept_t (kept_b (by omega)) (Below.refl _ _) (fun _ => rfl)
    (fun pre W => ((((Blk W w.heap.size 26 (segF px py n) ∧ Blk W U 23 #[.int .i64 u1, .int .i64 u2]) ∧ Blk W (U + 1) 4 #[.bool (bendsB (u1, u2) (px 0, py 0) pre)]) ∧ Blk W (U + 1 + 1) 4 #[.bool (foldsB (u1, u2) pre)]) ∧ Blk W (U + 1 + 1 + 1) 26 (segF px py n)) ∧ Below w.heap.size w W)
    (fun _ _ _ => False)
    (OwnFrom.and (OwnFrom.and (OwnFrom.and (OwnFrom.and (OwnFrom.and (Own.from (blk_own _ _ _) _) (Own.from (blk_own _ _ _) _)) (Own.from (blk_own _ _ _) _)) (Own.from (blk_own _ _ _) _)) (Own.from (blk_own _ _ _) _)) (ownFrom_below (Nat.le_refl _) (by omega)))
    (fun _ _ _ _ _ hs _ _ => hs)
    ⟨⟨⟨⟨⟨bS, bU⟩, bB⟩, bF⟩, bL⟩, hB0⟩
    (fun x a' W => ∃ Bx, U + 1 + 1 + 1 < Bx ∧ Blk W Bx 23 #[.int .i64 x.1.1.1, .int .i64 x.1.1.2] ∧ Blk W (Bx + 1) 23 #[.int .i64 x.1.2.1, .int .i64 x.1.2.2] ∧
      a' = { tmps := #[.agg #[.int .i64 (px 0), .int .i64 (py 0), .int .i64 (px 1), .int .i64 (py 1), .int .i64 (px 2), .int .i64 (py 2), .int .i64 (px 3), .int .i64 (py 3), .int .i64 n], .pointer (some ⟨w.heap.size, 0, none⟩), .int .i64 0, .pointer (some ⟨U, 0, none⟩), .pointer (some ⟨U + 1, 0, none⟩), .pointer (some ⟨U + 1 + 1, 0, none⟩), .pointer (some ⟨Bx, 0, none⟩), .pointer (some ⟨Bx + 1, 0, none⟩), .agg #[.int .i64 (px 0), .int .i64 (py 0), .int .i64 (px 1), .int .i64 (py 1), .int .i64 (px 2), .int .i64 (py 2), .int .i64 (px 3), .int .i64 (py 3), .int .i64 n], .agg #[.int .i64 u1, .int .i64 u2], .agg #[.int .i64 (px 0), .int .i64 (py 0), .int .i64 (px 1), .int .i64 (py 1), .int .i64 (px 2), .int .i64 (py 2), .int .i64 (px 3), .int .i64 (py 3), .int .i64 n], .func (.func 38) #[] #[.pointer (some ⟨U + 1 + 1 + 1, 0, none⟩)], .agg #[.int .i64 x.1.1.1, .int .i64 x.1.1.2], .agg #[.int .i64 x.1.2.1, .int .i64 x.1.2.2], undef, undef, undef, undef, undef, undef, undef, undef, undef, undef, undef, undef, undef, undef, undef, undef, undef, undef, undef, undef, undef, undef, undef, undef, undef, undef, undef, undef, undef, undef, undef, undef, undef], defers := [] })
    (fun x a' _ X Y row hs hg hr => by
      obtain ⟨Bx, h1, h2, h3, h4⟩ := hs
      exact ⟨Bx, h1, blk_own Bx _ (fun (_ : Unit) => #[.int .i64 x.1.1.1, .int .i64 x.1.1.2]) () X Y row h2 hg (fun r e => (hr r e).2), blk_own (Bx + 1) _ (fun (_ : Unit) => #[.int .i64 x.1.2.1, .int .i64 x.1.2.2]) () X Y row h3 hg (fun r e => (hr r e).2), h4⟩)
    ?assign ?body ?done ?stop
  case assign =>
    rintro l pre x W K ⟨⟨⟨⟨⟨bS1, bU1⟩, bB1⟩, bF1⟩, bL1⟩, hB1⟩ hK
    gi_wp2
    refine hK _ _ (((KeepsOthers.alloc _ _).trans (KeepsOthers.alloc _ _)).from _) ⟨by simp; omega, ((bL1.alloc _).alloc _).trans bL1.symm⟩
      ⟨⟨⟨⟨⟨(bS1.alloc _).alloc _, (bU1.alloc _).alloc _⟩, (bB1.alloc _).alloc _⟩, (bF1.alloc _).alloc _⟩, (bL1.alloc _).alloc _⟩, (hB1.alloc hB1.size _).alloc (by have := hB1.size; simp; omega) _⟩
      ⟨W.heap.size, bL1.lt, (Blk.new W _ _).alloc _, ?_, rfl⟩
    have h := Blk.new (W.alloc (.cells #[.int .i64 x.1.1.1, .int .i64 x.1.1.2] 23)) 23 #[.int .i64 x.1.2.1, .int .i64 x.1.2.2]
    simpa only [World.size_alloc] using h
  case body =>
    rintro l pre x a' W hl ⟨r, hr⟩ ⟨⟨⟨⟨⟨bS1, bU1⟩, bB1⟩, bF1⟩, bL1⟩, hB1⟩ ⟨Bx, hBx, bX, bY, rfl⟩ hlt
    obtain ⟨⟨⟨ex, ey⟩, ⟨lx, ly⟩⟩, hok⟩ := x
    obtain ⟨⟨⟨o1, o2⟩, ⟨o3, o4⟩⟩, ⟨o5, o6⟩, ⟨o7, o8⟩⟩ := hok
    obtain ⟨⟨p1, p2⟩, ⟨p3, p4⟩⟩ := hC 0
    simp only at bX bY o1 o2 o3 o4 o5 o6 o7 o8
    have hmx : Try.prog.follows .mixedOrders = true := by kernel_rfl
    have cS0 : W.cell? ⟨w.heap.size, 0, none⟩ = some (.int .i64 (px 0)) := bS1.cell 0
    have cS1 : W.cell? ⟨w.heap.size, 1, none⟩ = some (.int .i64 (py 0)) := bS1.cell 1
    have cU0 : W.cell? ⟨U, 0, none⟩ = some (.int .i64 u1) := bU1.cell 0
    have cU1 : W.cell? ⟨U, 1, none⟩ = some (.int .i64 u2) := bU1.cell 1
    have cX0 : W.cell? ⟨Bx, 0, none⟩ = some (.int .i64 ex) := bX.cell 0
    have cX1 : W.cell? ⟨Bx, 1, none⟩ = some (.int .i64 ey) := bX.cell 1
    have cY0 : W.cell? ⟨Bx + 1, 0, none⟩ = some (.int .i64 lx) := bY.cell 0
    have cY1 : W.cell? ⟨Bx + 1, 1, none⟩ = some (.int .i64 ly) := bY.cell 1
    have sS := bS1.lt
    have sU := bU1.lt
    have sB := bB1.lt
    have sF := bF1.lt
    have sX := bX.lt
    have sY := bY.lt
    have HK := Lib.hid (show Blk W w.heap.size 26 (segF px py n) ∧ Blk W U 23 #[.int .i64 u1, .int .i64 u2] ∧ Blk W (U + 1 + 1 + 1) 26 (segF px py n) ∧ Below w.heap.size w W from ⟨bS1, bU1, bL1, hB1⟩)
    have hBs := bendsB_snoc (u1, u2) (px 0, py 0) pre ⟨((ex, ey), (lx, ly)), ⟨⟨⟨o1, o2⟩, ⟨o3, o4⟩⟩, ⟨o5, o6⟩, ⟨o7, o8⟩⟩⟩
    have hFs := foldsB_snoc (u1, u2) pre ⟨((ex, ey), (lx, ly)), ⟨⟨⟨o1, o2⟩, ⟨o3, o4⟩⟩, ⟨o5, o6⟩, ⟨o7, o8⟩⟩⟩
    have HBs := Lib.hid hBs
    have HFs := Lib.hid hFs
    clear hBs hFs bS1 bU1 bL1 bX bY
    have HBB := Lib.hid bB1
    have HBF := Lib.hid bF1
    have cB0 : W.cell? ⟨U + 1, 0, none⟩ = some (.bool (bendsB (u1, u2) (px 0, py 0) pre)) := bB1.cell 0
    have cF : W.cell? ⟨U + 1 + 1, 0, none⟩ = some (.bool (foldsB (u1, u2) pre)) := bF1.cell 0
    have fB := bB1.unfrozen 0
    have fF := bF1.unfrozen 0
    clear bB1 bF1
    dsimp only
    gi_upto_region 6 with fail
    gi_cut [] from 14 (fun wx => ∃ w2, Below W.heap.size W w2 ∧ wx = w2.setCell ⟨U + 1, 0, none⟩ (.bool (bendsB (u1, u2) (px 0, py 0) pre || bendB (u1, u2) (px 0, py 0) ((ex, ey), (lx, ly)))))
    case first =>
      cases hbd : bendsB (u1, u2) (px 0, py 0) pre
      · have cB : W.cell? ⟨U + 1, 0, none⟩ = some (.bool false) := by rw [cB0, hbd]
        clear cB0
        have HD := Lib.hid hbd
        clear hbd
        gi_wp2
        gi_region_with_o (first
          | (refine ⟨trivial, ?_⟩
             gi_at_call 29
             refine (CallsIn.inRound l (callsIn_wide.2 (calls_from (Below.refl _ _) (sub_any ex ey (px 0) (py 0) _ (by omega) (by omega) (by omega) (by omega) (by omega) (by omega) (by omega) (by omega))))).mono ?_
             rintro e w2 ⟨rfl, hb2⟩
             obtain ⟨hc2, hf2⟩ := bcell hb2
             have dS0 := (hc2 _ 0 sS).trans cS0
             have dS1 := (hc2 _ 1 sS).trans cS1
             have dU0 := (hc2 _ 0 sU).trans cU0
             have dU1 := (hc2 _ 1 sU).trans cU1
             have dX0 := (hc2 _ 0 sX).trans cX0
             have dX1 := (hc2 _ 1 sX).trans cX1
             have dY0 := (hc2 _ 0 sY).trans cY0
             have dY1 := (hc2 _ 1 sY).trans cY1
             have dB := (hc2 _ 0 sB).trans cB
             have dF := (hc2 _ 0 sF).trans cF
             have eB := (hf2 _ 0 sB).trans fB
             have eF := (hf2 _ 0 sF).trans fF
             clear hc2 hf2)
          | (refine ⟨trivial, ?_⟩
             gi_at_call 33
             refine (CallsIn.inRound l (callsIn_wide.2 (calls_from hb2 (vcross_any u1 u2 (ex - px 0) (ey - py 0) _ (by omega) (by omega) (by omega) (by omega) (by omega) (by omega) (by omega) (by omega))))).mono ?_
             clear hb2 dS0 dS1 dU0 dU1 dX0 dX1 dY0 dY1 dB dF eB eF
             rintro e w2 ⟨rfl, hb2⟩
             obtain ⟨hc2, hf2⟩ := bcell hb2
             have dS0 := (hc2 _ 0 sS).trans cS0
             have dS1 := (hc2 _ 1 sS).trans cS1
             have dU0 := (hc2 _ 0 sU).trans cU0
             have dU1 := (hc2 _ 1 sU).trans cU1
             have dX0 := (hc2 _ 0 sX).trans cX0
             have dX1 := (hc2 _ 1 sX).trans cX1
             have dY0 := (hc2 _ 0 sY).trans cY0
             have dY1 := (hc2 _ 1 sY).trans cY1
             have dB := (hc2 _ 0 sB).trans cB
             have dF := (hc2 _ 0 sF).trans cF
             have eB := (hf2 _ 0 sB).trans fB
             have eF := (hf2 _ 0 sF).trans fF
             clear hc2 hf2))
        all_goals
          gi_wp2
          gi_meet
          exact ⟨w2, (Below.refl W.heap.size W).drew.trans hb2, by rw [HD.out]; rfl⟩
      · have cB : W.cell? ⟨U + 1, 0, none⟩ = some (.bool true) := by rw [cB0, hbd]
        clear cB0
        have HD := Lib.hid hbd
        clear hbd
        gi_wp2
        gi_region_with_o (refine ⟨trivial, ?_⟩)
        all_goals
          gi_wp2
          gi_meet
          exact ⟨_, (Below.refl _ W).drew, by rw [HD.out]; rfl⟩
    case rest =>
      obtain ⟨w2, hb2, rfl⟩ := hcut
      obtain ⟨hc2, hf2⟩ := bcell hb2
      have dS0 := (hc2 _ 0 sS).trans cS0
      have dS1 := (hc2 _ 1 sS).trans cS1
      have dU0 := (hc2 _ 0 sU).trans cU0
      have dU1 := (hc2 _ 1 sU).trans cU1
      have dX0 := (hc2 _ 0 sX).trans cX0
      have dX1 := (hc2 _ 1 sX).trans cX1
      have dY0 := (hc2 _ 0 sY).trans cY0
      have dY1 := (hc2 _ 1 sY).trans cY1
      have dB := (hc2 _ 0 sB).trans cB0
      have dF := (hc2 _ 0 sF).trans cF
      have eB := (hf2 _ 0 sB).trans fB
      have eF := (hf2 _ 0 sF).trans fF
      have sS2 : w.heap.size < w2.heap.size := Nat.lt_of_lt_of_le sS hb2.size
      have sF2 : U + 1 + 1 < w2.heap.size := Nat.lt_of_lt_of_le sF hb2.size
      clear hc2 hf2 cS0 cS1 cU0 cU1 cX0 cX1 cY0 cY1 cB0 cF fB fF
      cases hfd : foldsB (u1, u2) pre
      · rw [hfd] at dF
        have HD := Lib.hid hfd
        clear hfd
        gi_wp2_with fail
        refine ⟨trivial, ?_⟩
        refine (CallsIn.inRound l (callsIn_wide.2 (vdot_any u1 u2 lx ly _ (by omega) (by omega) (by omega) (by omega) (by omega) (by omega) (by omega) (by omega)))).mono ?_
        rintro e w3 ⟨rfl, hb3⟩
        obtain ⟨hc3, hf3⟩ := bcell hb3
        have hz3 := hb3.size
        simp at hz3
        have tF : w3.cell? ⟨U + 1 + 1, 0, none⟩ = some (.bool false) := (hc3 _ 0 (by simp; omega)).trans ((World.cell?_setCell_other _ _ _ _ (by simp)).trans dF)
        have uF : w3.frozen? ⟨U + 1 + 1, 0, none⟩ = false := (hf3 _ 0 (by simp; omega)).trans ((World.frozen?_setCell _ _ _ _).trans eF)
        clear hc3 hf3
        gi_wp2
        obtain ⟨kS, kU, kL, kB⟩ := HK.out
        refine ⟨((keeps_below hb2).trans ((KeepsOthers.setCell _ _ _).trans (((keeps_below hb3).trans (KeepsOthers.setCell _ _ _))))).from _, ?_, ⟨⟨⟨⟨⟨?_, ?_⟩, ?_⟩, ?_⟩, ?_⟩, ?_⟩⟩
        · exact ⟨by have := hb2.size; have := hb3.size; simp at *; omega, (Blk.far (((((kL.grow hb2).far (by omega) _)).grow hb3)) (by omega) _).trans kL.symm⟩
        · exact Blk.far ((((kS.grow hb2).far (by omega) _).grow hb3)) (by omega) _
        · exact Blk.far ((((kU.grow hb2).far (by omega) _).grow hb3)) (by omega) _
        · rw [HBs.out]; exact Blk.far ((((HBB.out.grow hb2).set 0 _).grow hb3)) (by omega) _
        · rw [HFs.out, HD.out]; exact Blk.set ((((HBF.out.grow hb2).far (by omega) _).grow hb3)) 0 _
        · exact Blk.far ((((kL.grow hb2).far (by omega) _).grow hb3)) (by omega) _
        · exact ((((kB.trans (hb2.mono kB.size)).setCell (by simp; omega) _).trans (hb3.mono (by have := hb2.size; have := kB.size; simp; omega)))).setCell (by simp; omega) _
      · rw [hfd] at dF
        have HD := Lib.hid hfd
        clear hfd
        gi_wp2
        refine ⟨trivial, ?_⟩
        gi_wp2
        obtain ⟨kS, kU, kL, kB⟩ := HK.out
        refine ⟨((keeps_below hb2).trans ((KeepsOthers.setCell _ _ _).trans ((KeepsOthers.setCell _ _ _)))).from _, ?_, ⟨⟨⟨⟨⟨?_, ?_⟩, ?_⟩, ?_⟩, ?_⟩, ?_⟩⟩
        · exact ⟨by have := hb2.size; have := hb2.size; simp at *; omega, (Blk.far ((((kL.grow hb2).far (by omega) _))) (by omega) _).trans kL.symm⟩
        · exact Blk.far (((kS.grow hb2).far (by omega) _)) (by omega) _
        · exact Blk.far (((kU.grow hb2).far (by omega) _)) (by omega) _
        · rw [HBs.out]; exact Blk.far (((HBB.out.grow hb2).set 0 _)) (by omega) _
        · rw [HFs.out, HD.out]; exact Blk.set (((HBF.out.grow hb2).far (by omega) _)) 0 _
        · exact Blk.far (((kL.grow hb2).far (by omega) _)) (by omega) _
        · exact (((kB.trans (hb2.mono kB.size)).setCell (by simp; omega) _)).setCell (by simp; omega) _
  case done =>
    rintro D ys W hD rfl ⟨⟨⟨⟨⟨bS1, bU1⟩, bB1⟩, bF1⟩, bL1⟩, hB1⟩ hK
    have cU0 : W.cell? ⟨U, 0, none⟩ = some (.int .i64 u1) := bU1.cell 0
    have cU1 : W.cell? ⟨U, 1, none⟩ = some (.int .i64 u2) := bU1.cell 1
    cases hbd : bendsB (u1, u2) (px 0, py 0) (legsF px py hC n)
    · rw [hbd] at bB1
      have cB : W.cell? ⟨U + 1, 0, none⟩ = some (.bool false) := bB1.cell 0
      cases hfd : foldsB (u1, u2) (legsF px py hC n)
      · rw [hfd] at bF1
        have cF : W.cell? ⟨U + 1 + 1, 0, none⟩ = some (.bool false) := bF1.cell 0
        have HE := Lib.hid hbd
        have HF := Lib.hid hfd
        clear hbd hfd bS1 bU1 bB1 bF1 bL1
        rcases zero_cases u1 u2 with h | ⟨h, h'⟩ | ⟨h, h'⟩
        all_goals
          gi_wp2
          refine ⟨by simp, .inl ⟨_, _, rfl, run_takeDeferred hK, ?_⟩⟩
          first
          | refine ⟨Value.int .i64 1, res_tmp (t := 2) rfl rfl, ret_int ?_, hB1.trans (belowK_b (w := w) (Nat.le_refl _) W D _ _ (by omega) hK rfl rfl)⟩
          | refine ⟨Value.int .i64 0, res_tmp (t := 2) rfl rfl, ret_int ?_, hB1.trans (belowK_b (w := w) (Nat.le_refl _) W D _ _ (by omega) hK rfl rfl)⟩
          rw [HE.out, HF.out]
          simp at h
          try simp at h'
          simp [classS, *]
      · rw [hfd] at bF1
        have cF : W.cell? ⟨U + 1 + 1, 0, none⟩ = some (.bool true) := bF1.cell 0
        have HE := Lib.hid hbd
        have HF := Lib.hid hfd
        clear hbd hfd bS1 bU1 bB1 bF1 bL1
        gi_wp2
        refine ⟨by simp, .inl ⟨_, _, rfl, run_takeDeferred hK, ?_⟩⟩
        exact ⟨Value.int .i64 2, res_tmp (t := 2) rfl rfl, ret_int (by rw [HE.out, HF.out]; rfl), hB1.trans (belowK_b (w := w) (Nat.le_refl _) W D _ _ (by omega) hK rfl rfl)⟩
    · rw [hbd] at bB1
      have cB : W.cell? ⟨U + 1, 0, none⟩ = some (.bool true) := bB1.cell 0
      have HE := Lib.hid hbd
      clear hbd bS1 bU1 bB1 bF1 bL1
      gi_wp2
      refine ⟨by simp, .inl ⟨_, _, rfl, run_takeDeferred hK, ?_⟩⟩
      exact ⟨Value.int .i64 3, res_tmp (t := 2) rfl rfl, ret_int (by rw [HE.out]; rfl), hB1.trans (belowK_b (w := w) (Nat.le_refl _) W D _ _ (by omega) hK rfl rfl)⟩
  case stop =>
    rintro D c pre W _ _ h _
    exact h.elim

end Go.Proofs.Ytpfeegmifcodfaa
