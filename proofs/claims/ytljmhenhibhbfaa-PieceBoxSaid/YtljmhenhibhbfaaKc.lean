/- Contract of piece.Area. -/
import Derived.Test.YtljmhenhibhbfaaKb
import Derived.Test.YtljmhenhibhbfaaProd
import Derived.Test.YtljmhenhibhbfaaOpen
import Derived.Sort.CutIn
namespace Go.Proofs.Ytljmhenhibhbfaa
open Go.RowKit Go.Shelf
attribute [local go_sem] Oper.semAt_some

set_option maxHeartbeats 400000 in
theorem sides_any (v : Value) (a : Option Addr) (n c : Nat) (w : World) (hv : v = .slice a n c) :
    Calls Try.prog 24 #[v] w fun e w' => e = .returned (.func (.func 32) #[] #[.pointer (some ⟨w.heap.size, 0, none⟩)]) ∧ w' = w.alloc (.cells #[.slice a n c] 31) := by
  subst hv
  go_enter Try.func24, Try.ntmps24
  go_wp2
  go_ret
  exact ⟨rfl, rfl⟩

theorem sides_stops (m : Nat) (hm : 1 ≤ m) (Bs B n c : Nat) (a : Option Addr) (l : List (Int × Int)) (hn : n ≤ 1000) (hC : ∀ q ∈ l, nearK q) (w : World) (hS : Blk w Bs 31 #[.slice a n c]) (hl : RPts w B a n l) (hB : B ≤ w.heap.size) :
    SeqStopsK Fence.wide m Try.prog 32 #[.pointer (some ⟨Bs, 0, none⟩)] (fun x : SSide => sideEnc x.1) (Kept B Bs) (fun ys => ys = sidesN l hC) (fun pre => pre <+: sidesN l hC) n w :=
  fun lp J Jx W hW hJ _ hY h0 => sides1_in m hm lp Bs B n c a l hn hC J Jx (fun _ _ _ h hb => abides_below hJ h hb) hY W (hS.grow hW) (hl.below (hW.mono hB)) (Nat.le_trans hB hW.size) h0

theorem blk_own {β : Type} (g : Nat) (t : TypeId) (f : β → Array Value) : Own (fun s W => Blk W g t (f s)) := fun s X Y row hs hg hrow =>
  (hg.block g (Blk.lt hs) (fun e' => by obtain ⟨o, ho, hc⟩ := hrow g e'.symm; rw [show X.heap[g]? = _ from hs] at ho; cases ho; cases hc)).trans hs
theorem keeps_below {A B : World} (h : Below A.heap.size A B) : KeepsOthers A B := ⟨h.size, fun k _ hk _ => (h.block k (Array.getElem?_eq_some_iff.1 hk).1).trans hk⟩

theorem res_tmp {fn : Func} {t : Nat} {tmps : Array Value} {P : Program} {W : World} {v : Value} (h : fn.results = #[.tmp t]) (hv : tmps.getD t undef = v) : (results fn tmps).run P W = .ok v W :=
  hv ▸ results_tmp h tmps P W
def areaN (pre : List SSide) : Int := wrap64 (areaOf (pre.map fun x => x.1))
theorem wrap64_add (a b : Int) : wrap64 (wrap64 a + b) = wrap64 (a + b) := by unfold wrap64; omega
theorem areaN_nil : areaN [] = 0 := wrap_zero
theorem areaN_all (l : List (Int × Int)) (hC : ∀ q ∈ l, nearK q) : areaN (sidesN l hC) = areaK l := by unfold areaN areaK; rw [sidesN_val]
theorem areaN_snoc (pre : List SSide) (x : SSide) : areaN (pre ++ [x]) = wrap64 (areaN pre + crossK x.1.1 x.1.2) := by
  unfold areaN areaOf
  rw [wrap64_add]
  simp

theorem res_int {tmps : Array Value} {W : World} {g tr : Nat} {t : TypeId} {cs : Array Value} {v0 : Value} {fn : Func} (hB : Blk W g t cs) (hfn : fn.results = #[.cell tr 3]) (ht : tmps.getD tr undef = .pointer (some ⟨g, 0, none⟩))
    (h0 : cs[0]? = some v0) : (results fn tmps).run Try.prog W = .ok v0 W := by
  have g0 := (hB.cell 0).trans h0
  have ht' : tmps[tr]?.getD undef = .pointer (some ⟨g, 0, none⟩) := by simpa using ht
  simp [results, hfn, ht', go_sem, g0]
theorem res_bool {tmps : Array Value} {W : World} {g tr : Nat} {t : TypeId} {cs : Array Value} {v0 : Value} {fn : Func} (hB : Blk W g t cs) (hfn : fn.results = #[.cell tr 4]) (ht : tmps.getD tr undef = .pointer (some ⟨g, 0, none⟩))
    (h0 : cs[0]? = some v0) : (results fn tmps).run Try.prog W = .ok v0 W := by
  have g0 := (hB.cell 0).trans h0
  have ht' : tmps[tr]?.getD undef = .pointer (some ⟨g, 0, none⟩) := by simpa using ht
  simp [results, hfn, ht', go_sem, g0]
theorem kept_grow {B g : Nat} {X Y : World} (h : Below X.heap.size X Y) (hg : g < X.heap.size) (hB : B ≤ X.heap.size) : Kept B g X Y :=
  ⟨h.size, fun k hk => h.block k (by omega), h.block g hg⟩
theorem kept_set {B g b : Nat} (W : World) (i : Nat) (v : Value) (hb : B ≤ b) (hg : b ≠ g) : Kept B g W (W.setCell ⟨b, i, none⟩ v) :=
  ⟨by simp [World.setCell], fun k hk => Below.heap_setCell _ _ _ _ (fun e => by simp only at e; omega), Below.heap_setCell _ _ _ _ (Ne.symm hg)⟩

set_option maxRecDepth 100000 in
set_option maxHeartbeats 4000000 in
theorem area_any (a : Option Addr) (n c : Nat) (l : List (Int × Int)) (w : World) (hn : n ≤ 1000) (hC : ∀ q ∈ l, nearK q) (hl : RPts w w.heap.size a n l) :
    Calls Try.prog 12 #[.slice a n c] w fun e w' => e = .returned (.int .i64 (areaK l)) ∧ Below w.heap.size w w' := by
  refine (callsIn_wide (n := 6)).1 ?_
  refine callsIn_of_wp_marks Try.func12 rfl trivial ?_ rfl
  simp only [Try.ntmps12, List.size_toArray, List.length_cons, List.length_nil, Nat.reduceAdd, Nat.reduceSub, Array.replicate_succ, Array.replicate_zero, List.push_toArray, List.append_toArray, List.nil_append, List.cons_append]
  gi_wp2_with fail
  refine ⟨trivial, ?_⟩
  refine (callsIn_wide.2 (sides_any _ a n c _ rfl)).mono ?_
  rintro e w' ⟨rfl, rfl⟩
  gi_wp2_with fail
  have bN := (Blk.new w 3 #[.int .i64 0]).alloc (.cells #[.slice a n c] 31)
  have bP := Blk.new (w.alloc (.cells #[.int .i64 0] 3)) 31 #[.slice a n c]
  rw [World.size_alloc] at bP
  have hsz : ((w.alloc (.cells #[.int .i64 0] 3)).alloc (.cells #[.slice a n c] 31)).heap.size = w.heap.size + 1 + 1 := by simp
  have hB0 : Below w.heap.size w ((w.alloc (.cells #[.int .i64 0] 3)).alloc (.cells #[.slice a n c] 31)) := by (repeat (first | exact Below.refl _ _ | assumption | refine Below.drew ?_ | refine Below.setCell ?_ (by simp; try omega) _ | refine Below.alloc ?_ (by simp; try omega) _))
  have hl0 := hl.below hB0
  generalize hW0 : (w.alloc (.cells #[.int .i64 0] 3)).alloc (.cells #[.slice a n c] 31) = W0 at *
  clear hW0
  refine wpIn_rangeFunc_ownH rfl (by omega) (gf := 32) (lb := #[.pointer (some ⟨w.heap.size + 1, 0, none⟩)]) rfl trivial (enters_of Try.func32 (by kernel_rfl) rfl)
    (sides_stops 5 (by omega) (w.heap.size + 1) w.heap.size n c a l hn hC W0 bP hl0 (by omega)) kept_t (kept_b (by omega) (by omega)) (Below.refl _ _) (fun _ => rfl)
    (fun pre W => (Blk W w.heap.size 3 #[.int .i64 (areaN pre)] ∧ Blk W (w.heap.size + 1) 31 #[.slice a n c]) ∧ Below w.heap.size w W)
    (fun _ _ _ => False)
    (OwnFrom.and (OwnFrom.and (Own.from (blk_own _ _ _) _) (Own.from (blk_own _ _ _) _)) (ownFrom_below (Nat.le_refl _) (by omega)))
    (fun _ _ _ _ _ hs _ _ => hs)
    ⟨⟨by rw [areaN_nil]; exact bN, bP⟩, hB0⟩
    (fun x a' W => ∃ Bx, w.heap.size + 1 < Bx ∧ Blk W Bx 23 #[.int .i64 x.1.1.1, .int .i64 x.1.1.2] ∧ Blk W (Bx + 1) 23 #[.int .i64 x.1.2.1, .int .i64 x.1.2.2] ∧
      a' = { tmps := #[.slice a n c, undef, .pointer (some ⟨w.heap.size, 0, none⟩), .pointer (some ⟨Bx, 0, none⟩), .pointer (some ⟨Bx + 1, 0, none⟩), .slice a n c, .func (.func 32) #[] #[.pointer (some ⟨w.heap.size + 1, 0, none⟩)],
        .agg #[.int .i64 x.1.1.1, .int .i64 x.1.1.2], .agg #[.int .i64 x.1.2.1, .int .i64 x.1.2.2], undef, undef, undef, undef, undef, undef], defers := [] })
    (fun x a' _ X Y row hs hg hr => by
      obtain ⟨Bx, h1, h2, h3, h4⟩ := hs
      exact ⟨Bx, h1, blk_own Bx _ (fun (_ : Unit) => #[.int .i64 x.1.1.1, .int .i64 x.1.1.2]) () X Y row h2 hg (fun r e => (hr r e).2), blk_own (Bx + 1) _ (fun (_ : Unit) => #[.int .i64 x.1.2.1, .int .i64 x.1.2.2]) () X Y row h3 hg (fun r e => (hr r e).2), h4⟩)
    ?assign ?body ?done ?stop
  case assign =>
    rintro lp pre x W K ⟨⟨bN1, bP1⟩, hB1⟩ hK
    gi_wp2
    refine hK _ _ (((KeepsOthers.alloc _ _).trans (KeepsOthers.alloc _ _)).from _) (kept_grow (((Below.refl _ _).alloc (Nat.le_refl _) _).alloc (by simp) _) bP1.lt hB1.size)
      ⟨⟨(bN1.alloc _).alloc _, (bP1.alloc _).alloc _⟩, (hB1.alloc hB1.size _).alloc (by have := hB1.size; simp; omega) _⟩
      ⟨W.heap.size, bP1.lt, (Blk.new W _ _).alloc _, ?_, rfl⟩
    have h := Blk.new (W.alloc (.cells #[.int .i64 x.1.1.1, .int .i64 x.1.1.2] 23)) 23 #[.int .i64 x.1.2.1, .int .i64 x.1.2.2]
    simpa only [World.size_alloc] using h
  case body =>
    rintro lp pre x a' W hlp ⟨r, hr⟩ ⟨⟨bN1, bP1⟩, hB1⟩ ⟨Bx, hBx, bX, bY, rfl⟩ hlt
    have HAN := Lib.hid (areaN_snoc pre x)
    obtain ⟨⟨⟨x1, y1⟩, ⟨x2, y2⟩⟩, hok⟩ := x
    obtain ⟨⟨⟨o1, o2⟩, ⟨o3, o4⟩⟩, ⟨o5, o6⟩, ⟨o7, o8⟩⟩ := hok
    simp only at bX bY o1 o2 o3 o4 o5 o6 o7 o8
    have hmx : Try.prog.follows .mixedOrders = true := by kernel_rfl
    have cN : W.cell? ⟨w.heap.size, 0, none⟩ = some (.int .i64 (areaN pre)) := bN1.cell 0
    have fN := bN1.unfrozen 0
    have cX0 : W.cell? ⟨Bx, 0, none⟩ = some (.int .i64 x1) := bX.cell 0
    have cX1 : W.cell? ⟨Bx, 1, none⟩ = some (.int .i64 y1) := bX.cell 1
    have cY0 : W.cell? ⟨Bx + 1, 0, none⟩ = some (.int .i64 x2) := bY.cell 0
    have cY1 : W.cell? ⟨Bx + 1, 1, none⟩ = some (.int .i64 y2) := bY.cell 1
    have sN := bN1.lt
    have sX := bX.lt
    have sY := bY.lt
    have HK := Lib.hid (And.intro bN1 (And.intro bP1 hB1))
    clear bN1 bP1 bX bY
    dsimp only
    gi_wp2
    gi_region_with_o (first
      | (refine ⟨trivial, ?_⟩
         gi_at_call 25
         refine (CallsIn.inRound lp (callsIn_wide.2 (calls_from (Below.refl _ _) (vcross_any x1 y1 x2 y2 _ (by omega) (by omega) (by omega) (by omega) (by omega) (by omega) (by omega) (by omega))))).mono ?_
         rintro e w2 ⟨rfl, hb2⟩
         obtain ⟨hc2, hf2⟩ := bcell hb2
         have dN := (hc2 _ 0 sN).trans cN
         have eN := (hf2 _ 0 sN).trans fN
         clear hc2 hf2))
    all_goals
      gi_wp2
      obtain ⟨kN, kP, kB⟩ := HK.out
      have hW2 : Below W.heap.size W w2 := (Below.refl W.heap.size W).drew.trans hb2
      refine ⟨((keeps_below hW2).trans (KeepsOthers.setCell _ _ _)).from _, kept_t (kept_grow hW2 kP.lt kB.size) (kept_set _ _ _ (Nat.le_refl _) (by omega)), ⟨⟨?_, Blk.far (kP.grow hW2) (by omega) _⟩, (kB.trans (hW2.mono kB.size)).setCell (by simp) _⟩⟩
      rw [HAN.out, ← IntWalk.i64_left]
      exact (kN.grow hW2).set 0 _
  case done =>
    rintro D ys W hD rfl ⟨⟨bN1, bP1⟩, hB1⟩ hK
    rw [areaN_all] at bN1
    have cN : W.cell? ⟨w.heap.size, 0, none⟩ = some (.int .i64 (areaK l)) := bN1.cell 0
    have fN := bN1.unfrozen 0
    have sN := bN1.lt
    have HN := Lib.hid (bN1.set 0 (.int .i64 (areaK l)))
    have HB := Lib.hid (hB1.setCell (p := ⟨w.heap.size, 0, none⟩) (Nat.le_refl _) (.int .i64 (areaK l)))
    clear bN1 bP1 hB1
    gi_wp2
    have hK' := (KeepsOthers.setCell W ⟨w.heap.size, 0, none⟩ (.int .i64 (areaK l))).same D _ hK rfl
    refine ⟨by simp, .inl ⟨_, _, rfl, run_takeDeferred hK', ?_⟩⟩
    refine ⟨.int .i64 (areaK l), res_int ((World.putObj_heap_other (by omega)).trans HN.out) rfl rfl rfl, rfl, HB.out.trans (belowK_b (w := w) (Nat.le_refl _) _ D _ _ (by omega) hK' rfl rfl)⟩
  case stop =>
    rintro D c pre W _ _ h _
    exact h.elim
end Go.Proofs.Ytljmhenhibhbfaa
