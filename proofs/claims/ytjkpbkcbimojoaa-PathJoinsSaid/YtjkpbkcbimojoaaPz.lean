/- Contract of path.Join: the walk. -/
import Derived.Test.YtjkpbkcbimojoaaPy
import Derived.Test.YtjkpbkcbimojoaaPn
import Derived.Test.YtjkpbkcbimojoaaPt
import Derived.Test.YtjkpbkcbimojoaaApp
import Derived.Test.YtjkpbkcbimojoaaPs
namespace Go.Proofs.Ytjkpbkcbimojoaa
open Go.RowKit

def JoinPost (w : World) (l : List SubS) (e : Ending) (W : World) : Prop := ∃ a c b d, e = .returned (.agg #[.slice a (joinVs l).length c, .slice b (joinPs l).length d]) ∧
  (joinVs l).length ≤ c ∧ (joinPs l).length ≤ d ∧ d ≤ maxLen ∧ RInts W W.heap.size a (joinVs l).length (joinVs l) ∧ RPts W W.heap.size b (joinPs l).length (joinPs l) ∧ Below w.heap.size w W

def OwnV (W : World) (B : Nat) (t : TypeId) (v : Value) (xs : List Int) : Prop := W.ownsRow B t 1 v xs.length (intsV xs)
def OwnQ (W : World) (B : Nat) (t : TypeId) (v : Value) (ys : List (Int × Int)) : Prop := W.ownsRow B t 2 v ys.length (ptsV ys)
/-- A path in the making: its block and its two rows. -/
def JI (W : World) (B P : Nat) (tP tI tQ : TypeId) (xs : List Int) (ys : List (Int × Int)) : Prop :=
  ∃ v p, Blk W P tP #[v, p] ∧ W.ownsRow B tI 1 v xs.length (intsV xs) ∧ W.ownsRow B tQ 2 p ys.length (ptsV ys)
theorem infoInt : (Try.prog.info? 3).map (fun i => (i.zero, i.size, i.bytes)) = some (some (.int .i64 0), 1, 8) := by kernel_rfl
theorem infoPt : (Try.prog.info? 44).map (fun i => (i.zero, i.size, i.bytes)) = some (some (.agg #[.int .i64 0, .int .i64 0]), 2, 16) := by kernel_rfl
theorem own_cap {w : World} {base n : Nat} {e : TypeId} {size : Nat} {v : Value} {xs : List Value} (h : w.ownsRow base e size v n xs) : ∃ a c, v = .slice a n c ∧ n ≤ c ∧ c ≤ maxLen := by
  rcases h.2 with ⟨rfl, rfl⟩ | ⟨g, cap, cur, rfl, _, _, h3⟩
  · exact ⟨_, _, rfl, Nat.le_refl _, Nat.zero_le _⟩
  · exact ⟨_, _, rfl, by omega, by omega⟩
theorem segPs_len (g : SegS) : (segPs g).length ≤ 3 := by
  unfold segPs
  repeat' split
  all_goals simp
theorem segsVs_le : ∀ l : List SegS, (segsVs l).length ≤ l.length
  | [] => by simp [segsVs]
  | g :: l => by
    have h1 := segsVs_le l
    have h2 := segVs_len g
    simp only [segsVs, List.flatMap_cons, List.length_append, List.length_cons] at h1 ⊢
    omega
theorem segsPs_le : ∀ l : List SegS, (segsPs l).length ≤ 3 * l.length
  | [] => by simp [segsPs]
  | g :: l => by
    have h1 := segsPs_le l
    have h2 := segPs_len g
    simp only [segsPs, List.flatMap_cons, List.length_append, List.length_cons] at h1 ⊢
    omega
theorem subVs_le {s : SubS} (h : s.segs.length ≤ 1000) : (subVs s).length ≤ 1002 := by
  have h1 := segsVs_le s.segs
  have h2 : (endVs s.closed).length ≤ 1 := by unfold endVs; split <;> simp
  simp only [subVs, List.length_cons, List.length_append]
  omega
theorem subPs_le {s : SubS} (h : s.segs.length ≤ 1000) : (subPs s).length ≤ 3001 := by
  have h1 := segsPs_le s.segs
  simp only [subPs, List.length_cons]
  omega
theorem join_le : ∀ l : List SubS, (∀ s ∈ l, s.segs.length ≤ 1000) → (joinVs l).length ≤ 1002 * l.length ∧ (joinPs l).length ≤ 3001 * l.length
  | [], _ => by simp [joinVs, joinPs]
  | s :: l, h => by
    have h1 := join_le l (fun u hu => h u (List.mem_cons_of_mem _ hu))
    have h2 := subVs_le (h s List.mem_cons_self)
    have h3 := subPs_le (h s List.mem_cons_self)
    simp only [joinVs, joinPs, List.flatMap_cons, List.length_append, List.length_cons] at h1 ⊢
    omega
theorem segsVs_snoc (l : List SegS) (g : SegS) : segsVs (l ++ [g]) = segsVs l ++ segVs g := by simp [segsVs]
theorem segsPs_snoc (l : List SegS) (g : SegS) : segsPs (l ++ [g]) = segsPs l ++ segPs g := by simp [segsPs]
theorem joinVs_snoc (l : List SubS) (g : SubS) : joinVs (l ++ [g]) = joinVs l ++ subVs g := by simp [joinVs]
theorem joinPs_snoc (l : List SubS) (g : SubS) : joinPs (l ++ [g]) = joinPs l ++ subPs g := by simp [joinPs]

theorem res_path {tmps : Array Value} {W : World} {g tr : Nat} {t : TypeId} {cs : Array Value} {v0 v1 : Value} {fn : Func} (hB : Blk W g t cs) (hfn : fn.results = #[.cell tr 25]) (ht : tmps.getD tr undef = .pointer (some ⟨g, 0, none⟩))
    (h0 : cs[0]? = some v0) (h1 : cs[1]? = some v1) : (results fn tmps).run Try.prog W = .ok (.agg #[v0, v1]) W := by
  have g0 := (hB.cell 0).trans h0
  have g1 := (hB.cell 1).trans h1
  have ht' : tmps[tr]?.getD undef = .pointer (some ⟨g, 0, none⟩) := by simpa using ht
  simp [results, hfn, ht', go_sem, g0, g1]
def JT (W : World) (B T : Nat) (tP tT tI tQ : TypeId) (cs : Array Value) (xs : List Int) (ys : List (Int × Int)) : Prop :=
  ∃ v p, Blk W B tP #[v, p] ∧ Blk W T tT cs ∧ OwnV W B tI v xs ∧ OwnQ W B tQ p ys
theorem Blk.newsAt {w : World} {g : Nat} {t : TypeId} {cs : Array Value} (h : Blk w g t cs) (o : Nat) (l : List Value) (hl : ∀ (j : Nat) (u : Value), l[j]? = some u → cs[o + j]? = some u) :
    ∀ j u, l[j]? = some u → w.cell? ((⟨g, o, none⟩ : Addr).add j) = some u := by
  intro j u hj
  have hadd : (⟨g, o, none⟩ : Addr).add j = ⟨g, o + j, none⟩ := by unfold Addr.add; split <;> simp_all
  rw [hadd, h.cell]
  exact hl j u hj
theorem own_two {w : World} {base n size P T : Nat} {e t1 t2 : TypeId} {v : Value} {xs : List Value} {c1 c2 : Array Value} (h : w.ownsRow base e size v n xs) (h1 : Blk w P t1 c1) (h2 : Blk w T t2 c2) (n1 : t1 ≠ e) (n2 : t2 ≠ e) :
    ∀ b, v.ownBlock = some b → ¬ (b = P ∨ b = T) := fun b hb hor => hor.elim (own_apart_blk h h1 n1 b hb) (own_apart_blk h h2 n2 b hb)

set_option maxRecDepth 100000 in
set_option maxHeartbeats 20000000 in
theorem join_any (a : Option Addr) (n c : Nat) (l : List SubS) (w : World) (hn : n ≤ 1000) (hl : RSubs w w.heap.size a n l) (hs : ∀ s ∈ l, s.segs.length ≤ 1000) :
    Calls Try.prog 21 #[.slice a n c] w (JoinPost w l) := by
  obtain ⟨iI, hiI, hz0I, hz1I, hz2I⟩ := info_parts infoInt
  obtain ⟨iQ, hiQ, hz0Q, hz1Q, hz2Q⟩ := info_parts infoPt
  have hnl := hl.1
  have HL := Lib.hid hl
  have HS := Lib.hid hs
  have HLE := Lib.hid (fun k => join_le (l.take k) (fun s h => hs s (List.mem_of_mem_take h)))
  clear hl hs
  go_enter Try.func21, Try.ntmps21
  go_wp2_with fail
  have h0 : JI (w.alloc (.cells #[.slice none 0 0, .slice none 0 0] 25)) w.heap.size w.heap.size 25 3 44 (joinVs (l.take 0)) (joinPs (l.take 0)) := ⟨_, _, Blk.new w _ _, World.ownsRow_nil _ _ _ _, World.ownsRow_nil _ _ _ _⟩
  have H0 := Lib.hid h0
  clear h0
  go_loopw [9] (fun i wr => ∃ k : Nat, k ≤ n ∧ i = .int .i64 k ∧ JI wr w.heap.size w.heap.size 25 3 44 (joinVs (l.take k)) (joinPs (l.take k)) ∧ Below w.heap.size w wr) (fun i _ => n - (intOf i).toNat)
  case atStart => exact ⟨0, Nat.zero_le _, rfl, H0.out, by (repeat (first | exact Below.refl _ _ | assumption | refine Below.drew ?_ | refine Below.setCell ?_ (by simp; try omega) _ | refine Below.alloc ?_ (by simp; try omega) _))⟩
  case round =>
    obtain ⟨k, hk, rfl, ⟨v, p, fP, oV, oP⟩, hb⟩ := hrel
    by_cases hlt : k < n
    · have hlk : k < l.length := by omega
      obtain ⟨sb, so, sa, sc, hsa, hsB, r0, r1, r2, r3, hsc, hseg⟩ := HL.out.at_ k hlk
      subst hsa
      replace r0 := (hb.cell (p := ⟨sb, so + k * 4, none⟩) hsB).trans r0
      replace r1 := (hb.cell (p := ⟨sb, so + k * 4 + 1, none⟩) hsB).trans r1
      replace r2 := (hb.cell (p := ⟨sb, so + k * 4 + 2, none⟩) hsB).trans r2
      replace r3 := (hb.cell (p := ⟨sb, so + k * 4 + 3, none⟩) hsB).trans r3
      have hsm := HS.out l[k] (List.getElem_mem hlk)
      have hle := HLE.out k
      rw [List.length_take, Nat.min_eq_left (Nat.le_of_lt hlk)] at hle
      have HJ : Hid (joinVs (l.take (k + 1)) = joinVs (l.take k) ++ subVs l[k] ∧ joinPs (l.take (k + 1)) = joinPs (l.take k) ++ subPs l[k]) := Lib.hid (by rw [take_snoc l k hlk, joinVs_snoc, joinPs_snoc]; exact ⟨rfl, rfl⟩)
      have hlw : sb < wr.heap.size := by have := hb.size; omega
      generalize joinVs (l.take k) = xs at *
      generalize joinPs (l.take k) = ys at *
      generalize l[k] = s at *
      obtain ⟨⟨sx, sy⟩, segs, cl⟩ := s
      simp only at r0 r1 r2 r3 hsm hsc hseg
      obtain ⟨hlex, hley⟩ := hle
      have HSE := Lib.hid hseg
      clear hseg
      have hlt' : (k : Int) < n := by omega
      have lP := fP.lt
      have hPT : w.heap.size ≠ wr.heap.size := by omega
      go_wp2_with fail
      have fT := Blk.new wr 47 #[.int .i64 sx, .int .i64 sy, .slice sa segs.length sc, .bool cl]
      replace fP := fP.alloc (.cells #[.int .i64 sx, .int .i64 sy, .slice sa segs.length sc, .bool cl] 47)
      replace oV := oV.alloc (.cells #[.int .i64 sx, .int .i64 sy, .slice sa segs.length sc, .bool cl] 47)
      replace oP := oP.alloc (.cells #[.int .i64 sx, .int .i64 sy, .slice sa segs.length sc, .bool cl] 47)
      replace hb := hb.alloc hb.size (.cells #[.int .i64 sx, .int .i64 sy, .slice sa segs.length sc, .bool cl] 47)
      clear r0 r1 r2 r3 lP hlw
      generalize wr.alloc (.cells #[.int .i64 sx, .int .i64 sy, .slice sa segs.length sc, .bool cl] 47) = wT at *
      generalize wr.heap.size = T at *
      have eP := fP.cell
      have eT := fT.cell
      have lP := fP.lt
      have lT := fT.lt
      refine Reg.wp_region_E (fun b => b = w.heap.size ∨ b = T) (fun j => decide (11 ≤ j)) 14 rfl (by kernel_rfl) ?_
      refine Reg.wpE_hoist [0, 1, 4, 5, 6, 7] 8 rfl (by kernel_rfl) (by kernel_rfl) (by kernel_rfl) (fun u => ?_)
      simp only [Reg.pickL, List.drop]
      repeat (go_big_quiet_step ((first | fail)))
      refine wpQuiet_nil ?_
      clear eP eT lP lT
      refine Reg.wpE_main2 2 8 (by kernel_rfl) (fun x1 hN => ?_) (fun x1 hN => ?_)
      · simp only [Reg.pickL, List.drop]
        replace hb := hb.trans (Below.mono hN hb.size)
        replace fP := fP.grow hN
        try replace fT := fT.grow hN
        try replace fG := fG.grow hN
        replace oV := own_grow oV hN
        replace oP := own_grow oP hN
        try replace f2 := f2.grow hN
        try replace f8 := f8.grow hN
        clear hN
        have hsz := hb.size
        go_wp2_with fail
        refine ⟨rfl, .inr (Reg.Kp.of_gr ((Below.refl _ _).alloc (Nat.le_refl _) _)), ?_⟩
        replace hb := hb.alloc hb.size (.cells #[Value.int .i64 1] 3)
        replace fP := fP.alloc (.cells #[Value.int .i64 1] 3)
        try replace fG := fG.alloc (.cells #[Value.int .i64 1] 3)
        replace fT := fT.alloc (.cells #[Value.int .i64 1] 3)
        replace oV := oV.alloc (.cells #[Value.int .i64 1] 3)
        replace oP := oP.alloc (.cells #[Value.int .i64 1] 3)
        try replace f8 := f8.alloc (.cells #[Value.int .i64 1] 3)
        have f2 : Blk _ x1.heap.size 3 [Value.int .i64 1].toArray := Blk.new x1 _ _
        clear hsz
        refine Reg.wpE_main2 3 8 (by kernel_rfl) (fun x2 hN => ?_) (fun x2 hN => ?_)
        · simp only [Reg.pickL, List.drop]
          replace hb := hb.trans (Below.mono hN hb.size)
          replace fP := fP.grow hN
          try replace fT := fT.grow hN
          try replace fG := fG.grow hN
          replace oV := own_grow oV hN
          replace oP := own_grow oP hN
          try replace f2 := f2.grow hN
          try replace f8 := f8.grow hN
          clear hN
          have hsz := hb.size
          refine wpList_append_own _ rfl _ _ 22 rfl w.heap.size 3 iI _ 1 8 Try.underlying22 hiI hz0I hz1I hz2I rfl (by decide) _ _ _ rfl oV ⟨x1.heap.size, 0, none⟩ 1 1 [Value.int .i64 1] rfl rfl f2.news (by simp [Value.oneCell']) (by unfold maxLen; omega) (by omega) hsz ?_
          rintro v' w5 hown hg -
          obtain ⟨va, vc, rfl, _⟩ := own_slice hown
          go_wp2_with fail
          refine ⟨rfl, .inr (Reg.Kp.of_grown hg (fun b hb => own_two oV fP fT (by decide) (by decide) b hb)), ?_⟩
          replace fP := fP.grown hg (own_apart_blk oV fP (by decide))
          try replace fG := fG.grown hg (own_apart_blk oV fG (by decide))
          replace fT := fT.grown hg (own_apart_blk oV fT (by decide))
          try replace f8 := f8.grown hg (own_apart_blk oV f8 (by decide))
          replace oP := oP.kept hg (own_apart oP oV (by decide))
          replace hb := hb.grown hg hb.size (fun k hk => (oV.lt k hk).1)
          replace oV := hown
          clear hown hg f2 hsz
          refine Reg.wpE_hoist [10] 5 rfl (by kernel_rfl) (by kernel_rfl) (by kernel_rfl) (fun u => ?_)
          simp only [Reg.pickL, List.drop]
          repeat (go_big_quiet_step ((first | fail)))
          refine wpQuiet_nil ?_
          refine Reg.wpE_main 8 (by kernel_rfl) (fun x3 hN => ?_)
          simp only [Reg.pickL, List.drop]
          replace hb := hb.trans (Below.mono hN hb.size)
          replace fP := fP.grow hN
          try replace fT := fT.grow hN
          try replace fG := fG.grow hN
          replace oV := own_grow oV hN
          replace oP := own_grow oP hN
          try replace f2 := f2.grow hN
          try replace f8 := f8.grow hN
          clear hN
          have hsz := hb.size
          go_wp2_with fail
          refine ⟨rfl, .inr (Reg.Kp.of_gr ((Below.refl _ _).alloc (Nat.le_refl _) _)), ?_⟩
          replace hb := hb.alloc hb.size (.cells #[.int .i64 sx, .int .i64 sy] 44)
          replace fP := fP.alloc (.cells #[.int .i64 sx, .int .i64 sy] 44)
          replace fT := fT.alloc (.cells #[.int .i64 sx, .int .i64 sy] 44)
          replace oV := oV.alloc (.cells #[.int .i64 sx, .int .i64 sy] 44)
          replace oP := oP.alloc (.cells #[.int .i64 sx, .int .i64 sy] 44)
          try replace f2 := f2.alloc (.cells #[.int .i64 sx, .int .i64 sy] 44)
          have f8 : Blk _ x3.heap.size 44 (ptsV [(sx, sy)]).toArray := Blk.new x3 _ _
          clear hsz
          refine Reg.wpE_main 9 (by kernel_rfl) (fun x4 hN => ?_)
          simp only [Reg.pickL, List.drop]
          replace hb := hb.trans (Below.mono hN hb.size)
          replace fP := fP.grow hN
          try replace fT := fT.grow hN
          try replace fG := fG.grow hN
          replace oV := own_grow oV hN
          replace oP := own_grow oP hN
          try replace f2 := f2.grow hN
          try replace f8 := f8.grow hN
          clear hN
          have hsz := hb.size
          refine wpList_append_own _ rfl _ _ 23 rfl w.heap.size 44 iQ _ 2 16 Try.underlying23 hiQ hz0Q hz1Q hz2Q rfl (by decide) _ _ _ rfl oP ⟨x3.heap.size, 0, none⟩ 1 1 (ptsV [(sx, sy)]) rfl rfl f8.news (ptsV_one _) (by unfold maxLen; omega) (by omega) hsz ?_
          rintro p' w5 hown hg -
          obtain ⟨pa, pc, rfl, _⟩ := own_slice hown
          go_wp2_with fail
          refine ⟨rfl, .inr (Reg.Kp.of_grown hg (fun b hb => own_two oP fP fT (by decide) (by decide) b hb)), ?_⟩
          replace fP := fP.grown hg (own_apart_blk oP fP (by decide))
          replace fT := fT.grown hg (own_apart_blk oP fT (by decide))
          replace oV := oV.kept hg (own_apart oV oP (by decide))
          replace hb := hb.grown hg hb.size (fun k hk => (oP.lt k hk).1)
          replace oP := hown
          clear hown hg f8 hsz
          refine Reg.wpE_main 11 (by kernel_rfl) (fun zz1 hN => ?_)
          simp only [Reg.pickL, List.drop]
          replace hb := hb.trans (Below.mono hN hb.size)
          replace fP := fP.grow hN
          try replace fT := fT.grow hN
          try replace fG := fG.grow hN
          replace oV := own_grow oV hN
          replace oP := own_grow oP hN
          try replace f2 := f2.grow hN
          try replace f8 := f8.grow hN
          clear hN
          have hsz := hb.size
          have eP := fP.unfrozen
          have cP := fP.cell 0
          have lP := fP.lt
          go_wp2_with fail
          refine ⟨rfl, .inl rfl, ?_⟩
          clear eP cP lP hsz
          replace oV := own_far oV fP (i := 0) (by decide) (.slice va (xs.length + 1) vc)
          replace oP := own_far oP fP (i := 0) (by decide) (.slice va (xs.length + 1) vc)
          replace fT := fT.far (b := w.heap.size) (i := 0) hPT (.slice va (xs.length + 1) vc)
          try replace fG := fG.far (b := w.heap.size) (i := 0) hPG (.slice va (xs.length + 1) vc)
          replace hb := hb.setCell (p := ⟨w.heap.size, 0, none⟩) (Nat.le_refl _) (.slice va (xs.length + 1) vc)
          have fP' : Blk _ w.heap.size 25 #[.slice va (xs.length + 1) vc, p] := fP.set 0 (.slice va (xs.length + 1) vc)
          clear fP
          have fP := fP'
          clear fP'
          refine Reg.wpE_main 12 (by kernel_rfl) (fun ym hN => ?_)
          simp only [Reg.pickL, List.drop]
          replace hb := hb.trans (Below.mono hN hb.size)
          replace fP := fP.grow hN
          try replace fT := fT.grow hN
          try replace fG := fG.grow hN
          replace oV := own_grow oV hN
          replace oP := own_grow oP hN
          try replace f2 := f2.grow hN
          try replace f8 := f8.grow hN
          clear hN
          have hsz := hb.size
          go_wp2_with fail
          refine ⟨rfl, .inl rfl, ?_⟩
          clear hsz
          refine Reg.wpE_main 13 (by kernel_rfl) (fun zz2 hN => ?_)
          simp only [Reg.pickL, List.drop]
          replace hb := hb.trans (Below.mono hN hb.size)
          replace fP := fP.grow hN
          try replace fT := fT.grow hN
          try replace fG := fG.grow hN
          replace oV := own_grow oV hN
          replace oP := own_grow oP hN
          try replace f2 := f2.grow hN
          try replace f8 := f8.grow hN
          clear hN
          have hsz := hb.size
          have eP := fP.unfrozen
          have cP := fP.cell 1
          have lP := fP.lt
          go_wp2_with fail
          refine ⟨rfl, .inl rfl, ?_⟩
          clear eP cP lP hsz
          replace oV := own_far oV fP (i := 1) (by decide) (.slice pa (ys.length + 1) pc)
          replace oP := own_far oP fP (i := 1) (by decide) (.slice pa (ys.length + 1) pc)
          replace fT := fT.far (b := w.heap.size) (i := 1) hPT (.slice pa (ys.length + 1) pc)
          try replace fG := fG.far (b := w.heap.size) (i := 1) hPG (.slice pa (ys.length + 1) pc)
          replace hb := hb.setCell (p := ⟨w.heap.size, 1, none⟩) (Nat.le_refl _) (.slice pa (ys.length + 1) pc)
          have fP' : Blk _ w.heap.size 25 #[.slice va (xs.length + 1) vc, .slice pa (ys.length + 1) pc] := fP.set 1 (.slice pa (ys.length + 1) pc)
          clear fP
          have fP := fP'
          clear fP'
          refine Reg.wpE_end (by kernel_rfl) (fun zz3 hN => ?_)
          replace hb := hb.trans (Below.mono hN hb.size)
          replace fP := fP.grow hN
          try replace fT := fT.grow hN
          try replace fG := fG.grow hN
          replace oV := own_grow oV hN
          replace oP := own_grow oP hN
          try replace f2 := f2.grow hN
          try replace f8 := f8.grow hN
          clear hN
          have hsz := hb.size
          have oV' : OwnV zz3 w.heap.size 3 (.slice va (xs.length + 1) vc) (xs ++ [1]) := by unfold OwnV; simpa [intsV] using oV
          have oP' : OwnQ zz3 w.heap.size 44 (.slice pa (ys.length + 1) pc) (ys ++ [(sx, sy)]) := by unfold OwnQ; simpa [ptsV_append] using oP
          clear oV oP hsz
          have eT := fT.cell
          have lT := fT.lt
          go_wp2_with fail
          clear eT lT
          have HI : Hid (JT zz3 w.heap.size T 25 47 3 44 #[.int .i64 sx, .int .i64 sy, .slice sa segs.length sc, .bool cl] (xs ++ [1] ++ segsVs (segs.take 0)) (ys ++ [(sx, sy)] ++ segsPs (segs.take 0))) := Lib.hid ⟨_, _, fP, fT, by simpa [segsVs] using oV', by simpa [segsPs] using oP'⟩
          have HB := Lib.hid hb
          clear fP fT oV' oP' hb
          go_loopw [28] (fun j wi => ∃ i : Nat, i ≤ segs.length ∧ j = .int .i64 i ∧ JT wi w.heap.size T 25 47 3 44 #[.int .i64 sx, .int .i64 sy, .slice sa segs.length sc, .bool cl] (xs ++ [1] ++ segsVs (segs.take i)) (ys ++ [(sx, sy)] ++ segsPs (segs.take i)) ∧ Below w.heap.size w wi) (fun j _ => segs.length - (intOf j).toNat)
          case atStart => exact ⟨0, Nat.zero_le _, rfl, HI.out, HB.out⟩
          case round =>
            clear HI HB
            obtain ⟨wi, rfl⟩ : ∃ wi : World, wi = wr := ⟨_, rfl⟩
            obtain ⟨i, hi, rfl, ⟨v, p, fP, fT, oV, oP⟩, hb⟩ := hrel
            by_cases hil : i < segs.length
            · obtain ⟨gb, go, hga, hgB, e0, e1, e2, e3, e4, e5, e6, e7, e8⟩ := (HSE.out.below hb).at_ i hil
              subst hga
              have HXT : Hid (xs ++ [1] ++ segsVs (segs.take (i + 1)) = xs ++ [1] ++ segsVs (segs.take i) ++ segVs segs[i] ∧ ys ++ [(sx, sy)] ++ segsPs (segs.take (i + 1)) = ys ++ [(sx, sy)] ++ segsPs (segs.take i) ++ segPs segs[i]) := Lib.hid (by rw [take_snoc segs i hil, segsVs_snoc, segsPs_snoc, ← List.append_assoc, ← List.append_assoc]; exact ⟨rfl, rfl⟩)
              have hX : (xs ++ [1] ++ segsVs (segs.take i)).length ≤ 1002 * k + 1001 := by
                have := segsVs_le (segs.take i)
                simp only [List.length_append, List.length_cons, List.length_nil, List.length_take] at this ⊢
                omega
              have hY : (ys ++ [(sx, sy)] ++ segsPs (segs.take i)).length ≤ 3001 * k + 3001 := by
                have := segsPs_le (segs.take i)
                simp only [List.length_append, List.length_cons, List.length_nil, List.length_take] at this ⊢
                omega
              have hgw : gb < wi.heap.size := by have := hb.size; omega
              generalize xs ++ [1] ++ segsVs (segs.take i) = X at *
              generalize ys ++ [(sx, sy)] ++ segsPs (segs.take i) = Y at *
              generalize segs[i] = q at *
              obtain ⟨⟨y0, z0⟩, ⟨y1, z1⟩, ⟨y2, z2⟩, ⟨y3, z3⟩, qn⟩ := q
              simp only at e0 e1 e2 e3 e4 e5 e6 e7 e8
              have oV : wi.ownsRow w.heap.size 3 1 v X.length (intsV X) := oV
              have oP : wi.ownsRow w.heap.size 44 2 p Y.length (ptsV Y) := oP
              have lP := fP.lt
              have hPG : w.heap.size ≠ wi.heap.size := by omega
              clear lP
              have hil' : (i : Int) < segs.length := by omega
              rcases (by omega : qn = 2 ∨ qn = 3 ∨ qn = 4 ∨ ¬ (2 : Int) ≤ qn ∨ (2 ≤ qn ∧ ¬ qn ≤ 4)) with rfl | rfl | rfl | hq | ⟨hq0, hq⟩
              · skip
                go_wp2_with fail
                have fG := Blk.new wi 50 #[.int .i64 y0, .int .i64 z0, .int .i64 y1, .int .i64 z1, .int .i64 y2, .int .i64 z2, .int .i64 y3, .int .i64 z3, .int .i64 2]
                replace fP := fP.alloc (.cells #[.int .i64 y0, .int .i64 z0, .int .i64 y1, .int .i64 z1, .int .i64 y2, .int .i64 z2, .int .i64 y3, .int .i64 z3, .int .i64 2] 50)
                replace fT := fT.alloc (.cells #[.int .i64 y0, .int .i64 z0, .int .i64 y1, .int .i64 z1, .int .i64 y2, .int .i64 z2, .int .i64 y3, .int .i64 z3, .int .i64 2] 50)
                replace oV := oV.alloc (.cells #[.int .i64 y0, .int .i64 z0, .int .i64 y1, .int .i64 z1, .int .i64 y2, .int .i64 z2, .int .i64 y3, .int .i64 z3, .int .i64 2] 50)
                replace oP := oP.alloc (.cells #[.int .i64 y0, .int .i64 z0, .int .i64 y1, .int .i64 z1, .int .i64 y2, .int .i64 z2, .int .i64 y3, .int .i64 z3, .int .i64 2] 50)
                replace hb := hb.alloc hb.size (.cells #[.int .i64 y0, .int .i64 z0, .int .i64 y1, .int .i64 z1, .int .i64 y2, .int .i64 z2, .int .i64 y3, .int .i64 z3, .int .i64 2] 50)
                clear e0 e1 e2 e3 e4 e5 e6 e7 e8
                generalize wi.alloc (.cells #[.int .i64 y0, .int .i64 z0, .int .i64 y1, .int .i64 z1, .int .i64 y2, .int .i64 z2, .int .i64 y3, .int .i64 z3, .int .i64 2] 50) = wS at *
                generalize wi.heap.size = G at *
                have eP := fP.cell
                have eG := fG.cell
                have lP := fP.lt
                have lG := fG.lt
                refine Reg.wp_region_E (fun b => b = w.heap.size ∨ b = G) (fun j => decide (14 ≤ j)) 17 rfl (by kernel_rfl) ?_
                refine Reg.wpE_hoist [0, 1, 2, 3, 6, 7, 8, 9, 10, 11] 7 rfl (by kernel_rfl) (by kernel_rfl) (by kernel_rfl) (fun u => ?_)
                simp only [Reg.pickL, List.drop]
                repeat (go_big_quiet_step ((first | fail)))
                refine wpQuiet_nil ?_
                clear eP eG lP lG
                refine Reg.wpE_main 4 (by kernel_rfl) (fun x1 hN => ?_)
                simp only [Reg.pickL, List.drop]
                replace hb := hb.trans (Below.mono hN hb.size)
                replace fP := fP.grow hN
                try replace fT := fT.grow hN
                try replace fG := fG.grow hN
                replace oV := own_grow oV hN
                replace oP := own_grow oP hN
                try replace f2 := f2.grow hN
                try replace f8 := f8.grow hN
                clear hN
                have hsz := hb.size
                go_wp2_with fail
                refine ⟨rfl, .inr (Reg.Kp.of_gr ((Below.refl _ _).alloc (Nat.le_refl _) _)), ?_⟩
                replace hb := hb.alloc hb.size (.cells #[Value.int .i64 2] 3)
                replace fP := fP.alloc (.cells #[Value.int .i64 2] 3)
                try replace fG := fG.alloc (.cells #[Value.int .i64 2] 3)
                replace fT := fT.alloc (.cells #[Value.int .i64 2] 3)
                replace oV := oV.alloc (.cells #[Value.int .i64 2] 3)
                replace oP := oP.alloc (.cells #[Value.int .i64 2] 3)
                try replace f8 := f8.alloc (.cells #[Value.int .i64 2] 3)
                have f2 : Blk _ x1.heap.size 3 [Value.int .i64 2].toArray := Blk.new x1 _ _
                clear hsz
                refine Reg.wpE_main 5 (by kernel_rfl) (fun x2 hN => ?_)
                simp only [Reg.pickL, List.drop]
                replace hb := hb.trans (Below.mono hN hb.size)
                replace fP := fP.grow hN
                try replace fT := fT.grow hN
                try replace fG := fG.grow hN
                replace oV := own_grow oV hN
                replace oP := own_grow oP hN
                try replace f2 := f2.grow hN
                try replace f8 := f8.grow hN
                clear hN
                have hsz := hb.size
                refine wpList_append_own _ rfl _ _ 22 rfl w.heap.size 3 iI _ 1 8 Try.underlying22 hiI hz0I hz1I hz2I rfl (by decide) _ _ _ rfl oV ⟨x1.heap.size, 0, none⟩ 1 1 [Value.int .i64 2] rfl rfl f2.news (by simp [Value.oneCell']) (by unfold maxLen; omega) (by omega) hsz ?_
                rintro v' w5 hown hg -
                obtain ⟨va, vc, rfl, _⟩ := own_slice hown
                go_wp2_with fail
                refine ⟨rfl, .inr (Reg.Kp.of_grown hg (fun b hb => own_two oV fP fG (by decide) (by decide) b hb)), ?_⟩
                replace fP := fP.grown hg (own_apart_blk oV fP (by decide))
                try replace fG := fG.grown hg (own_apart_blk oV fG (by decide))
                replace fT := fT.grown hg (own_apart_blk oV fT (by decide))
                try replace f8 := f8.grown hg (own_apart_blk oV f8 (by decide))
                replace oP := oP.kept hg (own_apart oP oV (by decide))
                replace hb := hb.grown hg hb.size (fun k hk => (oV.lt k hk).1)
                replace oV := hown
                clear hown hg f2 hsz
                refine Reg.wpE_hoist [13] 4 rfl (by kernel_rfl) (by kernel_rfl) (by kernel_rfl) (fun u => ?_)
                simp only [Reg.pickL, List.drop]
                repeat (go_big_quiet_step ((first | fail)))
                refine wpQuiet_nil ?_
                refine Reg.wpE_main 12 (by kernel_rfl) (fun x3 hN => ?_)
                simp only [Reg.pickL, List.drop]
                replace hb := hb.trans (Below.mono hN hb.size)
                replace fP := fP.grow hN
                try replace fT := fT.grow hN
                try replace fG := fG.grow hN
                replace oV := own_grow oV hN
                replace oP := own_grow oP hN
                try replace f2 := f2.grow hN
                try replace f8 := f8.grow hN
                clear hN
                have hsz := hb.size
                refine wpList_append_own _ rfl _ _ 23 rfl w.heap.size 44 iQ _ 2 16 Try.underlying23 hiQ hz0Q hz1Q hz2Q rfl (by decide) _ _ _ rfl oP ⟨G, 2, none⟩ 1 3 (ptsV [(y1, z1)]) rfl rfl (fG.newsAt 2 _ (by intro j u hj; rcases j with _ | _ | _ | _ | _ | _ | j <;> simp [ptsV] at hj ⊢ <;> exact hj)) (ptsV_one _) (by unfold maxLen; omega) (by omega) hsz ?_
                rintro p' w5 hown hg -
                obtain ⟨pa, pc, rfl, _⟩ := own_slice hown
                go_wp2_with fail
                refine ⟨rfl, .inr (Reg.Kp.of_grown hg (fun b hb => own_two oP fP fG (by decide) (by decide) b hb)), ?_⟩
                replace fP := fP.grown hg (own_apart_blk oP fP (by decide))
                replace fT := fT.grown hg (own_apart_blk oP fT (by decide))
                replace fG := fG.grown hg (own_apart_blk oP fG (by decide))
                replace oV := oV.kept hg (own_apart oV oP (by decide))
                replace hb := hb.grown hg hb.size (fun k hk => (oP.lt k hk).1)
                replace oP := hown
                clear hown hg hsz
                refine Reg.wpE_main 14 (by kernel_rfl) (fun zz1 hN => ?_)
                simp only [Reg.pickL, List.drop]
                replace hb := hb.trans (Below.mono hN hb.size)
                replace fP := fP.grow hN
                try replace fT := fT.grow hN
                try replace fG := fG.grow hN
                replace oV := own_grow oV hN
                replace oP := own_grow oP hN
                try replace f2 := f2.grow hN
                try replace f8 := f8.grow hN
                clear hN
                have hsz := hb.size
                have eP := fP.unfrozen
                have cP := fP.cell 0
                have lP := fP.lt
                go_wp2_with fail
                refine ⟨rfl, .inl rfl, ?_⟩
                clear eP cP lP hsz
                replace oV := own_far oV fP (i := 0) (by decide) (.slice va (X.length + 1) vc)
                replace oP := own_far oP fP (i := 0) (by decide) (.slice va (X.length + 1) vc)
                replace fT := fT.far (b := w.heap.size) (i := 0) hPT (.slice va (X.length + 1) vc)
                try replace fG := fG.far (b := w.heap.size) (i := 0) hPG (.slice va (X.length + 1) vc)
                replace hb := hb.setCell (p := ⟨w.heap.size, 0, none⟩) (Nat.le_refl _) (.slice va (X.length + 1) vc)
                have fP' : Blk _ w.heap.size 25 #[.slice va (X.length + 1) vc, p] := fP.set 0 (.slice va (X.length + 1) vc)
                clear fP
                have fP := fP'
                clear fP'
                refine Reg.wpE_main 15 (by kernel_rfl) (fun ym hN => ?_)
                simp only [Reg.pickL, List.drop]
                replace hb := hb.trans (Below.mono hN hb.size)
                replace fP := fP.grow hN
                try replace fT := fT.grow hN
                try replace fG := fG.grow hN
                replace oV := own_grow oV hN
                replace oP := own_grow oP hN
                try replace f2 := f2.grow hN
                try replace f8 := f8.grow hN
                clear hN
                have hsz := hb.size
                go_wp2_with fail
                refine ⟨rfl, .inl rfl, ?_⟩
                clear hsz
                refine Reg.wpE_main 16 (by kernel_rfl) (fun zz2 hN => ?_)
                simp only [Reg.pickL, List.drop]
                replace hb := hb.trans (Below.mono hN hb.size)
                replace fP := fP.grow hN
                try replace fT := fT.grow hN
                try replace fG := fG.grow hN
                replace oV := own_grow oV hN
                replace oP := own_grow oP hN
                try replace f2 := f2.grow hN
                try replace f8 := f8.grow hN
                clear hN
                have hsz := hb.size
                have eP := fP.unfrozen
                have cP := fP.cell 1
                have lP := fP.lt
                go_wp2_with fail
                refine ⟨rfl, .inl rfl, ?_⟩
                clear eP cP lP hsz
                replace oV := own_far oV fP (i := 1) (by decide) (.slice pa (Y.length + 1) pc)
                replace oP := own_far oP fP (i := 1) (by decide) (.slice pa (Y.length + 1) pc)
                replace fT := fT.far (b := w.heap.size) (i := 1) hPT (.slice pa (Y.length + 1) pc)
                try replace fG := fG.far (b := w.heap.size) (i := 1) hPG (.slice pa (Y.length + 1) pc)
                replace hb := hb.setCell (p := ⟨w.heap.size, 1, none⟩) (Nat.le_refl _) (.slice pa (Y.length + 1) pc)
                have fP' : Blk _ w.heap.size 25 #[.slice va (X.length + 1) vc, .slice pa (Y.length + 1) pc] := fP.set 1 (.slice pa (Y.length + 1) pc)
                clear fP
                have fP := fP'
                clear fP'
                refine Reg.wpE_end (by kernel_rfl) (fun zz3 hN => ?_)
                replace hb := hb.trans (Below.mono hN hb.size)
                replace fP := fP.grow hN
                try replace fT := fT.grow hN
                try replace fG := fG.grow hN
                replace oV := own_grow oV hN
                replace oP := own_grow oP hN
                try replace f2 := f2.grow hN
                try replace f8 := f8.grow hN
                clear hN
                have hsz := hb.size
                have oV' : OwnV zz3 w.heap.size 3 (.slice va (X.length + 1) vc) (X ++ [2]) := by unfold OwnV; simpa [intsV] using oV
                have oP' : OwnQ zz3 w.heap.size 44 (.slice pa (Y.length + 1) pc) (Y ++ [(y1, z1)]) := by unfold OwnQ; simpa [ptsV_append] using oP
                clear oV oP hsz fG
                go_wp2_with fail
                exact ⟨⟨i + 1, by omega, by go_num, ⟨_, _, fP, fT, by rw [HXT.out.1]; exact oV', by rw [HXT.out.2]; exact oP'⟩, hb⟩, by simp [intOf]; omega⟩
              · skip
                go_wp2_with fail
                have fG := Blk.new wi 50 #[.int .i64 y0, .int .i64 z0, .int .i64 y1, .int .i64 z1, .int .i64 y2, .int .i64 z2, .int .i64 y3, .int .i64 z3, .int .i64 3]
                replace fP := fP.alloc (.cells #[.int .i64 y0, .int .i64 z0, .int .i64 y1, .int .i64 z1, .int .i64 y2, .int .i64 z2, .int .i64 y3, .int .i64 z3, .int .i64 3] 50)
                replace fT := fT.alloc (.cells #[.int .i64 y0, .int .i64 z0, .int .i64 y1, .int .i64 z1, .int .i64 y2, .int .i64 z2, .int .i64 y3, .int .i64 z3, .int .i64 3] 50)
                replace oV := oV.alloc (.cells #[.int .i64 y0, .int .i64 z0, .int .i64 y1, .int .i64 z1, .int .i64 y2, .int .i64 z2, .int .i64 y3, .int .i64 z3, .int .i64 3] 50)
                replace oP := oP.alloc (.cells #[.int .i64 y0, .int .i64 z0, .int .i64 y1, .int .i64 z1, .int .i64 y2, .int .i64 z2, .int .i64 y3, .int .i64 z3, .int .i64 3] 50)
                replace hb := hb.alloc hb.size (.cells #[.int .i64 y0, .int .i64 z0, .int .i64 y1, .int .i64 z1, .int .i64 y2, .int .i64 z2, .int .i64 y3, .int .i64 z3, .int .i64 3] 50)
                clear e0 e1 e2 e3 e4 e5 e6 e7 e8
                generalize wi.alloc (.cells #[.int .i64 y0, .int .i64 z0, .int .i64 y1, .int .i64 z1, .int .i64 y2, .int .i64 z2, .int .i64 y3, .int .i64 z3, .int .i64 3] 50) = wS at *
                generalize wi.heap.size = G at *
                have eP := fP.cell
                have eG := fG.cell
                have lP := fP.lt
                have lG := fG.lt
                refine Reg.wp_region_E (fun b => b = w.heap.size ∨ b = G) (fun j => decide (14 ≤ j)) 17 rfl (by kernel_rfl) ?_
                refine Reg.wpE_hoist [0, 1, 2, 3, 6, 7, 8, 9, 10, 11] 7 rfl (by kernel_rfl) (by kernel_rfl) (by kernel_rfl) (fun u => ?_)
                simp only [Reg.pickL, List.drop]
                repeat (go_big_quiet_step ((first | fail)))
                refine wpQuiet_nil ?_
                clear eP eG lP lG
                refine Reg.wpE_main 4 (by kernel_rfl) (fun x1 hN => ?_)
                simp only [Reg.pickL, List.drop]
                replace hb := hb.trans (Below.mono hN hb.size)
                replace fP := fP.grow hN
                try replace fT := fT.grow hN
                try replace fG := fG.grow hN
                replace oV := own_grow oV hN
                replace oP := own_grow oP hN
                try replace f2 := f2.grow hN
                try replace f8 := f8.grow hN
                clear hN
                have hsz := hb.size
                go_wp2_with fail
                refine ⟨rfl, .inr (Reg.Kp.of_gr ((Below.refl _ _).alloc (Nat.le_refl _) _)), ?_⟩
                replace hb := hb.alloc hb.size (.cells #[Value.int .i64 3] 3)
                replace fP := fP.alloc (.cells #[Value.int .i64 3] 3)
                try replace fG := fG.alloc (.cells #[Value.int .i64 3] 3)
                replace fT := fT.alloc (.cells #[Value.int .i64 3] 3)
                replace oV := oV.alloc (.cells #[Value.int .i64 3] 3)
                replace oP := oP.alloc (.cells #[Value.int .i64 3] 3)
                try replace f8 := f8.alloc (.cells #[Value.int .i64 3] 3)
                have f2 : Blk _ x1.heap.size 3 [Value.int .i64 3].toArray := Blk.new x1 _ _
                clear hsz
                refine Reg.wpE_main 5 (by kernel_rfl) (fun x2 hN => ?_)
                simp only [Reg.pickL, List.drop]
                replace hb := hb.trans (Below.mono hN hb.size)
                replace fP := fP.grow hN
                try replace fT := fT.grow hN
                try replace fG := fG.grow hN
                replace oV := own_grow oV hN
                replace oP := own_grow oP hN
                try replace f2 := f2.grow hN
                try replace f8 := f8.grow hN
                clear hN
                have hsz := hb.size
                refine wpList_append_own _ rfl _ _ 22 rfl w.heap.size 3 iI _ 1 8 Try.underlying22 hiI hz0I hz1I hz2I rfl (by decide) _ _ _ rfl oV ⟨x1.heap.size, 0, none⟩ 1 1 [Value.int .i64 3] rfl rfl f2.news (by simp [Value.oneCell']) (by unfold maxLen; omega) (by omega) hsz ?_
                rintro v' w5 hown hg -
                obtain ⟨va, vc, rfl, _⟩ := own_slice hown
                go_wp2_with fail
                refine ⟨rfl, .inr (Reg.Kp.of_grown hg (fun b hb => own_two oV fP fG (by decide) (by decide) b hb)), ?_⟩
                replace fP := fP.grown hg (own_apart_blk oV fP (by decide))
                try replace fG := fG.grown hg (own_apart_blk oV fG (by decide))
                replace fT := fT.grown hg (own_apart_blk oV fT (by decide))
                try replace f8 := f8.grown hg (own_apart_blk oV f8 (by decide))
                replace oP := oP.kept hg (own_apart oP oV (by decide))
                replace hb := hb.grown hg hb.size (fun k hk => (oV.lt k hk).1)
                replace oV := hown
                clear hown hg f2 hsz
                refine Reg.wpE_hoist [13] 4 rfl (by kernel_rfl) (by kernel_rfl) (by kernel_rfl) (fun u => ?_)
                simp only [Reg.pickL, List.drop]
                repeat (go_big_quiet_step ((first | fail)))
                refine wpQuiet_nil ?_
                refine Reg.wpE_main 12 (by kernel_rfl) (fun x3 hN => ?_)
                simp only [Reg.pickL, List.drop]
                replace hb := hb.trans (Below.mono hN hb.size)
                replace fP := fP.grow hN
                try replace fT := fT.grow hN
                try replace fG := fG.grow hN
                replace oV := own_grow oV hN
                replace oP := own_grow oP hN
                try replace f2 := f2.grow hN
                try replace f8 := f8.grow hN
                clear hN
                have hsz := hb.size
                refine wpList_append_own _ rfl _ _ 23 rfl w.heap.size 44 iQ _ 2 16 Try.underlying23 hiQ hz0Q hz1Q hz2Q rfl (by decide) _ _ _ rfl oP ⟨G, 2, none⟩ 2 3 (ptsV [(y1, z1), (y2, z2)]) rfl rfl (fG.newsAt 2 _ (by intro j u hj; rcases j with _ | _ | _ | _ | _ | _ | j <;> simp [ptsV] at hj ⊢ <;> exact hj)) (ptsV_one _) (by unfold maxLen; omega) (by omega) hsz ?_
                rintro p' w5 hown hg -
                obtain ⟨pa, pc, rfl, _⟩ := own_slice hown
                go_wp2_with fail
                refine ⟨rfl, .inr (Reg.Kp.of_grown hg (fun b hb => own_two oP fP fG (by decide) (by decide) b hb)), ?_⟩
                replace fP := fP.grown hg (own_apart_blk oP fP (by decide))
                replace fT := fT.grown hg (own_apart_blk oP fT (by decide))
                replace fG := fG.grown hg (own_apart_blk oP fG (by decide))
                replace oV := oV.kept hg (own_apart oV oP (by decide))
                replace hb := hb.grown hg hb.size (fun k hk => (oP.lt k hk).1)
                replace oP := hown
                clear hown hg hsz
                refine Reg.wpE_main 14 (by kernel_rfl) (fun zz1 hN => ?_)
                simp only [Reg.pickL, List.drop]
                replace hb := hb.trans (Below.mono hN hb.size)
                replace fP := fP.grow hN
                try replace fT := fT.grow hN
                try replace fG := fG.grow hN
                replace oV := own_grow oV hN
                replace oP := own_grow oP hN
                try replace f2 := f2.grow hN
                try replace f8 := f8.grow hN
                clear hN
                have hsz := hb.size
                have eP := fP.unfrozen
                have cP := fP.cell 0
                have lP := fP.lt
                go_wp2_with fail
                refine ⟨rfl, .inl rfl, ?_⟩
                clear eP cP lP hsz
                replace oV := own_far oV fP (i := 0) (by decide) (.slice va (X.length + 1) vc)
                replace oP := own_far oP fP (i := 0) (by decide) (.slice va (X.length + 1) vc)
                replace fT := fT.far (b := w.heap.size) (i := 0) hPT (.slice va (X.length + 1) vc)
                try replace fG := fG.far (b := w.heap.size) (i := 0) hPG (.slice va (X.length + 1) vc)
                replace hb := hb.setCell (p := ⟨w.heap.size, 0, none⟩) (Nat.le_refl _) (.slice va (X.length + 1) vc)
                have fP' : Blk _ w.heap.size 25 #[.slice va (X.length + 1) vc, p] := fP.set 0 (.slice va (X.length + 1) vc)
                clear fP
                have fP := fP'
                clear fP'
                refine Reg.wpE_main 15 (by kernel_rfl) (fun ym hN => ?_)
                simp only [Reg.pickL, List.drop]
                replace hb := hb.trans (Below.mono hN hb.size)
                replace fP := fP.grow hN
                try replace fT := fT.grow hN
                try replace fG := fG.grow hN
                replace oV := own_grow oV hN
                replace oP := own_grow oP hN
                try replace f2 := f2.grow hN
                try replace f8 := f8.grow hN
                clear hN
                have hsz := hb.size
                go_wp2_with fail
                refine ⟨rfl, .inl rfl, ?_⟩
                clear hsz
                refine Reg.wpE_main 16 (by kernel_rfl) (fun zz2 hN => ?_)
                simp only [Reg.pickL, List.drop]
                replace hb := hb.trans (Below.mono hN hb.size)
                replace fP := fP.grow hN
                try replace fT := fT.grow hN
                try replace fG := fG.grow hN
                replace oV := own_grow oV hN
                replace oP := own_grow oP hN
                try replace f2 := f2.grow hN
                try replace f8 := f8.grow hN
                clear hN
                have hsz := hb.size
                have eP := fP.unfrozen
                have cP := fP.cell 1
                have lP := fP.lt
                go_wp2_with fail
                refine ⟨rfl, .inl rfl, ?_⟩
                clear eP cP lP hsz
                replace oV := own_far oV fP (i := 1) (by decide) (.slice pa (Y.length + 2) pc)
                replace oP := own_far oP fP (i := 1) (by decide) (.slice pa (Y.length + 2) pc)
                replace fT := fT.far (b := w.heap.size) (i := 1) hPT (.slice pa (Y.length + 2) pc)
                try replace fG := fG.far (b := w.heap.size) (i := 1) hPG (.slice pa (Y.length + 2) pc)
                replace hb := hb.setCell (p := ⟨w.heap.size, 1, none⟩) (Nat.le_refl _) (.slice pa (Y.length + 2) pc)
                have fP' : Blk _ w.heap.size 25 #[.slice va (X.length + 1) vc, .slice pa (Y.length + 2) pc] := fP.set 1 (.slice pa (Y.length + 2) pc)
                clear fP
                have fP := fP'
                clear fP'
                refine Reg.wpE_end (by kernel_rfl) (fun zz3 hN => ?_)
                replace hb := hb.trans (Below.mono hN hb.size)
                replace fP := fP.grow hN
                try replace fT := fT.grow hN
                try replace fG := fG.grow hN
                replace oV := own_grow oV hN
                replace oP := own_grow oP hN
                try replace f2 := f2.grow hN
                try replace f8 := f8.grow hN
                clear hN
                have hsz := hb.size
                have oV' : OwnV zz3 w.heap.size 3 (.slice va (X.length + 1) vc) (X ++ [3]) := by unfold OwnV; simpa [intsV] using oV
                have oP' : OwnQ zz3 w.heap.size 44 (.slice pa (Y.length + 2) pc) (Y ++ [(y1, z1), (y2, z2)]) := by unfold OwnQ; simpa [ptsV_append] using oP
                clear oV oP hsz fG
                go_wp2_with fail
                exact ⟨⟨i + 1, by omega, by go_num, ⟨_, _, fP, fT, by rw [HXT.out.1]; exact oV', by rw [HXT.out.2]; exact oP'⟩, hb⟩, by simp [intOf]; omega⟩
              · skip
                go_wp2_with fail
                have fG := Blk.new wi 50 #[.int .i64 y0, .int .i64 z0, .int .i64 y1, .int .i64 z1, .int .i64 y2, .int .i64 z2, .int .i64 y3, .int .i64 z3, .int .i64 4]
                replace fP := fP.alloc (.cells #[.int .i64 y0, .int .i64 z0, .int .i64 y1, .int .i64 z1, .int .i64 y2, .int .i64 z2, .int .i64 y3, .int .i64 z3, .int .i64 4] 50)
                replace fT := fT.alloc (.cells #[.int .i64 y0, .int .i64 z0, .int .i64 y1, .int .i64 z1, .int .i64 y2, .int .i64 z2, .int .i64 y3, .int .i64 z3, .int .i64 4] 50)
                replace oV := oV.alloc (.cells #[.int .i64 y0, .int .i64 z0, .int .i64 y1, .int .i64 z1, .int .i64 y2, .int .i64 z2, .int .i64 y3, .int .i64 z3, .int .i64 4] 50)
                replace oP := oP.alloc (.cells #[.int .i64 y0, .int .i64 z0, .int .i64 y1, .int .i64 z1, .int .i64 y2, .int .i64 z2, .int .i64 y3, .int .i64 z3, .int .i64 4] 50)
                replace hb := hb.alloc hb.size (.cells #[.int .i64 y0, .int .i64 z0, .int .i64 y1, .int .i64 z1, .int .i64 y2, .int .i64 z2, .int .i64 y3, .int .i64 z3, .int .i64 4] 50)
                clear e0 e1 e2 e3 e4 e5 e6 e7 e8
                generalize wi.alloc (.cells #[.int .i64 y0, .int .i64 z0, .int .i64 y1, .int .i64 z1, .int .i64 y2, .int .i64 z2, .int .i64 y3, .int .i64 z3, .int .i64 4] 50) = wS at *
                generalize wi.heap.size = G at *
                have eP := fP.cell
                have eG := fG.cell
                have lP := fP.lt
                have lG := fG.lt
                refine Reg.wp_region_E (fun b => b = w.heap.size ∨ b = G) (fun j => decide (14 ≤ j)) 17 rfl (by kernel_rfl) ?_
                refine Reg.wpE_hoist [0, 1, 2, 3, 6, 7, 8, 9, 10, 11] 7 rfl (by kernel_rfl) (by kernel_rfl) (by kernel_rfl) (fun u => ?_)
                simp only [Reg.pickL, List.drop]
                repeat (go_big_quiet_step ((first | fail)))
                refine wpQuiet_nil ?_
                clear eP eG lP lG
                refine Reg.wpE_main 4 (by kernel_rfl) (fun x1 hN => ?_)
                simp only [Reg.pickL, List.drop]
                replace hb := hb.trans (Below.mono hN hb.size)
                replace fP := fP.grow hN
                try replace fT := fT.grow hN
                try replace fG := fG.grow hN
                replace oV := own_grow oV hN
                replace oP := own_grow oP hN
                try replace f2 := f2.grow hN
                try replace f8 := f8.grow hN
                clear hN
                have hsz := hb.size
                go_wp2_with fail
                refine ⟨rfl, .inr (Reg.Kp.of_gr ((Below.refl _ _).alloc (Nat.le_refl _) _)), ?_⟩
                replace hb := hb.alloc hb.size (.cells #[Value.int .i64 4] 3)
                replace fP := fP.alloc (.cells #[Value.int .i64 4] 3)
                try replace fG := fG.alloc (.cells #[Value.int .i64 4] 3)
                replace fT := fT.alloc (.cells #[Value.int .i64 4] 3)
                replace oV := oV.alloc (.cells #[Value.int .i64 4] 3)
                replace oP := oP.alloc (.cells #[Value.int .i64 4] 3)
                try replace f8 := f8.alloc (.cells #[Value.int .i64 4] 3)
                have f2 : Blk _ x1.heap.size 3 [Value.int .i64 4].toArray := Blk.new x1 _ _
                clear hsz
                refine Reg.wpE_main 5 (by kernel_rfl) (fun x2 hN => ?_)
                simp only [Reg.pickL, List.drop]
                replace hb := hb.trans (Below.mono hN hb.size)
                replace fP := fP.grow hN
                try replace fT := fT.grow hN
                try replace fG := fG.grow hN
                replace oV := own_grow oV hN
                replace oP := own_grow oP hN
                try replace f2 := f2.grow hN
                try replace f8 := f8.grow hN
                clear hN
                have hsz := hb.size
                refine wpList_append_own _ rfl _ _ 22 rfl w.heap.size 3 iI _ 1 8 Try.underlying22 hiI hz0I hz1I hz2I rfl (by decide) _ _ _ rfl oV ⟨x1.heap.size, 0, none⟩ 1 1 [Value.int .i64 4] rfl rfl f2.news (by simp [Value.oneCell']) (by unfold maxLen; omega) (by omega) hsz ?_
                rintro v' w5 hown hg -
                obtain ⟨va, vc, rfl, _⟩ := own_slice hown
                go_wp2_with fail
                refine ⟨rfl, .inr (Reg.Kp.of_grown hg (fun b hb => own_two oV fP fG (by decide) (by decide) b hb)), ?_⟩
                replace fP := fP.grown hg (own_apart_blk oV fP (by decide))
                try replace fG := fG.grown hg (own_apart_blk oV fG (by decide))
                replace fT := fT.grown hg (own_apart_blk oV fT (by decide))
                try replace f8 := f8.grown hg (own_apart_blk oV f8 (by decide))
                replace oP := oP.kept hg (own_apart oP oV (by decide))
                replace hb := hb.grown hg hb.size (fun k hk => (oV.lt k hk).1)
                replace oV := hown
                clear hown hg f2 hsz
                refine Reg.wpE_hoist [13] 4 rfl (by kernel_rfl) (by kernel_rfl) (by kernel_rfl) (fun u => ?_)
                simp only [Reg.pickL, List.drop]
                repeat (go_big_quiet_step ((first | fail)))
                refine wpQuiet_nil ?_
                refine Reg.wpE_main 12 (by kernel_rfl) (fun x3 hN => ?_)
                simp only [Reg.pickL, List.drop]
                replace hb := hb.trans (Below.mono hN hb.size)
                replace fP := fP.grow hN
                try replace fT := fT.grow hN
                try replace fG := fG.grow hN
                replace oV := own_grow oV hN
                replace oP := own_grow oP hN
                try replace f2 := f2.grow hN
                try replace f8 := f8.grow hN
                clear hN
                have hsz := hb.size
                refine wpList_append_own _ rfl _ _ 23 rfl w.heap.size 44 iQ _ 2 16 Try.underlying23 hiQ hz0Q hz1Q hz2Q rfl (by decide) _ _ _ rfl oP ⟨G, 2, none⟩ 3 3 (ptsV [(y1, z1), (y2, z2), (y3, z3)]) rfl rfl (fG.newsAt 2 _ (by intro j u hj; rcases j with _ | _ | _ | _ | _ | _ | j <;> simp [ptsV] at hj ⊢ <;> exact hj)) (ptsV_one _) (by unfold maxLen; omega) (by omega) hsz ?_
                rintro p' w5 hown hg -
                obtain ⟨pa, pc, rfl, _⟩ := own_slice hown
                go_wp2_with fail
                refine ⟨rfl, .inr (Reg.Kp.of_grown hg (fun b hb => own_two oP fP fG (by decide) (by decide) b hb)), ?_⟩
                replace fP := fP.grown hg (own_apart_blk oP fP (by decide))
                replace fT := fT.grown hg (own_apart_blk oP fT (by decide))
                replace fG := fG.grown hg (own_apart_blk oP fG (by decide))
                replace oV := oV.kept hg (own_apart oV oP (by decide))
                replace hb := hb.grown hg hb.size (fun k hk => (oP.lt k hk).1)
                replace oP := hown
                clear hown hg hsz
                refine Reg.wpE_main 14 (by kernel_rfl) (fun zz1 hN => ?_)
                simp only [Reg.pickL, List.drop]
                replace hb := hb.trans (Below.mono hN hb.size)
                replace fP := fP.grow hN
                try replace fT := fT.grow hN
                try replace fG := fG.grow hN
                replace oV := own_grow oV hN
                replace oP := own_grow oP hN
                try replace f2 := f2.grow hN
                try replace f8 := f8.grow hN
                clear hN
                have hsz := hb.size
                have eP := fP.unfrozen
                have cP := fP.cell 0
                have lP := fP.lt
                go_wp2_with fail
                refine ⟨rfl, .inl rfl, ?_⟩
                clear eP cP lP hsz
                replace oV := own_far oV fP (i := 0) (by decide) (.slice va (X.length + 1) vc)
                replace oP := own_far oP fP (i := 0) (by decide) (.slice va (X.length + 1) vc)
                replace fT := fT.far (b := w.heap.size) (i := 0) hPT (.slice va (X.length + 1) vc)
                try replace fG := fG.far (b := w.heap.size) (i := 0) hPG (.slice va (X.length + 1) vc)
                replace hb := hb.setCell (p := ⟨w.heap.size, 0, none⟩) (Nat.le_refl _) (.slice va (X.length + 1) vc)
                have fP' : Blk _ w.heap.size 25 #[.slice va (X.length + 1) vc, p] := fP.set 0 (.slice va (X.length + 1) vc)
                clear fP
                have fP := fP'
                clear fP'
                refine Reg.wpE_main 15 (by kernel_rfl) (fun ym hN => ?_)
                simp only [Reg.pickL, List.drop]
                replace hb := hb.trans (Below.mono hN hb.size)
                replace fP := fP.grow hN
                try replace fT := fT.grow hN
                try replace fG := fG.grow hN
                replace oV := own_grow oV hN
                replace oP := own_grow oP hN
                try replace f2 := f2.grow hN
                try replace f8 := f8.grow hN
                clear hN
                have hsz := hb.size
                go_wp2_with fail
                refine ⟨rfl, .inl rfl, ?_⟩
                clear hsz
                refine Reg.wpE_main 16 (by kernel_rfl) (fun zz2 hN => ?_)
                simp only [Reg.pickL, List.drop]
                replace hb := hb.trans (Below.mono hN hb.size)
                replace fP := fP.grow hN
                try replace fT := fT.grow hN
                try replace fG := fG.grow hN
                replace oV := own_grow oV hN
                replace oP := own_grow oP hN
                try replace f2 := f2.grow hN
                try replace f8 := f8.grow hN
                clear hN
                have hsz := hb.size
                have eP := fP.unfrozen
                have cP := fP.cell 1
                have lP := fP.lt
                go_wp2_with fail
                refine ⟨rfl, .inl rfl, ?_⟩
                clear eP cP lP hsz
                replace oV := own_far oV fP (i := 1) (by decide) (.slice pa (Y.length + 3) pc)
                replace oP := own_far oP fP (i := 1) (by decide) (.slice pa (Y.length + 3) pc)
                replace fT := fT.far (b := w.heap.size) (i := 1) hPT (.slice pa (Y.length + 3) pc)
                try replace fG := fG.far (b := w.heap.size) (i := 1) hPG (.slice pa (Y.length + 3) pc)
                replace hb := hb.setCell (p := ⟨w.heap.size, 1, none⟩) (Nat.le_refl _) (.slice pa (Y.length + 3) pc)
                have fP' : Blk _ w.heap.size 25 #[.slice va (X.length + 1) vc, .slice pa (Y.length + 3) pc] := fP.set 1 (.slice pa (Y.length + 3) pc)
                clear fP
                have fP := fP'
                clear fP'
                refine Reg.wpE_end (by kernel_rfl) (fun zz3 hN => ?_)
                replace hb := hb.trans (Below.mono hN hb.size)
                replace fP := fP.grow hN
                try replace fT := fT.grow hN
                try replace fG := fG.grow hN
                replace oV := own_grow oV hN
                replace oP := own_grow oP hN
                try replace f2 := f2.grow hN
                try replace f8 := f8.grow hN
                clear hN
                have hsz := hb.size
                have oV' : OwnV zz3 w.heap.size 3 (.slice va (X.length + 1) vc) (X ++ [4]) := by unfold OwnV; simpa [intsV] using oV
                have oP' : OwnQ zz3 w.heap.size 44 (.slice pa (Y.length + 3) pc) (Y ++ [(y1, z1), (y2, z2), (y3, z3)]) := by unfold OwnQ; simpa [ptsV_append] using oP
                clear oV oP hsz fG
                go_wp2_with fail
                exact ⟨⟨i + 1, by omega, by go_num, ⟨_, _, fP, fT, by rw [HXT.out.1]; exact oV', by rw [HXT.out.2]; exact oP'⟩, hb⟩, by simp [intOf]; omega⟩
              · skip
                have hq2 : ¬ ((2 : Int) ≤ qn ∧ qn ≤ 4) := by omega
                have ev : segVs ⟨(y0, z0), (y1, z1), (y2, z2), (y3, z3), qn⟩ = [] := by unfold segVs; rw [if_neg hq2]
                have ep : segPs ⟨(y0, z0), (y1, z1), (y2, z2), (y3, z3), qn⟩ = [] := by unfold segPs; rw [if_neg (by simp only; omega), if_neg (by simp only; omega), if_neg (by simp only; omega)]
                have HE := Lib.hid (And.intro ev ep)
                clear ev ep hq2
                go_wp2_with fail
                replace fP := fP.alloc (.cells #[.int .i64 y0, .int .i64 z0, .int .i64 y1, .int .i64 z1, .int .i64 y2, .int .i64 z2, .int .i64 y3, .int .i64 z3, .int .i64 qn] 50)
                replace fT := fT.alloc (.cells #[.int .i64 y0, .int .i64 z0, .int .i64 y1, .int .i64 z1, .int .i64 y2, .int .i64 z2, .int .i64 y3, .int .i64 z3, .int .i64 qn] 50)
                replace oV := oV.alloc (.cells #[.int .i64 y0, .int .i64 z0, .int .i64 y1, .int .i64 z1, .int .i64 y2, .int .i64 z2, .int .i64 y3, .int .i64 z3, .int .i64 qn] 50)
                replace oP := oP.alloc (.cells #[.int .i64 y0, .int .i64 z0, .int .i64 y1, .int .i64 z1, .int .i64 y2, .int .i64 z2, .int .i64 y3, .int .i64 z3, .int .i64 qn] 50)
                replace hb := hb.alloc hb.size (.cells #[.int .i64 y0, .int .i64 z0, .int .i64 y1, .int .i64 z1, .int .i64 y2, .int .i64 z2, .int .i64 y3, .int .i64 z3, .int .i64 qn] 50)
                clear e0 e1 e2 e3 e4 e5 e6 e7 e8
                generalize wi.alloc (.cells #[.int .i64 y0, .int .i64 z0, .int .i64 y1, .int .i64 z1, .int .i64 y2, .int .i64 z2, .int .i64 y3, .int .i64 z3, .int .i64 qn] 50) = wS at *
                generalize wi.heap.size = G at *
                exact ⟨⟨i + 1, by omega, by go_num, ⟨_, _, fP, fT, by rw [HXT.out.1, HE.out.1, List.append_nil]; exact oV, by rw [HXT.out.2, HE.out.2, List.append_nil]; exact oP⟩, hb⟩, by simp [intOf]; omega⟩
              · skip
                have hq2 : ¬ ((2 : Int) ≤ qn ∧ qn ≤ 4) := by omega
                have ev : segVs ⟨(y0, z0), (y1, z1), (y2, z2), (y3, z3), qn⟩ = [] := by unfold segVs; rw [if_neg hq2]
                have ep : segPs ⟨(y0, z0), (y1, z1), (y2, z2), (y3, z3), qn⟩ = [] := by unfold segPs; rw [if_neg (by simp only; omega), if_neg (by simp only; omega), if_neg (by simp only; omega)]
                have HE := Lib.hid (And.intro ev ep)
                clear ev ep hq2
                go_wp2_with fail
                replace fP := fP.alloc (.cells #[.int .i64 y0, .int .i64 z0, .int .i64 y1, .int .i64 z1, .int .i64 y2, .int .i64 z2, .int .i64 y3, .int .i64 z3, .int .i64 qn] 50)
                replace fT := fT.alloc (.cells #[.int .i64 y0, .int .i64 z0, .int .i64 y1, .int .i64 z1, .int .i64 y2, .int .i64 z2, .int .i64 y3, .int .i64 z3, .int .i64 qn] 50)
                replace oV := oV.alloc (.cells #[.int .i64 y0, .int .i64 z0, .int .i64 y1, .int .i64 z1, .int .i64 y2, .int .i64 z2, .int .i64 y3, .int .i64 z3, .int .i64 qn] 50)
                replace oP := oP.alloc (.cells #[.int .i64 y0, .int .i64 z0, .int .i64 y1, .int .i64 z1, .int .i64 y2, .int .i64 z2, .int .i64 y3, .int .i64 z3, .int .i64 qn] 50)
                replace hb := hb.alloc hb.size (.cells #[.int .i64 y0, .int .i64 z0, .int .i64 y1, .int .i64 z1, .int .i64 y2, .int .i64 z2, .int .i64 y3, .int .i64 z3, .int .i64 qn] 50)
                clear e0 e1 e2 e3 e4 e5 e6 e7 e8
                generalize wi.alloc (.cells #[.int .i64 y0, .int .i64 z0, .int .i64 y1, .int .i64 z1, .int .i64 y2, .int .i64 z2, .int .i64 y3, .int .i64 z3, .int .i64 qn] 50) = wS at *
                generalize wi.heap.size = G at *
                exact ⟨⟨i + 1, by omega, by go_num, ⟨_, _, fP, fT, by rw [HXT.out.1, HE.out.1, List.append_nil]; exact oV, by rw [HXT.out.2, HE.out.2, List.append_nil]; exact oP⟩, hb⟩, by simp [intOf]; omega⟩
            · have hin : i = segs.length := by omega
              subst hin
              rw [List.take_of_length_le (Nat.le_refl _)] at oV oP
              have hX : (xs ++ [1] ++ segsVs segs).length ≤ 1002 * k + 1001 := by
                have := segsVs_le segs
                simp only [List.length_append, List.length_cons, List.length_nil] at this ⊢
                omega
              have eT := fT.cell
              have eP := fP.cell
              have kP := fP.unfrozen
              have lP := fP.lt
              have lT := fT.lt
              have hsz := hb.size
              have HJ2 : Hid (joinVs (l.take (k + 1)) = xs ++ [1] ++ segsVs segs ++ endVs cl ∧ joinPs (l.take (k + 1)) = ys ++ [(sx, sy)] ++ segsPs segs) := Lib.hid (by rw [HJ.out.1, HJ.out.2]; simp [subVs, subPs])
              generalize xs ++ [1] ++ segsVs segs = X at *
              generalize ys ++ [(sx, sy)] ++ segsPs segs = Y at *
              have oV : wi.ownsRow w.heap.size 3 1 v X.length (intsV X) := oV
              have HOV := Lib.hid oV
              have HOP := Lib.hid oP
              have HFP := Lib.hid fP
              have HB := Lib.hid hb
              clear oV oP fP fT hb
              cases cl with
              | false =>
                go_wp2_with fail
                exact ⟨⟨k + 1, by omega, by go_num, ⟨_, _, HFP.out, by rw [HJ2.out.1]; simpa [endVs] using HOV.out, by rw [HJ2.out.2]; exact HOP.out⟩, HB.out⟩, by simp [intOf]; omega⟩
              | true =>
                go_wp2_with (at_builtin; refine wpList_append_own _ rfl _ _ 22 rfl w.heap.size 3 iI _ 1 8 Try.underlying22 hiI hz0I hz1I hz2I rfl (by decide) _ _ _ rfl (HOV.out.alloc _) ⟨wi.heap.size, 0, none⟩ 1 1 [.int .i64 5] rfl rfl ?c1 ?c2 ?c3 ?c4 ?c5 ?_)
                case c1 => exact Blk.news (l := [.int .i64 5]) (Blk.new wi _ _)
                case c2 => simp [Value.oneCell']
                case c3 => unfold maxLen; omega
                case c4 => omega
                case c5 => simp; omega
                rintro v' w8 hown8 hg8 -
                obtain ⟨a8, c8, rfl, _⟩ := own_slice hown8
                have hP8 := (HOP.out.alloc (.cells #[.int .i64 5] 3)).kept hg8 (own_apart (HOP.out.alloc (.cells #[.int .i64 5] 3)) (HOV.out.alloc (.cells #[.int .i64 5] 3)) (by decide))
                have fP8 := (HFP.out.alloc (.cells #[.int .i64 5] 3)).grown hg8 (own_apart_blk (HOV.out.alloc (.cells #[.int .i64 5] 3)) (HFP.out.alloc (.cells #[.int .i64 5] 3)) (by decide))
                have hb8 := (HB.out.alloc HB.out.size (.cells #[.int .i64 5] 3)).grown hg8 (by simp; omega) (fun q hq => ((HOV.out.alloc (.cells #[.int .i64 5] 3)).lt q hq).1)
                have k8 := fP8.unfrozen
                have l8 := fP8.lt
                have e8 := fP8.cell
                have H8 := Lib.hid hown8
                have HP8 := Lib.hid hP8
                clear eT eP kP lP lT hown8 hg8 hP8
                go_wp2_with fail
                refine ⟨⟨k + 1, by omega, by go_num, ⟨_, _, fP8.set 0 _, ?_, ?_⟩, hb8.setCell (p := ⟨w.heap.size, 0, none⟩) (Nat.le_refl _) _⟩, by simp [intOf]; omega⟩
                · rw [HJ2.out.1]
                  have h := own_far H8.out fP8 (i := 0) (by decide) (.slice a8 (X.length + 1) c8)
                  simpa [endVs, intsV] using h
                · rw [HJ2.out.2]
                  exact own_far HP8.out fP8 (i := 0) (by decide) (.slice a8 (X.length + 1) c8)
        · simp only [Reg.pickL, List.drop]
          replace hb := hb.trans (Below.mono hN hb.size)
          replace fP := fP.grow hN
          try replace fT := fT.grow hN
          try replace fG := fG.grow hN
          replace oV := own_grow oV hN
          replace oP := own_grow oP hN
          try replace f2 := f2.grow hN
          try replace f8 := f8.grow hN
          clear hN
          have hsz := hb.size
          go_wp2_with fail
          refine ⟨rfl, .inr (Reg.Kp.of_gr ((Below.refl _ _).alloc (Nat.le_refl _) _)), ?_⟩
          replace hb := hb.alloc hb.size (.cells #[.int .i64 sx, .int .i64 sy] 44)
          replace fP := fP.alloc (.cells #[.int .i64 sx, .int .i64 sy] 44)
          replace fT := fT.alloc (.cells #[.int .i64 sx, .int .i64 sy] 44)
          replace oV := oV.alloc (.cells #[.int .i64 sx, .int .i64 sy] 44)
          replace oP := oP.alloc (.cells #[.int .i64 sx, .int .i64 sy] 44)
          try replace f2 := f2.alloc (.cells #[.int .i64 sx, .int .i64 sy] 44)
          have f8 : Blk _ x2.heap.size 44 (ptsV [(sx, sy)]).toArray := Blk.new x2 _ _
          clear hsz
          refine Reg.wpE_main 3 (by kernel_rfl) (fun x3 hN => ?_)
          simp only [Reg.pickL, List.drop]
          replace hb := hb.trans (Below.mono hN hb.size)
          replace fP := fP.grow hN
          try replace fT := fT.grow hN
          try replace fG := fG.grow hN
          replace oV := own_grow oV hN
          replace oP := own_grow oP hN
          try replace f2 := f2.grow hN
          try replace f8 := f8.grow hN
          clear hN
          have hsz := hb.size
          refine wpList_append_own _ rfl _ _ 22 rfl w.heap.size 3 iI _ 1 8 Try.underlying22 hiI hz0I hz1I hz2I rfl (by decide) _ _ _ rfl oV ⟨x1.heap.size, 0, none⟩ 1 1 [Value.int .i64 1] rfl rfl f2.news (by simp [Value.oneCell']) (by unfold maxLen; omega) (by omega) hsz ?_
          rintro v' w5 hown hg -
          obtain ⟨va, vc, rfl, _⟩ := own_slice hown
          go_wp2_with fail
          refine ⟨rfl, .inr (Reg.Kp.of_grown hg (fun b hb => own_two oV fP fT (by decide) (by decide) b hb)), ?_⟩
          replace fP := fP.grown hg (own_apart_blk oV fP (by decide))
          try replace fG := fG.grown hg (own_apart_blk oV fG (by decide))
          replace fT := fT.grown hg (own_apart_blk oV fT (by decide))
          try replace f8 := f8.grown hg (own_apart_blk oV f8 (by decide))
          replace oP := oP.kept hg (own_apart oP oV (by decide))
          replace hb := hb.grown hg hb.size (fun k hk => (oV.lt k hk).1)
          replace oV := hown
          clear hown hg f2 hsz
          refine Reg.wpE_hoist [10] 4 rfl (by kernel_rfl) (by kernel_rfl) (by kernel_rfl) (fun u => ?_)
          simp only [Reg.pickL, List.drop]
          repeat (go_big_quiet_step ((first | fail)))
          refine wpQuiet_nil ?_
          refine Reg.wpE_main 9 (by kernel_rfl) (fun x4 hN => ?_)
          simp only [Reg.pickL, List.drop]
          replace hb := hb.trans (Below.mono hN hb.size)
          replace fP := fP.grow hN
          try replace fT := fT.grow hN
          try replace fG := fG.grow hN
          replace oV := own_grow oV hN
          replace oP := own_grow oP hN
          try replace f2 := f2.grow hN
          try replace f8 := f8.grow hN
          clear hN
          have hsz := hb.size
          refine wpList_append_own _ rfl _ _ 23 rfl w.heap.size 44 iQ _ 2 16 Try.underlying23 hiQ hz0Q hz1Q hz2Q rfl (by decide) _ _ _ rfl oP ⟨x2.heap.size, 0, none⟩ 1 1 (ptsV [(sx, sy)]) rfl rfl f8.news (ptsV_one _) (by unfold maxLen; omega) (by omega) hsz ?_
          rintro p' w5 hown hg -
          obtain ⟨pa, pc, rfl, _⟩ := own_slice hown
          go_wp2_with fail
          refine ⟨rfl, .inr (Reg.Kp.of_grown hg (fun b hb => own_two oP fP fT (by decide) (by decide) b hb)), ?_⟩
          replace fP := fP.grown hg (own_apart_blk oP fP (by decide))
          replace fT := fT.grown hg (own_apart_blk oP fT (by decide))
          replace oV := oV.kept hg (own_apart oV oP (by decide))
          replace hb := hb.grown hg hb.size (fun k hk => (oP.lt k hk).1)
          replace oP := hown
          clear hown hg f8 hsz
          refine Reg.wpE_main 11 (by kernel_rfl) (fun zz1 hN => ?_)
          simp only [Reg.pickL, List.drop]
          replace hb := hb.trans (Below.mono hN hb.size)
          replace fP := fP.grow hN
          try replace fT := fT.grow hN
          try replace fG := fG.grow hN
          replace oV := own_grow oV hN
          replace oP := own_grow oP hN
          try replace f2 := f2.grow hN
          try replace f8 := f8.grow hN
          clear hN
          have hsz := hb.size
          have eP := fP.unfrozen
          have cP := fP.cell 0
          have lP := fP.lt
          go_wp2_with fail
          refine ⟨rfl, .inl rfl, ?_⟩
          clear eP cP lP hsz
          replace oV := own_far oV fP (i := 0) (by decide) (.slice va (xs.length + 1) vc)
          replace oP := own_far oP fP (i := 0) (by decide) (.slice va (xs.length + 1) vc)
          replace fT := fT.far (b := w.heap.size) (i := 0) hPT (.slice va (xs.length + 1) vc)
          try replace fG := fG.far (b := w.heap.size) (i := 0) hPG (.slice va (xs.length + 1) vc)
          replace hb := hb.setCell (p := ⟨w.heap.size, 0, none⟩) (Nat.le_refl _) (.slice va (xs.length + 1) vc)
          have fP' : Blk _ w.heap.size 25 #[.slice va (xs.length + 1) vc, p] := fP.set 0 (.slice va (xs.length + 1) vc)
          clear fP
          have fP := fP'
          clear fP'
          refine Reg.wpE_main 12 (by kernel_rfl) (fun ym hN => ?_)
          simp only [Reg.pickL, List.drop]
          replace hb := hb.trans (Below.mono hN hb.size)
          replace fP := fP.grow hN
          try replace fT := fT.grow hN
          try replace fG := fG.grow hN
          replace oV := own_grow oV hN
          replace oP := own_grow oP hN
          try replace f2 := f2.grow hN
          try replace f8 := f8.grow hN
          clear hN
          have hsz := hb.size
          go_wp2_with fail
          refine ⟨rfl, .inl rfl, ?_⟩
          clear hsz
          refine Reg.wpE_main 13 (by kernel_rfl) (fun zz2 hN => ?_)
          simp only [Reg.pickL, List.drop]
          replace hb := hb.trans (Below.mono hN hb.size)
          replace fP := fP.grow hN
          try replace fT := fT.grow hN
          try replace fG := fG.grow hN
          replace oV := own_grow oV hN
          replace oP := own_grow oP hN
          try replace f2 := f2.grow hN
          try replace f8 := f8.grow hN
          clear hN
          have hsz := hb.size
          have eP := fP.unfrozen
          have cP := fP.cell 1
          have lP := fP.lt
          go_wp2_with fail
          refine ⟨rfl, .inl rfl, ?_⟩
          clear eP cP lP hsz
          replace oV := own_far oV fP (i := 1) (by decide) (.slice pa (ys.length + 1) pc)
          replace oP := own_far oP fP (i := 1) (by decide) (.slice pa (ys.length + 1) pc)
          replace fT := fT.far (b := w.heap.size) (i := 1) hPT (.slice pa (ys.length + 1) pc)
          try replace fG := fG.far (b := w.heap.size) (i := 1) hPG (.slice pa (ys.length + 1) pc)
          replace hb := hb.setCell (p := ⟨w.heap.size, 1, none⟩) (Nat.le_refl _) (.slice pa (ys.length + 1) pc)
          have fP' : Blk _ w.heap.size 25 #[.slice va (xs.length + 1) vc, .slice pa (ys.length + 1) pc] := fP.set 1 (.slice pa (ys.length + 1) pc)
          clear fP
          have fP := fP'
          clear fP'
          refine Reg.wpE_end (by kernel_rfl) (fun zz3 hN => ?_)
          replace hb := hb.trans (Below.mono hN hb.size)
          replace fP := fP.grow hN
          try replace fT := fT.grow hN
          try replace fG := fG.grow hN
          replace oV := own_grow oV hN
          replace oP := own_grow oP hN
          try replace f2 := f2.grow hN
          try replace f8 := f8.grow hN
          clear hN
          have hsz := hb.size
          have oV' : OwnV zz3 w.heap.size 3 (.slice va (xs.length + 1) vc) (xs ++ [1]) := by unfold OwnV; simpa [intsV] using oV
          have oP' : OwnQ zz3 w.heap.size 44 (.slice pa (ys.length + 1) pc) (ys ++ [(sx, sy)]) := by unfold OwnQ; simpa [ptsV_append] using oP
          clear oV oP hsz
          have eT := fT.cell
          have lT := fT.lt
          go_wp2_with fail
          clear eT lT
          have HI : Hid (JT zz3 w.heap.size T 25 47 3 44 #[.int .i64 sx, .int .i64 sy, .slice sa segs.length sc, .bool cl] (xs ++ [1] ++ segsVs (segs.take 0)) (ys ++ [(sx, sy)] ++ segsPs (segs.take 0))) := Lib.hid ⟨_, _, fP, fT, by simpa [segsVs] using oV', by simpa [segsPs] using oP'⟩
          have HB := Lib.hid hb
          clear fP fT oV' oP' hb
          go_loopw [28] (fun j wi => ∃ i : Nat, i ≤ segs.length ∧ j = .int .i64 i ∧ JT wi w.heap.size T 25 47 3 44 #[.int .i64 sx, .int .i64 sy, .slice sa segs.length sc, .bool cl] (xs ++ [1] ++ segsVs (segs.take i)) (ys ++ [(sx, sy)] ++ segsPs (segs.take i)) ∧ Below w.heap.size w wi) (fun j _ => segs.length - (intOf j).toNat)
          case atStart => exact ⟨0, Nat.zero_le _, rfl, HI.out, HB.out⟩
          case round =>
            clear HI HB
            obtain ⟨wi, rfl⟩ : ∃ wi : World, wi = wr := ⟨_, rfl⟩
            obtain ⟨i, hi, rfl, ⟨v, p, fP, fT, oV, oP⟩, hb⟩ := hrel
            by_cases hil : i < segs.length
            · obtain ⟨gb, go, hga, hgB, e0, e1, e2, e3, e4, e5, e6, e7, e8⟩ := (HSE.out.below hb).at_ i hil
              subst hga
              have HXT : Hid (xs ++ [1] ++ segsVs (segs.take (i + 1)) = xs ++ [1] ++ segsVs (segs.take i) ++ segVs segs[i] ∧ ys ++ [(sx, sy)] ++ segsPs (segs.take (i + 1)) = ys ++ [(sx, sy)] ++ segsPs (segs.take i) ++ segPs segs[i]) := Lib.hid (by rw [take_snoc segs i hil, segsVs_snoc, segsPs_snoc, ← List.append_assoc, ← List.append_assoc]; exact ⟨rfl, rfl⟩)
              have hX : (xs ++ [1] ++ segsVs (segs.take i)).length ≤ 1002 * k + 1001 := by
                have := segsVs_le (segs.take i)
                simp only [List.length_append, List.length_cons, List.length_nil, List.length_take] at this ⊢
                omega
              have hY : (ys ++ [(sx, sy)] ++ segsPs (segs.take i)).length ≤ 3001 * k + 3001 := by
                have := segsPs_le (segs.take i)
                simp only [List.length_append, List.length_cons, List.length_nil, List.length_take] at this ⊢
                omega
              have hgw : gb < wi.heap.size := by have := hb.size; omega
              generalize xs ++ [1] ++ segsVs (segs.take i) = X at *
              generalize ys ++ [(sx, sy)] ++ segsPs (segs.take i) = Y at *
              generalize segs[i] = q at *
              obtain ⟨⟨y0, z0⟩, ⟨y1, z1⟩, ⟨y2, z2⟩, ⟨y3, z3⟩, qn⟩ := q
              simp only at e0 e1 e2 e3 e4 e5 e6 e7 e8
              have oV : wi.ownsRow w.heap.size 3 1 v X.length (intsV X) := oV
              have oP : wi.ownsRow w.heap.size 44 2 p Y.length (ptsV Y) := oP
              have lP := fP.lt
              have hPG : w.heap.size ≠ wi.heap.size := by omega
              clear lP
              have hil' : (i : Int) < segs.length := by omega
              rcases (by omega : qn = 2 ∨ qn = 3 ∨ qn = 4 ∨ ¬ (2 : Int) ≤ qn ∨ (2 ≤ qn ∧ ¬ qn ≤ 4)) with rfl | rfl | rfl | hq | ⟨hq0, hq⟩
              · skip
                go_wp2_with fail
                have fG := Blk.new wi 50 #[.int .i64 y0, .int .i64 z0, .int .i64 y1, .int .i64 z1, .int .i64 y2, .int .i64 z2, .int .i64 y3, .int .i64 z3, .int .i64 2]
                replace fP := fP.alloc (.cells #[.int .i64 y0, .int .i64 z0, .int .i64 y1, .int .i64 z1, .int .i64 y2, .int .i64 z2, .int .i64 y3, .int .i64 z3, .int .i64 2] 50)
                replace fT := fT.alloc (.cells #[.int .i64 y0, .int .i64 z0, .int .i64 y1, .int .i64 z1, .int .i64 y2, .int .i64 z2, .int .i64 y3, .int .i64 z3, .int .i64 2] 50)
                replace oV := oV.alloc (.cells #[.int .i64 y0, .int .i64 z0, .int .i64 y1, .int .i64 z1, .int .i64 y2, .int .i64 z2, .int .i64 y3, .int .i64 z3, .int .i64 2] 50)
                replace oP := oP.alloc (.cells #[.int .i64 y0, .int .i64 z0, .int .i64 y1, .int .i64 z1, .int .i64 y2, .int .i64 z2, .int .i64 y3, .int .i64 z3, .int .i64 2] 50)
                replace hb := hb.alloc hb.size (.cells #[.int .i64 y0, .int .i64 z0, .int .i64 y1, .int .i64 z1, .int .i64 y2, .int .i64 z2, .int .i64 y3, .int .i64 z3, .int .i64 2] 50)
                clear e0 e1 e2 e3 e4 e5 e6 e7 e8
                generalize wi.alloc (.cells #[.int .i64 y0, .int .i64 z0, .int .i64 y1, .int .i64 z1, .int .i64 y2, .int .i64 z2, .int .i64 y3, .int .i64 z3, .int .i64 2] 50) = wS at *
                generalize wi.heap.size = G at *
                have eP := fP.cell
                have eG := fG.cell
                have lP := fP.lt
                have lG := fG.lt
                refine Reg.wp_region_E (fun b => b = w.heap.size ∨ b = G) (fun j => decide (14 ≤ j)) 17 rfl (by kernel_rfl) ?_
                refine Reg.wpE_hoist [0, 1, 2, 3, 6, 7, 8, 9, 10, 11] 7 rfl (by kernel_rfl) (by kernel_rfl) (by kernel_rfl) (fun u => ?_)
                simp only [Reg.pickL, List.drop]
                repeat (go_big_quiet_step ((first | fail)))
                refine wpQuiet_nil ?_
                clear eP eG lP lG
                refine Reg.wpE_main 4 (by kernel_rfl) (fun x1 hN => ?_)
                simp only [Reg.pickL, List.drop]
                replace hb := hb.trans (Below.mono hN hb.size)
                replace fP := fP.grow hN
                try replace fT := fT.grow hN
                try replace fG := fG.grow hN
                replace oV := own_grow oV hN
                replace oP := own_grow oP hN
                try replace f2 := f2.grow hN
                try replace f8 := f8.grow hN
                clear hN
                have hsz := hb.size
                go_wp2_with fail
                refine ⟨rfl, .inr (Reg.Kp.of_gr ((Below.refl _ _).alloc (Nat.le_refl _) _)), ?_⟩
                replace hb := hb.alloc hb.size (.cells #[Value.int .i64 2] 3)
                replace fP := fP.alloc (.cells #[Value.int .i64 2] 3)
                try replace fG := fG.alloc (.cells #[Value.int .i64 2] 3)
                replace fT := fT.alloc (.cells #[Value.int .i64 2] 3)
                replace oV := oV.alloc (.cells #[Value.int .i64 2] 3)
                replace oP := oP.alloc (.cells #[Value.int .i64 2] 3)
                try replace f8 := f8.alloc (.cells #[Value.int .i64 2] 3)
                have f2 : Blk _ x1.heap.size 3 [Value.int .i64 2].toArray := Blk.new x1 _ _
                clear hsz
                refine Reg.wpE_main 5 (by kernel_rfl) (fun x2 hN => ?_)
                simp only [Reg.pickL, List.drop]
                replace hb := hb.trans (Below.mono hN hb.size)
                replace fP := fP.grow hN
                try replace fT := fT.grow hN
                try replace fG := fG.grow hN
                replace oV := own_grow oV hN
                replace oP := own_grow oP hN
                try replace f2 := f2.grow hN
                try replace f8 := f8.grow hN
                clear hN
                have hsz := hb.size
                refine wpList_append_own _ rfl _ _ 22 rfl w.heap.size 3 iI _ 1 8 Try.underlying22 hiI hz0I hz1I hz2I rfl (by decide) _ _ _ rfl oV ⟨x1.heap.size, 0, none⟩ 1 1 [Value.int .i64 2] rfl rfl f2.news (by simp [Value.oneCell']) (by unfold maxLen; omega) (by omega) hsz ?_
                rintro v' w5 hown hg -
                obtain ⟨va, vc, rfl, _⟩ := own_slice hown
                go_wp2_with fail
                refine ⟨rfl, .inr (Reg.Kp.of_grown hg (fun b hb => own_two oV fP fG (by decide) (by decide) b hb)), ?_⟩
                replace fP := fP.grown hg (own_apart_blk oV fP (by decide))
                try replace fG := fG.grown hg (own_apart_blk oV fG (by decide))
                replace fT := fT.grown hg (own_apart_blk oV fT (by decide))
                try replace f8 := f8.grown hg (own_apart_blk oV f8 (by decide))
                replace oP := oP.kept hg (own_apart oP oV (by decide))
                replace hb := hb.grown hg hb.size (fun k hk => (oV.lt k hk).1)
                replace oV := hown
                clear hown hg f2 hsz
                refine Reg.wpE_hoist [13] 4 rfl (by kernel_rfl) (by kernel_rfl) (by kernel_rfl) (fun u => ?_)
                simp only [Reg.pickL, List.drop]
                repeat (go_big_quiet_step ((first | fail)))
                refine wpQuiet_nil ?_
                refine Reg.wpE_main 12 (by kernel_rfl) (fun x3 hN => ?_)
                simp only [Reg.pickL, List.drop]
                replace hb := hb.trans (Below.mono hN hb.size)
                replace fP := fP.grow hN
                try replace fT := fT.grow hN
                try replace fG := fG.grow hN
                replace oV := own_grow oV hN
                replace oP := own_grow oP hN
                try replace f2 := f2.grow hN
                try replace f8 := f8.grow hN
                clear hN
                have hsz := hb.size
                refine wpList_append_own _ rfl _ _ 23 rfl w.heap.size 44 iQ _ 2 16 Try.underlying23 hiQ hz0Q hz1Q hz2Q rfl (by decide) _ _ _ rfl oP ⟨G, 2, none⟩ 1 3 (ptsV [(y1, z1)]) rfl rfl (fG.newsAt 2 _ (by intro j u hj; rcases j with _ | _ | _ | _ | _ | _ | j <;> simp [ptsV] at hj ⊢ <;> exact hj)) (ptsV_one _) (by unfold maxLen; omega) (by omega) hsz ?_
                rintro p' w5 hown hg -
                obtain ⟨pa, pc, rfl, _⟩ := own_slice hown
                go_wp2_with fail
                refine ⟨rfl, .inr (Reg.Kp.of_grown hg (fun b hb => own_two oP fP fG (by decide) (by decide) b hb)), ?_⟩
                replace fP := fP.grown hg (own_apart_blk oP fP (by decide))
                replace fT := fT.grown hg (own_apart_blk oP fT (by decide))
                replace fG := fG.grown hg (own_apart_blk oP fG (by decide))
                replace oV := oV.kept hg (own_apart oV oP (by decide))
                replace hb := hb.grown hg hb.size (fun k hk => (oP.lt k hk).1)
                replace oP := hown
                clear hown hg hsz
                refine Reg.wpE_main 14 (by kernel_rfl) (fun zz1 hN => ?_)
                simp only [Reg.pickL, List.drop]
                replace hb := hb.trans (Below.mono hN hb.size)
                replace fP := fP.grow hN
                try replace fT := fT.grow hN
                try replace fG := fG.grow hN
                replace oV := own_grow oV hN
                replace oP := own_grow oP hN
                try replace f2 := f2.grow hN
                try replace f8 := f8.grow hN
                clear hN
                have hsz := hb.size
                have eP := fP.unfrozen
                have cP := fP.cell 0
                have lP := fP.lt
                go_wp2_with fail
                refine ⟨rfl, .inl rfl, ?_⟩
                clear eP cP lP hsz
                replace oV := own_far oV fP (i := 0) (by decide) (.slice va (X.length + 1) vc)
                replace oP := own_far oP fP (i := 0) (by decide) (.slice va (X.length + 1) vc)
                replace fT := fT.far (b := w.heap.size) (i := 0) hPT (.slice va (X.length + 1) vc)
                try replace fG := fG.far (b := w.heap.size) (i := 0) hPG (.slice va (X.length + 1) vc)
                replace hb := hb.setCell (p := ⟨w.heap.size, 0, none⟩) (Nat.le_refl _) (.slice va (X.length + 1) vc)
                have fP' : Blk _ w.heap.size 25 #[.slice va (X.length + 1) vc, p] := fP.set 0 (.slice va (X.length + 1) vc)
                clear fP
                have fP := fP'
                clear fP'
                refine Reg.wpE_main 15 (by kernel_rfl) (fun ym hN => ?_)
                simp only [Reg.pickL, List.drop]
                replace hb := hb.trans (Below.mono hN hb.size)
                replace fP := fP.grow hN
                try replace fT := fT.grow hN
                try replace fG := fG.grow hN
                replace oV := own_grow oV hN
                replace oP := own_grow oP hN
                try replace f2 := f2.grow hN
                try replace f8 := f8.grow hN
                clear hN
                have hsz := hb.size
                go_wp2_with fail
                refine ⟨rfl, .inl rfl, ?_⟩
                clear hsz
                refine Reg.wpE_main 16 (by kernel_rfl) (fun zz2 hN => ?_)
                simp only [Reg.pickL, List.drop]
                replace hb := hb.trans (Below.mono hN hb.size)
                replace fP := fP.grow hN
                try replace fT := fT.grow hN
                try replace fG := fG.grow hN
                replace oV := own_grow oV hN
                replace oP := own_grow oP hN
                try replace f2 := f2.grow hN
                try replace f8 := f8.grow hN
                clear hN
                have hsz := hb.size
                have eP := fP.unfrozen
                have cP := fP.cell 1
                have lP := fP.lt
                go_wp2_with fail
                refine ⟨rfl, .inl rfl, ?_⟩
                clear eP cP lP hsz
                replace oV := own_far oV fP (i := 1) (by decide) (.slice pa (Y.length + 1) pc)
                replace oP := own_far oP fP (i := 1) (by decide) (.slice pa (Y.length + 1) pc)
                replace fT := fT.far (b := w.heap.size) (i := 1) hPT (.slice pa (Y.length + 1) pc)
                try replace fG := fG.far (b := w.heap.size) (i := 1) hPG (.slice pa (Y.length + 1) pc)
                replace hb := hb.setCell (p := ⟨w.heap.size, 1, none⟩) (Nat.le_refl _) (.slice pa (Y.length + 1) pc)
                have fP' : Blk _ w.heap.size 25 #[.slice va (X.length + 1) vc, .slice pa (Y.length + 1) pc] := fP.set 1 (.slice pa (Y.length + 1) pc)
                clear fP
                have fP := fP'
                clear fP'
                refine Reg.wpE_end (by kernel_rfl) (fun zz3 hN => ?_)
                replace hb := hb.trans (Below.mono hN hb.size)
                replace fP := fP.grow hN
                try replace fT := fT.grow hN
                try replace fG := fG.grow hN
                replace oV := own_grow oV hN
                replace oP := own_grow oP hN
                try replace f2 := f2.grow hN
                try replace f8 := f8.grow hN
                clear hN
                have hsz := hb.size
                have oV' : OwnV zz3 w.heap.size 3 (.slice va (X.length + 1) vc) (X ++ [2]) := by unfold OwnV; simpa [intsV] using oV
                have oP' : OwnQ zz3 w.heap.size 44 (.slice pa (Y.length + 1) pc) (Y ++ [(y1, z1)]) := by unfold OwnQ; simpa [ptsV_append] using oP
                clear oV oP hsz fG
                go_wp2_with fail
                exact ⟨⟨i + 1, by omega, by go_num, ⟨_, _, fP, fT, by rw [HXT.out.1]; exact oV', by rw [HXT.out.2]; exact oP'⟩, hb⟩, by simp [intOf]; omega⟩
              · skip
                go_wp2_with fail
                have fG := Blk.new wi 50 #[.int .i64 y0, .int .i64 z0, .int .i64 y1, .int .i64 z1, .int .i64 y2, .int .i64 z2, .int .i64 y3, .int .i64 z3, .int .i64 3]
                replace fP := fP.alloc (.cells #[.int .i64 y0, .int .i64 z0, .int .i64 y1, .int .i64 z1, .int .i64 y2, .int .i64 z2, .int .i64 y3, .int .i64 z3, .int .i64 3] 50)
                replace fT := fT.alloc (.cells #[.int .i64 y0, .int .i64 z0, .int .i64 y1, .int .i64 z1, .int .i64 y2, .int .i64 z2, .int .i64 y3, .int .i64 z3, .int .i64 3] 50)
                replace oV := oV.alloc (.cells #[.int .i64 y0, .int .i64 z0, .int .i64 y1, .int .i64 z1, .int .i64 y2, .int .i64 z2, .int .i64 y3, .int .i64 z3, .int .i64 3] 50)
                replace oP := oP.alloc (.cells #[.int .i64 y0, .int .i64 z0, .int .i64 y1, .int .i64 z1, .int .i64 y2, .int .i64 z2, .int .i64 y3, .int .i64 z3, .int .i64 3] 50)
                replace hb := hb.alloc hb.size (.cells #[.int .i64 y0, .int .i64 z0, .int .i64 y1, .int .i64 z1, .int .i64 y2, .int .i64 z2, .int .i64 y3, .int .i64 z3, .int .i64 3] 50)
                clear e0 e1 e2 e3 e4 e5 e6 e7 e8
                generalize wi.alloc (.cells #[.int .i64 y0, .int .i64 z0, .int .i64 y1, .int .i64 z1, .int .i64 y2, .int .i64 z2, .int .i64 y3, .int .i64 z3, .int .i64 3] 50) = wS at *
                generalize wi.heap.size = G at *
                have eP := fP.cell
                have eG := fG.cell
                have lP := fP.lt
                have lG := fG.lt
                refine Reg.wp_region_E (fun b => b = w.heap.size ∨ b = G) (fun j => decide (14 ≤ j)) 17 rfl (by kernel_rfl) ?_
                refine Reg.wpE_hoist [0, 1, 2, 3, 6, 7, 8, 9, 10, 11] 7 rfl (by kernel_rfl) (by kernel_rfl) (by kernel_rfl) (fun u => ?_)
                simp only [Reg.pickL, List.drop]
                repeat (go_big_quiet_step ((first | fail)))
                refine wpQuiet_nil ?_
                clear eP eG lP lG
                refine Reg.wpE_main 4 (by kernel_rfl) (fun x1 hN => ?_)
                simp only [Reg.pickL, List.drop]
                replace hb := hb.trans (Below.mono hN hb.size)
                replace fP := fP.grow hN
                try replace fT := fT.grow hN
                try replace fG := fG.grow hN
                replace oV := own_grow oV hN
                replace oP := own_grow oP hN
                try replace f2 := f2.grow hN
                try replace f8 := f8.grow hN
                clear hN
                have hsz := hb.size
                go_wp2_with fail
                refine ⟨rfl, .inr (Reg.Kp.of_gr ((Below.refl _ _).alloc (Nat.le_refl _) _)), ?_⟩
                replace hb := hb.alloc hb.size (.cells #[Value.int .i64 3] 3)
                replace fP := fP.alloc (.cells #[Value.int .i64 3] 3)
                try replace fG := fG.alloc (.cells #[Value.int .i64 3] 3)
                replace fT := fT.alloc (.cells #[Value.int .i64 3] 3)
                replace oV := oV.alloc (.cells #[Value.int .i64 3] 3)
                replace oP := oP.alloc (.cells #[Value.int .i64 3] 3)
                try replace f8 := f8.alloc (.cells #[Value.int .i64 3] 3)
                have f2 : Blk _ x1.heap.size 3 [Value.int .i64 3].toArray := Blk.new x1 _ _
                clear hsz
                refine Reg.wpE_main 5 (by kernel_rfl) (fun x2 hN => ?_)
                simp only [Reg.pickL, List.drop]
                replace hb := hb.trans (Below.mono hN hb.size)
                replace fP := fP.grow hN
                try replace fT := fT.grow hN
                try replace fG := fG.grow hN
                replace oV := own_grow oV hN
                replace oP := own_grow oP hN
                try replace f2 := f2.grow hN
                try replace f8 := f8.grow hN
                clear hN
                have hsz := hb.size
                refine wpList_append_own _ rfl _ _ 22 rfl w.heap.size 3 iI _ 1 8 Try.underlying22 hiI hz0I hz1I hz2I rfl (by decide) _ _ _ rfl oV ⟨x1.heap.size, 0, none⟩ 1 1 [Value.int .i64 3] rfl rfl f2.news (by simp [Value.oneCell']) (by unfold maxLen; omega) (by omega) hsz ?_
                rintro v' w5 hown hg -
                obtain ⟨va, vc, rfl, _⟩ := own_slice hown
                go_wp2_with fail
                refine ⟨rfl, .inr (Reg.Kp.of_grown hg (fun b hb => own_two oV fP fG (by decide) (by decide) b hb)), ?_⟩
                replace fP := fP.grown hg (own_apart_blk oV fP (by decide))
                try replace fG := fG.grown hg (own_apart_blk oV fG (by decide))
                replace fT := fT.grown hg (own_apart_blk oV fT (by decide))
                try replace f8 := f8.grown hg (own_apart_blk oV f8 (by decide))
                replace oP := oP.kept hg (own_apart oP oV (by decide))
                replace hb := hb.grown hg hb.size (fun k hk => (oV.lt k hk).1)
                replace oV := hown
                clear hown hg f2 hsz
                refine Reg.wpE_hoist [13] 4 rfl (by kernel_rfl) (by kernel_rfl) (by kernel_rfl) (fun u => ?_)
                simp only [Reg.pickL, List.drop]
                repeat (go_big_quiet_step ((first | fail)))
                refine wpQuiet_nil ?_
                refine Reg.wpE_main 12 (by kernel_rfl) (fun x3 hN => ?_)
                simp only [Reg.pickL, List.drop]
                replace hb := hb.trans (Below.mono hN hb.size)
                replace fP := fP.grow hN
                try replace fT := fT.grow hN
                try replace fG := fG.grow hN
                replace oV := own_grow oV hN
                replace oP := own_grow oP hN
                try replace f2 := f2.grow hN
                try replace f8 := f8.grow hN
                clear hN
                have hsz := hb.size
                refine wpList_append_own _ rfl _ _ 23 rfl w.heap.size 44 iQ _ 2 16 Try.underlying23 hiQ hz0Q hz1Q hz2Q rfl (by decide) _ _ _ rfl oP ⟨G, 2, none⟩ 2 3 (ptsV [(y1, z1), (y2, z2)]) rfl rfl (fG.newsAt 2 _ (by intro j u hj; rcases j with _ | _ | _ | _ | _ | _ | j <;> simp [ptsV] at hj ⊢ <;> exact hj)) (ptsV_one _) (by unfold maxLen; omega) (by omega) hsz ?_
                rintro p' w5 hown hg -
                obtain ⟨pa, pc, rfl, _⟩ := own_slice hown
                go_wp2_with fail
                refine ⟨rfl, .inr (Reg.Kp.of_grown hg (fun b hb => own_two oP fP fG (by decide) (by decide) b hb)), ?_⟩
                replace fP := fP.grown hg (own_apart_blk oP fP (by decide))
                replace fT := fT.grown hg (own_apart_blk oP fT (by decide))
                replace fG := fG.grown hg (own_apart_blk oP fG (by decide))
                replace oV := oV.kept hg (own_apart oV oP (by decide))
                replace hb := hb.grown hg hb.size (fun k hk => (oP.lt k hk).1)
                replace oP := hown
                clear hown hg hsz
                refine Reg.wpE_main 14 (by kernel_rfl) (fun zz1 hN => ?_)
                simp only [Reg.pickL, List.drop]
                replace hb := hb.trans (Below.mono hN hb.size)
                replace fP := fP.grow hN
                try replace fT := fT.grow hN
                try replace fG := fG.grow hN
                replace oV := own_grow oV hN
                replace oP := own_grow oP hN
                try replace f2 := f2.grow hN
                try replace f8 := f8.grow hN
                clear hN
                have hsz := hb.size
                have eP := fP.unfrozen
                have cP := fP.cell 0
                have lP := fP.lt
                go_wp2_with fail
                refine ⟨rfl, .inl rfl, ?_⟩
                clear eP cP lP hsz
                replace oV := own_far oV fP (i := 0) (by decide) (.slice va (X.length + 1) vc)
                replace oP := own_far oP fP (i := 0) (by decide) (.slice va (X.length + 1) vc)
                replace fT := fT.far (b := w.heap.size) (i := 0) hPT (.slice va (X.length + 1) vc)
                try replace fG := fG.far (b := w.heap.size) (i := 0) hPG (.slice va (X.length + 1) vc)
                replace hb := hb.setCell (p := ⟨w.heap.size, 0, none⟩) (Nat.le_refl _) (.slice va (X.length + 1) vc)
                have fP' : Blk _ w.heap.size 25 #[.slice va (X.length + 1) vc, p] := fP.set 0 (.slice va (X.length + 1) vc)
                clear fP
                have fP := fP'
                clear fP'
                refine Reg.wpE_main 15 (by kernel_rfl) (fun ym hN => ?_)
                simp only [Reg.pickL, List.drop]
                replace hb := hb.trans (Below.mono hN hb.size)
                replace fP := fP.grow hN
                try replace fT := fT.grow hN
                try replace fG := fG.grow hN
                replace oV := own_grow oV hN
                replace oP := own_grow oP hN
                try replace f2 := f2.grow hN
                try replace f8 := f8.grow hN
                clear hN
                have hsz := hb.size
                go_wp2_with fail
                refine ⟨rfl, .inl rfl, ?_⟩
                clear hsz
                refine Reg.wpE_main 16 (by kernel_rfl) (fun zz2 hN => ?_)
                simp only [Reg.pickL, List.drop]
                replace hb := hb.trans (Below.mono hN hb.size)
                replace fP := fP.grow hN
                try replace fT := fT.grow hN
                try replace fG := fG.grow hN
                replace oV := own_grow oV hN
                replace oP := own_grow oP hN
                try replace f2 := f2.grow hN
                try replace f8 := f8.grow hN
                clear hN
                have hsz := hb.size
                have eP := fP.unfrozen
                have cP := fP.cell 1
                have lP := fP.lt
                go_wp2_with fail
                refine ⟨rfl, .inl rfl, ?_⟩
                clear eP cP lP hsz
                replace oV := own_far oV fP (i := 1) (by decide) (.slice pa (Y.length + 2) pc)
                replace oP := own_far oP fP (i := 1) (by decide) (.slice pa (Y.length + 2) pc)
                replace fT := fT.far (b := w.heap.size) (i := 1) hPT (.slice pa (Y.length + 2) pc)
                try replace fG := fG.far (b := w.heap.size) (i := 1) hPG (.slice pa (Y.length + 2) pc)
                replace hb := hb.setCell (p := ⟨w.heap.size, 1, none⟩) (Nat.le_refl _) (.slice pa (Y.length + 2) pc)
                have fP' : Blk _ w.heap.size 25 #[.slice va (X.length + 1) vc, .slice pa (Y.length + 2) pc] := fP.set 1 (.slice pa (Y.length + 2) pc)
                clear fP
                have fP := fP'
                clear fP'
                refine Reg.wpE_end (by kernel_rfl) (fun zz3 hN => ?_)
                replace hb := hb.trans (Below.mono hN hb.size)
                replace fP := fP.grow hN
                try replace fT := fT.grow hN
                try replace fG := fG.grow hN
                replace oV := own_grow oV hN
                replace oP := own_grow oP hN
                try replace f2 := f2.grow hN
                try replace f8 := f8.grow hN
                clear hN
                have hsz := hb.size
                have oV' : OwnV zz3 w.heap.size 3 (.slice va (X.length + 1) vc) (X ++ [3]) := by unfold OwnV; simpa [intsV] using oV
                have oP' : OwnQ zz3 w.heap.size 44 (.slice pa (Y.length + 2) pc) (Y ++ [(y1, z1), (y2, z2)]) := by unfold OwnQ; simpa [ptsV_append] using oP
                clear oV oP hsz fG
                go_wp2_with fail
                exact ⟨⟨i + 1, by omega, by go_num, ⟨_, _, fP, fT, by rw [HXT.out.1]; exact oV', by rw [HXT.out.2]; exact oP'⟩, hb⟩, by simp [intOf]; omega⟩
              · skip
                go_wp2_with fail
                have fG := Blk.new wi 50 #[.int .i64 y0, .int .i64 z0, .int .i64 y1, .int .i64 z1, .int .i64 y2, .int .i64 z2, .int .i64 y3, .int .i64 z3, .int .i64 4]
                replace fP := fP.alloc (.cells #[.int .i64 y0, .int .i64 z0, .int .i64 y1, .int .i64 z1, .int .i64 y2, .int .i64 z2, .int .i64 y3, .int .i64 z3, .int .i64 4] 50)
                replace fT := fT.alloc (.cells #[.int .i64 y0, .int .i64 z0, .int .i64 y1, .int .i64 z1, .int .i64 y2, .int .i64 z2, .int .i64 y3, .int .i64 z3, .int .i64 4] 50)
                replace oV := oV.alloc (.cells #[.int .i64 y0, .int .i64 z0, .int .i64 y1, .int .i64 z1, .int .i64 y2, .int .i64 z2, .int .i64 y3, .int .i64 z3, .int .i64 4] 50)
                replace oP := oP.alloc (.cells #[.int .i64 y0, .int .i64 z0, .int .i64 y1, .int .i64 z1, .int .i64 y2, .int .i64 z2, .int .i64 y3, .int .i64 z3, .int .i64 4] 50)
                replace hb := hb.alloc hb.size (.cells #[.int .i64 y0, .int .i64 z0, .int .i64 y1, .int .i64 z1, .int .i64 y2, .int .i64 z2, .int .i64 y3, .int .i64 z3, .int .i64 4] 50)
                clear e0 e1 e2 e3 e4 e5 e6 e7 e8
                generalize wi.alloc (.cells #[.int .i64 y0, .int .i64 z0, .int .i64 y1, .int .i64 z1, .int .i64 y2, .int .i64 z2, .int .i64 y3, .int .i64 z3, .int .i64 4] 50) = wS at *
                generalize wi.heap.size = G at *
                have eP := fP.cell
                have eG := fG.cell
                have lP := fP.lt
                have lG := fG.lt
                refine Reg.wp_region_E (fun b => b = w.heap.size ∨ b = G) (fun j => decide (14 ≤ j)) 17 rfl (by kernel_rfl) ?_
                refine Reg.wpE_hoist [0, 1, 2, 3, 6, 7, 8, 9, 10, 11] 7 rfl (by kernel_rfl) (by kernel_rfl) (by kernel_rfl) (fun u => ?_)
                simp only [Reg.pickL, List.drop]
                repeat (go_big_quiet_step ((first | fail)))
                refine wpQuiet_nil ?_
                clear eP eG lP lG
                refine Reg.wpE_main 4 (by kernel_rfl) (fun x1 hN => ?_)
                simp only [Reg.pickL, List.drop]
                replace hb := hb.trans (Below.mono hN hb.size)
                replace fP := fP.grow hN
                try replace fT := fT.grow hN
                try replace fG := fG.grow hN
                replace oV := own_grow oV hN
                replace oP := own_grow oP hN
                try replace f2 := f2.grow hN
                try replace f8 := f8.grow hN
                clear hN
                have hsz := hb.size
                go_wp2_with fail
                refine ⟨rfl, .inr (Reg.Kp.of_gr ((Below.refl _ _).alloc (Nat.le_refl _) _)), ?_⟩
                replace hb := hb.alloc hb.size (.cells #[Value.int .i64 4] 3)
                replace fP := fP.alloc (.cells #[Value.int .i64 4] 3)
                try replace fG := fG.alloc (.cells #[Value.int .i64 4] 3)
                replace fT := fT.alloc (.cells #[Value.int .i64 4] 3)
                replace oV := oV.alloc (.cells #[Value.int .i64 4] 3)
                replace oP := oP.alloc (.cells #[Value.int .i64 4] 3)
                try replace f8 := f8.alloc (.cells #[Value.int .i64 4] 3)
                have f2 : Blk _ x1.heap.size 3 [Value.int .i64 4].toArray := Blk.new x1 _ _
                clear hsz
                refine Reg.wpE_main 5 (by kernel_rfl) (fun x2 hN => ?_)
                simp only [Reg.pickL, List.drop]
                replace hb := hb.trans (Below.mono hN hb.size)
                replace fP := fP.grow hN
                try replace fT := fT.grow hN
                try replace fG := fG.grow hN
                replace oV := own_grow oV hN
                replace oP := own_grow oP hN
                try replace f2 := f2.grow hN
                try replace f8 := f8.grow hN
                clear hN
                have hsz := hb.size
                refine wpList_append_own _ rfl _ _ 22 rfl w.heap.size 3 iI _ 1 8 Try.underlying22 hiI hz0I hz1I hz2I rfl (by decide) _ _ _ rfl oV ⟨x1.heap.size, 0, none⟩ 1 1 [Value.int .i64 4] rfl rfl f2.news (by simp [Value.oneCell']) (by unfold maxLen; omega) (by omega) hsz ?_
                rintro v' w5 hown hg -
                obtain ⟨va, vc, rfl, _⟩ := own_slice hown
                go_wp2_with fail
                refine ⟨rfl, .inr (Reg.Kp.of_grown hg (fun b hb => own_two oV fP fG (by decide) (by decide) b hb)), ?_⟩
                replace fP := fP.grown hg (own_apart_blk oV fP (by decide))
                try replace fG := fG.grown hg (own_apart_blk oV fG (by decide))
                replace fT := fT.grown hg (own_apart_blk oV fT (by decide))
                try replace f8 := f8.grown hg (own_apart_blk oV f8 (by decide))
                replace oP := oP.kept hg (own_apart oP oV (by decide))
                replace hb := hb.grown hg hb.size (fun k hk => (oV.lt k hk).1)
                replace oV := hown
                clear hown hg f2 hsz
                refine Reg.wpE_hoist [13] 4 rfl (by kernel_rfl) (by kernel_rfl) (by kernel_rfl) (fun u => ?_)
                simp only [Reg.pickL, List.drop]
                repeat (go_big_quiet_step ((first | fail)))
                refine wpQuiet_nil ?_
                refine Reg.wpE_main 12 (by kernel_rfl) (fun x3 hN => ?_)
                simp only [Reg.pickL, List.drop]
                replace hb := hb.trans (Below.mono hN hb.size)
                replace fP := fP.grow hN
                try replace fT := fT.grow hN
                try replace fG := fG.grow hN
                replace oV := own_grow oV hN
                replace oP := own_grow oP hN
                try replace f2 := f2.grow hN
                try replace f8 := f8.grow hN
                clear hN
                have hsz := hb.size
                refine wpList_append_own _ rfl _ _ 23 rfl w.heap.size 44 iQ _ 2 16 Try.underlying23 hiQ hz0Q hz1Q hz2Q rfl (by decide) _ _ _ rfl oP ⟨G, 2, none⟩ 3 3 (ptsV [(y1, z1), (y2, z2), (y3, z3)]) rfl rfl (fG.newsAt 2 _ (by intro j u hj; rcases j with _ | _ | _ | _ | _ | _ | j <;> simp [ptsV] at hj ⊢ <;> exact hj)) (ptsV_one _) (by unfold maxLen; omega) (by omega) hsz ?_
                rintro p' w5 hown hg -
                obtain ⟨pa, pc, rfl, _⟩ := own_slice hown
                go_wp2_with fail
                refine ⟨rfl, .inr (Reg.Kp.of_grown hg (fun b hb => own_two oP fP fG (by decide) (by decide) b hb)), ?_⟩
                replace fP := fP.grown hg (own_apart_blk oP fP (by decide))
                replace fT := fT.grown hg (own_apart_blk oP fT (by decide))
                replace fG := fG.grown hg (own_apart_blk oP fG (by decide))
                replace oV := oV.kept hg (own_apart oV oP (by decide))
                replace hb := hb.grown hg hb.size (fun k hk => (oP.lt k hk).1)
                replace oP := hown
                clear hown hg hsz
                refine Reg.wpE_main 14 (by kernel_rfl) (fun zz1 hN => ?_)
                simp only [Reg.pickL, List.drop]
                replace hb := hb.trans (Below.mono hN hb.size)
                replace fP := fP.grow hN
                try replace fT := fT.grow hN
                try replace fG := fG.grow hN
                replace oV := own_grow oV hN
                replace oP := own_grow oP hN
                try replace f2 := f2.grow hN
                try replace f8 := f8.grow hN
                clear hN
                have hsz := hb.size
                have eP := fP.unfrozen
                have cP := fP.cell 0
                have lP := fP.lt
                go_wp2_with fail
                refine ⟨rfl, .inl rfl, ?_⟩
                clear eP cP lP hsz
                replace oV := own_far oV fP (i := 0) (by decide) (.slice va (X.length + 1) vc)
                replace oP := own_far oP fP (i := 0) (by decide) (.slice va (X.length + 1) vc)
                replace fT := fT.far (b := w.heap.size) (i := 0) hPT (.slice va (X.length + 1) vc)
                try replace fG := fG.far (b := w.heap.size) (i := 0) hPG (.slice va (X.length + 1) vc)
                replace hb := hb.setCell (p := ⟨w.heap.size, 0, none⟩) (Nat.le_refl _) (.slice va (X.length + 1) vc)
                have fP' : Blk _ w.heap.size 25 #[.slice va (X.length + 1) vc, p] := fP.set 0 (.slice va (X.length + 1) vc)
                clear fP
                have fP := fP'
                clear fP'
                refine Reg.wpE_main 15 (by kernel_rfl) (fun ym hN => ?_)
                simp only [Reg.pickL, List.drop]
                replace hb := hb.trans (Below.mono hN hb.size)
                replace fP := fP.grow hN
                try replace fT := fT.grow hN
                try replace fG := fG.grow hN
                replace oV := own_grow oV hN
                replace oP := own_grow oP hN
                try replace f2 := f2.grow hN
                try replace f8 := f8.grow hN
                clear hN
                have hsz := hb.size
                go_wp2_with fail
                refine ⟨rfl, .inl rfl, ?_⟩
                clear hsz
                refine Reg.wpE_main 16 (by kernel_rfl) (fun zz2 hN => ?_)
                simp only [Reg.pickL, List.drop]
                replace hb := hb.trans (Below.mono hN hb.size)
                replace fP := fP.grow hN
                try replace fT := fT.grow hN
                try replace fG := fG.grow hN
                replace oV := own_grow oV hN
                replace oP := own_grow oP hN
                try replace f2 := f2.grow hN
                try replace f8 := f8.grow hN
                clear hN
                have hsz := hb.size
                have eP := fP.unfrozen
                have cP := fP.cell 1
                have lP := fP.lt
                go_wp2_with fail
                refine ⟨rfl, .inl rfl, ?_⟩
                clear eP cP lP hsz
                replace oV := own_far oV fP (i := 1) (by decide) (.slice pa (Y.length + 3) pc)
                replace oP := own_far oP fP (i := 1) (by decide) (.slice pa (Y.length + 3) pc)
                replace fT := fT.far (b := w.heap.size) (i := 1) hPT (.slice pa (Y.length + 3) pc)
                try replace fG := fG.far (b := w.heap.size) (i := 1) hPG (.slice pa (Y.length + 3) pc)
                replace hb := hb.setCell (p := ⟨w.heap.size, 1, none⟩) (Nat.le_refl _) (.slice pa (Y.length + 3) pc)
                have fP' : Blk _ w.heap.size 25 #[.slice va (X.length + 1) vc, .slice pa (Y.length + 3) pc] := fP.set 1 (.slice pa (Y.length + 3) pc)
                clear fP
                have fP := fP'
                clear fP'
                refine Reg.wpE_end (by kernel_rfl) (fun zz3 hN => ?_)
                replace hb := hb.trans (Below.mono hN hb.size)
                replace fP := fP.grow hN
                try replace fT := fT.grow hN
                try replace fG := fG.grow hN
                replace oV := own_grow oV hN
                replace oP := own_grow oP hN
                try replace f2 := f2.grow hN
                try replace f8 := f8.grow hN
                clear hN
                have hsz := hb.size
                have oV' : OwnV zz3 w.heap.size 3 (.slice va (X.length + 1) vc) (X ++ [4]) := by unfold OwnV; simpa [intsV] using oV
                have oP' : OwnQ zz3 w.heap.size 44 (.slice pa (Y.length + 3) pc) (Y ++ [(y1, z1), (y2, z2), (y3, z3)]) := by unfold OwnQ; simpa [ptsV_append] using oP
                clear oV oP hsz fG
                go_wp2_with fail
                exact ⟨⟨i + 1, by omega, by go_num, ⟨_, _, fP, fT, by rw [HXT.out.1]; exact oV', by rw [HXT.out.2]; exact oP'⟩, hb⟩, by simp [intOf]; omega⟩
              · skip
                have hq2 : ¬ ((2 : Int) ≤ qn ∧ qn ≤ 4) := by omega
                have ev : segVs ⟨(y0, z0), (y1, z1), (y2, z2), (y3, z3), qn⟩ = [] := by unfold segVs; rw [if_neg hq2]
                have ep : segPs ⟨(y0, z0), (y1, z1), (y2, z2), (y3, z3), qn⟩ = [] := by unfold segPs; rw [if_neg (by simp only; omega), if_neg (by simp only; omega), if_neg (by simp only; omega)]
                have HE := Lib.hid (And.intro ev ep)
                clear ev ep hq2
                go_wp2_with fail
                replace fP := fP.alloc (.cells #[.int .i64 y0, .int .i64 z0, .int .i64 y1, .int .i64 z1, .int .i64 y2, .int .i64 z2, .int .i64 y3, .int .i64 z3, .int .i64 qn] 50)
                replace fT := fT.alloc (.cells #[.int .i64 y0, .int .i64 z0, .int .i64 y1, .int .i64 z1, .int .i64 y2, .int .i64 z2, .int .i64 y3, .int .i64 z3, .int .i64 qn] 50)
                replace oV := oV.alloc (.cells #[.int .i64 y0, .int .i64 z0, .int .i64 y1, .int .i64 z1, .int .i64 y2, .int .i64 z2, .int .i64 y3, .int .i64 z3, .int .i64 qn] 50)
                replace oP := oP.alloc (.cells #[.int .i64 y0, .int .i64 z0, .int .i64 y1, .int .i64 z1, .int .i64 y2, .int .i64 z2, .int .i64 y3, .int .i64 z3, .int .i64 qn] 50)
                replace hb := hb.alloc hb.size (.cells #[.int .i64 y0, .int .i64 z0, .int .i64 y1, .int .i64 z1, .int .i64 y2, .int .i64 z2, .int .i64 y3, .int .i64 z3, .int .i64 qn] 50)
                clear e0 e1 e2 e3 e4 e5 e6 e7 e8
                generalize wi.alloc (.cells #[.int .i64 y0, .int .i64 z0, .int .i64 y1, .int .i64 z1, .int .i64 y2, .int .i64 z2, .int .i64 y3, .int .i64 z3, .int .i64 qn] 50) = wS at *
                generalize wi.heap.size = G at *
                exact ⟨⟨i + 1, by omega, by go_num, ⟨_, _, fP, fT, by rw [HXT.out.1, HE.out.1, List.append_nil]; exact oV, by rw [HXT.out.2, HE.out.2, List.append_nil]; exact oP⟩, hb⟩, by simp [intOf]; omega⟩
              · skip
                have hq2 : ¬ ((2 : Int) ≤ qn ∧ qn ≤ 4) := by omega
                have ev : segVs ⟨(y0, z0), (y1, z1), (y2, z2), (y3, z3), qn⟩ = [] := by unfold segVs; rw [if_neg hq2]
                have ep : segPs ⟨(y0, z0), (y1, z1), (y2, z2), (y3, z3), qn⟩ = [] := by unfold segPs; rw [if_neg (by simp only; omega), if_neg (by simp only; omega), if_neg (by simp only; omega)]
                have HE := Lib.hid (And.intro ev ep)
                clear ev ep hq2
                go_wp2_with fail
                replace fP := fP.alloc (.cells #[.int .i64 y0, .int .i64 z0, .int .i64 y1, .int .i64 z1, .int .i64 y2, .int .i64 z2, .int .i64 y3, .int .i64 z3, .int .i64 qn] 50)
                replace fT := fT.alloc (.cells #[.int .i64 y0, .int .i64 z0, .int .i64 y1, .int .i64 z1, .int .i64 y2, .int .i64 z2, .int .i64 y3, .int .i64 z3, .int .i64 qn] 50)
                replace oV := oV.alloc (.cells #[.int .i64 y0, .int .i64 z0, .int .i64 y1, .int .i64 z1, .int .i64 y2, .int .i64 z2, .int .i64 y3, .int .i64 z3, .int .i64 qn] 50)
                replace oP := oP.alloc (.cells #[.int .i64 y0, .int .i64 z0, .int .i64 y1, .int .i64 z1, .int .i64 y2, .int .i64 z2, .int .i64 y3, .int .i64 z3, .int .i64 qn] 50)
                replace hb := hb.alloc hb.size (.cells #[.int .i64 y0, .int .i64 z0, .int .i64 y1, .int .i64 z1, .int .i64 y2, .int .i64 z2, .int .i64 y3, .int .i64 z3, .int .i64 qn] 50)
                clear e0 e1 e2 e3 e4 e5 e6 e7 e8
                generalize wi.alloc (.cells #[.int .i64 y0, .int .i64 z0, .int .i64 y1, .int .i64 z1, .int .i64 y2, .int .i64 z2, .int .i64 y3, .int .i64 z3, .int .i64 qn] 50) = wS at *
                generalize wi.heap.size = G at *
                exact ⟨⟨i + 1, by omega, by go_num, ⟨_, _, fP, fT, by rw [HXT.out.1, HE.out.1, List.append_nil]; exact oV, by rw [HXT.out.2, HE.out.2, List.append_nil]; exact oP⟩, hb⟩, by simp [intOf]; omega⟩
            · have hin : i = segs.length := by omega
              subst hin
              rw [List.take_of_length_le (Nat.le_refl _)] at oV oP
              have hX : (xs ++ [1] ++ segsVs segs).length ≤ 1002 * k + 1001 := by
                have := segsVs_le segs
                simp only [List.length_append, List.length_cons, List.length_nil] at this ⊢
                omega
              have eT := fT.cell
              have eP := fP.cell
              have kP := fP.unfrozen
              have lP := fP.lt
              have lT := fT.lt
              have hsz := hb.size
              have HJ2 : Hid (joinVs (l.take (k + 1)) = xs ++ [1] ++ segsVs segs ++ endVs cl ∧ joinPs (l.take (k + 1)) = ys ++ [(sx, sy)] ++ segsPs segs) := Lib.hid (by rw [HJ.out.1, HJ.out.2]; simp [subVs, subPs])
              generalize xs ++ [1] ++ segsVs segs = X at *
              generalize ys ++ [(sx, sy)] ++ segsPs segs = Y at *
              have oV : wi.ownsRow w.heap.size 3 1 v X.length (intsV X) := oV
              have HOV := Lib.hid oV
              have HOP := Lib.hid oP
              have HFP := Lib.hid fP
              have HB := Lib.hid hb
              clear oV oP fP fT hb
              cases cl with
              | false =>
                go_wp2_with fail
                exact ⟨⟨k + 1, by omega, by go_num, ⟨_, _, HFP.out, by rw [HJ2.out.1]; simpa [endVs] using HOV.out, by rw [HJ2.out.2]; exact HOP.out⟩, HB.out⟩, by simp [intOf]; omega⟩
              | true =>
                go_wp2_with (at_builtin; refine wpList_append_own _ rfl _ _ 22 rfl w.heap.size 3 iI _ 1 8 Try.underlying22 hiI hz0I hz1I hz2I rfl (by decide) _ _ _ rfl (HOV.out.alloc _) ⟨wi.heap.size, 0, none⟩ 1 1 [.int .i64 5] rfl rfl ?c1 ?c2 ?c3 ?c4 ?c5 ?_)
                case c1 => exact Blk.news (l := [.int .i64 5]) (Blk.new wi _ _)
                case c2 => simp [Value.oneCell']
                case c3 => unfold maxLen; omega
                case c4 => omega
                case c5 => simp; omega
                rintro v' w8 hown8 hg8 -
                obtain ⟨a8, c8, rfl, _⟩ := own_slice hown8
                have hP8 := (HOP.out.alloc (.cells #[.int .i64 5] 3)).kept hg8 (own_apart (HOP.out.alloc (.cells #[.int .i64 5] 3)) (HOV.out.alloc (.cells #[.int .i64 5] 3)) (by decide))
                have fP8 := (HFP.out.alloc (.cells #[.int .i64 5] 3)).grown hg8 (own_apart_blk (HOV.out.alloc (.cells #[.int .i64 5] 3)) (HFP.out.alloc (.cells #[.int .i64 5] 3)) (by decide))
                have hb8 := (HB.out.alloc HB.out.size (.cells #[.int .i64 5] 3)).grown hg8 (by simp; omega) (fun q hq => ((HOV.out.alloc (.cells #[.int .i64 5] 3)).lt q hq).1)
                have k8 := fP8.unfrozen
                have l8 := fP8.lt
                have e8 := fP8.cell
                have H8 := Lib.hid hown8
                have HP8 := Lib.hid hP8
                clear eT eP kP lP lT hown8 hg8 hP8
                go_wp2_with fail
                refine ⟨⟨k + 1, by omega, by go_num, ⟨_, _, fP8.set 0 _, ?_, ?_⟩, hb8.setCell (p := ⟨w.heap.size, 0, none⟩) (Nat.le_refl _) _⟩, by simp [intOf]; omega⟩
                · rw [HJ2.out.1]
                  have h := own_far H8.out fP8 (i := 0) (by decide) (.slice a8 (X.length + 1) c8)
                  simpa [endVs, intsV] using h
                · rw [HJ2.out.2]
                  exact own_far HP8.out fP8 (i := 0) (by decide) (.slice a8 (X.length + 1) c8)
      · simp only [Reg.pickL, List.drop]
        replace hb := hb.trans (Below.mono hN hb.size)
        replace fP := fP.grow hN
        try replace fT := fT.grow hN
        try replace fG := fG.grow hN
        replace oV := own_grow oV hN
        replace oP := own_grow oP hN
        try replace f2 := f2.grow hN
        try replace f8 := f8.grow hN
        clear hN
        have hsz := hb.size
        go_wp2_with fail
        refine ⟨rfl, .inr (Reg.Kp.of_gr ((Below.refl _ _).alloc (Nat.le_refl _) _)), ?_⟩
        replace hb := hb.alloc hb.size (.cells #[.int .i64 sx, .int .i64 sy] 44)
        replace fP := fP.alloc (.cells #[.int .i64 sx, .int .i64 sy] 44)
        replace fT := fT.alloc (.cells #[.int .i64 sx, .int .i64 sy] 44)
        replace oV := oV.alloc (.cells #[.int .i64 sx, .int .i64 sy] 44)
        replace oP := oP.alloc (.cells #[.int .i64 sx, .int .i64 sy] 44)
        try replace f2 := f2.alloc (.cells #[.int .i64 sx, .int .i64 sy] 44)
        have f8 : Blk _ x1.heap.size 44 (ptsV [(sx, sy)]).toArray := Blk.new x1 _ _
        clear hsz
        refine Reg.wpE_main 2 (by kernel_rfl) (fun x2 hN => ?_)
        simp only [Reg.pickL, List.drop]
        replace hb := hb.trans (Below.mono hN hb.size)
        replace fP := fP.grow hN
        try replace fT := fT.grow hN
        try replace fG := fG.grow hN
        replace oV := own_grow oV hN
        replace oP := own_grow oP hN
        try replace f2 := f2.grow hN
        try replace f8 := f8.grow hN
        clear hN
        have hsz := hb.size
        go_wp2_with fail
        refine ⟨rfl, .inr (Reg.Kp.of_gr ((Below.refl _ _).alloc (Nat.le_refl _) _)), ?_⟩
        replace hb := hb.alloc hb.size (.cells #[Value.int .i64 1] 3)
        replace fP := fP.alloc (.cells #[Value.int .i64 1] 3)
        try replace fG := fG.alloc (.cells #[Value.int .i64 1] 3)
        replace fT := fT.alloc (.cells #[Value.int .i64 1] 3)
        replace oV := oV.alloc (.cells #[Value.int .i64 1] 3)
        replace oP := oP.alloc (.cells #[Value.int .i64 1] 3)
        try replace f8 := f8.alloc (.cells #[Value.int .i64 1] 3)
        have f2 : Blk _ x2.heap.size 3 [Value.int .i64 1].toArray := Blk.new x2 _ _
        clear hsz
        refine Reg.wpE_main 3 (by kernel_rfl) (fun x3 hN => ?_)
        simp only [Reg.pickL, List.drop]
        replace hb := hb.trans (Below.mono hN hb.size)
        replace fP := fP.grow hN
        try replace fT := fT.grow hN
        try replace fG := fG.grow hN
        replace oV := own_grow oV hN
        replace oP := own_grow oP hN
        try replace f2 := f2.grow hN
        try replace f8 := f8.grow hN
        clear hN
        have hsz := hb.size
        refine wpList_append_own _ rfl _ _ 22 rfl w.heap.size 3 iI _ 1 8 Try.underlying22 hiI hz0I hz1I hz2I rfl (by decide) _ _ _ rfl oV ⟨x2.heap.size, 0, none⟩ 1 1 [Value.int .i64 1] rfl rfl f2.news (by simp [Value.oneCell']) (by unfold maxLen; omega) (by omega) hsz ?_
        rintro v' w5 hown hg -
        obtain ⟨va, vc, rfl, _⟩ := own_slice hown
        go_wp2_with fail
        refine ⟨rfl, .inr (Reg.Kp.of_grown hg (fun b hb => own_two oV fP fT (by decide) (by decide) b hb)), ?_⟩
        replace fP := fP.grown hg (own_apart_blk oV fP (by decide))
        try replace fG := fG.grown hg (own_apart_blk oV fG (by decide))
        replace fT := fT.grown hg (own_apart_blk oV fT (by decide))
        try replace f8 := f8.grown hg (own_apart_blk oV f8 (by decide))
        replace oP := oP.kept hg (own_apart oP oV (by decide))
        replace hb := hb.grown hg hb.size (fun k hk => (oV.lt k hk).1)
        replace oV := hown
        clear hown hg f2 hsz
        refine Reg.wpE_hoist [10] 4 rfl (by kernel_rfl) (by kernel_rfl) (by kernel_rfl) (fun u => ?_)
        simp only [Reg.pickL, List.drop]
        repeat (go_big_quiet_step ((first | fail)))
        refine wpQuiet_nil ?_
        refine Reg.wpE_main 9 (by kernel_rfl) (fun x4 hN => ?_)
        simp only [Reg.pickL, List.drop]
        replace hb := hb.trans (Below.mono hN hb.size)
        replace fP := fP.grow hN
        try replace fT := fT.grow hN
        try replace fG := fG.grow hN
        replace oV := own_grow oV hN
        replace oP := own_grow oP hN
        try replace f2 := f2.grow hN
        try replace f8 := f8.grow hN
        clear hN
        have hsz := hb.size
        refine wpList_append_own _ rfl _ _ 23 rfl w.heap.size 44 iQ _ 2 16 Try.underlying23 hiQ hz0Q hz1Q hz2Q rfl (by decide) _ _ _ rfl oP ⟨x1.heap.size, 0, none⟩ 1 1 (ptsV [(sx, sy)]) rfl rfl f8.news (ptsV_one _) (by unfold maxLen; omega) (by omega) hsz ?_
        rintro p' w5 hown hg -
        obtain ⟨pa, pc, rfl, _⟩ := own_slice hown
        go_wp2_with fail
        refine ⟨rfl, .inr (Reg.Kp.of_grown hg (fun b hb => own_two oP fP fT (by decide) (by decide) b hb)), ?_⟩
        replace fP := fP.grown hg (own_apart_blk oP fP (by decide))
        replace fT := fT.grown hg (own_apart_blk oP fT (by decide))
        replace oV := oV.kept hg (own_apart oV oP (by decide))
        replace hb := hb.grown hg hb.size (fun k hk => (oP.lt k hk).1)
        replace oP := hown
        clear hown hg f8 hsz
        refine Reg.wpE_main 11 (by kernel_rfl) (fun zz1 hN => ?_)
        simp only [Reg.pickL, List.drop]
        replace hb := hb.trans (Below.mono hN hb.size)
        replace fP := fP.grow hN
        try replace fT := fT.grow hN
        try replace fG := fG.grow hN
        replace oV := own_grow oV hN
        replace oP := own_grow oP hN
        try replace f2 := f2.grow hN
        try replace f8 := f8.grow hN
        clear hN
        have hsz := hb.size
        have eP := fP.unfrozen
        have cP := fP.cell 0
        have lP := fP.lt
        go_wp2_with fail
        refine ⟨rfl, .inl rfl, ?_⟩
        clear eP cP lP hsz
        replace oV := own_far oV fP (i := 0) (by decide) (.slice va (xs.length + 1) vc)
        replace oP := own_far oP fP (i := 0) (by decide) (.slice va (xs.length + 1) vc)
        replace fT := fT.far (b := w.heap.size) (i := 0) hPT (.slice va (xs.length + 1) vc)
        try replace fG := fG.far (b := w.heap.size) (i := 0) hPG (.slice va (xs.length + 1) vc)
        replace hb := hb.setCell (p := ⟨w.heap.size, 0, none⟩) (Nat.le_refl _) (.slice va (xs.length + 1) vc)
        have fP' : Blk _ w.heap.size 25 #[.slice va (xs.length + 1) vc, p] := fP.set 0 (.slice va (xs.length + 1) vc)
        clear fP
        have fP := fP'
        clear fP'
        refine Reg.wpE_main 12 (by kernel_rfl) (fun ym hN => ?_)
        simp only [Reg.pickL, List.drop]
        replace hb := hb.trans (Below.mono hN hb.size)
        replace fP := fP.grow hN
        try replace fT := fT.grow hN
        try replace fG := fG.grow hN
        replace oV := own_grow oV hN
        replace oP := own_grow oP hN
        try replace f2 := f2.grow hN
        try replace f8 := f8.grow hN
        clear hN
        have hsz := hb.size
        go_wp2_with fail
        refine ⟨rfl, .inl rfl, ?_⟩
        clear hsz
        refine Reg.wpE_main 13 (by kernel_rfl) (fun zz2 hN => ?_)
        simp only [Reg.pickL, List.drop]
        replace hb := hb.trans (Below.mono hN hb.size)
        replace fP := fP.grow hN
        try replace fT := fT.grow hN
        try replace fG := fG.grow hN
        replace oV := own_grow oV hN
        replace oP := own_grow oP hN
        try replace f2 := f2.grow hN
        try replace f8 := f8.grow hN
        clear hN
        have hsz := hb.size
        have eP := fP.unfrozen
        have cP := fP.cell 1
        have lP := fP.lt
        go_wp2_with fail
        refine ⟨rfl, .inl rfl, ?_⟩
        clear eP cP lP hsz
        replace oV := own_far oV fP (i := 1) (by decide) (.slice pa (ys.length + 1) pc)
        replace oP := own_far oP fP (i := 1) (by decide) (.slice pa (ys.length + 1) pc)
        replace fT := fT.far (b := w.heap.size) (i := 1) hPT (.slice pa (ys.length + 1) pc)
        try replace fG := fG.far (b := w.heap.size) (i := 1) hPG (.slice pa (ys.length + 1) pc)
        replace hb := hb.setCell (p := ⟨w.heap.size, 1, none⟩) (Nat.le_refl _) (.slice pa (ys.length + 1) pc)
        have fP' : Blk _ w.heap.size 25 #[.slice va (xs.length + 1) vc, .slice pa (ys.length + 1) pc] := fP.set 1 (.slice pa (ys.length + 1) pc)
        clear fP
        have fP := fP'
        clear fP'
        refine Reg.wpE_end (by kernel_rfl) (fun zz3 hN => ?_)
        replace hb := hb.trans (Below.mono hN hb.size)
        replace fP := fP.grow hN
        try replace fT := fT.grow hN
        try replace fG := fG.grow hN
        replace oV := own_grow oV hN
        replace oP := own_grow oP hN
        try replace f2 := f2.grow hN
        try replace f8 := f8.grow hN
        clear hN
        have hsz := hb.size
        have oV' : OwnV zz3 w.heap.size 3 (.slice va (xs.length + 1) vc) (xs ++ [1]) := by unfold OwnV; simpa [intsV] using oV
        have oP' : OwnQ zz3 w.heap.size 44 (.slice pa (ys.length + 1) pc) (ys ++ [(sx, sy)]) := by unfold OwnQ; simpa [ptsV_append] using oP
        clear oV oP hsz
        have eT := fT.cell
        have lT := fT.lt
        go_wp2_with fail
        clear eT lT
        have HI : Hid (JT zz3 w.heap.size T 25 47 3 44 #[.int .i64 sx, .int .i64 sy, .slice sa segs.length sc, .bool cl] (xs ++ [1] ++ segsVs (segs.take 0)) (ys ++ [(sx, sy)] ++ segsPs (segs.take 0))) := Lib.hid ⟨_, _, fP, fT, by simpa [segsVs] using oV', by simpa [segsPs] using oP'⟩
        have HB := Lib.hid hb
        clear fP fT oV' oP' hb
        go_loopw [28] (fun j wi => ∃ i : Nat, i ≤ segs.length ∧ j = .int .i64 i ∧ JT wi w.heap.size T 25 47 3 44 #[.int .i64 sx, .int .i64 sy, .slice sa segs.length sc, .bool cl] (xs ++ [1] ++ segsVs (segs.take i)) (ys ++ [(sx, sy)] ++ segsPs (segs.take i)) ∧ Below w.heap.size w wi) (fun j _ => segs.length - (intOf j).toNat)
        case atStart => exact ⟨0, Nat.zero_le _, rfl, HI.out, HB.out⟩
        case round =>
          clear HI HB
          obtain ⟨wi, rfl⟩ : ∃ wi : World, wi = wr := ⟨_, rfl⟩
          obtain ⟨i, hi, rfl, ⟨v, p, fP, fT, oV, oP⟩, hb⟩ := hrel
          by_cases hil : i < segs.length
          · obtain ⟨gb, go, hga, hgB, e0, e1, e2, e3, e4, e5, e6, e7, e8⟩ := (HSE.out.below hb).at_ i hil
            subst hga
            have HXT : Hid (xs ++ [1] ++ segsVs (segs.take (i + 1)) = xs ++ [1] ++ segsVs (segs.take i) ++ segVs segs[i] ∧ ys ++ [(sx, sy)] ++ segsPs (segs.take (i + 1)) = ys ++ [(sx, sy)] ++ segsPs (segs.take i) ++ segPs segs[i]) := Lib.hid (by rw [take_snoc segs i hil, segsVs_snoc, segsPs_snoc, ← List.append_assoc, ← List.append_assoc]; exact ⟨rfl, rfl⟩)
            have hX : (xs ++ [1] ++ segsVs (segs.take i)).length ≤ 1002 * k + 1001 := by
              have := segsVs_le (segs.take i)
              simp only [List.length_append, List.length_cons, List.length_nil, List.length_take] at this ⊢
              omega
            have hY : (ys ++ [(sx, sy)] ++ segsPs (segs.take i)).length ≤ 3001 * k + 3001 := by
              have := segsPs_le (segs.take i)
              simp only [List.length_append, List.length_cons, List.length_nil, List.length_take] at this ⊢
              omega
            have hgw : gb < wi.heap.size := by have := hb.size; omega
            generalize xs ++ [1] ++ segsVs (segs.take i) = X at *
            generalize ys ++ [(sx, sy)] ++ segsPs (segs.take i) = Y at *
            generalize segs[i] = q at *
            obtain ⟨⟨y0, z0⟩, ⟨y1, z1⟩, ⟨y2, z2⟩, ⟨y3, z3⟩, qn⟩ := q
            simp only at e0 e1 e2 e3 e4 e5 e6 e7 e8
            have oV : wi.ownsRow w.heap.size 3 1 v X.length (intsV X) := oV
            have oP : wi.ownsRow w.heap.size 44 2 p Y.length (ptsV Y) := oP
            have lP := fP.lt
            have hPG : w.heap.size ≠ wi.heap.size := by omega
            clear lP
            have hil' : (i : Int) < segs.length := by omega
            rcases (by omega : qn = 2 ∨ qn = 3 ∨ qn = 4 ∨ ¬ (2 : Int) ≤ qn ∨ (2 ≤ qn ∧ ¬ qn ≤ 4)) with rfl | rfl | rfl | hq | ⟨hq0, hq⟩
            · skip
              go_wp2_with fail
              have fG := Blk.new wi 50 #[.int .i64 y0, .int .i64 z0, .int .i64 y1, .int .i64 z1, .int .i64 y2, .int .i64 z2, .int .i64 y3, .int .i64 z3, .int .i64 2]
              replace fP := fP.alloc (.cells #[.int .i64 y0, .int .i64 z0, .int .i64 y1, .int .i64 z1, .int .i64 y2, .int .i64 z2, .int .i64 y3, .int .i64 z3, .int .i64 2] 50)
              replace fT := fT.alloc (.cells #[.int .i64 y0, .int .i64 z0, .int .i64 y1, .int .i64 z1, .int .i64 y2, .int .i64 z2, .int .i64 y3, .int .i64 z3, .int .i64 2] 50)
              replace oV := oV.alloc (.cells #[.int .i64 y0, .int .i64 z0, .int .i64 y1, .int .i64 z1, .int .i64 y2, .int .i64 z2, .int .i64 y3, .int .i64 z3, .int .i64 2] 50)
              replace oP := oP.alloc (.cells #[.int .i64 y0, .int .i64 z0, .int .i64 y1, .int .i64 z1, .int .i64 y2, .int .i64 z2, .int .i64 y3, .int .i64 z3, .int .i64 2] 50)
              replace hb := hb.alloc hb.size (.cells #[.int .i64 y0, .int .i64 z0, .int .i64 y1, .int .i64 z1, .int .i64 y2, .int .i64 z2, .int .i64 y3, .int .i64 z3, .int .i64 2] 50)
              clear e0 e1 e2 e3 e4 e5 e6 e7 e8
              generalize wi.alloc (.cells #[.int .i64 y0, .int .i64 z0, .int .i64 y1, .int .i64 z1, .int .i64 y2, .int .i64 z2, .int .i64 y3, .int .i64 z3, .int .i64 2] 50) = wS at *
              generalize wi.heap.size = G at *
              have eP := fP.cell
              have eG := fG.cell
              have lP := fP.lt
              have lG := fG.lt
              refine Reg.wp_region_E (fun b => b = w.heap.size ∨ b = G) (fun j => decide (14 ≤ j)) 17 rfl (by kernel_rfl) ?_
              refine Reg.wpE_hoist [0, 1, 2, 3, 6, 7, 8, 9, 10, 11] 7 rfl (by kernel_rfl) (by kernel_rfl) (by kernel_rfl) (fun u => ?_)
              simp only [Reg.pickL, List.drop]
              repeat (go_big_quiet_step ((first | fail)))
              refine wpQuiet_nil ?_
              clear eP eG lP lG
              refine Reg.wpE_main 4 (by kernel_rfl) (fun x1 hN => ?_)
              simp only [Reg.pickL, List.drop]
              replace hb := hb.trans (Below.mono hN hb.size)
              replace fP := fP.grow hN
              try replace fT := fT.grow hN
              try replace fG := fG.grow hN
              replace oV := own_grow oV hN
              replace oP := own_grow oP hN
              try replace f2 := f2.grow hN
              try replace f8 := f8.grow hN
              clear hN
              have hsz := hb.size
              go_wp2_with fail
              refine ⟨rfl, .inr (Reg.Kp.of_gr ((Below.refl _ _).alloc (Nat.le_refl _) _)), ?_⟩
              replace hb := hb.alloc hb.size (.cells #[Value.int .i64 2] 3)
              replace fP := fP.alloc (.cells #[Value.int .i64 2] 3)
              try replace fG := fG.alloc (.cells #[Value.int .i64 2] 3)
              replace fT := fT.alloc (.cells #[Value.int .i64 2] 3)
              replace oV := oV.alloc (.cells #[Value.int .i64 2] 3)
              replace oP := oP.alloc (.cells #[Value.int .i64 2] 3)
              try replace f8 := f8.alloc (.cells #[Value.int .i64 2] 3)
              have f2 : Blk _ x1.heap.size 3 [Value.int .i64 2].toArray := Blk.new x1 _ _
              clear hsz
              refine Reg.wpE_main 5 (by kernel_rfl) (fun x2 hN => ?_)
              simp only [Reg.pickL, List.drop]
              replace hb := hb.trans (Below.mono hN hb.size)
              replace fP := fP.grow hN
              try replace fT := fT.grow hN
              try replace fG := fG.grow hN
              replace oV := own_grow oV hN
              replace oP := own_grow oP hN
              try replace f2 := f2.grow hN
              try replace f8 := f8.grow hN
              clear hN
              have hsz := hb.size
              refine wpList_append_own _ rfl _ _ 22 rfl w.heap.size 3 iI _ 1 8 Try.underlying22 hiI hz0I hz1I hz2I rfl (by decide) _ _ _ rfl oV ⟨x1.heap.size, 0, none⟩ 1 1 [Value.int .i64 2] rfl rfl f2.news (by simp [Value.oneCell']) (by unfold maxLen; omega) (by omega) hsz ?_
              rintro v' w5 hown hg -
              obtain ⟨va, vc, rfl, _⟩ := own_slice hown
              go_wp2_with fail
              refine ⟨rfl, .inr (Reg.Kp.of_grown hg (fun b hb => own_two oV fP fG (by decide) (by decide) b hb)), ?_⟩
              replace fP := fP.grown hg (own_apart_blk oV fP (by decide))
              try replace fG := fG.grown hg (own_apart_blk oV fG (by decide))
              replace fT := fT.grown hg (own_apart_blk oV fT (by decide))
              try replace f8 := f8.grown hg (own_apart_blk oV f8 (by decide))
              replace oP := oP.kept hg (own_apart oP oV (by decide))
              replace hb := hb.grown hg hb.size (fun k hk => (oV.lt k hk).1)
              replace oV := hown
              clear hown hg f2 hsz
              refine Reg.wpE_hoist [13] 4 rfl (by kernel_rfl) (by kernel_rfl) (by kernel_rfl) (fun u => ?_)
              simp only [Reg.pickL, List.drop]
              repeat (go_big_quiet_step ((first | fail)))
              refine wpQuiet_nil ?_
              refine Reg.wpE_main 12 (by kernel_rfl) (fun x3 hN => ?_)
              simp only [Reg.pickL, List.drop]
              replace hb := hb.trans (Below.mono hN hb.size)
              replace fP := fP.grow hN
              try replace fT := fT.grow hN
              try replace fG := fG.grow hN
              replace oV := own_grow oV hN
              replace oP := own_grow oP hN
              try replace f2 := f2.grow hN
              try replace f8 := f8.grow hN
              clear hN
              have hsz := hb.size
              refine wpList_append_own _ rfl _ _ 23 rfl w.heap.size 44 iQ _ 2 16 Try.underlying23 hiQ hz0Q hz1Q hz2Q rfl (by decide) _ _ _ rfl oP ⟨G, 2, none⟩ 1 3 (ptsV [(y1, z1)]) rfl rfl (fG.newsAt 2 _ (by intro j u hj; rcases j with _ | _ | _ | _ | _ | _ | j <;> simp [ptsV] at hj ⊢ <;> exact hj)) (ptsV_one _) (by unfold maxLen; omega) (by omega) hsz ?_
              rintro p' w5 hown hg -
              obtain ⟨pa, pc, rfl, _⟩ := own_slice hown
              go_wp2_with fail
              refine ⟨rfl, .inr (Reg.Kp.of_grown hg (fun b hb => own_two oP fP fG (by decide) (by decide) b hb)), ?_⟩
              replace fP := fP.grown hg (own_apart_blk oP fP (by decide))
              replace fT := fT.grown hg (own_apart_blk oP fT (by decide))
              replace fG := fG.grown hg (own_apart_blk oP fG (by decide))
              replace oV := oV.kept hg (own_apart oV oP (by decide))
              replace hb := hb.grown hg hb.size (fun k hk => (oP.lt k hk).1)
              replace oP := hown
              clear hown hg hsz
              refine Reg.wpE_main 14 (by kernel_rfl) (fun zz1 hN => ?_)
              simp only [Reg.pickL, List.drop]
              replace hb := hb.trans (Below.mono hN hb.size)
              replace fP := fP.grow hN
              try replace fT := fT.grow hN
              try replace fG := fG.grow hN
              replace oV := own_grow oV hN
              replace oP := own_grow oP hN
              try replace f2 := f2.grow hN
              try replace f8 := f8.grow hN
              clear hN
              have hsz := hb.size
              have eP := fP.unfrozen
              have cP := fP.cell 0
              have lP := fP.lt
              go_wp2_with fail
              refine ⟨rfl, .inl rfl, ?_⟩
              clear eP cP lP hsz
              replace oV := own_far oV fP (i := 0) (by decide) (.slice va (X.length + 1) vc)
              replace oP := own_far oP fP (i := 0) (by decide) (.slice va (X.length + 1) vc)
              replace fT := fT.far (b := w.heap.size) (i := 0) hPT (.slice va (X.length + 1) vc)
              try replace fG := fG.far (b := w.heap.size) (i := 0) hPG (.slice va (X.length + 1) vc)
              replace hb := hb.setCell (p := ⟨w.heap.size, 0, none⟩) (Nat.le_refl _) (.slice va (X.length + 1) vc)
              have fP' : Blk _ w.heap.size 25 #[.slice va (X.length + 1) vc, p] := fP.set 0 (.slice va (X.length + 1) vc)
              clear fP
              have fP := fP'
              clear fP'
              refine Reg.wpE_main 15 (by kernel_rfl) (fun ym hN => ?_)
              simp only [Reg.pickL, List.drop]
              replace hb := hb.trans (Below.mono hN hb.size)
              replace fP := fP.grow hN
              try replace fT := fT.grow hN
              try replace fG := fG.grow hN
              replace oV := own_grow oV hN
              replace oP := own_grow oP hN
              try replace f2 := f2.grow hN
              try replace f8 := f8.grow hN
              clear hN
              have hsz := hb.size
              go_wp2_with fail
              refine ⟨rfl, .inl rfl, ?_⟩
              clear hsz
              refine Reg.wpE_main 16 (by kernel_rfl) (fun zz2 hN => ?_)
              simp only [Reg.pickL, List.drop]
              replace hb := hb.trans (Below.mono hN hb.size)
              replace fP := fP.grow hN
              try replace fT := fT.grow hN
              try replace fG := fG.grow hN
              replace oV := own_grow oV hN
              replace oP := own_grow oP hN
              try replace f2 := f2.grow hN
              try replace f8 := f8.grow hN
              clear hN
              have hsz := hb.size
              have eP := fP.unfrozen
              have cP := fP.cell 1
              have lP := fP.lt
              go_wp2_with fail
              refine ⟨rfl, .inl rfl, ?_⟩
              clear eP cP lP hsz
              replace oV := own_far oV fP (i := 1) (by decide) (.slice pa (Y.length + 1) pc)
              replace oP := own_far oP fP (i := 1) (by decide) (.slice pa (Y.length + 1) pc)
              replace fT := fT.far (b := w.heap.size) (i := 1) hPT (.slice pa (Y.length + 1) pc)
              try replace fG := fG.far (b := w.heap.size) (i := 1) hPG (.slice pa (Y.length + 1) pc)
              replace hb := hb.setCell (p := ⟨w.heap.size, 1, none⟩) (Nat.le_refl _) (.slice pa (Y.length + 1) pc)
              have fP' : Blk _ w.heap.size 25 #[.slice va (X.length + 1) vc, .slice pa (Y.length + 1) pc] := fP.set 1 (.slice pa (Y.length + 1) pc)
              clear fP
              have fP := fP'
              clear fP'
              refine Reg.wpE_end (by kernel_rfl) (fun zz3 hN => ?_)
              replace hb := hb.trans (Below.mono hN hb.size)
              replace fP := fP.grow hN
              try replace fT := fT.grow hN
              try replace fG := fG.grow hN
              replace oV := own_grow oV hN
              replace oP := own_grow oP hN
              try replace f2 := f2.grow hN
              try replace f8 := f8.grow hN
              clear hN
              have hsz := hb.size
              have oV' : OwnV zz3 w.heap.size 3 (.slice va (X.length + 1) vc) (X ++ [2]) := by unfold OwnV; simpa [intsV] using oV
              have oP' : OwnQ zz3 w.heap.size 44 (.slice pa (Y.length + 1) pc) (Y ++ [(y1, z1)]) := by unfold OwnQ; simpa [ptsV_append] using oP
              clear oV oP hsz fG
              go_wp2_with fail
              exact ⟨⟨i + 1, by omega, by go_num, ⟨_, _, fP, fT, by rw [HXT.out.1]; exact oV', by rw [HXT.out.2]; exact oP'⟩, hb⟩, by simp [intOf]; omega⟩
            · skip
              go_wp2_with fail
              have fG := Blk.new wi 50 #[.int .i64 y0, .int .i64 z0, .int .i64 y1, .int .i64 z1, .int .i64 y2, .int .i64 z2, .int .i64 y3, .int .i64 z3, .int .i64 3]
              replace fP := fP.alloc (.cells #[.int .i64 y0, .int .i64 z0, .int .i64 y1, .int .i64 z1, .int .i64 y2, .int .i64 z2, .int .i64 y3, .int .i64 z3, .int .i64 3] 50)
              replace fT := fT.alloc (.cells #[.int .i64 y0, .int .i64 z0, .int .i64 y1, .int .i64 z1, .int .i64 y2, .int .i64 z2, .int .i64 y3, .int .i64 z3, .int .i64 3] 50)
              replace oV := oV.alloc (.cells #[.int .i64 y0, .int .i64 z0, .int .i64 y1, .int .i64 z1, .int .i64 y2, .int .i64 z2, .int .i64 y3, .int .i64 z3, .int .i64 3] 50)
              replace oP := oP.alloc (.cells #[.int .i64 y0, .int .i64 z0, .int .i64 y1, .int .i64 z1, .int .i64 y2, .int .i64 z2, .int .i64 y3, .int .i64 z3, .int .i64 3] 50)
              replace hb := hb.alloc hb.size (.cells #[.int .i64 y0, .int .i64 z0, .int .i64 y1, .int .i64 z1, .int .i64 y2, .int .i64 z2, .int .i64 y3, .int .i64 z3, .int .i64 3] 50)
              clear e0 e1 e2 e3 e4 e5 e6 e7 e8
              generalize wi.alloc (.cells #[.int .i64 y0, .int .i64 z0, .int .i64 y1, .int .i64 z1, .int .i64 y2, .int .i64 z2, .int .i64 y3, .int .i64 z3, .int .i64 3] 50) = wS at *
              generalize wi.heap.size = G at *
              have eP := fP.cell
              have eG := fG.cell
              have lP := fP.lt
              have lG := fG.lt
              refine Reg.wp_region_E (fun b => b = w.heap.size ∨ b = G) (fun j => decide (14 ≤ j)) 17 rfl (by kernel_rfl) ?_
              refine Reg.wpE_hoist [0, 1, 2, 3, 6, 7, 8, 9, 10, 11] 7 rfl (by kernel_rfl) (by kernel_rfl) (by kernel_rfl) (fun u => ?_)
              simp only [Reg.pickL, List.drop]
              repeat (go_big_quiet_step ((first | fail)))
              refine wpQuiet_nil ?_
              clear eP eG lP lG
              refine Reg.wpE_main 4 (by kernel_rfl) (fun x1 hN => ?_)
              simp only [Reg.pickL, List.drop]
              replace hb := hb.trans (Below.mono hN hb.size)
              replace fP := fP.grow hN
              try replace fT := fT.grow hN
              try replace fG := fG.grow hN
              replace oV := own_grow oV hN
              replace oP := own_grow oP hN
              try replace f2 := f2.grow hN
              try replace f8 := f8.grow hN
              clear hN
              have hsz := hb.size
              go_wp2_with fail
              refine ⟨rfl, .inr (Reg.Kp.of_gr ((Below.refl _ _).alloc (Nat.le_refl _) _)), ?_⟩
              replace hb := hb.alloc hb.size (.cells #[Value.int .i64 3] 3)
              replace fP := fP.alloc (.cells #[Value.int .i64 3] 3)
              try replace fG := fG.alloc (.cells #[Value.int .i64 3] 3)
              replace fT := fT.alloc (.cells #[Value.int .i64 3] 3)
              replace oV := oV.alloc (.cells #[Value.int .i64 3] 3)
              replace oP := oP.alloc (.cells #[Value.int .i64 3] 3)
              try replace f8 := f8.alloc (.cells #[Value.int .i64 3] 3)
              have f2 : Blk _ x1.heap.size 3 [Value.int .i64 3].toArray := Blk.new x1 _ _
              clear hsz
              refine Reg.wpE_main 5 (by kernel_rfl) (fun x2 hN => ?_)
              simp only [Reg.pickL, List.drop]
              replace hb := hb.trans (Below.mono hN hb.size)
              replace fP := fP.grow hN
              try replace fT := fT.grow hN
              try replace fG := fG.grow hN
              replace oV := own_grow oV hN
              replace oP := own_grow oP hN
              try replace f2 := f2.grow hN
              try replace f8 := f8.grow hN
              clear hN
              have hsz := hb.size
              refine wpList_append_own _ rfl _ _ 22 rfl w.heap.size 3 iI _ 1 8 Try.underlying22 hiI hz0I hz1I hz2I rfl (by decide) _ _ _ rfl oV ⟨x1.heap.size, 0, none⟩ 1 1 [Value.int .i64 3] rfl rfl f2.news (by simp [Value.oneCell']) (by unfold maxLen; omega) (by omega) hsz ?_
              rintro v' w5 hown hg -
              obtain ⟨va, vc, rfl, _⟩ := own_slice hown
              go_wp2_with fail
              refine ⟨rfl, .inr (Reg.Kp.of_grown hg (fun b hb => own_two oV fP fG (by decide) (by decide) b hb)), ?_⟩
              replace fP := fP.grown hg (own_apart_blk oV fP (by decide))
              try replace fG := fG.grown hg (own_apart_blk oV fG (by decide))
              replace fT := fT.grown hg (own_apart_blk oV fT (by decide))
              try replace f8 := f8.grown hg (own_apart_blk oV f8 (by decide))
              replace oP := oP.kept hg (own_apart oP oV (by decide))
              replace hb := hb.grown hg hb.size (fun k hk => (oV.lt k hk).1)
              replace oV := hown
              clear hown hg f2 hsz
              refine Reg.wpE_hoist [13] 4 rfl (by kernel_rfl) (by kernel_rfl) (by kernel_rfl) (fun u => ?_)
              simp only [Reg.pickL, List.drop]
              repeat (go_big_quiet_step ((first | fail)))
              refine wpQuiet_nil ?_
              refine Reg.wpE_main 12 (by kernel_rfl) (fun x3 hN => ?_)
              simp only [Reg.pickL, List.drop]
              replace hb := hb.trans (Below.mono hN hb.size)
              replace fP := fP.grow hN
              try replace fT := fT.grow hN
              try replace fG := fG.grow hN
              replace oV := own_grow oV hN
              replace oP := own_grow oP hN
              try replace f2 := f2.grow hN
              try replace f8 := f8.grow hN
              clear hN
              have hsz := hb.size
              refine wpList_append_own _ rfl _ _ 23 rfl w.heap.size 44 iQ _ 2 16 Try.underlying23 hiQ hz0Q hz1Q hz2Q rfl (by decide) _ _ _ rfl oP ⟨G, 2, none⟩ 2 3 (ptsV [(y1, z1), (y2, z2)]) rfl rfl (fG.newsAt 2 _ (by intro j u hj; rcases j with _ | _ | _ | _ | _ | _ | j <;> simp [ptsV] at hj ⊢ <;> exact hj)) (ptsV_one _) (by unfold maxLen; omega) (by omega) hsz ?_
              rintro p' w5 hown hg -
              obtain ⟨pa, pc, rfl, _⟩ := own_slice hown
              go_wp2_with fail
              refine ⟨rfl, .inr (Reg.Kp.of_grown hg (fun b hb => own_two oP fP fG (by decide) (by decide) b hb)), ?_⟩
              replace fP := fP.grown hg (own_apart_blk oP fP (by decide))
              replace fT := fT.grown hg (own_apart_blk oP fT (by decide))
              replace fG := fG.grown hg (own_apart_blk oP fG (by decide))
              replace oV := oV.kept hg (own_apart oV oP (by decide))
              replace hb := hb.grown hg hb.size (fun k hk => (oP.lt k hk).1)
              replace oP := hown
              clear hown hg hsz
              refine Reg.wpE_main 14 (by kernel_rfl) (fun zz1 hN => ?_)
              simp only [Reg.pickL, List.drop]
              replace hb := hb.trans (Below.mono hN hb.size)
              replace fP := fP.grow hN
              try replace fT := fT.grow hN
              try replace fG := fG.grow hN
              replace oV := own_grow oV hN
              replace oP := own_grow oP hN
              try replace f2 := f2.grow hN
              try replace f8 := f8.grow hN
              clear hN
              have hsz := hb.size
              have eP := fP.unfrozen
              have cP := fP.cell 0
              have lP := fP.lt
              go_wp2_with fail
              refine ⟨rfl, .inl rfl, ?_⟩
              clear eP cP lP hsz
              replace oV := own_far oV fP (i := 0) (by decide) (.slice va (X.length + 1) vc)
              replace oP := own_far oP fP (i := 0) (by decide) (.slice va (X.length + 1) vc)
              replace fT := fT.far (b := w.heap.size) (i := 0) hPT (.slice va (X.length + 1) vc)
              try replace fG := fG.far (b := w.heap.size) (i := 0) hPG (.slice va (X.length + 1) vc)
              replace hb := hb.setCell (p := ⟨w.heap.size, 0, none⟩) (Nat.le_refl _) (.slice va (X.length + 1) vc)
              have fP' : Blk _ w.heap.size 25 #[.slice va (X.length + 1) vc, p] := fP.set 0 (.slice va (X.length + 1) vc)
              clear fP
              have fP := fP'
              clear fP'
              refine Reg.wpE_main 15 (by kernel_rfl) (fun ym hN => ?_)
              simp only [Reg.pickL, List.drop]
              replace hb := hb.trans (Below.mono hN hb.size)
              replace fP := fP.grow hN
              try replace fT := fT.grow hN
              try replace fG := fG.grow hN
              replace oV := own_grow oV hN
              replace oP := own_grow oP hN
              try replace f2 := f2.grow hN
              try replace f8 := f8.grow hN
              clear hN
              have hsz := hb.size
              go_wp2_with fail
              refine ⟨rfl, .inl rfl, ?_⟩
              clear hsz
              refine Reg.wpE_main 16 (by kernel_rfl) (fun zz2 hN => ?_)
              simp only [Reg.pickL, List.drop]
              replace hb := hb.trans (Below.mono hN hb.size)
              replace fP := fP.grow hN
              try replace fT := fT.grow hN
              try replace fG := fG.grow hN
              replace oV := own_grow oV hN
              replace oP := own_grow oP hN
              try replace f2 := f2.grow hN
              try replace f8 := f8.grow hN
              clear hN
              have hsz := hb.size
              have eP := fP.unfrozen
              have cP := fP.cell 1
              have lP := fP.lt
              go_wp2_with fail
              refine ⟨rfl, .inl rfl, ?_⟩
              clear eP cP lP hsz
              replace oV := own_far oV fP (i := 1) (by decide) (.slice pa (Y.length + 2) pc)
              replace oP := own_far oP fP (i := 1) (by decide) (.slice pa (Y.length + 2) pc)
              replace fT := fT.far (b := w.heap.size) (i := 1) hPT (.slice pa (Y.length + 2) pc)
              try replace fG := fG.far (b := w.heap.size) (i := 1) hPG (.slice pa (Y.length + 2) pc)
              replace hb := hb.setCell (p := ⟨w.heap.size, 1, none⟩) (Nat.le_refl _) (.slice pa (Y.length + 2) pc)
              have fP' : Blk _ w.heap.size 25 #[.slice va (X.length + 1) vc, .slice pa (Y.length + 2) pc] := fP.set 1 (.slice pa (Y.length + 2) pc)
              clear fP
              have fP := fP'
              clear fP'
              refine Reg.wpE_end (by kernel_rfl) (fun zz3 hN => ?_)
              replace hb := hb.trans (Below.mono hN hb.size)
              replace fP := fP.grow hN
              try replace fT := fT.grow hN
              try replace fG := fG.grow hN
              replace oV := own_grow oV hN
              replace oP := own_grow oP hN
              try replace f2 := f2.grow hN
              try replace f8 := f8.grow hN
              clear hN
              have hsz := hb.size
              have oV' : OwnV zz3 w.heap.size 3 (.slice va (X.length + 1) vc) (X ++ [3]) := by unfold OwnV; simpa [intsV] using oV
              have oP' : OwnQ zz3 w.heap.size 44 (.slice pa (Y.length + 2) pc) (Y ++ [(y1, z1), (y2, z2)]) := by unfold OwnQ; simpa [ptsV_append] using oP
              clear oV oP hsz fG
              go_wp2_with fail
              exact ⟨⟨i + 1, by omega, by go_num, ⟨_, _, fP, fT, by rw [HXT.out.1]; exact oV', by rw [HXT.out.2]; exact oP'⟩, hb⟩, by simp [intOf]; omega⟩
            · skip
              go_wp2_with fail
              have fG := Blk.new wi 50 #[.int .i64 y0, .int .i64 z0, .int .i64 y1, .int .i64 z1, .int .i64 y2, .int .i64 z2, .int .i64 y3, .int .i64 z3, .int .i64 4]
              replace fP := fP.alloc (.cells #[.int .i64 y0, .int .i64 z0, .int .i64 y1, .int .i64 z1, .int .i64 y2, .int .i64 z2, .int .i64 y3, .int .i64 z3, .int .i64 4] 50)
              replace fT := fT.alloc (.cells #[.int .i64 y0, .int .i64 z0, .int .i64 y1, .int .i64 z1, .int .i64 y2, .int .i64 z2, .int .i64 y3, .int .i64 z3, .int .i64 4] 50)
              replace oV := oV.alloc (.cells #[.int .i64 y0, .int .i64 z0, .int .i64 y1, .int .i64 z1, .int .i64 y2, .int .i64 z2, .int .i64 y3, .int .i64 z3, .int .i64 4] 50)
              replace oP := oP.alloc (.cells #[.int .i64 y0, .int .i64 z0, .int .i64 y1, .int .i64 z1, .int .i64 y2, .int .i64 z2, .int .i64 y3, .int .i64 z3, .int .i64 4] 50)
              replace hb := hb.alloc hb.size (.cells #[.int .i64 y0, .int .i64 z0, .int .i64 y1, .int .i64 z1, .int .i64 y2, .int .i64 z2, .int .i64 y3, .int .i64 z3, .int .i64 4] 50)
              clear e0 e1 e2 e3 e4 e5 e6 e7 e8
              generalize wi.alloc (.cells #[.int .i64 y0, .int .i64 z0, .int .i64 y1, .int .i64 z1, .int .i64 y2, .int .i64 z2, .int .i64 y3, .int .i64 z3, .int .i64 4] 50) = wS at *
              generalize wi.heap.size = G at *
              have eP := fP.cell
              have eG := fG.cell
              have lP := fP.lt
              have lG := fG.lt
              refine Reg.wp_region_E (fun b => b = w.heap.size ∨ b = G) (fun j => decide (14 ≤ j)) 17 rfl (by kernel_rfl) ?_
              refine Reg.wpE_hoist [0, 1, 2, 3, 6, 7, 8, 9, 10, 11] 7 rfl (by kernel_rfl) (by kernel_rfl) (by kernel_rfl) (fun u => ?_)
              simp only [Reg.pickL, List.drop]
              repeat (go_big_quiet_step ((first | fail)))
              refine wpQuiet_nil ?_
              clear eP eG lP lG
              refine Reg.wpE_main 4 (by kernel_rfl) (fun x1 hN => ?_)
              simp only [Reg.pickL, List.drop]
              replace hb := hb.trans (Below.mono hN hb.size)
              replace fP := fP.grow hN
              try replace fT := fT.grow hN
              try replace fG := fG.grow hN
              replace oV := own_grow oV hN
              replace oP := own_grow oP hN
              try replace f2 := f2.grow hN
              try replace f8 := f8.grow hN
              clear hN
              have hsz := hb.size
              go_wp2_with fail
              refine ⟨rfl, .inr (Reg.Kp.of_gr ((Below.refl _ _).alloc (Nat.le_refl _) _)), ?_⟩
              replace hb := hb.alloc hb.size (.cells #[Value.int .i64 4] 3)
              replace fP := fP.alloc (.cells #[Value.int .i64 4] 3)
              try replace fG := fG.alloc (.cells #[Value.int .i64 4] 3)
              replace fT := fT.alloc (.cells #[Value.int .i64 4] 3)
              replace oV := oV.alloc (.cells #[Value.int .i64 4] 3)
              replace oP := oP.alloc (.cells #[Value.int .i64 4] 3)
              try replace f8 := f8.alloc (.cells #[Value.int .i64 4] 3)
              have f2 : Blk _ x1.heap.size 3 [Value.int .i64 4].toArray := Blk.new x1 _ _
              clear hsz
              refine Reg.wpE_main 5 (by kernel_rfl) (fun x2 hN => ?_)
              simp only [Reg.pickL, List.drop]
              replace hb := hb.trans (Below.mono hN hb.size)
              replace fP := fP.grow hN
              try replace fT := fT.grow hN
              try replace fG := fG.grow hN
              replace oV := own_grow oV hN
              replace oP := own_grow oP hN
              try replace f2 := f2.grow hN
              try replace f8 := f8.grow hN
              clear hN
              have hsz := hb.size
              refine wpList_append_own _ rfl _ _ 22 rfl w.heap.size 3 iI _ 1 8 Try.underlying22 hiI hz0I hz1I hz2I rfl (by decide) _ _ _ rfl oV ⟨x1.heap.size, 0, none⟩ 1 1 [Value.int .i64 4] rfl rfl f2.news (by simp [Value.oneCell']) (by unfold maxLen; omega) (by omega) hsz ?_
              rintro v' w5 hown hg -
              obtain ⟨va, vc, rfl, _⟩ := own_slice hown
              go_wp2_with fail
              refine ⟨rfl, .inr (Reg.Kp.of_grown hg (fun b hb => own_two oV fP fG (by decide) (by decide) b hb)), ?_⟩
              replace fP := fP.grown hg (own_apart_blk oV fP (by decide))
              try replace fG := fG.grown hg (own_apart_blk oV fG (by decide))
              replace fT := fT.grown hg (own_apart_blk oV fT (by decide))
              try replace f8 := f8.grown hg (own_apart_blk oV f8 (by decide))
              replace oP := oP.kept hg (own_apart oP oV (by decide))
              replace hb := hb.grown hg hb.size (fun k hk => (oV.lt k hk).1)
              replace oV := hown
              clear hown hg f2 hsz
              refine Reg.wpE_hoist [13] 4 rfl (by kernel_rfl) (by kernel_rfl) (by kernel_rfl) (fun u => ?_)
              simp only [Reg.pickL, List.drop]
              repeat (go_big_quiet_step ((first | fail)))
              refine wpQuiet_nil ?_
              refine Reg.wpE_main 12 (by kernel_rfl) (fun x3 hN => ?_)
              simp only [Reg.pickL, List.drop]
              replace hb := hb.trans (Below.mono hN hb.size)
              replace fP := fP.grow hN
              try replace fT := fT.grow hN
              try replace fG := fG.grow hN
              replace oV := own_grow oV hN
              replace oP := own_grow oP hN
              try replace f2 := f2.grow hN
              try replace f8 := f8.grow hN
              clear hN
              have hsz := hb.size
              refine wpList_append_own _ rfl _ _ 23 rfl w.heap.size 44 iQ _ 2 16 Try.underlying23 hiQ hz0Q hz1Q hz2Q rfl (by decide) _ _ _ rfl oP ⟨G, 2, none⟩ 3 3 (ptsV [(y1, z1), (y2, z2), (y3, z3)]) rfl rfl (fG.newsAt 2 _ (by intro j u hj; rcases j with _ | _ | _ | _ | _ | _ | j <;> simp [ptsV] at hj ⊢ <;> exact hj)) (ptsV_one _) (by unfold maxLen; omega) (by omega) hsz ?_
              rintro p' w5 hown hg -
              obtain ⟨pa, pc, rfl, _⟩ := own_slice hown
              go_wp2_with fail
              refine ⟨rfl, .inr (Reg.Kp.of_grown hg (fun b hb => own_two oP fP fG (by decide) (by decide) b hb)), ?_⟩
              replace fP := fP.grown hg (own_apart_blk oP fP (by decide))
              replace fT := fT.grown hg (own_apart_blk oP fT (by decide))
              replace fG := fG.grown hg (own_apart_blk oP fG (by decide))
              replace oV := oV.kept hg (own_apart oV oP (by decide))
              replace hb := hb.grown hg hb.size (fun k hk => (oP.lt k hk).1)
              replace oP := hown
              clear hown hg hsz
              refine Reg.wpE_main 14 (by kernel_rfl) (fun zz1 hN => ?_)
              simp only [Reg.pickL, List.drop]
              replace hb := hb.trans (Below.mono hN hb.size)
              replace fP := fP.grow hN
              try replace fT := fT.grow hN
              try replace fG := fG.grow hN
              replace oV := own_grow oV hN
              replace oP := own_grow oP hN
              try replace f2 := f2.grow hN
              try replace f8 := f8.grow hN
              clear hN
              have hsz := hb.size
              have eP := fP.unfrozen
              have cP := fP.cell 0
              have lP := fP.lt
              go_wp2_with fail
              refine ⟨rfl, .inl rfl, ?_⟩
              clear eP cP lP hsz
              replace oV := own_far oV fP (i := 0) (by decide) (.slice va (X.length + 1) vc)
              replace oP := own_far oP fP (i := 0) (by decide) (.slice va (X.length + 1) vc)
              replace fT := fT.far (b := w.heap.size) (i := 0) hPT (.slice va (X.length + 1) vc)
              try replace fG := fG.far (b := w.heap.size) (i := 0) hPG (.slice va (X.length + 1) vc)
              replace hb := hb.setCell (p := ⟨w.heap.size, 0, none⟩) (Nat.le_refl _) (.slice va (X.length + 1) vc)
              have fP' : Blk _ w.heap.size 25 #[.slice va (X.length + 1) vc, p] := fP.set 0 (.slice va (X.length + 1) vc)
              clear fP
              have fP := fP'
              clear fP'
              refine Reg.wpE_main 15 (by kernel_rfl) (fun ym hN => ?_)
              simp only [Reg.pickL, List.drop]
              replace hb := hb.trans (Below.mono hN hb.size)
              replace fP := fP.grow hN
              try replace fT := fT.grow hN
              try replace fG := fG.grow hN
              replace oV := own_grow oV hN
              replace oP := own_grow oP hN
              try replace f2 := f2.grow hN
              try replace f8 := f8.grow hN
              clear hN
              have hsz := hb.size
              go_wp2_with fail
              refine ⟨rfl, .inl rfl, ?_⟩
              clear hsz
              refine Reg.wpE_main 16 (by kernel_rfl) (fun zz2 hN => ?_)
              simp only [Reg.pickL, List.drop]
              replace hb := hb.trans (Below.mono hN hb.size)
              replace fP := fP.grow hN
              try replace fT := fT.grow hN
              try replace fG := fG.grow hN
              replace oV := own_grow oV hN
              replace oP := own_grow oP hN
              try replace f2 := f2.grow hN
              try replace f8 := f8.grow hN
              clear hN
              have hsz := hb.size
              have eP := fP.unfrozen
              have cP := fP.cell 1
              have lP := fP.lt
              go_wp2_with fail
              refine ⟨rfl, .inl rfl, ?_⟩
              clear eP cP lP hsz
              replace oV := own_far oV fP (i := 1) (by decide) (.slice pa (Y.length + 3) pc)
              replace oP := own_far oP fP (i := 1) (by decide) (.slice pa (Y.length + 3) pc)
              replace fT := fT.far (b := w.heap.size) (i := 1) hPT (.slice pa (Y.length + 3) pc)
              try replace fG := fG.far (b := w.heap.size) (i := 1) hPG (.slice pa (Y.length + 3) pc)
              replace hb := hb.setCell (p := ⟨w.heap.size, 1, none⟩) (Nat.le_refl _) (.slice pa (Y.length + 3) pc)
              have fP' : Blk _ w.heap.size 25 #[.slice va (X.length + 1) vc, .slice pa (Y.length + 3) pc] := fP.set 1 (.slice pa (Y.length + 3) pc)
              clear fP
              have fP := fP'
              clear fP'
              refine Reg.wpE_end (by kernel_rfl) (fun zz3 hN => ?_)
              replace hb := hb.trans (Below.mono hN hb.size)
              replace fP := fP.grow hN
              try replace fT := fT.grow hN
              try replace fG := fG.grow hN
              replace oV := own_grow oV hN
              replace oP := own_grow oP hN
              try replace f2 := f2.grow hN
              try replace f8 := f8.grow hN
              clear hN
              have hsz := hb.size
              have oV' : OwnV zz3 w.heap.size 3 (.slice va (X.length + 1) vc) (X ++ [4]) := by unfold OwnV; simpa [intsV] using oV
              have oP' : OwnQ zz3 w.heap.size 44 (.slice pa (Y.length + 3) pc) (Y ++ [(y1, z1), (y2, z2), (y3, z3)]) := by unfold OwnQ; simpa [ptsV_append] using oP
              clear oV oP hsz fG
              go_wp2_with fail
              exact ⟨⟨i + 1, by omega, by go_num, ⟨_, _, fP, fT, by rw [HXT.out.1]; exact oV', by rw [HXT.out.2]; exact oP'⟩, hb⟩, by simp [intOf]; omega⟩
            · skip
              have hq2 : ¬ ((2 : Int) ≤ qn ∧ qn ≤ 4) := by omega
              have ev : segVs ⟨(y0, z0), (y1, z1), (y2, z2), (y3, z3), qn⟩ = [] := by unfold segVs; rw [if_neg hq2]
              have ep : segPs ⟨(y0, z0), (y1, z1), (y2, z2), (y3, z3), qn⟩ = [] := by unfold segPs; rw [if_neg (by simp only; omega), if_neg (by simp only; omega), if_neg (by simp only; omega)]
              have HE := Lib.hid (And.intro ev ep)
              clear ev ep hq2
              go_wp2_with fail
              replace fP := fP.alloc (.cells #[.int .i64 y0, .int .i64 z0, .int .i64 y1, .int .i64 z1, .int .i64 y2, .int .i64 z2, .int .i64 y3, .int .i64 z3, .int .i64 qn] 50)
              replace fT := fT.alloc (.cells #[.int .i64 y0, .int .i64 z0, .int .i64 y1, .int .i64 z1, .int .i64 y2, .int .i64 z2, .int .i64 y3, .int .i64 z3, .int .i64 qn] 50)
              replace oV := oV.alloc (.cells #[.int .i64 y0, .int .i64 z0, .int .i64 y1, .int .i64 z1, .int .i64 y2, .int .i64 z2, .int .i64 y3, .int .i64 z3, .int .i64 qn] 50)
              replace oP := oP.alloc (.cells #[.int .i64 y0, .int .i64 z0, .int .i64 y1, .int .i64 z1, .int .i64 y2, .int .i64 z2, .int .i64 y3, .int .i64 z3, .int .i64 qn] 50)
              replace hb := hb.alloc hb.size (.cells #[.int .i64 y0, .int .i64 z0, .int .i64 y1, .int .i64 z1, .int .i64 y2, .int .i64 z2, .int .i64 y3, .int .i64 z3, .int .i64 qn] 50)
              clear e0 e1 e2 e3 e4 e5 e6 e7 e8
              generalize wi.alloc (.cells #[.int .i64 y0, .int .i64 z0, .int .i64 y1, .int .i64 z1, .int .i64 y2, .int .i64 z2, .int .i64 y3, .int .i64 z3, .int .i64 qn] 50) = wS at *
              generalize wi.heap.size = G at *
              exact ⟨⟨i + 1, by omega, by go_num, ⟨_, _, fP, fT, by rw [HXT.out.1, HE.out.1, List.append_nil]; exact oV, by rw [HXT.out.2, HE.out.2, List.append_nil]; exact oP⟩, hb⟩, by simp [intOf]; omega⟩
            · skip
              have hq2 : ¬ ((2 : Int) ≤ qn ∧ qn ≤ 4) := by omega
              have ev : segVs ⟨(y0, z0), (y1, z1), (y2, z2), (y3, z3), qn⟩ = [] := by unfold segVs; rw [if_neg hq2]
              have ep : segPs ⟨(y0, z0), (y1, z1), (y2, z2), (y3, z3), qn⟩ = [] := by unfold segPs; rw [if_neg (by simp only; omega), if_neg (by simp only; omega), if_neg (by simp only; omega)]
              have HE := Lib.hid (And.intro ev ep)
              clear ev ep hq2
              go_wp2_with fail
              replace fP := fP.alloc (.cells #[.int .i64 y0, .int .i64 z0, .int .i64 y1, .int .i64 z1, .int .i64 y2, .int .i64 z2, .int .i64 y3, .int .i64 z3, .int .i64 qn] 50)
              replace fT := fT.alloc (.cells #[.int .i64 y0, .int .i64 z0, .int .i64 y1, .int .i64 z1, .int .i64 y2, .int .i64 z2, .int .i64 y3, .int .i64 z3, .int .i64 qn] 50)
              replace oV := oV.alloc (.cells #[.int .i64 y0, .int .i64 z0, .int .i64 y1, .int .i64 z1, .int .i64 y2, .int .i64 z2, .int .i64 y3, .int .i64 z3, .int .i64 qn] 50)
              replace oP := oP.alloc (.cells #[.int .i64 y0, .int .i64 z0, .int .i64 y1, .int .i64 z1, .int .i64 y2, .int .i64 z2, .int .i64 y3, .int .i64 z3, .int .i64 qn] 50)
              replace hb := hb.alloc hb.size (.cells #[.int .i64 y0, .int .i64 z0, .int .i64 y1, .int .i64 z1, .int .i64 y2, .int .i64 z2, .int .i64 y3, .int .i64 z3, .int .i64 qn] 50)
              clear e0 e1 e2 e3 e4 e5 e6 e7 e8
              generalize wi.alloc (.cells #[.int .i64 y0, .int .i64 z0, .int .i64 y1, .int .i64 z1, .int .i64 y2, .int .i64 z2, .int .i64 y3, .int .i64 z3, .int .i64 qn] 50) = wS at *
              generalize wi.heap.size = G at *
              exact ⟨⟨i + 1, by omega, by go_num, ⟨_, _, fP, fT, by rw [HXT.out.1, HE.out.1, List.append_nil]; exact oV, by rw [HXT.out.2, HE.out.2, List.append_nil]; exact oP⟩, hb⟩, by simp [intOf]; omega⟩
          · have hin : i = segs.length := by omega
            subst hin
            rw [List.take_of_length_le (Nat.le_refl _)] at oV oP
            have hX : (xs ++ [1] ++ segsVs segs).length ≤ 1002 * k + 1001 := by
              have := segsVs_le segs
              simp only [List.length_append, List.length_cons, List.length_nil] at this ⊢
              omega
            have eT := fT.cell
            have eP := fP.cell
            have kP := fP.unfrozen
            have lP := fP.lt
            have lT := fT.lt
            have hsz := hb.size
            have HJ2 : Hid (joinVs (l.take (k + 1)) = xs ++ [1] ++ segsVs segs ++ endVs cl ∧ joinPs (l.take (k + 1)) = ys ++ [(sx, sy)] ++ segsPs segs) := Lib.hid (by rw [HJ.out.1, HJ.out.2]; simp [subVs, subPs])
            generalize xs ++ [1] ++ segsVs segs = X at *
            generalize ys ++ [(sx, sy)] ++ segsPs segs = Y at *
            have oV : wi.ownsRow w.heap.size 3 1 v X.length (intsV X) := oV
            have HOV := Lib.hid oV
            have HOP := Lib.hid oP
            have HFP := Lib.hid fP
            have HB := Lib.hid hb
            clear oV oP fP fT hb
            cases cl with
            | false =>
              go_wp2_with fail
              exact ⟨⟨k + 1, by omega, by go_num, ⟨_, _, HFP.out, by rw [HJ2.out.1]; simpa [endVs] using HOV.out, by rw [HJ2.out.2]; exact HOP.out⟩, HB.out⟩, by simp [intOf]; omega⟩
            | true =>
              go_wp2_with (at_builtin; refine wpList_append_own _ rfl _ _ 22 rfl w.heap.size 3 iI _ 1 8 Try.underlying22 hiI hz0I hz1I hz2I rfl (by decide) _ _ _ rfl (HOV.out.alloc _) ⟨wi.heap.size, 0, none⟩ 1 1 [.int .i64 5] rfl rfl ?c1 ?c2 ?c3 ?c4 ?c5 ?_)
              case c1 => exact Blk.news (l := [.int .i64 5]) (Blk.new wi _ _)
              case c2 => simp [Value.oneCell']
              case c3 => unfold maxLen; omega
              case c4 => omega
              case c5 => simp; omega
              rintro v' w8 hown8 hg8 -
              obtain ⟨a8, c8, rfl, _⟩ := own_slice hown8
              have hP8 := (HOP.out.alloc (.cells #[.int .i64 5] 3)).kept hg8 (own_apart (HOP.out.alloc (.cells #[.int .i64 5] 3)) (HOV.out.alloc (.cells #[.int .i64 5] 3)) (by decide))
              have fP8 := (HFP.out.alloc (.cells #[.int .i64 5] 3)).grown hg8 (own_apart_blk (HOV.out.alloc (.cells #[.int .i64 5] 3)) (HFP.out.alloc (.cells #[.int .i64 5] 3)) (by decide))
              have hb8 := (HB.out.alloc HB.out.size (.cells #[.int .i64 5] 3)).grown hg8 (by simp; omega) (fun q hq => ((HOV.out.alloc (.cells #[.int .i64 5] 3)).lt q hq).1)
              have k8 := fP8.unfrozen
              have l8 := fP8.lt
              have e8 := fP8.cell
              have H8 := Lib.hid hown8
              have HP8 := Lib.hid hP8
              clear eT eP kP lP lT hown8 hg8 hP8
              go_wp2_with fail
              refine ⟨⟨k + 1, by omega, by go_num, ⟨_, _, fP8.set 0 _, ?_, ?_⟩, hb8.setCell (p := ⟨w.heap.size, 0, none⟩) (Nat.le_refl _) _⟩, by simp [intOf]; omega⟩
              · rw [HJ2.out.1]
                have h := own_far H8.out fP8 (i := 0) (by decide) (.slice a8 (X.length + 1) c8)
                simpa [endVs, intsV] using h
              · rw [HJ2.out.2]
                exact own_far HP8.out fP8 (i := 0) (by decide) (.slice a8 (X.length + 1) c8)
    · have hkn : k = n := by omega
      rw [List.take_of_length_le (by omega)] at oV oP
      have hle := HLE.out n
      rw [List.take_of_length_le (by omega)] at hle
      obtain ⟨va, vc, rfl, hvc, _⟩ := own_cap oV
      obtain ⟨pa, pc, rfl, hpc, hpm⟩ := own_cap oP
      have hin : ¬ (k : Int) < n := by omega
      have eP := fP.cell
      have lP := fP.lt
      have kP := fP.unfrozen
      have HI := Lib.hid (own_ints (own_far (own_far oV fP (i := 0) (by decide) (.slice va (joinVs l).length vc)) (fP.set 0 (.slice va (joinVs l).length vc)) (i := 1) (by decide) (.slice pa (joinPs l).length pc)))
      have HP := Lib.hid (own_pts (own_far (own_far oP fP (i := 0) (by decide) (.slice va (joinVs l).length vc)) (fP.set 0 (.slice va (joinVs l).length vc)) (i := 1) (by decide) (.slice pa (joinPs l).length pc)))
      have HB := Lib.hid ((hb.setCell (p := ⟨w.heap.size, 0, none⟩) (Nat.le_refl _) (.slice va (joinVs l).length vc)).setCell (p := ⟨w.heap.size, 1, none⟩) (Nat.le_refl _) (.slice pa (joinPs l).length pc))
      have HF := Lib.hid ((fP.set 0 (.slice va (joinVs l).length vc)).set 1 (.slice pa (joinPs l).length pc))
      clear hb oV oP fP
      go_wp2_with fail
      refine bodyPost_ret (res_path HF.out rfl rfl rfl rfl) rfl ?_
      exact ⟨_, _, _, _, rfl, hvc, hpc, hpm, HI.out, HP.out, HB.out⟩
end Go.Proofs.Ytjkpbkcbimojoaa
