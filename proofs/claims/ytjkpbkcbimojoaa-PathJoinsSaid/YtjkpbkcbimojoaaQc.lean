/- Contract of path.Shift. -/
import Derived.Test.YtjkpbkcbimojoaaQb
import Derived.Test.YtjkpbkcbimojoaaPf
import Derived.Test.YtjkpbkcbimojoaaRet
namespace Go.Proofs.Ytjkpbkcbimojoaa
open Go.RowKit

theorem own_cap2 {w : World} {base n : Nat} {e : TypeId} {size : Nat} {v : Value} {xs : List Value} (h : w.ownsRow base e size v n xs) : ∃ a c, v = .slice a n c ∧ n ≤ c ∧ c ≤ maxLen := by
  rcases h.2 with ⟨rfl, rfl⟩ | ⟨g, cap, cur, rfl, _, _, h3⟩
  · exact ⟨_, _, rfl, Nat.le_refl _, Nat.zero_le _⟩
  · exact ⟨_, _, rfl, by omega, by omega⟩
theorem ptsV_set : ∀ (L : List (Int × Int)) (k : Nat) (p : Int × Int), k < L.length → ((ptsV L).set (k * 2) (.int .i64 p.1)).set (k * 2 + 1) (.int .i64 p.2) = ptsV (L.set k p)
  | [], k, p, h => by simp at h
  | a :: L, 0, p, h => rfl
  | a :: L, k + 1, p, h => by
    have ih := ptsV_set L k p (by simpa using h)
    rw [show (k + 1) * 2 = k * 2 + 1 + 1 by omega]
    simp only [ptsV, List.flatMap_cons, List.cons_append, List.nil_append, List.set_cons_succ] at ih ⊢
    rw [ih]
theorem mix_set (f : Int × Int → Int × Int) : ∀ (L : List (Int × Int)) (k : Nat) (h : k < L.length), ((L.take k).map f ++ L.drop k).set k (f L[k]) = (L.take (k + 1)).map f ++ L.drop (k + 1)
  | [], k, h => by simp at h
  | a :: L, 0, h => by simp
  | a :: L, k + 1, h => by
    have ih := mix_set f L k (by simpa using h)
    simpa using ih
theorem mix_at (f : Int × Int → Int × Int) (L : List (Int × Int)) (k : Nat) (h : k < L.length) : ((L.take k).map f ++ L.drop k)[k]? = some L[k] := by
  rw [List.getElem?_append_right (by simp; omega)]
  simp [Nat.min_eq_left (Nat.le_of_lt h)]
theorem res_path2 {tmps : Array Value} {W : World} {g tr : Nat} {t : TypeId} {cs : Array Value} {v0 v1 : Value} {fn : Func} (hB : Blk W g t cs) (hfn : fn.results = #[.cell tr 25]) (ht : tmps.getD tr undef = .pointer (some ⟨g, 0, none⟩))
    (h0 : cs[0]? = some v0) (h1 : cs[1]? = some v1) : (results fn tmps).run Try.prog W = .ok (.agg #[v0, v1]) W := by
  have g0 := (hB.cell 0).trans h0
  have g1 := (hB.cell 1).trans h1
  have ht' : tmps[tr]?.getD undef = .pointer (some ⟨g, 0, none⟩) := by simpa using ht
  simp [results, hfn, ht', go_sem, g0, g1]
/-- Shift half done. -/
def ShI (W : World) (B0 B D C : Nat) (tP tI tQ : TypeId) (b : Int × Int) (v p : Value) (vs : List Int) (ps : List (Int × Int)) (k : Nat) : Prop :=
  Blk W D tP #[v, p] ∧ Blk W B tQ #[.int .i64 b.1, .int .i64 b.2] ∧ Blk W C tP #[.slice none 0 0, .slice none 0 0] ∧ W.ownsRow B0 tI 1 v vs.length (intsV vs) ∧
  W.ownsRow B0 tQ 2 p ps.length (ptsV ((ps.take k).map (shP b) ++ ps.drop k))
def ShiftPost (w : World) (b : Int × Int) (vs : List Int) (ps : List (Int × Int)) (e : Ending) (W : World) : Prop := ∃ a c p d, e = .returned (.agg #[.slice a vs.length c, .slice p ps.length d]) ∧
  vs.length ≤ c ∧ ps.length ≤ d ∧ d ≤ maxLen ∧ RInts W W.heap.size a vs.length vs ∧ RPts W W.heap.size p ps.length (ps.map (shP b)) ∧ Below w.heap.size w W

set_option maxRecDepth 100000 in
set_option maxHeartbeats 8000000 in
theorem pshift_any (a b : Option Addr) (n m c d : Nat) (bx by_ : Int) (vs : List Int) (ps : List (Int × Int)) (w : World) (hn : n ≤ 1000) (hm : m ≤ 2000) (ha : a = none → n = 0 ∧ c = 0) (hb : b = none → m = 0 ∧ d = 0)
    (h1 : -1073741824 ≤ bx) (h2 : bx ≤ 1073741824) (h3 : -1073741824 ≤ by_) (h4 : by_ ≤ 1073741824) (hf : ∀ q ∈ ps, -1073741824 ≤ q.1 ∧ q.1 ≤ 1073741824 ∧ -1073741824 ≤ q.2 ∧ q.2 ≤ 1073741824)
    (hv : RInts w w.heap.size a n vs) (hp : RPts w w.heap.size b m ps) :
    Calls Try.prog 23 #[.agg #[.slice a n c, .slice b m d], .agg #[.int .i64 bx, .int .i64 by_]] w (ShiftPost w (bx, by_) vs ps) := by
  have hnl := hv.1
  have hml := hp.1
  have KI := Lib.hid (fun W (hW : Below w.heap.size w W) => clonei_any a n c vs W (by omega) ha (hv.grow hW))
  have KP := Lib.hid (fun W (hW : Below w.heap.size w W) => clonep_any b m d ps W (by omega) hb (hp.grow hW))
  have HF := Lib.hid hf
  clear hv hp hf
  go_enter Try.func23, Try.ntmps23
  go_wp2_with fail
  have sA := ((Blk.new w 25 #[.slice a n c, .slice b m d]).alloc (.cells #[.int .i64 bx, .int .i64 by_] 44)).alloc (.cells #[.slice none 0 0, .slice none 0 0] 25)
  have sB := (Blk.new (w.alloc (.cells #[.slice a n c, .slice b m d] 25)) 44 #[.int .i64 bx, .int .i64 by_]).alloc (.cells #[.slice none 0 0, .slice none 0 0] 25)
  have sC := Blk.new ((w.alloc (.cells #[.slice a n c, .slice b m d] 25)).alloc (.cells #[.int .i64 bx, .int .i64 by_] 44)) 25 #[.slice none 0 0, .slice none 0 0]
  have hxw : Below w.heap.size w (((w.alloc (.cells #[.slice a n c, .slice b m d] 25)).alloc (.cells #[.int .i64 bx, .int .i64 by_] 44)).alloc (.cells #[.slice none 0 0, .slice none 0 0] 25)) := by (repeat (first | exact Below.refl _ _ | assumption | refine Below.drew ?_ | refine Below.setCell ?_ (by simp; try omega) _ | refine Below.alloc ?_ (by simp; try omega) _))
  have hwz : (((w.alloc (.cells #[.slice a n c, .slice b m d] 25)).alloc (.cells #[.int .i64 bx, .int .i64 by_] 44)).alloc (.cells #[.slice none 0 0, .slice none 0 0] 25)).heap.size = w.heap.size + 1 + 1 + 1 := by simp
  simp only [World.size_alloc] at sA sB sC
  generalize ((w.alloc (.cells #[.slice a n c, .slice b m d] 25)).alloc (.cells #[.int .i64 bx, .int .i64 by_] 44)).alloc (.cells #[.slice none 0 0, .slice none 0 0] 25) = wT at *
  have hx := Below.refl wT.heap.size wT
  have eA := sA.cell
  have lA := sA.lt
  refine Reg.wp_region_R (fun b => b < wT.heap.size) 9 rfl (by kernel_rfl) ?_
  refine Reg.wpR_hoist [0, 1, 3, 4] 5 rfl (by kernel_rfl) (by kernel_rfl) (fun u => ?_)
  simp only [Reg.pickL, List.drop]
  repeat (go_big_quiet_step ((first | fail)))
  refine wpQuiet_nil ?_
  clear eA lA
  refine Reg.wpR_main2 2 7 (by kernel_rfl) (fun x1 hN => ?_) (fun x1 hN => ?_)
  · simp only [Reg.pickL, List.drop]
    replace hx := hx.trans (Below.mono hN hx.size)
    replace sA := sA.grow hN
    replace sB := sB.grow hN
    replace sC := sC.grow hN
    try replace fD := fD.grow hN
    try replace oV := own_grow oV hN
    try replace oP := own_grow oP hN
    clear hN
    have hsz := hx.size
    go_wp2_with fail
    refine (KI.out _ (hxw.trans (hx.mono (by omega)))).mono ?_
    rintro e wc ⟨vV, rfl, oV, hb2⟩
    obtain ⟨aV, cV, rfl, hV, mV⟩ := own_cap2 oV
    go_wp2_with fail
    refine ⟨rfl, Reg.Kp.of_gr hb2, ?_⟩
    replace hx := hx.trans (Below.mono hb2 hx.size)
    replace sA := sA.grow hb2
    replace sB := sB.grow hb2
    replace sC := sC.grow hb2
    try replace fD := fD.grow hb2
    try replace oV := own_grow oV hb2
    replace oV := own_base oV hsz
    clear hb2 hsz
    refine Reg.wpR_main2 5 7 (by kernel_rfl) (fun x2 hN => ?_) (fun x2 hN => ?_)
    · simp only [Reg.pickL, List.drop]
      replace hx := hx.trans (Below.mono hN hx.size)
      replace sA := sA.grow hN
      replace sB := sB.grow hN
      replace sC := sC.grow hN
      try replace fD := fD.grow hN
      try replace oV := own_grow oV hN
      try replace oP := own_grow oP hN
      clear hN
      have hsz := hx.size
      go_wp2_with fail
      refine (KP.out _ (hxw.trans (hx.mono (by omega)))).mono ?_
      rintro e wc ⟨vP, rfl, oP, hb2⟩
      obtain ⟨aP, cP, rfl, hP, mP⟩ := own_cap2 oP
      go_wp2_with fail
      refine ⟨rfl, Reg.Kp.of_gr hb2, ?_⟩
      replace hx := hx.trans (Below.mono hb2 hx.size)
      replace sA := sA.grow hb2
      replace sB := sB.grow hb2
      replace sC := sC.grow hb2
      try replace fD := fD.grow hb2
      try replace oV := own_grow oV hb2
      replace oP := own_base oP hsz
      clear hb2 hsz
      refine Reg.wpR_hoist [6] 2 rfl (by kernel_rfl) (by kernel_rfl) (fun u => ?_)
      simp only [Reg.pickL, List.drop]
      repeat (go_big_quiet_step ((first | fail)))
      refine wpQuiet_nil ?_
      refine Reg.wpR_main 7 (by kernel_rfl) (fun x3 hN => ?_)
      simp only [Reg.pickL, List.drop]
      replace hx := hx.trans (Below.mono hN hx.size)
      replace sA := sA.grow hN
      replace sB := sB.grow hN
      replace sC := sC.grow hN
      try replace fD := fD.grow hN
      try replace oV := own_grow oV hN
      try replace oP := own_grow oP hN
      clear hN
      have hsz := hx.size
      go_wp2_with fail
      refine ⟨rfl, Reg.Kp.of_gr ((Below.refl _ _).alloc (Nat.le_refl _) _), ?_⟩
      replace sA := sA.alloc (.cells #[.slice none 0 0, .slice none 0 0] 25)
      replace sB := sB.alloc (.cells #[.slice none 0 0, .slice none 0 0] 25)
      replace sC := sC.alloc (.cells #[.slice none 0 0, .slice none 0 0] 25)
      try replace oV := oV.alloc (.cells #[.slice none 0 0, .slice none 0 0] 25)
      try replace oP := oP.alloc (.cells #[.slice none 0 0, .slice none 0 0] 25)
      replace hx := hx.alloc hx.size (.cells #[.slice none 0 0, .slice none 0 0] 25)
      have fD := Blk.new x3 25 #[.slice none 0 0, .slice none 0 0]
      have hD : wT.heap.size ≤ x3.heap.size := hsz
      clear hsz
      generalize x3.heap.size = D at *
      refine Reg.wpR_main 8 (by kernel_rfl) (fun z1 hN => ?_)
      simp only [Reg.pickL, List.drop]
      replace hx := hx.trans (Below.mono hN hx.size)
      replace sA := sA.grow hN
      replace sB := sB.grow hN
      replace sC := sC.grow hN
      try replace fD := fD.grow hN
      try replace oV := own_grow oV hN
      try replace oP := own_grow oP hN
      clear hN
      have hsz := hx.size
      have eD := fD.cell
      have kD := fD.unfrozen
      have lD := fD.lt
      go_wp2_with fail
      refine ⟨rfl, Reg.Kp.trans (Reg.Kp.of_set _ (fun h => Nat.not_lt.2 hD h)) (Reg.Kp.of_set _ (fun h => Nat.not_lt.2 hD h)), ?_⟩
      clear eD kD lD hsz sA
      replace oV := own_far (own_far oV fD (i := 0) (by decide) (.slice aV n cV)) (fD.set 0 (.slice aV n cV)) (i := 1) (by decide) (.slice aP m cP)
      replace oP := own_far (own_far oP fD (i := 0) (by decide) (.slice aV n cV)) (fD.set 0 (.slice aV n cV)) (i := 1) (by decide) (.slice aP m cP)
      replace sB := (sB.far (b := D) (i := 0) (by omega) (.slice aV n cV)).far (b := D) (i := 1) (by omega) (.slice aP m cP)
      replace sC := (sC.far (b := D) (i := 0) (by omega) (.slice aV n cV)).far (b := D) (i := 1) (by omega) (.slice aP m cP)
      replace hx := (hx.setCell (p := ⟨D, 0, none⟩) hD (.slice aV n cV)).setCell (p := ⟨D, 1, none⟩) hD (.slice aP m cP)
      have fD' : Blk _ D 25 #[.slice aV n cV, .slice aP m cP] := (fD.set 0 (.slice aV n cV)).set 1 (.slice aP m cP)
      clear fD
      have fD := fD'
      clear fD'
      refine Reg.wpR_end (by kernel_rfl) (fun z2 hN => ?_)
      replace hx := hx.trans (Below.mono hN hx.size)
      replace sB := sB.grow hN
      replace sC := sC.grow hN
      replace fD := fD.grow hN
      replace oV := own_grow oV hN
      replace oP := own_grow oP hN
      clear hN
      have eD := fD.cell
      have lD := fD.lt
      go_wp2_with fail
      clear eD lD
      have hI : ShI z2 wT.heap.size (w.heap.size + 1) D (w.heap.size + 1 + 1) 25 3 44 (bx, by_) (.slice aV n cV) (.slice aP m cP) vs ps 0 := ⟨fD, sB, sC, by rw [hnl]; exact oV, by rw [hml]; simpa using oP⟩
      have HI := Lib.hid hI
      have HX := Lib.hid hx
      clear hI hx sB sC fD oV oP
      go_loopw [17] (fun i wr => ∃ k : Nat, k ≤ m ∧ i = .int .i64 k ∧ ShI wr wT.heap.size (w.heap.size + 1) D (w.heap.size + 1 + 1) 25 3 44 (bx, by_) (.slice aV n cV) (.slice aP m cP) vs ps k ∧ Below wT.heap.size wT wr) (fun i _ => m - (intOf i).toNat)
      case atStart => exact ⟨0, Nat.zero_le _, rfl, HI.out, HX.out⟩
      case round =>
        clear HI HX
        obtain ⟨k, hk, rfl, ⟨fD, sB, sC, oV, oP⟩, hbw⟩ := hrel
        rw [hnl] at oV
        rw [hml] at oP
        have hbs := hbw.size
        have lD := fD.lt
        by_cases hlt : k < m
        · have hlk : k < ps.length := by omega
          obtain ⟨g, rfl⟩ : ∃ g, aP = some ⟨g, 0, none⟩ := by
            rcases oP.2 with ⟨h1, h2⟩ | ⟨g, cap, cur, h1, _⟩
            · simp at h1; omega
            · injection h1 with h1; exact ⟨g, h1⟩
          obtain ⟨h5, h6⟩ := ptsV_at _ k _ (mix_at (shP (bx, by_)) ps k hlk)
          have c0 : wr.cell? ⟨g, k * 2, none⟩ = some (.int .i64 ps[k].1) := (oP.cellAt (k * 2) (by omega)).trans h5
          have c1 : wr.cell? ⟨g, k * 2 + 1, none⟩ = some (.int .i64 ps[k].2) := (oP.cellAt (k * 2 + 1) (by omega)).trans h6
          have hfar := HF.out ps[k] (List.getElem_mem hlk)
          have HM := Lib.hid (mix_set (shP (bx, by_)) ps k hlk)
          have HL : Hid (((ps.take k).map (shP (bx, by_)) ++ ps.drop k).length = ps.length) := Lib.hid (by simp; omega)
          clear h5 h6
          generalize ps[k] = q at *
          obtain ⟨qx, qy⟩ := q
          simp only at c0 c1 hfar
          obtain ⟨f1, f2, f3, f4⟩ := hfar
          have hg1 : wT.heap.size ≤ g := (oP.lt g rfl).1
          have hg2 : g < wr.heap.size := (oP.lt g rfl).2
          have hgD := own_apart_blk oP fD (by decide) g rfl
          have hgC := own_apart_blk oP sC (by decide) g rfl
          have hov : (Value.slice aV n cV).ownBlock ≠ some g := by
            rcases own_apart oV oP (by decide) with h | h
            · rw [h]; simp
            · exact h
          have hgB : g ≠ w.heap.size + 1 := by omega
          have eD := fD.cell
          have eB := sB.cell
          have lB := sB.lt
          have hlt' : (k : Int) < m := by omega
          go_wp2_with fail
          refine Reg.wp_region_E (fun b => b < wr.heap.size) (fun j => decide (11 ≤ j)) 12 rfl (by kernel_rfl) ?_
          refine Reg.wpE_hoist [0, 1, 2, 3, 4, 5, 6, 7, 8] 3 rfl (by kernel_rfl) (by kernel_rfl) (by kernel_rfl) (fun u => ?_)
          simp only [Reg.pickL, List.drop]
          repeat (go_big_quiet_step ((first | fail)))
          refine wpQuiet_nil ?_
          clear eD eB lB lD
          refine Reg.wpE_main 9 (by kernel_rfl) (fun x1 hN => ?_)
          simp only [Reg.pickL, List.drop]
          go_wp2_with fail
          refine (vadd_any qx qy bx by_ _ f1 f2 f3 f4 h1 h2 h3 h4).mono ?_
          rintro e w5 ⟨rfl, hb2⟩
          go_wp2_with fail
          refine ⟨rfl, .inr (Reg.Kp.of_gr hb2), ?_⟩
          have hN' : Below wr.heap.size wr x1 := hN
          have hy := hN'.trans (hb2.mono hN'.size)
          clear hN'
          clear hN hb2
          refine Reg.wpE_hoist [10] 1 rfl (by kernel_rfl) (by kernel_rfl) (by kernel_rfl) (fun u => ?_)
          simp only [Reg.pickL, List.drop]
          repeat (go_big_quiet_step ((first | fail)))
          refine wpQuiet_nil ?_
          refine Reg.wpE_main 11 (by kernel_rfl) (fun x2 hN => ?_)
          simp only [Reg.pickL, List.drop]
          replace hy := hy.trans (Below.mono hN hy.size)
          clear hN
          replace c0 := (hy.cell (p := ⟨g, k * 2, none⟩) hg2).trans c0
          replace c1 := (hy.cell (p := ⟨g, k * 2 + 1, none⟩) hg2).trans c1
          replace fD := fD.grow hy
          replace sB := sB.grow hy
          replace sC := sC.grow hy
          replace oV := own_grow oV hy
          replace oP := own_grow oP hy
          replace hbw := hbw.trans (Below.mono hy hbw.size)
          clear hy
          have kf := oP.frozenAt
          have lg := (oP.lt g rfl).2
          go_wp2_with fail
          refine ⟨rfl, .inl rfl, ?_⟩
          clear c0 c1 kf lg
          replace fD := (fD.far (i := k * 2) hgD (.int .i64 (qx + bx))).far (i := k * 2 + 1) hgD (.int .i64 (qy + by_))
          replace sB := (sB.far (i := k * 2) hgB (.int .i64 (qx + bx))).far (i := k * 2 + 1) hgB (.int .i64 (qy + by_))
          replace sC := (sC.far (i := k * 2) hgC (.int .i64 (qx + bx))).far (i := k * 2 + 1) hgC (.int .i64 (qy + by_))
          replace oV := ownsRow_setCell_other (ownsRow_setCell_other oV (a := ⟨g, k * 2, none⟩) hov (.int .i64 (qx + bx))) (a := ⟨g, k * 2 + 1, none⟩) hov (.int .i64 (qy + by_))
          replace oP := ((oP.stored (k * 2) (.int .i64 (qx + bx))).1.stored (k * 2 + 1) (.int .i64 (qy + by_))).1
          replace hbw := (hbw.setCell (p := ⟨g, k * 2, none⟩) hg1 (.int .i64 (qx + bx))).setCell (p := ⟨g, k * 2 + 1, none⟩) hg1 (.int .i64 (qy + by_))
          have e := ptsV_set ((ps.take k).map (shP (bx, by_)) ++ ps.drop k) k (qx + bx, qy + by_) (by rw [HL.out]; exact hlk)
          simp only at e
          rw [e, show (qx + bx, qy + by_) = shP (bx, by_) (qx, qy) from rfl, HM.out] at oP
          clear e
          refine Reg.wpE_end (by kernel_rfl) (fun x3 hN => ?_)
          go_wp2_with fail
          exact ⟨⟨k + 1, by omega, by go_num, ⟨fD.grow hN, sB.grow hN, sC.grow hN, by rw [hnl]; exact own_grow oV hN, by rw [hml]; exact own_grow oP hN⟩, hbw.trans (Below.mono hN hbw.size)⟩, by simp [intOf]; omega⟩
        · have hkm : k = m := by omega
          have hin : ¬ (k : Int) < m := by omega
          subst hkm
          rw [List.take_of_length_le (by omega), List.drop_eq_nil_of_le (by omega), List.append_nil] at oP
          have eD := fD.cell
          have eC := sC.cell
          have kC := sC.unfrozen
          have lC := sC.lt
          have HV := Lib.hid (own_ints (own_far (own_far oV sC (i := 0) (by decide) (.slice aV n cV)) (sC.set 0 (.slice aV n cV)) (i := 1) (by decide) (.slice aP k cP)))
          have HP := Lib.hid (own_pts (own_far (own_far oP sC (i := 0) (by decide) (.slice aV n cV)) (sC.set 0 (.slice aV n cV)) (i := 1) (by decide) (.slice aP k cP)))
          have HB := Lib.hid ((((hxw.trans (hbw.mono (by omega))).setCell (p := ⟨w.heap.size + 1 + 1, 0, none⟩) (by simp; omega) (.slice aV n cV)).setCell (p := ⟨w.heap.size + 1 + 1, 1, none⟩) (by simp; omega) (.slice aP k cP)))
          have HC := Lib.hid ((sC.set 0 (.slice aV n cV)).set 1 (.slice aP k cP))
          clear hbw oV oP sC sB fD
          go_wp2_with fail
          refine bodyPost_ret (res_path2 HC.out rfl rfl rfl rfl) rfl ?_
          unfold ShiftPost
          rw [hnl, hml]
          exact ⟨_, _, _, _, rfl, hV, hP, mP, HV.out, HP.out, HB.out⟩
    · simp only [Reg.pickL, List.drop]
      replace hx := hx.trans (Below.mono hN hx.size)
      replace sA := sA.grow hN
      replace sB := sB.grow hN
      replace sC := sC.grow hN
      try replace fD := fD.grow hN
      try replace oV := own_grow oV hN
      try replace oP := own_grow oP hN
      clear hN
      have hsz := hx.size
      go_wp2_with fail
      refine ⟨rfl, Reg.Kp.of_gr ((Below.refl _ _).alloc (Nat.le_refl _) _), ?_⟩
      replace sA := sA.alloc (.cells #[.slice none 0 0, .slice none 0 0] 25)
      replace sB := sB.alloc (.cells #[.slice none 0 0, .slice none 0 0] 25)
      replace sC := sC.alloc (.cells #[.slice none 0 0, .slice none 0 0] 25)
      try replace oV := oV.alloc (.cells #[.slice none 0 0, .slice none 0 0] 25)
      try replace oP := oP.alloc (.cells #[.slice none 0 0, .slice none 0 0] 25)
      replace hx := hx.alloc hx.size (.cells #[.slice none 0 0, .slice none 0 0] 25)
      have fD := Blk.new x2 25 #[.slice none 0 0, .slice none 0 0]
      have hD : wT.heap.size ≤ x2.heap.size := hsz
      clear hsz
      generalize x2.heap.size = D at *
      refine Reg.wpR_main 5 (by kernel_rfl) (fun x3 hN => ?_)
      simp only [Reg.pickL, List.drop]
      replace hx := hx.trans (Below.mono hN hx.size)
      replace sA := sA.grow hN
      replace sB := sB.grow hN
      replace sC := sC.grow hN
      try replace fD := fD.grow hN
      try replace oV := own_grow oV hN
      try replace oP := own_grow oP hN
      clear hN
      have hsz := hx.size
      go_wp2_with fail
      refine (KP.out _ (hxw.trans (hx.mono (by omega)))).mono ?_
      rintro e wc ⟨vP, rfl, oP, hb2⟩
      obtain ⟨aP, cP, rfl, hP, mP⟩ := own_cap2 oP
      go_wp2_with fail
      refine ⟨rfl, Reg.Kp.of_gr hb2, ?_⟩
      replace hx := hx.trans (Below.mono hb2 hx.size)
      replace sA := sA.grow hb2
      replace sB := sB.grow hb2
      replace sC := sC.grow hb2
      try replace fD := fD.grow hb2
      try replace oV := own_grow oV hb2
      replace oP := own_base oP hsz
      clear hb2 hsz
      refine Reg.wpR_hoist [6] 1 rfl (by kernel_rfl) (by kernel_rfl) (fun u => ?_)
      simp only [Reg.pickL, List.drop]
      repeat (go_big_quiet_step ((first | fail)))
      refine wpQuiet_nil ?_
      refine Reg.wpR_main 8 (by kernel_rfl) (fun z1 hN => ?_)
      simp only [Reg.pickL, List.drop]
      replace hx := hx.trans (Below.mono hN hx.size)
      replace sA := sA.grow hN
      replace sB := sB.grow hN
      replace sC := sC.grow hN
      try replace fD := fD.grow hN
      try replace oV := own_grow oV hN
      try replace oP := own_grow oP hN
      clear hN
      have hsz := hx.size
      have eD := fD.cell
      have kD := fD.unfrozen
      have lD := fD.lt
      go_wp2_with fail
      refine ⟨rfl, Reg.Kp.trans (Reg.Kp.of_set _ (fun h => Nat.not_lt.2 hD h)) (Reg.Kp.of_set _ (fun h => Nat.not_lt.2 hD h)), ?_⟩
      clear eD kD lD hsz sA
      replace oV := own_far (own_far oV fD (i := 0) (by decide) (.slice aV n cV)) (fD.set 0 (.slice aV n cV)) (i := 1) (by decide) (.slice aP m cP)
      replace oP := own_far (own_far oP fD (i := 0) (by decide) (.slice aV n cV)) (fD.set 0 (.slice aV n cV)) (i := 1) (by decide) (.slice aP m cP)
      replace sB := (sB.far (b := D) (i := 0) (by omega) (.slice aV n cV)).far (b := D) (i := 1) (by omega) (.slice aP m cP)
      replace sC := (sC.far (b := D) (i := 0) (by omega) (.slice aV n cV)).far (b := D) (i := 1) (by omega) (.slice aP m cP)
      replace hx := (hx.setCell (p := ⟨D, 0, none⟩) hD (.slice aV n cV)).setCell (p := ⟨D, 1, none⟩) hD (.slice aP m cP)
      have fD' : Blk _ D 25 #[.slice aV n cV, .slice aP m cP] := (fD.set 0 (.slice aV n cV)).set 1 (.slice aP m cP)
      clear fD
      have fD := fD'
      clear fD'
      refine Reg.wpR_end (by kernel_rfl) (fun z2 hN => ?_)
      replace hx := hx.trans (Below.mono hN hx.size)
      replace sB := sB.grow hN
      replace sC := sC.grow hN
      replace fD := fD.grow hN
      replace oV := own_grow oV hN
      replace oP := own_grow oP hN
      clear hN
      have eD := fD.cell
      have lD := fD.lt
      go_wp2_with fail
      clear eD lD
      have hI : ShI z2 wT.heap.size (w.heap.size + 1) D (w.heap.size + 1 + 1) 25 3 44 (bx, by_) (.slice aV n cV) (.slice aP m cP) vs ps 0 := ⟨fD, sB, sC, by rw [hnl]; exact oV, by rw [hml]; simpa using oP⟩
      have HI := Lib.hid hI
      have HX := Lib.hid hx
      clear hI hx sB sC fD oV oP
      go_loopw [17] (fun i wr => ∃ k : Nat, k ≤ m ∧ i = .int .i64 k ∧ ShI wr wT.heap.size (w.heap.size + 1) D (w.heap.size + 1 + 1) 25 3 44 (bx, by_) (.slice aV n cV) (.slice aP m cP) vs ps k ∧ Below wT.heap.size wT wr) (fun i _ => m - (intOf i).toNat)
      case atStart => exact ⟨0, Nat.zero_le _, rfl, HI.out, HX.out⟩
      case round =>
        clear HI HX
        obtain ⟨k, hk, rfl, ⟨fD, sB, sC, oV, oP⟩, hbw⟩ := hrel
        rw [hnl] at oV
        rw [hml] at oP
        have hbs := hbw.size
        have lD := fD.lt
        by_cases hlt : k < m
        · have hlk : k < ps.length := by omega
          obtain ⟨g, rfl⟩ : ∃ g, aP = some ⟨g, 0, none⟩ := by
            rcases oP.2 with ⟨h1, h2⟩ | ⟨g, cap, cur, h1, _⟩
            · simp at h1; omega
            · injection h1 with h1; exact ⟨g, h1⟩
          obtain ⟨h5, h6⟩ := ptsV_at _ k _ (mix_at (shP (bx, by_)) ps k hlk)
          have c0 : wr.cell? ⟨g, k * 2, none⟩ = some (.int .i64 ps[k].1) := (oP.cellAt (k * 2) (by omega)).trans h5
          have c1 : wr.cell? ⟨g, k * 2 + 1, none⟩ = some (.int .i64 ps[k].2) := (oP.cellAt (k * 2 + 1) (by omega)).trans h6
          have hfar := HF.out ps[k] (List.getElem_mem hlk)
          have HM := Lib.hid (mix_set (shP (bx, by_)) ps k hlk)
          have HL : Hid (((ps.take k).map (shP (bx, by_)) ++ ps.drop k).length = ps.length) := Lib.hid (by simp; omega)
          clear h5 h6
          generalize ps[k] = q at *
          obtain ⟨qx, qy⟩ := q
          simp only at c0 c1 hfar
          obtain ⟨f1, f2, f3, f4⟩ := hfar
          have hg1 : wT.heap.size ≤ g := (oP.lt g rfl).1
          have hg2 : g < wr.heap.size := (oP.lt g rfl).2
          have hgD := own_apart_blk oP fD (by decide) g rfl
          have hgC := own_apart_blk oP sC (by decide) g rfl
          have hov : (Value.slice aV n cV).ownBlock ≠ some g := by
            rcases own_apart oV oP (by decide) with h | h
            · rw [h]; simp
            · exact h
          have hgB : g ≠ w.heap.size + 1 := by omega
          have eD := fD.cell
          have eB := sB.cell
          have lB := sB.lt
          have hlt' : (k : Int) < m := by omega
          go_wp2_with fail
          refine Reg.wp_region_E (fun b => b < wr.heap.size) (fun j => decide (11 ≤ j)) 12 rfl (by kernel_rfl) ?_
          refine Reg.wpE_hoist [0, 1, 2, 3, 4, 5, 6, 7, 8] 3 rfl (by kernel_rfl) (by kernel_rfl) (by kernel_rfl) (fun u => ?_)
          simp only [Reg.pickL, List.drop]
          repeat (go_big_quiet_step ((first | fail)))
          refine wpQuiet_nil ?_
          clear eD eB lB lD
          refine Reg.wpE_main 9 (by kernel_rfl) (fun x1 hN => ?_)
          simp only [Reg.pickL, List.drop]
          go_wp2_with fail
          refine (vadd_any qx qy bx by_ _ f1 f2 f3 f4 h1 h2 h3 h4).mono ?_
          rintro e w5 ⟨rfl, hb2⟩
          go_wp2_with fail
          refine ⟨rfl, .inr (Reg.Kp.of_gr hb2), ?_⟩
          have hN' : Below wr.heap.size wr x1 := hN
          have hy := hN'.trans (hb2.mono hN'.size)
          clear hN'
          clear hN hb2
          refine Reg.wpE_hoist [10] 1 rfl (by kernel_rfl) (by kernel_rfl) (by kernel_rfl) (fun u => ?_)
          simp only [Reg.pickL, List.drop]
          repeat (go_big_quiet_step ((first | fail)))
          refine wpQuiet_nil ?_
          refine Reg.wpE_main 11 (by kernel_rfl) (fun x2 hN => ?_)
          simp only [Reg.pickL, List.drop]
          replace hy := hy.trans (Below.mono hN hy.size)
          clear hN
          replace c0 := (hy.cell (p := ⟨g, k * 2, none⟩) hg2).trans c0
          replace c1 := (hy.cell (p := ⟨g, k * 2 + 1, none⟩) hg2).trans c1
          replace fD := fD.grow hy
          replace sB := sB.grow hy
          replace sC := sC.grow hy
          replace oV := own_grow oV hy
          replace oP := own_grow oP hy
          replace hbw := hbw.trans (Below.mono hy hbw.size)
          clear hy
          have kf := oP.frozenAt
          have lg := (oP.lt g rfl).2
          go_wp2_with fail
          refine ⟨rfl, .inl rfl, ?_⟩
          clear c0 c1 kf lg
          replace fD := (fD.far (i := k * 2) hgD (.int .i64 (qx + bx))).far (i := k * 2 + 1) hgD (.int .i64 (qy + by_))
          replace sB := (sB.far (i := k * 2) hgB (.int .i64 (qx + bx))).far (i := k * 2 + 1) hgB (.int .i64 (qy + by_))
          replace sC := (sC.far (i := k * 2) hgC (.int .i64 (qx + bx))).far (i := k * 2 + 1) hgC (.int .i64 (qy + by_))
          replace oV := ownsRow_setCell_other (ownsRow_setCell_other oV (a := ⟨g, k * 2, none⟩) hov (.int .i64 (qx + bx))) (a := ⟨g, k * 2 + 1, none⟩) hov (.int .i64 (qy + by_))
          replace oP := ((oP.stored (k * 2) (.int .i64 (qx + bx))).1.stored (k * 2 + 1) (.int .i64 (qy + by_))).1
          replace hbw := (hbw.setCell (p := ⟨g, k * 2, none⟩) hg1 (.int .i64 (qx + bx))).setCell (p := ⟨g, k * 2 + 1, none⟩) hg1 (.int .i64 (qy + by_))
          have e := ptsV_set ((ps.take k).map (shP (bx, by_)) ++ ps.drop k) k (qx + bx, qy + by_) (by rw [HL.out]; exact hlk)
          simp only at e
          rw [e, show (qx + bx, qy + by_) = shP (bx, by_) (qx, qy) from rfl, HM.out] at oP
          clear e
          refine Reg.wpE_end (by kernel_rfl) (fun x3 hN => ?_)
          go_wp2_with fail
          exact ⟨⟨k + 1, by omega, by go_num, ⟨fD.grow hN, sB.grow hN, sC.grow hN, by rw [hnl]; exact own_grow oV hN, by rw [hml]; exact own_grow oP hN⟩, hbw.trans (Below.mono hN hbw.size)⟩, by simp [intOf]; omega⟩
        · have hkm : k = m := by omega
          have hin : ¬ (k : Int) < m := by omega
          subst hkm
          rw [List.take_of_length_le (by omega), List.drop_eq_nil_of_le (by omega), List.append_nil] at oP
          have eD := fD.cell
          have eC := sC.cell
          have kC := sC.unfrozen
          have lC := sC.lt
          have HV := Lib.hid (own_ints (own_far (own_far oV sC (i := 0) (by decide) (.slice aV n cV)) (sC.set 0 (.slice aV n cV)) (i := 1) (by decide) (.slice aP k cP)))
          have HP := Lib.hid (own_pts (own_far (own_far oP sC (i := 0) (by decide) (.slice aV n cV)) (sC.set 0 (.slice aV n cV)) (i := 1) (by decide) (.slice aP k cP)))
          have HB := Lib.hid ((((hxw.trans (hbw.mono (by omega))).setCell (p := ⟨w.heap.size + 1 + 1, 0, none⟩) (by simp; omega) (.slice aV n cV)).setCell (p := ⟨w.heap.size + 1 + 1, 1, none⟩) (by simp; omega) (.slice aP k cP)))
          have HC := Lib.hid ((sC.set 0 (.slice aV n cV)).set 1 (.slice aP k cP))
          clear hbw oV oP sC sB fD
          go_wp2_with fail
          refine bodyPost_ret (res_path2 HC.out rfl rfl rfl rfl) rfl ?_
          unfold ShiftPost
          rw [hnl, hml]
          exact ⟨_, _, _, _, rfl, hV, hP, mP, HV.out, HP.out, HB.out⟩
  · simp only [Reg.pickL, List.drop]
    replace hx := hx.trans (Below.mono hN hx.size)
    replace sA := sA.grow hN
    replace sB := sB.grow hN
    replace sC := sC.grow hN
    try replace fD := fD.grow hN
    try replace oV := own_grow oV hN
    try replace oP := own_grow oP hN
    clear hN
    have hsz := hx.size
    go_wp2_with fail
    refine ⟨rfl, Reg.Kp.of_gr ((Below.refl _ _).alloc (Nat.le_refl _) _), ?_⟩
    replace sA := sA.alloc (.cells #[.slice none 0 0, .slice none 0 0] 25)
    replace sB := sB.alloc (.cells #[.slice none 0 0, .slice none 0 0] 25)
    replace sC := sC.alloc (.cells #[.slice none 0 0, .slice none 0 0] 25)
    try replace oV := oV.alloc (.cells #[.slice none 0 0, .slice none 0 0] 25)
    try replace oP := oP.alloc (.cells #[.slice none 0 0, .slice none 0 0] 25)
    replace hx := hx.alloc hx.size (.cells #[.slice none 0 0, .slice none 0 0] 25)
    have fD := Blk.new x1 25 #[.slice none 0 0, .slice none 0 0]
    have hD : wT.heap.size ≤ x1.heap.size := hsz
    clear hsz
    generalize x1.heap.size = D at *
    refine Reg.wpR_main 2 (by kernel_rfl) (fun x2 hN => ?_)
    simp only [Reg.pickL, List.drop]
    replace hx := hx.trans (Below.mono hN hx.size)
    replace sA := sA.grow hN
    replace sB := sB.grow hN
    replace sC := sC.grow hN
    try replace fD := fD.grow hN
    try replace oV := own_grow oV hN
    try replace oP := own_grow oP hN
    clear hN
    have hsz := hx.size
    go_wp2_with fail
    refine (KI.out _ (hxw.trans (hx.mono (by omega)))).mono ?_
    rintro e wc ⟨vV, rfl, oV, hb2⟩
    obtain ⟨aV, cV, rfl, hV, mV⟩ := own_cap2 oV
    go_wp2_with fail
    refine ⟨rfl, Reg.Kp.of_gr hb2, ?_⟩
    replace hx := hx.trans (Below.mono hb2 hx.size)
    replace sA := sA.grow hb2
    replace sB := sB.grow hb2
    replace sC := sC.grow hb2
    try replace fD := fD.grow hb2
    try replace oV := own_grow oV hb2
    replace oV := own_base oV hsz
    clear hb2 hsz
    refine Reg.wpR_main 5 (by kernel_rfl) (fun x3 hN => ?_)
    simp only [Reg.pickL, List.drop]
    replace hx := hx.trans (Below.mono hN hx.size)
    replace sA := sA.grow hN
    replace sB := sB.grow hN
    replace sC := sC.grow hN
    try replace fD := fD.grow hN
    try replace oV := own_grow oV hN
    try replace oP := own_grow oP hN
    clear hN
    have hsz := hx.size
    go_wp2_with fail
    refine (KP.out _ (hxw.trans (hx.mono (by omega)))).mono ?_
    rintro e wc ⟨vP, rfl, oP, hb2⟩
    obtain ⟨aP, cP, rfl, hP, mP⟩ := own_cap2 oP
    go_wp2_with fail
    refine ⟨rfl, Reg.Kp.of_gr hb2, ?_⟩
    replace hx := hx.trans (Below.mono hb2 hx.size)
    replace sA := sA.grow hb2
    replace sB := sB.grow hb2
    replace sC := sC.grow hb2
    try replace fD := fD.grow hb2
    try replace oV := own_grow oV hb2
    replace oP := own_base oP hsz
    clear hb2 hsz
    refine Reg.wpR_hoist [6] 1 rfl (by kernel_rfl) (by kernel_rfl) (fun u => ?_)
    simp only [Reg.pickL, List.drop]
    repeat (go_big_quiet_step ((first | fail)))
    refine wpQuiet_nil ?_
    refine Reg.wpR_main 8 (by kernel_rfl) (fun z1 hN => ?_)
    simp only [Reg.pickL, List.drop]
    replace hx := hx.trans (Below.mono hN hx.size)
    replace sA := sA.grow hN
    replace sB := sB.grow hN
    replace sC := sC.grow hN
    try replace fD := fD.grow hN
    try replace oV := own_grow oV hN
    try replace oP := own_grow oP hN
    clear hN
    have hsz := hx.size
    have eD := fD.cell
    have kD := fD.unfrozen
    have lD := fD.lt
    go_wp2_with fail
    refine ⟨rfl, Reg.Kp.trans (Reg.Kp.of_set _ (fun h => Nat.not_lt.2 hD h)) (Reg.Kp.of_set _ (fun h => Nat.not_lt.2 hD h)), ?_⟩
    clear eD kD lD hsz sA
    replace oV := own_far (own_far oV fD (i := 0) (by decide) (.slice aV n cV)) (fD.set 0 (.slice aV n cV)) (i := 1) (by decide) (.slice aP m cP)
    replace oP := own_far (own_far oP fD (i := 0) (by decide) (.slice aV n cV)) (fD.set 0 (.slice aV n cV)) (i := 1) (by decide) (.slice aP m cP)
    replace sB := (sB.far (b := D) (i := 0) (by omega) (.slice aV n cV)).far (b := D) (i := 1) (by omega) (.slice aP m cP)
    replace sC := (sC.far (b := D) (i := 0) (by omega) (.slice aV n cV)).far (b := D) (i := 1) (by omega) (.slice aP m cP)
    replace hx := (hx.setCell (p := ⟨D, 0, none⟩) hD (.slice aV n cV)).setCell (p := ⟨D, 1, none⟩) hD (.slice aP m cP)
    have fD' : Blk _ D 25 #[.slice aV n cV, .slice aP m cP] := (fD.set 0 (.slice aV n cV)).set 1 (.slice aP m cP)
    clear fD
    have fD := fD'
    clear fD'
    refine Reg.wpR_end (by kernel_rfl) (fun z2 hN => ?_)
    replace hx := hx.trans (Below.mono hN hx.size)
    replace sB := sB.grow hN
    replace sC := sC.grow hN
    replace fD := fD.grow hN
    replace oV := own_grow oV hN
    replace oP := own_grow oP hN
    clear hN
    have eD := fD.cell
    have lD := fD.lt
    go_wp2_with fail
    clear eD lD
    have hI : ShI z2 wT.heap.size (w.heap.size + 1) D (w.heap.size + 1 + 1) 25 3 44 (bx, by_) (.slice aV n cV) (.slice aP m cP) vs ps 0 := ⟨fD, sB, sC, by rw [hnl]; exact oV, by rw [hml]; simpa using oP⟩
    have HI := Lib.hid hI
    have HX := Lib.hid hx
    clear hI hx sB sC fD oV oP
    go_loopw [17] (fun i wr => ∃ k : Nat, k ≤ m ∧ i = .int .i64 k ∧ ShI wr wT.heap.size (w.heap.size + 1) D (w.heap.size + 1 + 1) 25 3 44 (bx, by_) (.slice aV n cV) (.slice aP m cP) vs ps k ∧ Below wT.heap.size wT wr) (fun i _ => m - (intOf i).toNat)
    case atStart => exact ⟨0, Nat.zero_le _, rfl, HI.out, HX.out⟩
    case round =>
      clear HI HX
      obtain ⟨k, hk, rfl, ⟨fD, sB, sC, oV, oP⟩, hbw⟩ := hrel
      rw [hnl] at oV
      rw [hml] at oP
      have hbs := hbw.size
      have lD := fD.lt
      by_cases hlt : k < m
      · have hlk : k < ps.length := by omega
        obtain ⟨g, rfl⟩ : ∃ g, aP = some ⟨g, 0, none⟩ := by
          rcases oP.2 with ⟨h1, h2⟩ | ⟨g, cap, cur, h1, _⟩
          · simp at h1; omega
          · injection h1 with h1; exact ⟨g, h1⟩
        obtain ⟨h5, h6⟩ := ptsV_at _ k _ (mix_at (shP (bx, by_)) ps k hlk)
        have c0 : wr.cell? ⟨g, k * 2, none⟩ = some (.int .i64 ps[k].1) := (oP.cellAt (k * 2) (by omega)).trans h5
        have c1 : wr.cell? ⟨g, k * 2 + 1, none⟩ = some (.int .i64 ps[k].2) := (oP.cellAt (k * 2 + 1) (by omega)).trans h6
        have hfar := HF.out ps[k] (List.getElem_mem hlk)
        have HM := Lib.hid (mix_set (shP (bx, by_)) ps k hlk)
        have HL : Hid (((ps.take k).map (shP (bx, by_)) ++ ps.drop k).length = ps.length) := Lib.hid (by simp; omega)
        clear h5 h6
        generalize ps[k] = q at *
        obtain ⟨qx, qy⟩ := q
        simp only at c0 c1 hfar
        obtain ⟨f1, f2, f3, f4⟩ := hfar
        have hg1 : wT.heap.size ≤ g := (oP.lt g rfl).1
        have hg2 : g < wr.heap.size := (oP.lt g rfl).2
        have hgD := own_apart_blk oP fD (by decide) g rfl
        have hgC := own_apart_blk oP sC (by decide) g rfl
        have hov : (Value.slice aV n cV).ownBlock ≠ some g := by
          rcases own_apart oV oP (by decide) with h | h
          · rw [h]; simp
          · exact h
        have hgB : g ≠ w.heap.size + 1 := by omega
        have eD := fD.cell
        have eB := sB.cell
        have lB := sB.lt
        have hlt' : (k : Int) < m := by omega
        go_wp2_with fail
        refine Reg.wp_region_E (fun b => b < wr.heap.size) (fun j => decide (11 ≤ j)) 12 rfl (by kernel_rfl) ?_
        refine Reg.wpE_hoist [0, 1, 2, 3, 4, 5, 6, 7, 8] 3 rfl (by kernel_rfl) (by kernel_rfl) (by kernel_rfl) (fun u => ?_)
        simp only [Reg.pickL, List.drop]
        repeat (go_big_quiet_step ((first | fail)))
        refine wpQuiet_nil ?_
        clear eD eB lB lD
        refine Reg.wpE_main 9 (by kernel_rfl) (fun x1 hN => ?_)
        simp only [Reg.pickL, List.drop]
        go_wp2_with fail
        refine (vadd_any qx qy bx by_ _ f1 f2 f3 f4 h1 h2 h3 h4).mono ?_
        rintro e w5 ⟨rfl, hb2⟩
        go_wp2_with fail
        refine ⟨rfl, .inr (Reg.Kp.of_gr hb2), ?_⟩
        have hN' : Below wr.heap.size wr x1 := hN
        have hy := hN'.trans (hb2.mono hN'.size)
        clear hN'
        clear hN hb2
        refine Reg.wpE_hoist [10] 1 rfl (by kernel_rfl) (by kernel_rfl) (by kernel_rfl) (fun u => ?_)
        simp only [Reg.pickL, List.drop]
        repeat (go_big_quiet_step ((first | fail)))
        refine wpQuiet_nil ?_
        refine Reg.wpE_main 11 (by kernel_rfl) (fun x2 hN => ?_)
        simp only [Reg.pickL, List.drop]
        replace hy := hy.trans (Below.mono hN hy.size)
        clear hN
        replace c0 := (hy.cell (p := ⟨g, k * 2, none⟩) hg2).trans c0
        replace c1 := (hy.cell (p := ⟨g, k * 2 + 1, none⟩) hg2).trans c1
        replace fD := fD.grow hy
        replace sB := sB.grow hy
        replace sC := sC.grow hy
        replace oV := own_grow oV hy
        replace oP := own_grow oP hy
        replace hbw := hbw.trans (Below.mono hy hbw.size)
        clear hy
        have kf := oP.frozenAt
        have lg := (oP.lt g rfl).2
        go_wp2_with fail
        refine ⟨rfl, .inl rfl, ?_⟩
        clear c0 c1 kf lg
        replace fD := (fD.far (i := k * 2) hgD (.int .i64 (qx + bx))).far (i := k * 2 + 1) hgD (.int .i64 (qy + by_))
        replace sB := (sB.far (i := k * 2) hgB (.int .i64 (qx + bx))).far (i := k * 2 + 1) hgB (.int .i64 (qy + by_))
        replace sC := (sC.far (i := k * 2) hgC (.int .i64 (qx + bx))).far (i := k * 2 + 1) hgC (.int .i64 (qy + by_))
        replace oV := ownsRow_setCell_other (ownsRow_setCell_other oV (a := ⟨g, k * 2, none⟩) hov (.int .i64 (qx + bx))) (a := ⟨g, k * 2 + 1, none⟩) hov (.int .i64 (qy + by_))
        replace oP := ((oP.stored (k * 2) (.int .i64 (qx + bx))).1.stored (k * 2 + 1) (.int .i64 (qy + by_))).1
        replace hbw := (hbw.setCell (p := ⟨g, k * 2, none⟩) hg1 (.int .i64 (qx + bx))).setCell (p := ⟨g, k * 2 + 1, none⟩) hg1 (.int .i64 (qy + by_))
        have e := ptsV_set ((ps.take k).map (shP (bx, by_)) ++ ps.drop k) k (qx + bx, qy + by_) (by rw [HL.out]; exact hlk)
        simp only at e
        rw [e, show (qx + bx, qy + by_) = shP (bx, by_) (qx, qy) from rfl, HM.out] at oP
        clear e
        refine Reg.wpE_end (by kernel_rfl) (fun x3 hN => ?_)
        go_wp2_with fail
        exact ⟨⟨k + 1, by omega, by go_num, ⟨fD.grow hN, sB.grow hN, sC.grow hN, by rw [hnl]; exact own_grow oV hN, by rw [hml]; exact own_grow oP hN⟩, hbw.trans (Below.mono hN hbw.size)⟩, by simp [intOf]; omega⟩
      · have hkm : k = m := by omega
        have hin : ¬ (k : Int) < m := by omega
        subst hkm
        rw [List.take_of_length_le (by omega), List.drop_eq_nil_of_le (by omega), List.append_nil] at oP
        have eD := fD.cell
        have eC := sC.cell
        have kC := sC.unfrozen
        have lC := sC.lt
        have HV := Lib.hid (own_ints (own_far (own_far oV sC (i := 0) (by decide) (.slice aV n cV)) (sC.set 0 (.slice aV n cV)) (i := 1) (by decide) (.slice aP k cP)))
        have HP := Lib.hid (own_pts (own_far (own_far oP sC (i := 0) (by decide) (.slice aV n cV)) (sC.set 0 (.slice aV n cV)) (i := 1) (by decide) (.slice aP k cP)))
        have HB := Lib.hid ((((hxw.trans (hbw.mono (by omega))).setCell (p := ⟨w.heap.size + 1 + 1, 0, none⟩) (by simp; omega) (.slice aV n cV)).setCell (p := ⟨w.heap.size + 1 + 1, 1, none⟩) (by simp; omega) (.slice aP k cP)))
        have HC := Lib.hid ((sC.set 0 (.slice aV n cV)).set 1 (.slice aP k cP))
        clear hbw oV oP sC sB fD
        go_wp2_with fail
        refine bodyPost_ret (res_path2 HC.out rfl rfl rfl rfl) rfl ?_
        unfold ShiftPost
        rw [hnl, hml]
        exact ⟨_, _, _, _, rfl, hV, hP, mP, HV.out, HP.out, HB.out⟩
end Go.Proofs.Ytjkpbkcbimojoaa
