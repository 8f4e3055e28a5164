/- Contract of the reference's Shift. -/
import Derived.Test.YtjkpbkcbimojoaaQc
namespace Go.Proofs.Ytjkpbkcbimojoaa
open Go.RowKit

theorem res_rpath {tmps : Array Value} {W : World} {g tr : Nat} {t : TypeId} {cs : Array Value} {v0 v1 : Value} {fn : Func} (hB : Blk W g t cs) (hfn : fn.results = #[.cell tr 35]) (ht : tmps.getD tr undef = .pointer (some ⟨g, 0, none⟩))
    (h0 : cs[0]? = some v0) (h1 : cs[1]? = some v1) : (results fn tmps).run Try.prog W = .ok (.agg #[v0, v1]) W := by
  have g0 := (hB.cell 0).trans h0
  have g1 := (hB.cell 1).trans h1
  have ht' : tmps[tr]?.getD undef = .pointer (some ⟨g, 0, none⟩) := by simpa using ht
  simp [results, hfn, ht', go_sem, g0, g1]
/-- Shift of the reference, after k points. -/
def RsI (W : World) (B G : Nat) (tP tI tQ : TypeId) (b : Int × Int) (v : Value) (vs : List Int) (ps : List (Int × Int)) (k : Nat) : Prop :=
  ∃ p, Blk W G tP #[v, p] ∧ W.ownsRow B tI 1 v vs.length (intsV vs) ∧ W.ownsRow B tQ 2 p k (ptsV ((ps.take k).map (shP b)))

set_option maxRecDepth 100000 in
set_option maxHeartbeats 8000000 in
theorem rshift_any (a b : Option Addr) (n m c d : Nat) (bx by_ : Int) (vs : List Int) (ps : List (Int × Int)) (w : World) (hn : n ≤ 1000) (hm : m ≤ 2000) (ha : a = none → n = 0 ∧ c = 0)
    (h1 : -1073741824 ≤ bx) (h2 : bx ≤ 1073741824) (h3 : -1073741824 ≤ by_) (h4 : by_ ≤ 1073741824) (hf : ∀ q ∈ ps, -1073741824 ≤ q.1 ∧ q.1 ≤ 1073741824 ∧ -1073741824 ≤ q.2 ∧ q.2 ≤ 1073741824)
    (hv : RInts w w.heap.size a n vs) (hp : RPts w w.heap.size b m ps) :
    Calls Try.prog 30 #[.agg #[.slice a n c, .slice b m d], .agg #[.int .i64 bx, .int .i64 by_]] w (ShiftPost w (bx, by_) vs ps) := by
  obtain ⟨iI, hiI, hz0I, hz1I, hz2I⟩ := info_parts infoI2
  obtain ⟨iQ, hiQ, hz0Q, hz1Q, hz2Q⟩ := info_parts infoP2
  have hnl := hv.1
  have hml := hp.1
  have HF := Lib.hid hf
  have HV := Lib.hid hv
  have HP := Lib.hid hp
  have HA := Lib.hid ha
  clear hv hp hf ha
  have s1 := ((Blk.new w 35 #[.slice a n c, .slice b m d]).alloc (.cells #[.int .i64 bx, .int .i64 by_] 44)).alloc (.cells #[.slice none 0 0, .slice none 0 0] 35)
  have s2 := (Blk.new (w.alloc (.cells #[.slice a n c, .slice b m d] 35)) 44 #[.int .i64 bx, .int .i64 by_]).alloc (.cells #[.slice none 0 0, .slice none 0 0] 35)
  have s3 := Blk.new ((w.alloc (.cells #[.slice a n c, .slice b m d] 35)).alloc (.cells #[.int .i64 bx, .int .i64 by_] 44)) 35 #[.slice none 0 0, .slice none 0 0]
  have hxw : Below w.heap.size w (((w.alloc (.cells #[.slice a n c, .slice b m d] 35)).alloc (.cells #[.int .i64 bx, .int .i64 by_] 44)).alloc (.cells #[.slice none 0 0, .slice none 0 0] 35)) := by (repeat (first | exact Below.refl _ _ | assumption | refine Below.drew ?_ | refine Below.setCell ?_ (by simp; try omega) _ | refine Below.alloc ?_ (by simp; try omega) _))
  have hwz : (((w.alloc (.cells #[.slice a n c, .slice b m d] 35)).alloc (.cells #[.int .i64 bx, .int .i64 by_] 44)).alloc (.cells #[.slice none 0 0, .slice none 0 0] 35)).heap.size = w.heap.size + 1 + 1 + 1 := by simp
  simp only [World.size_alloc] at s1 s2 s3
  go_enter Try.func30, Try.ntmps30
  generalize hwT : ((w.alloc (.cells #[.slice a n c, .slice b m d] 35)).alloc (.cells #[.int .i64 bx, .int .i64 by_] 44)).alloc (.cells #[.slice none 0 0, .slice none 0 0] 35) = wT at *
  have l1 := s1.lt
  have g0 : wT.cell? ⟨w.heap.size, 0, none⟩ = some (.slice a n c) := s1.cell 0
  have S1 := Lib.hid s1
  have S2 := Lib.hid s2
  have S3 := Lib.hid s3
  clear s1 s2 s3
  have hOE : (wT.alloc (.cells #[] 3)).ownsRow (w.heap.size + 1 + 1 + 1) 3 1 (.slice (some ⟨w.heap.size + 1 + 1 + 1, 0, none⟩) 0 0) 0 [] := by
    have h := own_empty wT wT.heap.size 3 1 (Nat.le_refl _)
    rw [hwz] at h
    exact h
  have HOE := Lib.hid hOE
  have HWT := Lib.hid hwT
  clear hOE hwT
  go_wp2_with (at_builtin; rw [HWT.out]; (refine wpList_append_src rfl _ _ 22 rfl (w.heap.size + 1 + 1 + 1) 3 iI _ 1 8 Try.underlying22 hiI hz0I hz1I hz2I rfl (by decide) _ _ _ rfl HOE.out a n c (intsV vs) rfl HA.out ?c0 ?c1 ?c2 ?c3 ?c4 ?c5 ?_))
  case c0 => simp [intsV, hnl]
  case c1 => exact (HV.out.below (hxw.alloc (by omega) (.cells #[] 3))).news
  case c2 => exact intsV_one _
  case c3 => unfold maxLen; omega
  case c4 => omega
  case c5 => simp; omega
  intro v' w8 hown hg
  obtain ⟨a8, c8, rfl, hc8⟩ := own_slice hown
  obtain ⟨hc9, hc10⟩ : n ≤ c8 ∧ c8 ≤ maxLen := by obtain ⟨_, _, e, h⟩ := own_cap2 hown; simp only [Value.slice.injEq] at e; obtain ⟨rfl, -, rfl⟩ := e; simpa using h
  have hb8 : Below (w.heap.size + 1 + 1 + 1) wT w8 := ((Below.refl _ _).alloc (by omega) (.cells #[] 3)).grown hg (by simp; omega) (fun q hq => by simp [Value.ownBlock] at hq; omega)
  have hsz8 : w.heap.size + 1 + 1 + 1 ≤ w8.heap.size := by have := hb8.size; omega
  have f8 := Blk.new w8 35 #[.slice a8 (0 + n) c8, .slice none 0 0]
  have hI : RsI (w8.alloc (.cells #[.slice a8 (0 + n) c8, .slice none 0 0] 35)) (w.heap.size + 1 + 1 + 1) w8.heap.size 35 3 44 (bx, by_) (.slice a8 (0 + n) c8) vs ps 0 :=
    ⟨_, f8, by rw [hnl]; simpa using hown.alloc (.cells #[.slice a8 (0 + n) c8, .slice none 0 0] 35), World.ownsRow_nil _ _ _ _⟩
  rw [Nat.zero_add] at hI
  have HI := Lib.hid hI
  have HB8 := Lib.hid (hb8.alloc (by omega) (.cells #[.slice a8 n c8, .slice none 0 0] 35))
  clear hown hg f8 hI hb8 HOE
  go_wp2_with fail
  generalize hG : w8.heap.size = G at *
  generalize hw9 : w8.alloc (.cells #[.slice a8 n c8, .slice none 0 0] 35) = w9 at *
  clear hG hw9 HWT hc8
  go_loopw [6] (fun i wr => ∃ k : Nat, k ≤ m ∧ i = .int .i64 k ∧ RsI wr (w.heap.size + 1 + 1 + 1) G 35 3 44 (bx, by_) (.slice a8 n c8) vs ps k ∧ Below (w.heap.size + 1 + 1 + 1) wT wr) (fun i _ => m - (intOf i).toNat)
  case atStart => exact ⟨0, Nat.zero_le _, rfl, HI.out, HB8.out⟩
  case round =>
    clear HI HB8
    obtain ⟨k, hk, rfl, ⟨p, fG, oV, oP⟩, hb⟩ := hrel
    have hbw := hxw.trans (hb.mono (by omega))
    have hszr : w.heap.size + 1 + 1 + 1 ≤ wr.heap.size := by have := hb.size; omega
    have S1r := S1.out.below hb (by omega)
    have S2r := S2.out.below hb (by omega)
    have l1r := S1r.lt
    have l2r := S2r.lt
    have q1 : wr.cell? ⟨w.heap.size, 1, none⟩ = some (.slice b m d) := S1r.cell 1
    have q2 : wr.cell? ⟨w.heap.size + 1, 0, none⟩ = some (.int .i64 bx) := S2r.cell 0
    have q3 : wr.cell? ⟨w.heap.size + 1, 1, none⟩ = some (.int .i64 by_) := S2r.cell 1
    clear S1r S2r
    by_cases hlt : k < m
    · have hlk : k < ps.length := by omega
      obtain ⟨vb, vo, ha, hvB, c1, c2⟩ := (HP.out.below hbw).2 k ps[k] (List.getElem?_eq_getElem hlk)
      subst ha
      obtain ⟨f1, f2, f3, f4⟩ := HF.out ps[k] (List.getElem_mem hlk)
      have HT : Hid (ptsV ((ps.take (k + 1)).map (shP (bx, by_))) = ptsV ((ps.take k).map (shP (bx, by_))) ++ ptsV [shP (bx, by_) ps[k]]) := Lib.hid (by rw [take_snoc ps k hlk, List.map_append, ptsV_append]; rfl)
      have hvw : vb < wr.heap.size := by omega
      have hlt' : (k : Int) < m := by omega
      generalize ps[k] = q at *
      obtain ⟨qx, qy⟩ := q
      simp only at c1 c2 f1 f2 f3 f4
      have eG := fG.cell
      have lG := fG.lt
      go_wp2_with fail
      refine Reg.wp_region_soft 9 (by first | exact hb2 | exact Below.refl _ _) (by kernel_rfl) (by kernel_rfl) (fun u => ?_)
      simp only [List.take, List.drop]
      repeat (go_big_quiet_step ((first | (go_at_call 24; exact Reg.calls_aft (radd_any _ _ _ _ _ (by omega) (by omega) (by omega) (by omega) (by omega) (by omega) (by omega) (by omega))))))
      refine wpQuiet_nil ?_
      intro xs hxs
      have hbx := Reg.class_below hxs
      clear hxs
      go_wp2_with fail
      refine ⟨rfl, (Below.refl _ _).alloc (Nat.le_refl _) _, fun z hz => ?_⟩
      have fN : Blk z xs.heap.size 44 (ptsV [(qx + bx, qy + by_)]).toArray := (Blk.new xs _ _).grow hz
      replace fG := ((fG.grow hbx).alloc (.cells (ptsV [(qx + bx, qy + by_)]).toArray 44)).grow hz
      replace oV := own_grow ((own_grow oV hbx).alloc (.cells (ptsV [(qx + bx, qy + by_)]).toArray 44)) hz
      replace oP := own_grow ((own_grow oP hbx).alloc (.cells (ptsV [(qx + bx, qy + by_)]).toArray 44)) hz
      have hxz := ((hbx.trans ((Below.refl _ _).alloc hbx.size (.cells (ptsV [(qx + bx, qy + by_)]).toArray 44))).trans (hz.mono (by have := hbx.size; simp; omega)))
      replace hb := hb.trans (hxz.mono hszr)
      have hszz : w.heap.size + 1 + 1 + 1 ≤ z.heap.size := by have := hb.size; omega
      clear hbx hz hxz eG lG c1 c2 q1 q2 q3
      refine wpList_append_own _ rfl _ _ 23 rfl (w.heap.size + 1 + 1 + 1) 44 iQ _ 2 16 Try.underlying23 hiQ hz0Q hz1Q hz2Q rfl (by decide) _ _ _ rfl oP ⟨xs.heap.size, 0, none⟩ 1 1 (ptsV [(qx + bx, qy + by_)]) rfl rfl fN.news (ptsV_one _) (by unfold maxLen; omega) (by omega) hszz ?_
      rintro p' w4 hown4 hg4 -
      obtain ⟨a4, c4, rfl, _⟩ := own_slice hown4
      replace fG := fG.grown hg4 (own_apart_blk oP fG (by decide))
      replace oV := oV.kept hg4 (own_apart oV oP (by decide))
      replace hb := hb.grown hg4 hszz (fun q hq => (oP.lt q hq).1)
      have kG := fG.unfrozen
      have eG := fG.cell
      have lG := fG.lt
      have HGb : Hid (w.heap.size + 1 + 1 + 1 ≤ G) := Lib.hid hsz8
      have oV2 := own_far oV fG (i := 1) (by decide) (.slice a4 (k + 1) c4)
      have oP2 := own_far hown4 fG (i := 1) (by decide) (.slice a4 (k + 1) c4)
      have fG2 := fG.set 1 (.slice a4 (k + 1) c4)
      have hb2 := hb.setCell (p := ⟨G, 1, none⟩) hsz8 (.slice a4 (k + 1) c4)
      have H2 := Lib.hid (And.intro oV2 (And.intro oP2 (And.intro fG2 hb2)))
      clear oV oP hown4 fG hb oV2 oP2 fG2 hb2 hg4 fN
      go_wp2_with fail
      obtain ⟨oV2, oP2, fG2, hb2⟩ := H2.out
      exact ⟨⟨k + 1, by omega, by go_num, ⟨_, fG2, oV2, by rw [HT.out]; exact oP2⟩, hb2⟩, by simp [intOf]; omega⟩
    · have hkm : k = m := by omega
      have hin : ¬ (k : Int) < m := by omega
      subst hkm
      rw [List.take_of_length_le (by omega)] at oP
      obtain ⟨pa, pc, rfl, hpc, hpm⟩ := own_cap2 oP
      rw [hnl] at oV
      have S3r := S3.out.below hb (by omega)
      have eG := fG.cell
      have lG := fG.lt
      have e3 := S3r.cell
      have k3 := S3r.unfrozen
      have l3 := S3r.lt
      have HV2 := Lib.hid (own_ints (own_far (own_far oV S3r (i := 0) (by decide) (.slice a8 n c8)) (S3r.set 0 (.slice a8 n c8)) (i := 1) (by decide) (.slice pa k pc)))
      have HP2 := Lib.hid (own_pts (own_far (own_far oP S3r (i := 0) (by decide) (.slice a8 n c8)) (S3r.set 0 (.slice a8 n c8)) (i := 1) (by decide) (.slice pa k pc)))
      have HB2 := Lib.hid ((hbw.setCell (p := ⟨w.heap.size + 1 + 1, 0, none⟩) (by simp; omega) (.slice a8 n c8)).setCell (p := ⟨w.heap.size + 1 + 1, 1, none⟩) (by simp; omega) (.slice pa k pc))
      have HR2 := Lib.hid ((S3r.set 0 (.slice a8 n c8)).set 1 (.slice pa k pc))
      clear hb hbw oV oP fG S3r
      go_wp2_with fail
      refine bodyPost_ret (res_rpath HR2.out rfl rfl rfl rfl) rfl ?_
      unfold ShiftPost
      rw [hnl, hml]
      exact ⟨_, _, _, _, rfl, hc9, hpc, hpm, HV2.out, HP2.out, HB2.out⟩
end Go.Proofs.Ytjkpbkcbimojoaa
