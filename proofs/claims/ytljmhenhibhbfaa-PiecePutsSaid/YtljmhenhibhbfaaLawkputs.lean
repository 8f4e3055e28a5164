/- PiecePuts: what is put is convex, has all its corners, and lies in its box; what is not convex either way is not put. -/
import Derived.Test.YtljmhenhibhbfaaKi
import Derived.Test.YtljmhenhibhbfaaOpenc
namespace Go.Proofs.Ytljmhenhibhbfaa
open Go.RowKit

theorem aftK_below (w : World) (u : Option World) (z : World) : Below w.heap.size w (Reg.aftK (fun _ => True) w u z) := by
  have h := Reg.kp_aft (fun _ => True) w u z
  exact ⟨h.os, h.tape, h.output, h.size, fun k hk => h.block k hk trivial⟩

set_option maxRecDepth 100000 in
set_option maxHeartbeats 4000000 in
theorem lputs_any (a : Option Addr) (n c : Nat) (l : List (Int × Int)) (w : World) (hn : n ≤ 9223372036854775807) (hnil : a = none → n = 0 ∧ c = 0) (hl : RPts w w.heap.size a n l) :
    Calls Try.prog 4 #[.slice a n c] w fun e w' => e = .returned (.bool true) ∧ Below w.heap.size w w' := by
  have KB := Lib.hid (bounded_any a n c l w hn hl)
  cases hbd : bndB l
  · rw [hbd] at KB
    clear hbd
    go_enter Try.func4, Try.ntmps4
    go_wp2_with fail
    refine KB.out.mono ?_
    rintro e w2 ⟨rfl, hx⟩
    go_wp2_with fail
    refine (shown_any _).mono ?_
    rintro e w3 ⟨rfl, hb3⟩
    have hx3 := hx.trans (hb3.mono hx.size)
    go_wp2_with fail
    go_ret
    exact ⟨rfl, hx3⟩
  rw [hbd] at KB
  obtain ⟨hC, h16⟩ := bnd_near hbd
  have hll := hl.1
  have hn16 : n ≤ 16 := by omega
  have HLL := Lib.hid hll
  have HC := Lib.hid hC
  have HL := Lib.hid hl
  have KP := Lib.hid (fun W (hW : Below w.heap.size w W) => put_any a n c l W (by omega) hC hnil (hl.grow hW))
  have KC := Lib.hid (fun W (hW : Below w.heap.size w W) => convex_any a n c l W (by omega) hC (hl.grow hW))
  have HPN := Lib.hid (put_none (l := l))
  clear hl hC hll hbd h16 hnil
  go_enter Try.func4, Try.ntmps4
  go_wp2_with fail
  refine KB.out.mono ?_
  rintro e w2 ⟨rfl, hx2⟩
  go_wp2_with fail
  refine (shown_any _).mono ?_
  rintro e w3 ⟨rfl, hb2⟩
  have hx3 := hx2.trans (hb2.mono hx2.size)
  clear hb2 hx2 KB
  go_wp2_with fail
  refine (KP.out _ hx3).mono ?_
  rintro e w4 ⟨hb2, hpost⟩
  have hx4 := hx3.trans (hb2.mono hx3.size)
  clear hb2 hx3 KP
  rcases hpost with ⟨hcv, rfl⟩ | ⟨hcv, g, pc, o, oc, rfl, hg, cg, hr⟩
  · rw [HPN.out hcv] at KC
    clear hcv
    go_wp2_with fail
    refine (KC.out _ hx4).mono ?_
    rintro e w5 ⟨rfl, hb2⟩
    have hx5 := hx4.trans (hb2.mono hx4.size)
    go_wp2_with fail
    go_ret
    exact ⟨rfl, hx5⟩
  · have hCT : ∀ q ∈ turnK l, nearK q := fun q hq => HC.out q (turn_mem.1 hq)
    rw [HLL.out] at cg hr
    have KC2 := Lib.hid (fun W (hW : Below w4.heap.size w4 W) => convex_any o n oc (turnK l) W (by omega) hCT (hr.grow hW))
    have KX := Lib.hid (fun W (hW : Below w4.heap.size w4 W) => box_any o n oc (turnK l) W (by omega) (hr.grow hW))
    have KH := Lib.hid (fun q (hq : q ∈ l) W (hW : Below w4.heap.size w4 W) => has_any o n oc (turnK l) q.1 q.2 W (by omega) hCT (HC.out q hq) (hr.grow hW))
    have HH : Hid (∀ q ∈ l, hasB (turnK l) q = true) := Lib.hid (fun q hq => by unfold hasB; rw [hcv, convex_left hcv (turn_mem.2 hq)]; rfl)
    have HBX : Hid (∀ q ∈ l, ((boxK (turnK l)).1.1 ≤ q.1 ∧ q.1 ≤ (boxK (turnK l)).2.1) ∧ ((boxK (turnK l)).1.2 ≤ q.2 ∧ q.2 ≤ (boxK (turnK l)).2.2)) := Lib.hid (fun q hq => box_all (turn_mem.2 hq))
    rw [hcv] at KC2
    have hrl := hr.1
    clear hcv hCT hr KC HPN hrl
    generalize turnK l = tl at *
    generalize boxK tl = bx at *
    obtain ⟨⟨lx, ly⟩, ⟨ux, uy⟩⟩ := bx
    simp only at KX HBX
    go_wp2_with fail
    refine (KC2.out _ (Below.refl _ _)).mono ?_
    rintro e w5 ⟨rfl, hb5⟩
    have hx5 := hx4.trans (hb5.mono hx4.size)
    have cg5 := (hb5.cell (p := ⟨g, 0, none⟩) hg).trans cg
    have hg5 := Nat.lt_of_lt_of_le hg hb5.size
    go_wp2_with fail
    refine (KX.out _ hb5).mono ?_
    rintro e w6 ⟨rfl, hb2⟩
    have hb6 := hb5.trans (hb2.mono hb5.size)
    have hx6 := hx4.trans (hb6.mono hx4.size)
    clear cg5 hg5 hb2 hb5 hx5 KC2 KX
    go_wp2_with fail
    have fL := (Blk.new w6 23 #[.int .i64 lx, .int .i64 ly]).alloc (.cells #[.int .i64 ux, .int .i64 uy] 23)
    have fU := Blk.new (w6.alloc (.cells #[.int .i64 lx, .int .i64 ly] 23)) 23 #[.int .i64 ux, .int .i64 uy]
    rw [World.size_alloc] at fU
    have hb7 := (hb6.alloc hb6.size (.cells #[.int .i64 lx, .int .i64 ly] 23)).alloc (by have := hb6.size; simp; omega) (.cells #[.int .i64 ux, .int .i64 uy] 23)
    have hx7 := hx4.trans (hb7.mono hx4.size)
    generalize hw7 : (w6.alloc (.cells #[.int .i64 lx, .int .i64 ly] 23)).alloc (.cells #[.int .i64 ux, .int .i64 uy] 23) = w7 at *
    clear hw7 hb6 hx6
    have FL := Lib.hid fL
    have FU := Lib.hid fU
    clear fL fU
    go_loopw [6] (fun iv wr => ∃ k : Nat, k ≤ n ∧ iv = .int .i64 k ∧ Below w7.heap.size w7 wr) (fun iv _ => n - (intOf iv).toNat)
    case atStart => exact ⟨0, Nat.zero_le _, rfl, Below.refl _ _⟩
    case round =>
      obtain ⟨k, hk, rfl, hb⟩ := hrel
      have hx := hx7.trans (hb.mono hx7.size)
      by_cases hlt : k < n
      · have hlk : k < l.length := by rw [HLL.out]; exact hlt
        obtain ⟨vb, vo, hba, hvB, c1, c2⟩ := (HL.out.below hx).2 k l[k] (List.getElem?_eq_getElem hlk)
        subst hba
        have hmem : l[k] ∈ l := List.getElem_mem hlk
        have KH2 := KH.out _ hmem
        rw [HH.out _ hmem] at KH2
        obtain ⟨⟨e1, e2⟩, ⟨e3, e4⟩⟩ := HBX.out _ hmem
        have hvw : vb < wr.heap.size := by have := hx.size; omega
        have hlt' : (k : Int) < n := by omega
        generalize l[k] = q at *
        obtain ⟨qx, qy⟩ := q
        simp only at c1 c2 KH2 e1 e2 e3 e4
        have d1 : ¬ qx < lx := by omega
        have d2 : ¬ ux < qx := by omega
        have d3 : ¬ qy < ly := by omega
        have d4 : ¬ uy < qy := by omega
        have hbw4 := hb7.trans (hb.mono hb7.size)
        have cgr := (hbw4.cell (p := ⟨g, 0, none⟩) hg).trans cg
        have hgr := Nat.lt_of_lt_of_le hg hbw4.size
        have fL := FL.out.grow hb
        have fU := FU.out.grow hb
        have eL := fL.cell
        have eU := fU.cell
        have sL := fL.lt
        have sU := fU.lt
        have hbz := hbw4.alloc hbw4.size (.cells #[.int .i64 qx, .int .i64 qy] 23)
        have KH3 := Lib.hid (fun W (hW : Below (wr.alloc (.cells #[.int .i64 qx, .int .i64 qy] 23)).heap.size (wr.alloc (.cells #[.int .i64 qx, .int .i64 qy] 23)) W) => KH2 W (hbz.trans (hW.mono hbz.size)))
        clear e1 e2 e3 e4 fL fU KH2 hbz hbw4 hmem
        go_wp2_with fail
        refine Reg.wp_region_R (fun _ => True) 34 rfl (by kernel_rfl) ?_
        refine Reg.wpR_hoist [0, 1, 2, 3, 4, 5, 6, 7, 8, 9, 10, 11] 22 rfl (by kernel_rfl) (by kernel_rfl) (fun u => ?_)
        simp only [Reg.pickL, List.drop]
        repeat (go_big_quiet_step ((first | (go_at_call 10; exact Reg.calls_aftK (KH3.out _ (aftK_below _ _ _))))))
        refine wpQuiet_nil ?_
        rw [decide_eq_false (show ¬ qx < lx by omega)]
        refine Reg.wpR_hoist [12, 13, 14, 15, 16, 17, 18] 15 rfl (by kernel_rfl) (by kernel_rfl) (fun u => ?_)
        simp only [Reg.pickL, List.drop]
        repeat (go_big_quiet_step ((first | fail)))
        refine wpQuiet_nil ?_
        rw [decide_eq_false (show ¬ ux < qx by omega)]
        refine Reg.wpR_hoist [19, 20, 21, 22, 23, 24, 25] 8 rfl (by kernel_rfl) (by kernel_rfl) (fun u => ?_)
        simp only [Reg.pickL, List.drop]
        repeat (go_big_quiet_step ((first | fail)))
        refine wpQuiet_nil ?_
        rw [decide_eq_false (show ¬ qy < ly by omega)]
        refine Reg.wpR_hoist [26, 27, 28, 29, 30, 31, 32] 1 rfl (by kernel_rfl) (by kernel_rfl) (fun u => ?_)
        simp only [Reg.pickL, List.drop]
        repeat (go_big_quiet_step ((first | fail)))
        refine wpQuiet_nil ?_
        rw [decide_eq_false (show ¬ uy < qy by omega)]
        refine Reg.wpR_hoist [33] 0 rfl (by kernel_rfl) (by kernel_rfl) (fun u => ?_)
        simp only [Reg.pickL, List.drop]
        repeat (go_big_quiet_step ((first | fail)))
        refine wpQuiet_nil ?_
        refine Reg.wpR_end (by kernel_rfl) (fun x1 hbx => ?_)
        have hb9 := (hb.alloc hb.size (.cells #[.int .i64 qx, .int .i64 qy] 23)).trans (Below.mono hbx (by have := hb.size; simp; omega))
        go_wp2_with fail
        exact ⟨⟨k + 1, by omega, by go_num, hb9⟩, by simp [intOf]; omega⟩
      · have hlt' : ¬ (k : Int) < n := by omega
        go_wp2_with fail
        go_ret
        exact ⟨rfl, hx⟩

namespace kputs
open Go.ChangeShapes Go.WideShapes Go.ChangeAt

theorem contract {H : Type} (enc : TypeId × Value → H) (W : World) (base : Nat) (args : Array Value) (ds : List (DataW H)) (ps : List MemPlace)
    (hval : ∀ (j : Nat) t v, Try.f4.params[j]? = some t → args[j]? = some v → Value.okWide Try.checked.prog W .any base t v)
    (hA : DataW.TrodAll enc Try.checked.prog W 0 (fun _ => true) true Try.f4.params.toList args.toList ds ps) (hlt : ∀ x ∈ ps, x.block < W.heap.size) :
    Calls Try.checked.prog 4 args W fun e W' => e = .returned (.bool true) ∧ Below W.heap.size W W' := by
  rw [Try.params4] at hA hval
  obtain ⟨v0, vs0, d0, ds0, p0, q0, ea, rfl, rfl, h0, hA⟩ := trodAll_cons hA
  obtain ⟨rfl, rfl, rfl⟩ := trodAll_nil hA
  obtain rfl : args = #[v0] := by cases args; simp_all
  have _ := hlt
  obtain ⟨e, len, cap, rfl⟩ := okWide_slice Try.underlying25 (hval 0 _ _ rfl rfl)
  obtain ⟨fuel, hf⟩ := h0
  obtain ⟨a, n, c, l, hel, j1, j2, j3, j4⟩ := open_pts' hf
  have he : Value.slice e len cap = .slice a n c := by simpa [Value.cells] using hel
  rw [he]
  unfold maxLen at *
  exact lputs_any a n c l W (by omega) j4 j3

set_option maxRecDepth 100000 in
theorem lifted (os : Os) (started : os.Started) (H : Type) (enc : TypeId × Value → H) :
    ReturnsInHanded {} Try.checked os 4 .any (Rows.piecePutsSpec.pre6 enc Try.prog Try.f4 [] false) (Rows.piecePutsSpec.post enc Try.prog Try.f4 false true false false) :=
  law_lift (bT := 4) started (by kernel_rfl) Try.func4 rfl (by kernel_rfl) (by kernel_rfl) (by kernel_rfl) (fun ds h => by match ds, h with | [_], _ => rfl)
    (ChangeSpec.witness6 (enc := enc) (C := Try.checked) false ⟨#[], #[.slice none 0 0], []⟩ 8 (by kernel_rfl) (by kernel_rfl) (by kernel_rfl) (by kernel_rfl))
    (fun W base args ds ps hval hA hlt => contract enc W base args ds ps hval hA hlt)

theorem holds : Rows.PiecePutsSaid :=
  OpenClaim.holds_of_wide 4 Try.f4 rfl rfl rfl rfl rfl rfl rfl ⟨rfl, rfl, rfl, rfl, rfl⟩ rfl rfl rfl rfl rfl (by kernel_rfl) Try.func4 (by kernel_rfl)
    (of_decide_eq_true (by kernel_rfl)) (by unfold Func.isWrapper; first | (rw [if_pos (by decide +kernel)]; kernel_rfl) | (rw [if_neg (by decide +kernel)]; exact ⟨rfl, rfl⟩))
    (fun os started H enc _ => lifted os started H enc)
end kputs
end Go.Proofs.Ytljmhenhibhbfaa
