/- Contract of piece.Put, with no pieces ahead. -/
import Derived.Test.YtljmhenhibhbfaaKg
namespace Go.Proofs.Ytljmhenhibhbfaa
open Go.RowKit

theorem infoPc : (Try.prog.info? 31).map (fun i => (i.zero, i.size, i.bytes)) = some (some (.slice none 0 0), 1, 24) := by kernel_rfl
theorem news1 (w : World) (t : TypeId) (v : Value) : ∀ (j : Nat) (u : Value), [v][j]? = some u → (w.alloc (.cells #[v] t)).cell? ((⟨w.heap.size, 0, none⟩ : Addr).add j) = some u := by
  intro j u hj
  have hc := (Blk.new w t #[v]).cell j
  have add : (⟨w.heap.size, 0, none⟩ : Addr).add j = ⟨w.heap.size, j, none⟩ := by unfold Addr.add; split <;> simp_all
  rw [add, hc]
  simpa using hj
/-- What Put hands back: nothing, or one piece. -/
def PutPost (w : World) (l : List (Int × Int)) (e : Ending) (W : World) : Prop :=
  Below w.heap.size w W ∧ ((convexB (turnK l) = false ∧ e = .returned (.slice none 0 0)) ∨
    (convexB (turnK l) = true ∧ ∃ g c o oc, e = .returned (.slice (some ⟨g, 0, none⟩) 1 c) ∧ g < W.heap.size ∧ W.cell? ⟨g, 0, none⟩ = some (.slice o l.length oc) ∧ RPts W W.heap.size o l.length (turnK l)))

set_option maxRecDepth 100000 in
set_option maxHeartbeats 4000000 in
theorem put_any (a : Option Addr) (n c : Nat) (l : List (Int × Int)) (w : World) (hn : n ≤ 1000) (hC : ∀ q ∈ l, nearK q) (hnil : a = none → n = 0 ∧ c = 0) (hl : RPts w w.heap.size a n l) :
    Calls Try.prog 8 #[.slice none 0 0, .slice a n c] w (PutPost w l) := by
  obtain ⟨iS, hiS, hz0S, hz1S, hz2S⟩ := info_parts infoPc
  have HLL := Lib.hid hl.1
  have HCT : Hid (∀ q ∈ turnK l, nearK q) := Lib.hid (fun q hq => hC q (turn_mem.1 hq))
  have HC := Lib.hid hC
  have KI := Lib.hid (clonep_any a n c l w (by omega) hnil hl)
  clear hl hC hnil
  go_enter Try.func8, Try.ntmps8
  go_wp2_with fail
  refine KI.out.mono ?_
  rintro e w2 ⟨v, rfl, oP, hb2⟩
  obtain ⟨a2, c2, rfl, hc2, -⟩ := own_cap2 oP
  have hx : Below w.heap.size w w2 := hb2
  clear hb2 KI
  have KA := Lib.hid (area_any a2 n c2 l w2 hn HC.out (own_pts oP))
  by_cases ha : areaK l < 0
  · have HT : Hid (turnK l = l.reverse) := Lib.hid (by unfold turnK; rw [if_pos ha])
    generalize areaK l = ar at *
    go_wp2_with fail
    refine KA.out.mono ?_
    rintro e w3 ⟨rfl, hb2⟩
    replace hx := hx.trans (hb2.mono hx.size)
    replace oP := own_grow oP hb2
    clear hb2 KA
    go_wp2_with fail
    refine (preverse_any a2 n c2 w.heap.size l w3 hn hx.size oP).mono ?_
    rintro e w4 ⟨⟨v, rfl⟩, oP4, hb4⟩
    replace hx := hx.trans hb4
    rw [← HT.out] at oP4
    replace oP := oP4
    clear hb4 oP4
    have KC := Lib.hid (convex_any a2 n c2 (turnK l) _ hn HCT.out (own_pts oP))
    cases hcv : convexB (turnK l)
    · rw [hcv] at KC
      have HCV := Lib.hid hcv
      clear hcv
      go_wp2_with fail
      refine KC.out.mono ?_
      rintro e w5 ⟨rfl, hb2⟩
      have hx5 := hx.trans (hb2.mono hx.size)
      go_wp2_with fail
      go_ret
      exact ⟨hx5, .inl ⟨HCV.out, rfl⟩⟩
    · rw [hcv] at KC
      have HCV := Lib.hid hcv
      clear hcv
      go_wp2_with fail
      refine KC.out.mono ?_
      rintro e w5 ⟨rfl, hb2⟩
      have hx5 := hx.trans (hb2.mono hx.size)
      have hr5 := (own_pts oP).grow hb2
      have HR5 := Lib.hid hr5
      clear hb2 hx oP hr5 KC
      go_wp2_with fail
      refine (pclip_any _).mono ?_
      rintro e w6 ⟨rfl, rfl⟩
      have hsz5 := hx5.size
      go_wp2_with (at_builtin; refine wpList_append_own _ rfl _ _ 27 rfl w.heap.size 31 iS _ 1 24 Try.underlying27 hiS hz0S hz1S hz2S rfl (by decide) (.slice none 0 0) 0 [] rfl (World.ownsRow_nil _ _ _ _) ⟨w5.heap.size, 0, none⟩ 1 1 [.slice a2 n c2] rfl rfl (news1 w5 _ _) ?c2 ?c3 ?c4 ?c5 ?_)
      case c2 => simp [Value.oneCell']
      case c3 => unfold maxLen; omega
      case c4 => omega
      case c5 => simp; omega
      rintro v' w8 hown8 hg8 -
      have hb8 : Below w5.heap.size w5 w8 := ((Below.refl w5.heap.size w5).alloc (Nat.le_refl _) (.cells #[.slice a2 n c2] 31)).grown hg8 (by simp) (fun q hq => by simp [Value.ownBlock] at hq)
      rcases hown8.2 with ⟨_, h0⟩ | ⟨g, cap, cur, rfl, hgB, hgh, hcap, _⟩
      · cases h0
      · have hc8 := hown8.cells (g := g) rfl 0 (.slice a2 n c2) rfl
        have hc9 : w8.cell? ⟨g, 0, none⟩ = some (.slice a2 n c2) := hc8
        have hg9 := (Array.getElem?_eq_some_iff.1 hgh).1
        have HC9 := Lib.hid hc9
        have HB8 := Lib.hid hb8
        clear hown8 hg8 hc8 hc9 hb8 hgh
        go_wp2_with fail
        go_ret
        exact ⟨hx5.trans (HB8.out.mono hx5.size), .inr ⟨HCV.out, g, cap, a2, c2, rfl, hg9, by rw [HLL.out]; exact HC9.out, by rw [HLL.out]; exact HR5.out.grow HB8.out⟩⟩
  · have HT : Hid (turnK l = l) := Lib.hid (by unfold turnK; rw [if_neg ha])
    generalize areaK l = ar at *
    go_wp2_with fail
    refine KA.out.mono ?_
    rintro e w3 ⟨rfl, hb2⟩
    replace hx := hx.trans (hb2.mono hx.size)
    replace oP := own_grow oP hb2
    rw [← HT.out] at oP
    clear hb2 KA
    have KC := Lib.hid (convex_any a2 n c2 (turnK l) _ hn HCT.out (own_pts oP))
    cases hcv : convexB (turnK l)
    · rw [hcv] at KC
      have HCV := Lib.hid hcv
      clear hcv
      go_wp2_with fail
      refine KC.out.mono ?_
      rintro e w5 ⟨rfl, hb2⟩
      have hx5 := hx.trans (hb2.mono hx.size)
      go_wp2_with fail
      go_ret
      exact ⟨hx5, .inl ⟨HCV.out, rfl⟩⟩
    · rw [hcv] at KC
      have HCV := Lib.hid hcv
      clear hcv
      go_wp2_with fail
      refine KC.out.mono ?_
      rintro e w5 ⟨rfl, hb2⟩
      have hx5 := hx.trans (hb2.mono hx.size)
      have hr5 := (own_pts oP).grow hb2
      have HR5 := Lib.hid hr5
      clear hb2 hx oP hr5 KC
      go_wp2_with fail
      refine (pclip_any _).mono ?_
      rintro e w6 ⟨rfl, rfl⟩
      have hsz5 := hx5.size
      go_wp2_with (at_builtin; refine wpList_append_own _ rfl _ _ 27 rfl w.heap.size 31 iS _ 1 24 Try.underlying27 hiS hz0S hz1S hz2S rfl (by decide) (.slice none 0 0) 0 [] rfl (World.ownsRow_nil _ _ _ _) ⟨w5.heap.size, 0, none⟩ 1 1 [.slice a2 n c2] rfl rfl (news1 w5 _ _) ?c2 ?c3 ?c4 ?c5 ?_)
      case c2 => simp [Value.oneCell']
      case c3 => unfold maxLen; omega
      case c4 => omega
      case c5 => simp; omega
      rintro v' w8 hown8 hg8 -
      have hb8 : Below w5.heap.size w5 w8 := ((Below.refl w5.heap.size w5).alloc (Nat.le_refl _) (.cells #[.slice a2 n c2] 31)).grown hg8 (by simp) (fun q hq => by simp [Value.ownBlock] at hq)
      rcases hown8.2 with ⟨_, h0⟩ | ⟨g, cap, cur, rfl, hgB, hgh, hcap, _⟩
      · cases h0
      · have hc8 := hown8.cells (g := g) rfl 0 (.slice a2 n c2) rfl
        have hc9 : w8.cell? ⟨g, 0, none⟩ = some (.slice a2 n c2) := hc8
        have hg9 := (Array.getElem?_eq_some_iff.1 hgh).1
        have HC9 := Lib.hid hc9
        have HB8 := Lib.hid hb8
        clear hown8 hg8 hc8 hc9 hb8 hgh
        go_wp2_with fail
        go_ret
        exact ⟨hx5.trans (HB8.out.mono hx5.size), .inr ⟨HCV.out, g, cap, a2, c2, rfl, hg9, by rw [HLL.out]; exact HC9.out, by rw [HLL.out]; exact HR5.out.grow HB8.out⟩⟩
end Go.Proofs.Ytljmhenhibhbfaa
