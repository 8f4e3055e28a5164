/- Contract: what the laws of layer 7 show first. -/
import Derived.Test.YtjkpbkcbimojoaaPk
namespace Go.Proofs.Ytjkpbkcbimojoaa
open Go.RowKit

/-- The cells of segment k. -/
theorem RSegs.cells {w : World} {B n b off : Nat} {l : List SegS} (h : RSegs w B (some ⟨b, off, none⟩) n l) (k : Nat) (s : SegS) (hk : l[k]? = some s) :
    b < B ∧ ∀ j v, (segV s)[j]? = some v → w.cell? ⟨b, off + k * 9 + j, none⟩ = some v := by
  obtain ⟨b', off', e, h1, h2⟩ := h.2 k s hk
  simp only [Option.some.injEq, Addr.mk.injEq, and_true] at e
  obtain ⟨rfl, rfl⟩ := e
  exact ⟨h1, h2⟩

set_option maxRecDepth 100000 in
set_option maxHeartbeats 2000000 in
theorem shown_any (w : World) : Calls Try.prog 10 #[] w fun e w' => e = .returned (.bool true) ∧ Below w.heap.size w w' := by
  have c1 : ∀ W, Calls Try.prog 20 #[.agg #[.int .i64 5, .int .i64 0, .int .i64 1, .int .i64 0, .int .i64 0, .int .i64 0, .int .i64 0, .int .i64 0, .int .i64 2]] W fun e w' => e = .returned (.agg #[.int .i64 1, .int .i64 0]) ∧ Below W.heap.size W w' := fun W =>
    end_any ⟨(5, 0), (1, 0), (0, 0), (0, 0), 2⟩ W
  have c2 : ∀ (W : World) (g : Nat), W.cell? ⟨g, 0, none⟩ = some (.int .i64 2) → Calls Try.prog 16 #[.agg #[.slice (some ⟨g, 0, none⟩) 1 1, .slice none 0 0]] W fun e w' => e = .returned (.int .i64 70) ∧ Below W.heap.size W w' := fun W g hg => by
    have h := check_any (some ⟨g, 0, none⟩) none 1 0 1 0 [2] [] W (by omega) ⟨rfl, fun k v hk => by
      match k, hk with
      | 0, hk => simp at hk; subst hk; exact ⟨g, 0, rfl, World.block_lt_of_cell? _ _ hg, hg⟩⟩ ⟨rfl, fun k v hk => by simp at hk⟩
    exact h
  have c3 : ∀ W, Calls Try.prog 14 #[.int .i64 4] W fun e w' => e = .returned (.int .i64 3) ∧ Below W.heap.size W w' := fun W => takes_at rfl W
  have C1 := Lib.hid c1
  have C2 := Lib.hid c2
  have C3 := Lib.hid c3
  clear c1 c2 c3
  go_enter Try.func10, Try.ntmps10
  go_wp2_with fail
  refine (split_any _ _ 3 2 3 2 [1, 2, 5] [(1, 0), (5, 0)] _ (by omega) (by unfold maxLen; omega) (by omega) (by
    exact RInts.new (l := [1, 2, 5]) (by simp; omega) (fun k p hk => by match k, hk with | 0, hk => (simp at hk; subst hk; simp [go_sem]) | 1, hk => (simp at hk; subst hk; simp [go_sem]) | 2, hk => (simp at hk; subst hk; simp [go_sem]))) (by exact RPts.new (by simp) (fun k p hk => by match k, hk with | 0, hk => (simp at hk; subst hk; simp [go_sem]) | 1, hk => (simp at hk; subst hk; simp [go_sem])))).mono ?_
  rintro e w2 ⟨a, c, rfl, hc, hr, hb2⟩
  have e1 : splitS [1, 2, 5] [(1, 0), (5, 0)] = [⟨(1, 0), [⟨(1, 0), (5, 0), (0, 0), (0, 0), 2⟩, ⟨(5, 0), (1, 0), (0, 0), (0, 0), 2⟩], true⟩] := by rfl
  have e2 : checkS [1, 2, 5] [(1, 0), (5, 0)] = 0 := by rfl
  rw [e1] at hr hc
  rw [e1, e2]
  clear e1 e2
  obtain ⟨b, off, sa, sc, rfl, hbB, r0, r1, r2, r3, hsc, hs⟩ := hr.2 0 _ rfl
  obtain ⟨b2, off2, rfl, hbB2, hseg⟩ := hs.2 1 _ rfl
  have s0 := hseg 0 _ rfl
  have s1 := hseg 1 _ rfl
  have s2 := hseg 2 _ rfl
  have s3 := hseg 3 _ rfl
  have s4 := hseg 4 _ rfl
  have s5 := hseg 5 _ rfl
  have s6 := hseg 6 _ rfl
  have s7 := hseg 7 _ rfl
  have s8 := hseg 8 _ rfl
  simp only [List.length_cons, List.length_nil, Nat.zero_mul, Nat.one_mul, Nat.add_zero, Nat.zero_add, Nat.reduceAdd, Nat.add_assoc] at r0 r1 r2 r3 s0 s1 s2 s3 s4 s5 s6 s7 s8
  have HB := Lib.hid hb2
  clear hseg hs hr hb2
  go_wp2_with fail
  refine (C1.out _).mono ?_
  rintro e w3 ⟨rfl, hb3⟩
  go_wp2_with fail
  refine (C2.out _ _ (by simp [go_sem])).mono ?_
  rintro e w4 ⟨rfl, hb4⟩
  go_wp2_with fail
  refine (C3.out _).mono ?_
  rintro e w5 ⟨rfl, hb5⟩
  go_wp2_with fail
  go_ret
  refine ⟨rfl, ?_⟩
  have hx2 : Below w.heap.size w w2 := Below.trans (by (repeat (first | exact Below.refl _ _ | assumption | refine Below.drew ?_ | refine Below.setCell ?_ (by simp; try omega) _ | refine Below.alloc ?_ (by simp; try omega) _))) (HB.out.mono (by simp; omega))
  have hx3 := hx2.trans (hb3.mono hx2.size)
  have hx4 := (hx3.alloc hx3.size (.cells #[.int .i64 2] 3)).trans (hb4.mono (by have := hx3.size; simp; omega))
  exact hx4.trans (hb5.mono hx4.size)
end Go.Proofs.Ytjkpbkcbimojoaa
