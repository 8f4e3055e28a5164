/- Contract of the reference's product of 128 bits. -/
import Derived.Test.YtljmhenhibhbfaaRefa
namespace Go.Proofs.Ytljmhenhibhbfaa
open Go.RowKit

theorem mul_parts (p q r s : Int) : p * r * 18446744073709551616 + q * s + p * s * 4294967296 + q * r * 4294967296 = (p * 4294967296 + q) * (r * 4294967296 + s) := by
  have a1 : p * 4294967296 * (r * 4294967296) = p * r * 18446744073709551616 := by
    rw [Int.mul_assoc, Int.mul_left_comm 4294967296 r, ← Int.mul_assoc]
    rfl
  have a2 : p * 4294967296 * s = p * s * 4294967296 := Int.mul_right_comm _ _ _
  have a3 : q * (r * 4294967296) = q * r * 4294967296 := (Int.mul_assoc _ _ _).symm
  rw [Int.add_mul, Int.mul_add, Int.mul_add, a1, a2, a3]
  omega
theorem mul_nn {a b A B : Int} (h1 : 0 ≤ a) (h2 : a ≤ A) (k1 : 0 ≤ b) (k2 : b ≤ B) : 0 ≤ a * b ∧ a * b ≤ A * B :=
  ⟨Int.mul_nonneg h1 k1, Int.mul_le_mul h2 k2 k1 (by omega)⟩

/-- What the product of two halves is put together from. -/
structure MulC (x y p q r s pr qs ps qr N M : Int) : Prop where
  ep : x / 4294967296 = p
  eq : x % 4294967296 = q
  er : y / 4294967296 = r
  es : y % 4294967296 = s
  epr : p * r = pr
  eqs : q * s = qs
  eps : p * s = ps
  eqr : q * r = qr
  eM : x * y = M
  wM : WR M ∧ WR (-1 - M)
  cA : ∀ W, Calls Try.prog 28 #[.agg #[.int .i64 pr, .int .u64 0], .agg #[.int .i64 0, .int .u64 qs]] W
      fun e w' => e = .returned (.agg #[.int .i64 (hiW N), .int .u64 (loW N)]) ∧ Below W.heap.size W w'
  cB : ∀ W, Calls Try.prog 28 #[.agg #[.int .i64 (hiW (N + ps * 4294967296)), .int .u64 (loW (N + ps * 4294967296))], .agg #[.int .i64 (hiW (qr * 4294967296)), .int .u64 (loW (qr * 4294967296))]] W
      fun e w' => e = .returned (.agg #[.int .i64 (hiW M), .int .u64 (loW M)]) ∧ Below W.heap.size W w'
  cC : ∀ W, Calls Try.prog 28 #[.agg #[.int .i64 (hiW N), .int .u64 (loW N)], .agg #[.int .i64 (hiW (ps * 4294967296)), .int .u64 (loW (ps * 4294967296))]] W
      fun e w' => e = .returned (.agg #[.int .i64 (hiW (N + ps * 4294967296)), .int .u64 (loW (N + ps * 4294967296))]) ∧ Below W.heap.size W w'
  cR1 : ∀ W, Calls Try.prog 29 #[.int .u64 ps] W
      fun e w' => e = .returned (.agg #[.int .i64 (hiW (ps * 4294967296)), .int .u64 (loW (ps * 4294967296))]) ∧ Below W.heap.size W w'
  cR2 : ∀ W, Calls Try.prog 29 #[.int .u64 qr] W
      fun e w' => e = .returned (.agg #[.int .i64 (hiW (qr * 4294967296)), .int .u64 (loW (qr * 4294967296))]) ∧ Below W.heap.size W w'
  b1 : 0 ≤ pr ∧ pr ≤ 1152921504606846976
  b2 : 0 ≤ qs ∧ qs ≤ 18446744065119617025
  b3 : 0 ≤ ps ∧ ps ≤ 4611686017353646080
  b4 : 0 ≤ qr ∧ qr ≤ 4611686017353646080
  b5 : 0 ≤ p ∧ p ≤ 1073741824
  b6 : 0 ≤ q ∧ q ≤ 4294967295
  b7 : 0 ≤ r ∧ r ≤ 1073741824
  b8 : 0 ≤ s ∧ s ≤ 4294967295

theorem mul_calls {x y : Int} (hx0 : 0 ≤ x) (hx1 : x ≤ 4611686018427387904) (hy0 : 0 ≤ y) (hy1 : y ≤ 4611686018427387904) :
    ∃ p q r s pr qs ps qr N M : Int, MulC x y p q r s pr qs ps qr N M := by
  obtain ⟨p, hp⟩ : ∃ p : Int, x / 4294967296 = p := ⟨_, rfl⟩
  obtain ⟨q, hq⟩ : ∃ q : Int, x % 4294967296 = q := ⟨_, rfl⟩
  obtain ⟨r, hr⟩ : ∃ r : Int, y / 4294967296 = r := ⟨_, rfl⟩
  obtain ⟨s, hs⟩ : ∃ s : Int, y % 4294967296 = s := ⟨_, rfl⟩
  have hxpq : x = p * 4294967296 + q := by omega
  have hyrs : y = r * 4294967296 + s := by omega
  have hid := mul_parts p q r s
  rw [← hxpq, ← hyrs] at hid
  clear hxpq hyrs
  have b5 : 0 ≤ p ∧ p ≤ 1073741824 := by omega
  have b6 : 0 ≤ q ∧ q ≤ 4294967295 := by omega
  have b7 : 0 ≤ r ∧ r ≤ 1073741824 := by omega
  have b8 : 0 ≤ s ∧ s ≤ 4294967295 := by omega
  have bpr := mul_nn (a := p) (b := r) (A := 1073741824) (B := 1073741824) (by omega) (by omega) (by omega) (by omega)
  have bqs := mul_nn (a := q) (b := s) (A := 4294967295) (B := 4294967295) (by omega) (by omega) (by omega) (by omega)
  have bps := mul_nn (a := p) (b := s) (A := 1073741824) (B := 4294967295) (by omega) (by omega) (by omega) (by omega)
  have bqr := mul_nn (a := q) (b := r) (A := 4294967295) (B := 1073741824) (by omega) (by omega) (by omega) (by omega)
  obtain ⟨pr, epr⟩ : ∃ n : Int, p * r = n := ⟨_, rfl⟩
  obtain ⟨qs, eqs⟩ : ∃ n : Int, q * s = n := ⟨_, rfl⟩
  obtain ⟨ps, eps⟩ : ∃ n : Int, p * s = n := ⟨_, rfl⟩
  obtain ⟨qr, eqr⟩ : ∃ n : Int, q * r = n := ⟨_, rfl⟩
  rw [epr, eqs, eps, eqr] at hid
  rw [epr] at bpr
  rw [eqs] at bqs
  rw [eps] at bps
  rw [eqr] at bqr
  have bM := mul_nn hx0 hx1 hy0 hy1
  obtain ⟨M, eM⟩ : ∃ n : Int, x * y = n := ⟨_, rfl⟩
  rw [eM] at hid bM
  obtain ⟨N, eN⟩ : ∃ n : Int, pr * 18446744073709551616 + qs = n := ⟨_, rfl⟩
  have b1 : 0 ≤ pr ∧ pr ≤ 1152921504606846976 := by omega
  have b2 : 0 ≤ qs ∧ qs ≤ 18446744065119617025 := by omega
  have b3 : 0 ≤ ps ∧ ps ≤ 4611686017353646080 := by omega
  have b4 : 0 ≤ qr ∧ qr ≤ 4611686017353646080 := by omega
  have HH := And.intro hp (And.intro hq (And.intro hr (And.intro hs (And.intro epr (And.intro eqs (And.intro eps (And.intro eqr (And.intro b5 (And.intro b6 (And.intro b7 b8))))))))))
  clear hp hq hr hs bpr bqs bps bqr epr eqs eps eqr b5 b6 b7 b8
  have HK := Lib.hid HH
  clear HH
  have wN : WR N := by unfold WR; omega
  have wps : WR (ps * 4294967296) := by unfold WR; omega
  have wM : WR M ∧ WR (-1 - M) := by unfold WR; omega
  obtain ⟨hp, hq, hr, hs, epr, eqs, eps, eqr, b5, b6, b7, b8⟩ := HK.out
  refine ⟨p, q, r, s, pr, qs, ps, qr, N, M, hp, hq, hr, hs, epr, eqs, eps, eqr, eM, wM, fun W => ?_, fun W => ?_, fun W => r1add_any N (ps * 4294967296) W wN wps,
    fun W => r1raised_any ps W (by omega) (by omega), fun W => r1raised_any qr W (by omega) (by omega), b1, b2, b3, b4, b5, b6, b7, b8⟩
  · have h := r1add_any (pr * 18446744073709551616) qs W (by unfold WR; omega) (by unfold WR; omega)
    rw [show hiW (pr * 18446744073709551616) = pr by unfold hiW; omega, show loW (pr * 18446744073709551616) = 0 by unfold loW; omega, show hiW qs = 0 by unfold hiW; omega, show loW qs = qs by unfold loW; omega, eN] at h
    exact h
  · have h := r1add_any (N + ps * 4294967296) (qr * 4294967296) W (by unfold WR; omega) (by unfold WR; omega)
    rw [show N + ps * 4294967296 + qr * 4294967296 = M by omega] at h
    exact h


end Go.Proofs.Ytljmhenhibhbfaa
