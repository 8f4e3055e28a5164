/- Plain facts of numbers of 128 bits: halves, sums, products. No program in sight. -/
import Derived.Test.YtljmhenhibhbfaaProd
namespace Go.Proofs.Ytljmhenhibhbfaa
open Go.RowKit

/-- The halves of a number of 128 bits. -/
def hiW (z : Int) : Int := z / 18446744073709551616
def loW (z : Int) : Int := z % 18446744073709551616
/-- Well inside 128 bits. -/
def WR (z : Int) : Prop := -42535295865117307932921825928971026432 ≤ z ∧ z ≤ 42535295865117307932921825928971026432
def U64 (n : Int) : Prop := 0 ≤ n ∧ n ≤ 18446744073709551615
def sub64d (x y b : Int) : Int := (x - y - b) % 18446744073709551616
def sub64b (x y b : Int) : Int := if x < y + b then 1 else 0
def mulHi (x y : Int) : Int := x * y / 18446744073709551616
def mulLo (x y : Int) : Int := x * y % 18446744073709551616
/-- The sign of a difference. -/
def cmpS (x y : Int) : Int := if x = y then 0 else if x < y then -1 else 1
def sgn (x : Int) : Int := cmpS x 0

theorem U64.wrap (n : Int) : U64 (IntKind.u64.wrap n) := by unfold U64; rw [IntKind.wrap_u64]; omega
theorem loW_U64 (z : Int) : U64 (loW z) := by unfold U64 loW; omega
theorem sub64d_U64 (x y b : Int) : U64 (sub64d x y b) := by unfold U64 sub64d; omega
theorem sub64b_01 (x y b : Int) : sub64b x y b = 0 ∨ sub64b x y b = 1 := by unfold sub64b; split <;> simp
theorem wr_mul {a b : Int} (h1 : -4611686018427387904 ≤ a) (h2 : a ≤ 4611686018427387904) (k1 : -4611686018427387904 ≤ b) (k2 : b ≤ 4611686018427387904) : WR (a * b) := by
  have := mul_bd (A := 4611686018427387904) (B := 4611686018427387904) h1 (by omega) k1 (by omega)
  unfold WR
  omega

theorem hi_sub (X Y : Int) (hX : WR X) (hY : WR Y) : IntKind.i64.wrap (sub64d (IntKind.u64.wrap (hiW X)) (IntKind.u64.wrap (hiW Y)) (sub64b (loW X) (loW Y) 0)) = hiW (X - Y) := by
  unfold WR at hX hY
  unfold sub64d sub64b hiW loW
  rw [IntKind.wrap_i64, IntKind.wrap_u64, IntKind.wrap_u64]
  split <;> omega
theorem lo_sub (X Y : Int) : sub64d (loW X) (loW Y) 0 = loW (X - Y) := by unfold sub64d loW; omega

theorem hi_mul_pp (a b : Int) (ha : 0 ≤ a) (hb : 0 ≤ b) (hp : WR (a * b)) : IntKind.i64.wrap (mulHi a b) = hiW (a * b) := by
  unfold WR at hp
  unfold mulHi hiW
  rw [IntKind.wrap_i64]
  have : 0 ≤ a * b := Int.mul_nonneg ha hb
  omega
theorem wrap_neg (a : Int) (h1 : -9223372036854775808 ≤ a) (h2 : a < 0) : IntKind.u64.wrap a = a + 18446744073709551616 := by rw [IntKind.wrap_u64]; omega
theorem hi_mul_np (a b : Int) (h1 : -9223372036854775808 ≤ a) (ha : a < 0) (hp : WR (a * b)) : IntKind.i64.wrap (IntKind.u64.wrap (mulHi (IntKind.u64.wrap a) b - b)) = hiW (a * b) := by
  unfold WR at hp
  unfold mulHi hiW
  rw [wrap_neg a h1 ha, Int.add_mul, IntKind.wrap_i64, IntKind.wrap_u64]
  generalize a * b = p at *
  omega
theorem hi_mul_pn (a b : Int) (k1 : -9223372036854775808 ≤ b) (hb : b < 0) (hp : WR (a * b)) : IntKind.i64.wrap (IntKind.u64.wrap (mulHi a (IntKind.u64.wrap b) - a)) = hiW (a * b) := by
  unfold WR at hp
  unfold mulHi hiW
  rw [wrap_neg b k1 hb, Int.mul_add, IntKind.wrap_i64, IntKind.wrap_u64]
  generalize a * b = p at *
  omega
theorem hi_mul_nn (a b : Int) (h1 : -9223372036854775808 ≤ a) (ha : a < 0) (k1 : -9223372036854775808 ≤ b) (hb : b < 0) (hp : WR (a * b)) :
    IntKind.i64.wrap (IntKind.u64.wrap (IntKind.u64.wrap (mulHi (IntKind.u64.wrap a) (IntKind.u64.wrap b) - IntKind.u64.wrap b) - IntKind.u64.wrap a)) = hiW (a * b) := by
  unfold WR at hp
  unfold mulHi hiW
  rw [wrap_neg a h1 ha, wrap_neg b k1 hb, Int.add_mul, Int.mul_add, IntKind.wrap_i64, IntKind.wrap_u64, IntKind.wrap_u64]
  generalize a * b = p at *
  omega
theorem lo_mul_np (a b : Int) (h1 : -9223372036854775808 ≤ a) (ha : a < 0) : mulLo (IntKind.u64.wrap a) b = loW (a * b) := by
  unfold mulLo loW
  rw [wrap_neg a h1 ha, Int.add_mul]
  generalize a * b = p at *
  omega
theorem lo_mul_pn (a b : Int) (k1 : -9223372036854775808 ≤ b) (hb : b < 0) : mulLo a (IntKind.u64.wrap b) = loW (a * b) := by
  unfold mulLo loW
  rw [wrap_neg b k1 hb, Int.mul_add]
  generalize a * b = p at *
  omega
theorem lo_mul_nn (a b : Int) (h1 : -9223372036854775808 ≤ a) (ha : a < 0) (k1 : -9223372036854775808 ≤ b) (hb : b < 0) : mulLo (IntKind.u64.wrap a) (IntKind.u64.wrap b) = loW (a * b) := by
  unfold mulLo loW
  rw [wrap_neg a h1 ha, wrap_neg b k1 hb, Int.add_mul, Int.mul_add]
  generalize a * b = p at *
  omega

theorem cmp_lt_hi {X Y : Int} (h : hiW X < hiW Y) : X < Y := by unfold hiW at h; omega
theorem cmp_eq {X Y : Int} (h : hiW X = hiW Y) (k : loW X = loW Y) : X = Y := by unfold hiW at h; unfold loW at k; omega
theorem cmp_cases (X Y : Int) : (X = Y) ∨ (X < Y ∧ hiW X < hiW Y) ∨ (X < Y ∧ hiW X = hiW Y ∧ loW X < loW Y) ∨ (Y < X ∧ hiW Y < hiW X) ∨ (Y < X ∧ hiW X = hiW Y ∧ loW Y < loW X) := by
  unfold hiW loW; omega
end Go.Proofs.Ytljmhenhibhbfaa
