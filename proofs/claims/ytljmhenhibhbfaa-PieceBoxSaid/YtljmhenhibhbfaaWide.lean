/- Contracts of package wide: products, differences and signs of numbers of 128 bits. -/
import Derived.Test.YtljmhenhibhbfaaWidep
import Derived.Shelf.Bits.Mul64
import Derived.Laws.Externs
namespace Go.Proofs.Ytljmhenhibhbfaa
open Go.RowKit Go.Shelf

def lays264_ren : Go.Shelf.Ren := ⟨fun | 264 => 45 | n => n, fun | 53 => 45 | 46 => 75 | n => n, fun | n => n⟩
theorem lays264 : Go.Proofs.Lays.n264 Try.prog lays264_ren := {
  mixed := by kernel_rfl
  f264 := Try.func45.trans (congrArg some (by kernel_rfl))
  t46 := Try.underlying75
  a46 := Try.isAgg75
  z46 := Try.sizeOf75
  v46 := Try.zeroValue75
  t53 := Try.underlying45
  a53 := Try.isAgg45
  z53 := Try.sizeOf45
  v53 := Try.zeroValue45 }

theorem mul64_any (x y : Int) (w : World) (hx : U64 x) (hy : U64 y) :
    Calls Try.prog 45 #[.int .u64 x, .int .u64 y] w fun e w' => e = .returned (.tuple #[.int .u64 (mulHi x y), .int .u64 (mulLo x y)]) ∧ w = w' := by
  obtain ⟨hx0, hx1⟩ := hx
  obtain ⟨hy0, hy1⟩ := hy
  obtain ⟨a, rfl⟩ := Int.eq_ofNat_of_zero_le hx0
  obtain ⟨b, rfl⟩ := Int.eq_ofNat_of_zero_le hy0
  refine (Any.bits_Mul64 lays264 a b (by omega) (by omega) w).mono fun e w' ⟨he, hw⟩ => ⟨?_, hw.symm⟩
  rw [he]
  simp only [mulHi, mulLo, Int.natCast_ediv, Int.natCast_emod, Int.natCast_mul]
  rfl

/-- The model's own entry for the difference with a borrow. -/
def sub64Entry : Array Value → Sem Value := fun args => do
  let (x, y, b) ← Extern.MathBitsCarry.three "Sub64" args
  pure (Extern.MathBitsCarry.pair ((x + Extern.MathBitsCarry.m64 - y - b) % Extern.MathBitsCarry.m64) (if x < y + b then 1 else 0))
theorem run_sub64 {P : Program} (x y b : Int) (hx : U64 x) (hy : U64 y) (hb : b = 0 ∨ b = 1) (w : World) :
    (sub64Entry #[.int .u64 x, .int .u64 y, .int .u64 b]).run P w = .ok (.tuple #[.int .u64 (sub64d x y b), .int .u64 (sub64b x y b)]) w := by
  obtain ⟨hx0, hx1⟩ := hx
  obtain ⟨hy0, hy1⟩ := hy
  have key : ∀ k : Nat, k ≤ 1 → (sub64Entry #[.int .u64 x, .int .u64 y, .int .u64 (k : Int)]).run P w =
      .ok (Extern.MathBitsCarry.pair ((x.toNat + Extern.MathBitsCarry.m64 - y.toNat - k) % Extern.MathBitsCarry.m64) (if x.toNat < y.toNat + k then 1 else 0)) w := by
    intro k hk
    have : k = 0 ∨ k = 1 := by omega
    rcases this with rfl | rfl <;> rfl
  obtain ⟨a, rfl⟩ := Int.eq_ofNat_of_zero_le hx0
  obtain ⟨c, rfl⟩ := Int.eq_ofNat_of_zero_le hy0
  have hk : ∃ k : Nat, k ≤ 1 ∧ b = (k : Int) := by
    rcases hb with rfl | rfl
    · exact ⟨0, by omega, rfl⟩
    · exact ⟨1, by omega, rfl⟩
  obtain ⟨k, hk1, rfl⟩ := hk
  rw [key k hk1]
  simp only [Extern.MathBitsCarry.pair, Extern.MathBitsCarry.m64, Int.toNat_natCast, sub64d, sub64b]
  congr 4
  · congr 1
    simp only [Int.ofNat_eq_natCast]
    omega
  · congr 2
    simp only [Int.ofNat_eq_natCast]
    split <;> split <;> omega
theorem call_sub64 (x y b : Int) (hx : U64 x) (hy : U64 y) (hb : b = 0 ∨ b = 1) (w : World) :
    Sem.run Try.prog (callFunc 44 #[.int .u64 x, .int .u64 y, .int .u64 b]) w = .ok (.value (.tuple #[.int .u64 (sub64d x y b), .int .u64 (sub64b x y b)])) w := by
  rw [run_callFunc_extern Try.func44 (e := sub64Entry) (by kernel_rfl) (by kernel_rfl) (by kernel_rfl) (by kernel_rfl), run_sub64 x y b hx hy hb w]
  rfl

set_option maxHeartbeats 400000 in
theorem wsub_any (X Y : Int) (w : World) (hX : WR X) (hY : WR Y) :
    Calls Try.prog 40 #[.agg #[.int .i64 (hiW X), .int .u64 (loW X)], .agg #[.int .i64 (hiW Y), .int .u64 (loW Y)]] w fun e w' => e = .returned (.agg #[.int .i64 (hiW (X - Y)), .int .u64 (loW (X - Y))]) ∧ Below w.heap.size w w' := by
  have c1 := call_sub64 (loW X) (loW Y) 0 (loW_U64 X) (loW_U64 Y) (.inl rfl)
  have c2 := call_sub64 (IntKind.u64.wrap (hiW X)) (IntKind.u64.wrap (hiW Y)) (sub64b (loW X) (loW Y) 0) (U64.wrap _) (U64.wrap _) (sub64b_01 _ _ _)
  have HE := Lib.hid (hi_sub X Y hX hY)
  have HL := Lib.hid (lo_sub X Y)
  go_enter Try.func40, Try.ntmps40
  go_wp2
  refine bodyPost_ret (v := .agg #[.int .i64 (wrap64 (sub64d (IntKind.u64.wrap (hiW X)) (IntKind.u64.wrap (hiW Y)) (sub64b (loW X) (loW Y) 0))), .int .u64 (sub64d (loW X) (loW Y) 0)]) (by simp [results, Try.results40, go_sem]) rfl ⟨?_, by (repeat (first | exact Below.refl _ _ | assumption | refine Below.drew ?_ | refine Below.setCell ?_ (by simp; try omega) _ | refine Below.alloc ?_ (by simp; try omega) _))⟩
  rw [← IntWalk.i64_left, HE.out, HL.out]

set_option maxHeartbeats 800000 in
theorem wmul_any (a b : Int) (w : World) (h1 : -4611686018427387904 ≤ a) (h2 : a ≤ 4611686018427387904) (k1 : -4611686018427387904 ≤ b) (k2 : b ≤ 4611686018427387904) :
    Calls Try.prog 41 #[.int .i64 a, .int .i64 b] w fun e w' => e = .returned (.agg #[.int .i64 (hiW (a * b)), .int .u64 (loW (a * b))]) ∧ Below w.heap.size w w' := by
  have hp := Lib.hid (wr_mul h1 h2 k1 k2)
  by_cases ha : a < 0 <;> by_cases hb : b < 0
  · have HE := Lib.hid (hi_mul_nn a b (by omega) ha (by omega) hb hp.out)
    have HL := Lib.hid (lo_mul_nn a b (by omega) ha (by omega) hb)
    go_enter Try.func41, Try.ntmps41
    go_wp2_with (go_at_call 45; refine (mul64_any _ _ _ (U64.wrap _) (U64.wrap _)).mono ?_; rintro e w' ⟨rfl, rfl⟩)
    refine bodyPost_ret (v := .agg #[.int .i64 (wrap64 (IntKind.u64.wrap (IntKind.u64.wrap (mulHi (IntKind.u64.wrap a) (IntKind.u64.wrap b) - IntKind.u64.wrap b) - IntKind.u64.wrap a))), .int .u64 (mulLo (IntKind.u64.wrap a) (IntKind.u64.wrap b))])
      (by simp [results, Try.results41, go_sem]) rfl ⟨by rw [← IntWalk.i64_left, HE.out, HL.out], by (repeat (first | exact Below.refl _ _ | assumption | refine Below.drew ?_ | refine Below.setCell ?_ (by simp; try omega) _ | refine Below.alloc ?_ (by simp; try omega) _))⟩
  · have HE := Lib.hid (hi_mul_np a b (by omega) ha hp.out)
    have HL := Lib.hid (lo_mul_np a b (by omega) ha)
    have hb' : 0 ≤ b := by omega
    go_enter Try.func41, Try.ntmps41
    go_wp2_with (go_at_call 45; refine (mul64_any _ _ _ (U64.wrap _) ⟨by omega, by omega⟩).mono ?_; rintro e w' ⟨rfl, rfl⟩)
    refine bodyPost_ret (v := .agg #[.int .i64 (wrap64 (IntKind.u64.wrap (mulHi (IntKind.u64.wrap a) b - b))), .int .u64 (mulLo (IntKind.u64.wrap a) b)])
      (by simp [results, Try.results41, go_sem]) rfl ⟨by rw [← IntWalk.i64_left, HE.out, HL.out], by (repeat (first | exact Below.refl _ _ | assumption | refine Below.drew ?_ | refine Below.setCell ?_ (by simp; try omega) _ | refine Below.alloc ?_ (by simp; try omega) _))⟩
  · have HE := Lib.hid (hi_mul_pn a b (by omega) hb hp.out)
    have HL := Lib.hid (lo_mul_pn a b (by omega) hb)
    have ha' : 0 ≤ a := by omega
    go_enter Try.func41, Try.ntmps41
    go_wp2_with (go_at_call 45; refine (mul64_any _ _ _ ⟨by omega, by omega⟩ (U64.wrap _)).mono ?_; rintro e w' ⟨rfl, rfl⟩)
    refine bodyPost_ret (v := .agg #[.int .i64 (wrap64 (IntKind.u64.wrap (mulHi a (IntKind.u64.wrap b) - a))), .int .u64 (mulLo a (IntKind.u64.wrap b))])
      (by simp [results, Try.results41, go_sem]) rfl ⟨by rw [← IntWalk.i64_left, HE.out, HL.out], by (repeat (first | exact Below.refl _ _ | assumption | refine Below.drew ?_ | refine Below.setCell ?_ (by simp; try omega) _ | refine Below.alloc ?_ (by simp; try omega) _))⟩
  · have ha' : 0 ≤ a := by omega
    have hb' : 0 ≤ b := by omega
    have HE := Lib.hid (hi_mul_pp a b ha' hb' hp.out)
    go_enter Try.func41, Try.ntmps41
    go_wp2_with (go_at_call 45; refine (mul64_any _ _ _ ⟨by omega, by omega⟩ ⟨by omega, by omega⟩).mono ?_; rintro e w' ⟨rfl, rfl⟩)
    refine bodyPost_ret (v := .agg #[.int .i64 (wrap64 (mulHi a b)), .int .u64 (mulLo a b)])
      (by simp [results, Try.results41, go_sem]) rfl ⟨by rw [← IntWalk.i64_left, HE.out]; rfl, by (repeat (first | exact Below.refl _ _ | assumption | refine Below.drew ?_ | refine Below.setCell ?_ (by simp; try omega) _ | refine Below.alloc ?_ (by simp; try omega) _))⟩

theorem cmpS_lt {x y : Int} (h : x < y) : cmpS x y = -1 := by unfold cmpS; rw [if_neg (by omega), if_pos h]
theorem cmpS_gt {x y : Int} (h : y < x) : cmpS x y = 1 := by unfold cmpS; rw [if_neg (by omega), if_neg (by omega)]
theorem cmpS_eq (x : Int) : cmpS x x = 0 := by unfold cmpS; rw [if_pos rfl]

set_option maxHeartbeats 800000 in
theorem wcmp_any (X Y : Int) (w : World) :
    Calls Try.prog 39 #[.agg #[.int .i64 (hiW X), .int .u64 (loW X)], .agg #[.int .i64 (hiW Y), .int .u64 (loW Y)]] w fun e w' => e = .returned (.int .i64 (cmpS X Y)) ∧ Below w.heap.size w w' := by
  rcases cmp_cases X Y with rfl | ⟨h, h1⟩ | ⟨h, h1, h2⟩ | ⟨h, h1⟩ | ⟨h, h1, h2⟩
  · have HE := Lib.hid (cmpS_eq X)
    go_enter Try.func39, Try.ntmps39
    go_wp2
    go_ret
    exact ⟨ret_int HE.out.symm, by (repeat (first | exact Below.refl _ _ | assumption | refine Below.drew ?_ | refine Below.setCell ?_ (by simp; try omega) _ | refine Below.alloc ?_ (by simp; try omega) _))⟩
  · have HE := Lib.hid (cmpS_lt h)
    have e1 : (hiW X == hiW Y) = false := by simp; omega
    clear h
    go_enter Try.func39, Try.ntmps39
    go_wp2
    go_ret
    exact ⟨ret_int HE.out.symm, by (repeat (first | exact Below.refl _ _ | assumption | refine Below.drew ?_ | refine Below.setCell ?_ (by simp; try omega) _ | refine Below.alloc ?_ (by simp; try omega) _))⟩
  · have HE := Lib.hid (cmpS_lt h)
    have e2 : (loW X == loW Y) = false := by simp; omega
    have e1 : (hiW X == hiW Y) = true := by simp [h1]
    have e3 : ¬ hiW X < hiW Y := by omega
    clear h h1
    go_enter Try.func39, Try.ntmps39
    go_wp2
    go_ret
    exact ⟨ret_int HE.out.symm, by (repeat (first | exact Below.refl _ _ | assumption | refine Below.drew ?_ | refine Below.setCell ?_ (by simp; try omega) _ | refine Below.alloc ?_ (by simp; try omega) _))⟩
  · have HE := Lib.hid (cmpS_gt h)
    have e1 : (hiW X == hiW Y) = false := by simp; omega
    have e3 : ¬ hiW X < hiW Y := by omega
    clear h
    go_enter Try.func39, Try.ntmps39
    go_wp2
    go_ret
    exact ⟨ret_int HE.out.symm, by (repeat (first | exact Below.refl _ _ | assumption | refine Below.drew ?_ | refine Below.setCell ?_ (by simp; try omega) _ | refine Below.alloc ?_ (by simp; try omega) _))⟩
  · have HE := Lib.hid (cmpS_gt h)
    have e2 : (loW X == loW Y) = false := by simp; omega
    have e1 : (hiW X == hiW Y) = true := by simp [h1]
    have e3 : ¬ hiW X < hiW Y := by omega
    clear h h1
    go_enter Try.func39, Try.ntmps39
    go_wp2
    go_ret
    exact ⟨ret_int HE.out.symm, by (repeat (first | exact Below.refl _ _ | assumption | refine Below.drew ?_ | refine Below.setCell ?_ (by simp; try omega) _ | refine Below.alloc ?_ (by simp; try omega) _))⟩

set_option maxHeartbeats 400000 in
theorem wsign_any (X : Int) (w : World) :
    Calls Try.prog 36 #[.agg #[.int .i64 (hiW X), .int .u64 (loW X)]] w fun e w' => e = .returned (.int .i64 (sgn X)) ∧ Below w.heap.size w w' := by
  have hc : ∀ W, Calls Try.prog 39 #[.agg #[.int .i64 (hiW X), .int .u64 (loW X)], .agg #[.int .i64 0, .int .u64 0]] W fun e w' => e = .returned (.int .i64 (cmpS X 0)) ∧ Below W.heap.size W w' :=
    fun W => wcmp_any X 0 W
  have Hc := Lib.hid hc
  clear hc
  go_enter Try.func36, Try.ntmps36
  go_wp2_with (go_at_call 39; refine (Hc.out _).mono ?_; rintro e w2 ⟨rfl, hb2⟩)
  go_ret
  exact ⟨rfl, Below.trans (by (repeat (first | exact Below.refl _ _ | assumption | refine Below.drew ?_ | refine Below.setCell ?_ (by simp; try omega) _ | refine Below.alloc ?_ (by simp; try omega) _))) (hb2.mono (by simp))⟩

end Go.Proofs.Ytljmhenhibhbfaa
