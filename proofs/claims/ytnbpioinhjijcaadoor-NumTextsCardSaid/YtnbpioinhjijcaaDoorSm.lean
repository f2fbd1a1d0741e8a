import Derived.Test.YtnbpioinhjijcaaDoorOrd
import Derived.Laws.BitsAllLaws
/-! Small functions of math. -/
namespace Go.Proofs.YtnbpioinhjijcaaDoor
attribute [local irreducible] Ieee.Format.read
open Go.RowKit

theorem andNot_sign (b : Nat) (h : b < 18446744073709551616) : bits .andNot .u64 (b : Int) 9223372036854775808 = ((b % 9223372036854775808 : Nat) : Int) := by
  rw [show (9223372036854775808 : Int) = ((9223372036854775808 : Nat) : Int) from rfl, u64_andNot_nat _ _ h (by decide)]
  congr 1
  exact Nat.and_two_pow_sub_one_eq_mod b 63
theorem andNot_sign' (b : Nat) (h : b < 18446744073709551616) : (bits .andNot .u64 (b : Int) 9223372036854775808).toNat = b % 9223372036854775808 := by
  rw [andNot_sign b h]; rfl
theorem andNot_expo (b : Nat) (h : b < 9223372036854775808) : bits .andNot .u64 (b : Int) 9218868437227405312 = ((b % 4503599627370496 : Nat) : Int) := by
  rw [show (9218868437227405312 : Int) = ((9218868437227405312 : Nat) : Int) from rfl, u64_andNot_nat _ _ (by omega) (by decide)]
  congr 1
  have e : 18446744073709551615 - 9218868437227405312 = 9223372036854775808 ||| 4503599627370495 := by decide
  rw [e, Nat.and_or_distrib_left]
  have h1 : b &&& 9223372036854775808 = 0 := by
    apply Nat.eq_of_testBit_eq
    intro i
    rw [Nat.testBit_and, show (9223372036854775808 : Nat) = 2 ^ 63 by decide, Nat.testBit_two_pow]
    by_cases hi : 63 = i
    · subst hi
      rw [Nat.testBit_lt_two_pow (show b < 2 ^ 63 by omega)]
      simp
    · simp [hi]
  rw [h1, Nat.zero_or]
  exact Nat.and_two_pow_sub_one_eq_mod b 52
theorem or_half (x : Nat) (h : x < 4503599627370496) : bits .or .u64 (x : Int) 4602678819172646912 = ((4602678819172646912 + x : Nat) : Int) := by
  rw [show (4602678819172646912 : Int) = ((4602678819172646912 : Nat) : Int) from rfl, u64_or_nat _ _ (by omega) (by decide)]
  congr 1
  rw [Nat.or_comm, nat_join 52 _ _ (by decide) (by omega)]

theorem signbit_any (b : Nat) (hb : b < 18446744073709551616) (w : World) : Calls Tryd.prog 44 #[.float .f64 b] w fun e w' => e = .returned (.bool (signB b)) ∧ w = w' := by
  have hx := run_f64bits b
  have HB := Lib.hid hb
  clear hb
  go_enter Tryd.func44, Tryd.ntmps44
  go_wp2
  go_ret
  refine ⟨?_, rfl⟩
  show Ending.returned (.bool (decide (wrap64 (b : Int) < 0))) = _
  congr 2
  rw [Bool.eq_iff_iff, signB_iff]
  have := HB.out
  simp only [decide_eq_true_eq]
  unfold wrap64
  omega
theorem abs_any (b : Nat) (hb : b < 18446744073709551616) (w : World) : Calls Tryd.prog 46 #[.float .f64 b] w fun e w' => e = .returned (.float .f64 (b % 9223372036854775808)) ∧ w = w' := by
  have hx := run_f64bits b
  have hy := run_f64from
  have HB := Lib.hid hb
  clear hb
  go_enter Tryd.func46, Tryd.ntmps46
  go_wp2
  go_ret
  exact ⟨by rw [← andNot_sign' b HB.out]; rfl, rfl⟩

/-- Floor's word, of a number. -/
def floorB (b : Nat) : Nat := F64.write ((F64.read b).integral .down)
theorem integral_whole (n : String) (way : Ieee.Toward) (b : Nat) (d : Ieee.Datum) (hd : FloatKind.f64.decode b = d) (h : ∀ s t, d ≠ .nan s t) : Extern.MathFloor.toIntegral n way #[.float .f64 b] = pure (.float .f64 (FloatKind.f64.encode (d.integral way))) := by
  conv => lhs; whnf
  rw [hd]
  cases d with
  | number s m p => rfl
  | infinity s => rfl
  | nan s t => exact absurd rfl (h s t)
theorem run_floor (b : Nat) (h : ¬ nan b) (w : World) : (callFunc 66 #[.float .f64 b]).run Tryd.prog w = .ok (.value (.float .f64 (floorB b))) w := by
  rw [run_callFunc_extern (e := Extern.MathFloor.toIntegral "math.archFloor" .down) Tryd.func66 (by kernel_rfl) (by kernel_rfl) (by kernel_rfl) (by kernel_rfl)]
  unfold nan at h
  rw [integral_whole _ _ b _ rfl (fun s t e => ?_)]
  · rfl
  · have e' : F64.read b = .nan s t := e
    by_cases hi : b % 9223372036854775808 = 9218868437227405312
    · rw [read_infinite b hi] at e'; cases e'
    · rw [read_num b (by omega)] at e'; cases e'
theorem floor_any (b : Nat) (h : ¬ nan b) (w : World) : Calls Tryd.prog 47 #[.float .f64 b] w fun e w' => e = .returned (.float .f64 (floorB b)) ∧ w = w' := by
  have hx := run_floor b h
  clear h
  go_enter Tryd.func47, Tryd.ntmps47
  go_wp2_with fail
  go_ret
  exact ⟨rfl, rfl⟩
end Go.Proofs.YtnbpioinhjijcaaDoor
