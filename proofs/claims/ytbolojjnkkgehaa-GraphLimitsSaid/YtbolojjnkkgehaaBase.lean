import Derived.Test.YtbolojjnkkgehaaProg
import Derived.Test.YtbolojjnkkgehaaFlo
import Derived.WalkSpells
import Derived.Lib.Hide
namespace Go.Proofs.Ytbolojjnkkgehaa
open Go.RowKit

theorem run_f64bits (b : Nat) (w : World) : (callFunc 56 #[.float .f64 b]).run Try.prog w = .ok (.value (.int .u64 b)) w := by
  rw [run_callFunc_extern (e := Extern.MathFloatBits.float64bits) Try.func56 (by kernel_rfl) (by kernel_rfl) (by kernel_rfl) (by kernel_rfl)]
  rfl

theorem run_f64from (n : Int) (w : World) : (callFunc 64 #[.int .u64 n]).run Try.prog w = .ok (.value (.float .f64 n.toNat)) w := by
  rw [run_callFunc_extern (e := Extern.MathFloatBits.float64frombits) Try.func64 (by kernel_rfl) (by kernel_rfl) (by kernel_rfl) (by kernel_rfl)]
  rfl

/-- num.Canon -/
theorem canon_any (b : Nat) (w : World) :
    Calls Try.prog 60 #[.float .f64 b] w fun e w' => e = .returned (.float .f64 (canonB b)) ∧ w = w' := by
  have hx := run_f64from
  cases hn : nanB b with
  | true =>
    have ho := order_nan hn
    have HN := Lib.hid hn
    clear hn
    go_enter Try.func60, Try.ntmps60
    go_wp2
    go_ret
    exact ⟨ret_float (by rw [canonB_nan HN.out]), rfl⟩
  | false =>
    have ho := order_num hn
    have HN := Lib.hid hn
    clear hn
    go_enter Try.func60, Try.ntmps60
    go_wp2
    go_ret
    exact ⟨ret_float (by rw [canonB_num HN.out]), rfl⟩

/-- ref01.Parts -/
theorem parts_any (b : Nat) (hb : b < 18446744073709551616) (w : World) :
    Calls Try.prog 61 #[.float .f64 b] w fun e w' => e = .returned (.tuple #[.bool (signB b), .int .i64 (expoB b), .int .i64 (fracB b)]) ∧ w = w' := by
  have hx := run_f64bits b
  have HB := Lib.hid hb
  clear hb
  go_enter Try.func61, Try.ntmps61
  go_wp2
  go_ret3
  refine ⟨?_, rfl⟩
  show Ending.returned (.tuple #[.bool ((b : Int) / 9223372036854775808 == 1), .int .i64 (wrap64 (bits .and .u64 ((b : Int) / 4503599627370496) 2047)), .int .i64 (wrap64 (bits .and .u64 (b : Int) 4503599627370495))]) = _
  have hb := HB.out
  rw [and_expo b hb, and_frac b hb, wrap64_nat _ (by omega), wrap64_nat _ (by omega)]
  have : ((b : Int) / 9223372036854775808 == 1) = signB b := by rw [Bool.eq_iff_iff]; simp [signB_eq]; omega
  rw [this, expoB_eq, fracB_eq]

/-- ref01.Nan -/
theorem nan_any (b : Nat) (hb : b < 18446744073709551616) (w : World) :
    Calls Try.prog 55 #[.float .f64 b] w fun e w' => e = .returned (.bool (nanB b)) ∧ w = w' := by
  have HB := Lib.hid hb
  clear hb
  have HN := Lib.hid (nanB_parts b)
  by_cases h : (expoB b : Int) = 2047
  · have h1 : ((expoB b : Int) == 2047) = true := by simpa using h
    clear h
    go_enter Try.func55, Try.ntmps55
    go_wp2_with (go_at_call 61; refine (parts_any _ HB.out _).mono ?_; rintro e w' ⟨rfl, rfl⟩)
    go_ret
    exact ⟨ret_bool (by rw [HN.out, h1]; rfl), rfl⟩
  · have h1 : ((expoB b : Int) == 2047) = false := by simpa using h
    clear h
    go_enter Try.func55, Try.ntmps55
    go_wp2_with (go_at_call 61; refine (parts_any _ HB.out _).mono ?_; rintro e w' ⟨rfl, rfl⟩)
    go_ret
    exact ⟨ret_bool (by rw [HN.out, h1]; rfl), rfl⟩

/-- ref01.Bits -/
theorem bits_any (b : Nat) (hb : b < 18446744073709551616) (w : World) :
    Calls Try.prog 36 #[.float .f64 b] w fun e w' => e = .returned (.int .u64 (canonB b)) ∧ w = w' := by
  have HB := Lib.hid hb
  clear hb
  have hx := run_f64bits b
  cases hn : nanB b with
  | true =>
    have HN := Lib.hid hn
    go_enter Try.func36, Try.ntmps36
    go_wp2_with (go_at_call 55; refine (nan_any _ HB.out _).mono ?_; rintro e w' ⟨rfl, rfl⟩)
    go_ret
    exact ⟨ret_int (by rw [canonB_nan HN.out]; rfl), rfl⟩
  | false =>
    have HN := Lib.hid hn
    go_enter Try.func36, Try.ntmps36
    go_wp2_with (go_at_call 55; refine (nan_any _ HB.out _).mono ?_; rintro e w' ⟨rfl, rfl⟩)
    go_ret
    exact ⟨ret_int (by rw [canonB_num HN.out]), rfl⟩
end Go.Proofs.Ytbolojjnkkgehaa
