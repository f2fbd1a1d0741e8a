import Derived.Test.YtbcnokidnpnmhaaProg
import Derived.Test.YtbcnokidnpnmhaaFlo
import Derived.WalkSpells
import Derived.Lib.Hide
namespace Go.Proofs.Ytbcnokidnpnmhaa
open Go.RowKit

theorem run_f64bits (b : Nat) (w : World) : (callFunc 29 #[.float .f64 b]).run Try.prog w = .ok (.value (.int .u64 b)) w := by
  rw [run_callFunc_extern (e := Extern.MathFloatBits.float64bits) Try.func29 (by kernel_rfl) (by kernel_rfl) (by kernel_rfl) (by kernel_rfl)]
  rfl
theorem run_f64from (n : Int) (w : World) : (callFunc 26 #[.int .u64 n]).run Try.prog w = .ok (.value (.float .f64 n.toNat)) w := by
  rw [run_callFunc_extern (e := Extern.MathFloatBits.float64frombits) Try.func26 (by kernel_rfl) (by kernel_rfl) (by kernel_rfl) (by kernel_rfl)]
  rfl

/-- num.Key -/
theorem key_any (b : Nat) (hb : b < 18446744073709551616) (w : World) :
    Calls Try.prog 28 #[.float .f64 b] w fun e w' => e = .returned (.int .u64 (keyB b)) ∧ w = w' := by
  have hx := run_f64bits b
  have HB := Lib.hid hb
  clear hb
  cases hn : nanB b with
  | true =>
    have ho := order_nan hn
    have HN := Lib.hid hn
    clear hn
    go_enter Try.func28, Try.ntmps28
    go_wp2
    go_ret
    exact ⟨ret_int (by rw [keyB_nan' HN.out]; rfl), rfl⟩
  | false =>
    have ho := order_num hn
    have HN := Lib.hid hn
    clear hn
    by_cases hs : 9223372036854775808 ≤ b
    · have hs1 : decide ((9223372036854775808 : Int) ≤ (b : Int)) = true := by simp; omega
      have HS := Lib.hid hs
      clear hs
      go_enter Try.func28, Try.ntmps28
      go_wp2_with fail
      go_ret
      exact ⟨ret_int (by rw [keyB_neg HN.out HS.out]; exact xor_max b HB.out), rfl⟩
    · have hs1 : decide ((9223372036854775808 : Int) ≤ (b : Int)) = false := by simp; omega
      have HS := Lib.hid hs
      clear hs
      go_enter Try.func28, Try.ntmps28
      go_wp2_with fail
      go_ret
      exact ⟨ret_int (by rw [keyB_pos HN.out HS.out]; exact or_sign b (by have := HS.out; omega)), rfl⟩

/-- num.Canon -/
theorem canon_any (b : Nat) (w : World) :
    Calls Try.prog 42 #[.float .f64 b] w fun e w' => e = .returned (.float .f64 (canonB b)) ∧ w = w' := by
  have hx := run_f64from
  cases hn : nanB b with
  | true =>
    have ho := order_nan hn
    have HN := Lib.hid hn
    clear hn
    go_enter Try.func42, Try.ntmps42
    go_wp2
    go_ret
    exact ⟨ret_float (by rw [canonB_nan HN.out]), rfl⟩
  | false =>
    have ho := order_num hn
    have HN := Lib.hid hn
    clear hn
    go_enter Try.func42, Try.ntmps42
    go_wp2
    go_ret
    exact ⟨ret_float (by rw [canonB_num HN.out]), rfl⟩

/-- num.NaN -/
theorem nan0_any (w : World) : Calls Try.prog 50 #[] w fun e w' => e = .returned (.float .f64 9221120237041090561) ∧ w = w' := by
  have hx := run_f64from
  go_enter Try.func50, Try.ntmps50
  go_wp2
  go_ret
  exact ⟨rfl, rfl⟩

/-- num.OfKey -/
theorem ofKey_nat (k : Nat) (hk : k < 18446744073709551616) (w : World) :
    Calls Try.prog 49 #[.int .u64 k] w fun e w' => e = .returned (ofKeyV k) ∧ w = w' := by
  have hx := run_f64from
  have HB := Lib.hid hk
  have hxor := xor_max' k HB.out
  have HL := Lib.hid (ofKeyB_lt k HB.out)
  by_cases h1 : k = 18446744073709551615
  · have hb := ofKeyB_max h1
    have hk2 : keyB (ofKeyB k) = k := by rw [hb, h1]; exact keyB_nan
    have HE := Lib.hid (ofKeyV_yes hk2)
    have c1 : decide ((9223372036854775808 : Int) ≤ (k : Int)) = true := by simp; omega
    have c2 : ((k : Int) == 18446744073709551615) = true := by simp; omega
    have HN := Lib.hid (show keyB 9221120237041090561 = k by rw [← hb]; exact hk2)
    have HB2 := Lib.hid hb
    clear hk h1 hb hk2
    go_enter Try.func49, Try.ntmps49
    go_wp2_with (first | (go_at_call 50; refine (nan0_any _).mono ?_; rintro e w' ⟨rfl, rfl⟩) | (go_at_call 28; refine (key_any _ nan_lt _).mono ?_; rintro e w' ⟨rfl, rfl⟩; rw [HN.out]))
    go_ret2
    exact ⟨by rw [HE.out, HB2.out]; rfl, rfl⟩
  · have c2 : ((k : Int) == 18446744073709551615) = false := by simp; omega
    by_cases hs : 9223372036854775808 ≤ k
    · have c1 : decide ((9223372036854775808 : Int) ≤ (k : Int)) = true := by simp; omega
      have HW := Lib.hid (sub_bit' k HB.out hs)
      have HB2 := Lib.hid (ofKeyB_low h1 hs)
      clear hk h1 hs
      by_cases hk2 : keyB (lowB k) = k
      · have HE := Lib.hid (ofKeyV_yes (k := k) (by rw [HB2.out]; exact hk2))
        have HN := Lib.hid hk2
        clear hk2
        go_enter Try.func49, Try.ntmps49
        go_wp2_with (go_at_call 28; rw [HW.out]; refine (key_any _ (by rw [← HB2.out]; exact HL.out) _).mono ?_; rintro e w' ⟨rfl, rfl⟩; rw [HN.out])
        go_ret2
        exact ⟨by rw [HE.out, HB2.out]; rfl, rfl⟩
      · have HE := Lib.hid (ofKeyV_no (k := k) (by rw [HB2.out]; exact hk2))
        have c3 : ((keyB (lowB k) : Int) != (k : Int)) = true := by simp; omega
        clear hk2
        go_enter Try.func49, Try.ntmps49
        go_wp2_with (go_at_call 28; rw [HW.out]; refine (key_any _ (by rw [← HB2.out]; exact HL.out) _).mono ?_; rintro e w' ⟨rfl, rfl⟩)
        go_ret2
        exact ⟨by rw [HE.out]; rfl, rfl⟩
    · have c1 : decide ((9223372036854775808 : Int) ≤ (k : Int)) = false := by simp; omega
      have HB2 := Lib.hid (ofKeyB_not h1 hs)
      clear hk h1 hs
      by_cases hk2 : keyB (notB k) = k
      · have HE := Lib.hid (ofKeyV_yes (k := k) (by rw [HB2.out]; exact hk2))
        have HN := Lib.hid hk2
        clear hk2
        go_enter Try.func49, Try.ntmps49
        go_wp2_with (go_at_call 28; refine (key_any _ (by rw [← HB2.out]; exact HL.out) _).mono ?_; rintro e w' ⟨rfl, rfl⟩; rw [HN.out])
        go_ret2
        exact ⟨by rw [HE.out, HB2.out]; rfl, rfl⟩
      · have HE := Lib.hid (ofKeyV_no (k := k) (by rw [HB2.out]; exact hk2))
        have c3 : ((keyB (notB k) : Int) != (k : Int)) = true := by simp; omega
        clear hk2
        go_enter Try.func49, Try.ntmps49
        go_wp2_with (go_at_call 28; refine (key_any _ (by rw [← HB2.out]; exact HL.out) _).mono ?_; rintro e w' ⟨rfl, rfl⟩)
        go_ret2
        exact ⟨by rw [HE.out]; rfl, rfl⟩

/-- ref01.Parts -/
theorem parts_any (b : Nat) (hb : b < 18446744073709551616) (w : World) :
    Calls Try.prog 51 #[.float .f64 b] w fun e w' => e = .returned (.tuple #[.bool (signB b), .int .i64 (expoB b), .int .i64 (fracB b)]) ∧ w = w' := by
  have hx := run_f64bits b
  have HB := Lib.hid hb
  clear hb
  go_enter Try.func51, Try.ntmps51
  go_wp2
  go_ret3
  refine ⟨?_, rfl⟩
  show Ending.returned (.tuple #[.bool ((b : Int) / 9223372036854775808 == 1), .int .i64 (wrap64 (bits .and .u64 ((b : Int) / 4503599627370496) 2047)), .int .i64 (wrap64 (bits .and .u64 (b : Int) 4503599627370495))]) = _
  have hb := HB.out
  rw [and_expo b hb, and_frac b hb, wrap64_nat _ (by omega), wrap64_nat _ (by omega)]
  have : ((b : Int) / 9223372036854775808 == 1) = signB b := by rw [Bool.eq_iff_iff]; simp [signB_eq]; omega
  rw [this, expoB_eq, fracB_eq]

/-- ref01.Nan -/
theorem nan_any (b : Nat) (hb : b < 18446744073709551616) (w : World) :
    Calls Try.prog 43 #[.float .f64 b] w fun e w' => e = .returned (.bool (nanB b)) ∧ w = w' := by
  have HB := Lib.hid hb
  clear hb
  have HN := Lib.hid (nanB_parts b)
  by_cases h : (expoB b : Int) = 2047
  · have h1 : ((expoB b : Int) == 2047) = true := by simpa using h
    clear h
    go_enter Try.func43, Try.ntmps43
    go_wp2_with (go_at_call 51; refine (parts_any _ HB.out _).mono ?_; rintro e w' ⟨rfl, rfl⟩)
    go_ret
    exact ⟨ret_bool (by rw [HN.out, h1]; rfl), rfl⟩
  · have h1 : ((expoB b : Int) == 2047) = false := by simpa using h
    clear h
    go_enter Try.func43, Try.ntmps43
    go_wp2_with (go_at_call 51; refine (parts_any _ HB.out _).mono ?_; rintro e w' ⟨rfl, rfl⟩)
    go_ret
    exact ⟨ret_bool (by rw [HN.out, h1]; rfl), rfl⟩

/-- ref01.Bits -/
theorem bits_any (b : Nat) (hb : b < 18446744073709551616) (w : World) :
    Calls Try.prog 30 #[.float .f64 b] w fun e w' => e = .returned (.int .u64 (canonB b)) ∧ w = w' := by
  have HB := Lib.hid hb
  clear hb
  have hx := run_f64bits b
  cases hn : nanB b with
  | true =>
    have HN := Lib.hid hn
    go_enter Try.func30, Try.ntmps30
    go_wp2_with (go_at_call 43; refine (nan_any _ HB.out _).mono ?_; rintro e w' ⟨rfl, rfl⟩)
    go_ret
    exact ⟨ret_int (by rw [canonB_nan HN.out]; rfl), rfl⟩
  | false =>
    have HN := Lib.hid hn
    go_enter Try.func30, Try.ntmps30
    go_wp2_with (go_at_call 43; refine (nan_any _ HB.out _).mono ?_; rintro e w' ⟨rfl, rfl⟩)
    go_ret
    exact ⟨ret_int (by rw [canonB_num HN.out]), rfl⟩

/-- ref01.Key -/
theorem refKey_any (b : Nat) (hb : b < 18446744073709551616) (w : World) :
    Calls Try.prog 32 #[.float .f64 b] w fun e w' => e = .returned (.int .u64 (keyB b)) ∧ w = w' := by
  have hx := run_f64bits b
  have HB := Lib.hid hb
  cases hn : nanB b with
  | true =>
    have HN := Lib.hid hn
    clear hb
    go_enter Try.func32, Try.ntmps32
    go_wp2_with (go_at_call 43; refine (nan_any _ HB.out _).mono ?_; rintro e w' ⟨rfl, rfl⟩)
    go_ret
    exact ⟨ret_int (by rw [keyB_nan' HN.out]; rfl), rfl⟩
  | false =>
    have HN := Lib.hid hn
    by_cases hs : 9223372036854775808 ≤ b
    · have hs1 : ((b : Int) / 9223372036854775808 == 1) = true := by simp; omega
      have HS := Lib.hid hs
      clear hs hb
      go_enter Try.func32, Try.ntmps32
      go_wp2_with (go_at_call 43; refine (nan_any _ HB.out _).mono ?_; rintro e w' ⟨rfl, rfl⟩)
      go_ret
      exact ⟨ret_int (by have h1 := HS.out; have h2 := HB.out; rw [keyB_neg HN.out h1]; rw [IntKind.wrap_u64]; omega), rfl⟩
    · have hs1 : ((b : Int) / 9223372036854775808 == 1) = false := by simp; omega
      have HS := Lib.hid hs
      clear hs hb
      go_enter Try.func32, Try.ntmps32
      go_wp2_with (go_at_call 43; refine (nan_any _ HB.out _).mono ?_; rintro e w' ⟨rfl, rfl⟩)
      go_ret
      exact ⟨ret_int (by have h1 := HS.out; have h2 := HB.out; rw [keyB_pos HN.out h1]; rw [IntKind.wrap_u64]; omega), rfl⟩

/-- ref03.float -/
theorem refFloat_any (k : Nat) (hk : k < 18446744073709551616) (w : World) :
    Calls Try.prog 40 #[.int .u64 k] w fun e w' => e = .returned (.float .f64 (ofKeyB k)) ∧ w = w' := by
  have hx := run_f64from
  have HB := Lib.hid hk
  by_cases h1 : k = 18446744073709551615
  · have c1 : ((k : Int) == 18446744073709551615) = true := by simp; omega
    have HE := Lib.hid (ofKeyB_max h1)
    clear hk h1
    go_enter Try.func40, Try.ntmps40
    go_wp2_with fail
    go_ret
    exact ⟨by rw [HE.out]; rfl, rfl⟩
  · have c1 : ((k : Int) == 18446744073709551615) = false := by simp; omega
    by_cases hs : 9223372036854775808 ≤ k
    · have hs1 : ((k : Int) / 9223372036854775808 == 1) = true := by simp; omega
      have HE := Lib.hid (ofKeyB_low h1 hs)
      have HS := Lib.hid hs
      clear hk h1 hs
      go_enter Try.func40, Try.ntmps40
      go_wp2_with fail
      go_ret
      exact ⟨ret_float (by have h1 := HS.out; have h2 := HB.out; rw [HE.out]; rw [IntKind.wrap_u64]; (first | rw [lowB_eq] | rw [notB_eq]); omega), rfl⟩
    · have hs1 : ((k : Int) / 9223372036854775808 == 1) = false := by simp; omega
      have HE := Lib.hid (ofKeyB_not h1 hs)
      have HS := Lib.hid hs
      clear hk h1 hs
      go_enter Try.func40, Try.ntmps40
      go_wp2_with fail
      go_ret
      exact ⟨ret_float (by have h1 := HS.out; have h2 := HB.out; rw [HE.out]; rw [IntKind.wrap_u64]; (first | rw [lowB_eq] | rw [notB_eq]); omega), rfl⟩

end Go.Proofs.Ytbcnokidnpnmhaa
