import Derived.Test.YtnbpioinhjijcaaDoorProg
import Derived.Test.YtnbpioinhjijcaaDoorFlo
import Derived.WalkSpells
import Derived.Lib.Hide
namespace Go.Proofs.YtnbpioinhjijcaaDoor
open Go.RowKit

theorem run_f64bits (b : Nat) (w : World) : (callFunc 14 #[.float .f64 b]).run Tryd.prog w = .ok (.value (.int .u64 b)) w := by
  rw [run_callFunc_extern (e := Extern.MathFloatBits.float64bits) Tryd.func14 (by kernel_rfl) (by kernel_rfl) (by kernel_rfl) (by kernel_rfl)]
  rfl
theorem run_f64from (n : Int) (w : World) : (callFunc 35 #[.int .u64 n]).run Tryd.prog w = .ok (.value (.float .f64 n.toNat)) w := by
  rw [run_callFunc_extern (e := Extern.MathFloatBits.float64frombits) Tryd.func35 (by kernel_rfl) (by kernel_rfl) (by kernel_rfl) (by kernel_rfl)]
  rfl

/-- num.Key -/
theorem key_any (b : Nat) (hb : b < 18446744073709551616) (w : World) :
    Calls Tryd.prog 19 #[.float .f64 b] w fun e w' => e = .returned (.int .u64 (keyB b)) ∧ w = w' := by
  have hx := run_f64bits b
  have HB := Lib.hid hb
  clear hb
  cases hn : nanB b with
  | true =>
    have ho := order_nan hn
    have HN := Lib.hid hn
    clear hn
    go_enter Tryd.func19, Tryd.ntmps19
    go_wp2
    go_ret
    exact ⟨ret_int (by rw [keyB_nan' HN.out]; rfl), rfl⟩
  | false =>
    have ho := order_num hn
    have HN := Lib.hid hn
    clear hn
    by_cases hs : 9223372036854775808 ≤ b
    · have hs1 : decide ((9223372036854775808 : Int) ≤ (b : Int)) = true := by simp; omega
      have HS := Lib.hid hs
      clear hs
      go_enter Tryd.func19, Tryd.ntmps19
      go_wp2_with fail
      go_ret
      exact ⟨ret_int (by rw [keyB_neg HN.out HS.out]; exact xor_max b HB.out), rfl⟩
    · have hs1 : decide ((9223372036854775808 : Int) ≤ (b : Int)) = false := by simp; omega
      have HS := Lib.hid hs
      clear hs
      go_enter Tryd.func19, Tryd.ntmps19
      go_wp2_with fail
      go_ret
      exact ⟨ret_int (by rw [keyB_pos HN.out HS.out]; exact or_sign b (by have := HS.out; omega)), rfl⟩

/-- num.Canon -/
theorem canon_any (b : Nat) (w : World) :
    Calls Tryd.prog 15 #[.float .f64 b] w fun e w' => e = .returned (.float .f64 (canonB b)) ∧ w = w' := by
  have hx := run_f64from
  cases hn : nanB b with
  | true =>
    have ho := order_nan hn
    have HN := Lib.hid hn
    clear hn
    go_enter Tryd.func15, Tryd.ntmps15
    go_wp2
    go_ret
    exact ⟨ret_float (by rw [canonB_nan HN.out]), rfl⟩
  | false =>
    have ho := order_num hn
    have HN := Lib.hid hn
    clear hn
    go_enter Tryd.func15, Tryd.ntmps15
    go_wp2
    go_ret
    exact ⟨ret_float (by rw [canonB_num HN.out]), rfl⟩

/-- num.NaN -/
theorem nan0_any (w : World) : Calls Tryd.prog 34 #[] w fun e w' => e = .returned (.float .f64 9221120237041090561) ∧ w = w' := by
  have hx := run_f64from
  go_enter Tryd.func34, Tryd.ntmps34
  go_wp2
  go_ret
  exact ⟨rfl, rfl⟩

/-- num.OfKey -/
theorem ofKey_nat (k : Nat) (hk : k < 18446744073709551616) (w : World) :
    Calls Tryd.prog 30 #[.int .u64 k] w fun e w' => e = .returned (ofKeyV k) ∧ w = w' := by
  have hx := run_f64from
  have HB := Lib.hid hk
  have hxor := xor_max' k HB.out
  have HL := Lib.hid (ofKeyB_lt k HB.out)
  by_cases h1 : k = 18446744073709551615
  · have hb := ofKeyB_max h1
    have hk2 : keyB (ofKeyB k) = k := by rw [hb, h1]; exact keyB_nan
    have HE := Lib.hid (ofKeyV_yes hk2)
    have c1 : decide ((9223372036854775808 : Int) ≤ (k : Int)) = true := by simp; omega
    have c2 : ((k : Int) == 18446744073709551615) = true := by simp; omega
    have HN := Lib.hid (show keyB 9221120237041090561 = k by rw [← hb]; exact hk2)
    have HB2 := Lib.hid hb
    clear hk h1 hb hk2
    go_enter Tryd.func30, Tryd.ntmps30
    go_wp2_with (first | (go_at_call 34; refine (nan0_any _).mono ?_; rintro e w' ⟨rfl, rfl⟩) | (go_at_call 19; refine (key_any _ nan_lt _).mono ?_; rintro e w' ⟨rfl, rfl⟩; rw [HN.out]))
    go_ret2
    exact ⟨by rw [HE.out, HB2.out]; rfl, rfl⟩
  · have c2 : ((k : Int) == 18446744073709551615) = false := by simp; omega
    by_cases hs : 9223372036854775808 ≤ k
    · have c1 : decide ((9223372036854775808 : Int) ≤ (k : Int)) = true := by simp; omega
      have HW := Lib.hid (sub_bit' k HB.out hs)
      have HB2 := Lib.hid (ofKeyB_low h1 hs)
      clear hk h1 hs
      by_cases hk2 : keyB (lowB k) = k
      · have HE := Lib.hid (ofKeyV_yes (k := k) (by rw [HB2.out]; exact hk2))
        have HN := Lib.hid hk2
        clear hk2
        go_enter Tryd.func30, Tryd.ntmps30
        go_wp2_with (go_at_call 19; rw [HW.out]; refine (key_any _ (by rw [← HB2.out]; exact HL.out) _).mono ?_; rintro e w' ⟨rfl, rfl⟩; rw [HN.out])
        go_ret2
        exact ⟨by rw [HE.out, HB2.out]; rfl, rfl⟩
      · have HE := Lib.hid (ofKeyV_no (k := k) (by rw [HB2.out]; exact hk2))
        have c3 : ((keyB (lowB k) : Int) != (k : Int)) = true := by simp; omega
        clear hk2
        go_enter Tryd.func30, Tryd.ntmps30
        go_wp2_with (go_at_call 19; rw [HW.out]; refine (key_any _ (by rw [← HB2.out]; exact HL.out) _).mono ?_; rintro e w' ⟨rfl, rfl⟩)
        go_ret2
        exact ⟨by rw [HE.out]; rfl, rfl⟩
    · have c1 : decide ((9223372036854775808 : Int) ≤ (k : Int)) = false := by simp; omega
      have HB2 := Lib.hid (ofKeyB_not h1 hs)
      clear hk h1 hs
      by_cases hk2 : keyB (notB k) = k
      · have HE := Lib.hid (ofKeyV_yes (k := k) (by rw [HB2.out]; exact hk2))
        have HN := Lib.hid hk2
        clear hk2
        go_enter Tryd.func30, Tryd.ntmps30
        go_wp2_with (go_at_call 19; refine (key_any _ (by rw [← HB2.out]; exact HL.out) _).mono ?_; rintro e w' ⟨rfl, rfl⟩; rw [HN.out])
        go_ret2
        exact ⟨by rw [HE.out, HB2.out]; rfl, rfl⟩
      · have HE := Lib.hid (ofKeyV_no (k := k) (by rw [HB2.out]; exact hk2))
        have c3 : ((keyB (notB k) : Int) != (k : Int)) = true := by simp; omega
        clear hk2
        go_enter Tryd.func30, Tryd.ntmps30
        go_wp2_with (go_at_call 19; refine (key_any _ (by rw [← HB2.out]; exact HL.out) _).mono ?_; rintro e w' ⟨rfl, rfl⟩)
        go_ret2
        exact ⟨by rw [HE.out]; rfl, rfl⟩

/-- ref01.Parts -/
theorem parts_any (b : Nat) (hb : b < 18446744073709551616) (w : World) :
    Calls Tryd.prog 50 #[.float .f64 b] w fun e w' => e = .returned (.tuple #[.bool (signB b), .int .i64 (expoB b), .int .i64 (fracB b)]) ∧ w = w' := by
  have hx := run_f64bits b
  have HB := Lib.hid hb
  clear hb
  go_enter Tryd.func50, Tryd.ntmps50
  go_wp2
  go_ret3
  refine ⟨?_, rfl⟩
  show Ending.returned (.tuple #[.bool ((b : Int) / 9223372036854775808 == 1), .int .i64 (wrap64 (bits .and .u64 ((b : Int) / 4503599627370496) 2047)), .int .i64 (wrap64 (bits .and .u64 (b : Int) 4503599627370495))]) = _
  have hb := HB.out
  rw [and_expo b hb, and_frac b hb, wrap64_nat _ (by omega), wrap64_nat _ (by omega)]
  have : ((b : Int) / 9223372036854775808 == 1) = signB b := by rw [Bool.eq_iff_iff]; simp [signB_eq]; omega
  rw [this, expoB_eq, fracB_eq]

/-- ref01.Nan -/
theorem nan_any (b : Nat) (hb : b < 18446744073709551616) (w : World) :
    Calls Tryd.prog 36 #[.float .f64 b] w fun e w' => e = .returned (.bool (nanB b)) ∧ w = w' := by
  have HB := Lib.hid hb
  clear hb
  have HN := Lib.hid (nanB_parts b)
  by_cases h : (expoB b : Int) = 2047
  · have h1 : ((expoB b : Int) == 2047) = true := by simpa using h
    clear h
    go_enter Tryd.func36, Tryd.ntmps36
    go_wp2_with (go_at_call 50; refine (parts_any _ HB.out _).mono ?_; rintro e w' ⟨rfl, rfl⟩)
    go_ret
    exact ⟨ret_bool (by rw [HN.out, h1]; rfl), rfl⟩
  · have h1 : ((expoB b : Int) == 2047) = false := by simpa using h
    clear h
    go_enter Tryd.func36, Tryd.ntmps36
    go_wp2_with (go_at_call 50; refine (parts_any _ HB.out _).mono ?_; rintro e w' ⟨rfl, rfl⟩)
    go_ret
    exact ⟨ret_bool (by rw [HN.out, h1]; rfl), rfl⟩

/-- ref01.Bits -/
theorem bits_any (b : Nat) (hb : b < 18446744073709551616) (w : World) :
    Calls Tryd.prog 16 #[.float .f64 b] w fun e w' => e = .returned (.int .u64 (canonB b)) ∧ w = w' := by
  have HB := Lib.hid hb
  clear hb
  have hx := run_f64bits b
  cases hn : nanB b with
  | true =>
    have HN := Lib.hid hn
    go_enter Tryd.func16, Tryd.ntmps16
    go_wp2_with (go_at_call 36; refine (nan_any _ HB.out _).mono ?_; rintro e w' ⟨rfl, rfl⟩)
    go_ret
    exact ⟨ret_int (by rw [canonB_nan HN.out]; rfl), rfl⟩
  | false =>
    have HN := Lib.hid hn
    go_enter Tryd.func16, Tryd.ntmps16
    go_wp2_with (go_at_call 36; refine (nan_any _ HB.out _).mono ?_; rintro e w' ⟨rfl, rfl⟩)
    go_ret
    exact ⟨ret_int (by rw [canonB_num HN.out]), rfl⟩

/-- ref01.Key -/
theorem refKey_any (b : Nat) (hb : b < 18446744073709551616) (w : World) :
    Calls Tryd.prog 20 #[.float .f64 b] w fun e w' => e = .returned (.int .u64 (keyB b)) ∧ w = w' := by
  have hx := run_f64bits b
  have HB := Lib.hid hb
  cases hn : nanB b with
  | true =>
    have HN := Lib.hid hn
    clear hb
    go_enter Tryd.func20, Tryd.ntmps20
    go_wp2_with (go_at_call 36; refine (nan_any _ HB.out _).mono ?_; rintro e w' ⟨rfl, rfl⟩)
    go_ret
    exact ⟨ret_int (by rw [keyB_nan' HN.out]; rfl), rfl⟩
  | false =>
    have HN := Lib.hid hn
    by_cases hs : 9223372036854775808 ≤ b
    · have hs1 : ((b : Int) / 9223372036854775808 == 1) = true := by simp; omega
      have HS := Lib.hid hs
      clear hs hb
      go_enter Tryd.func20, Tryd.ntmps20
      go_wp2_with (go_at_call 36; refine (nan_any _ HB.out _).mono ?_; rintro e w' ⟨rfl, rfl⟩)
      go_ret
      exact ⟨ret_int (by have h1 := HS.out; have h2 := HB.out; rw [keyB_neg HN.out h1]; rw [IntKind.wrap_u64]; omega), rfl⟩
    · have hs1 : ((b : Int) / 9223372036854775808 == 1) = false := by simp; omega
      have HS := Lib.hid hs
      clear hs hb
      go_enter Tryd.func20, Tryd.ntmps20
      go_wp2_with (go_at_call 36; refine (nan_any _ HB.out _).mono ?_; rintro e w' ⟨rfl, rfl⟩)
      go_ret
      exact ⟨ret_int (by have h1 := HS.out; have h2 := HB.out; rw [keyB_pos HN.out h1]; rw [IntKind.wrap_u64]; omega), rfl⟩

end Go.Proofs.YtnbpioinhjijcaaDoor
