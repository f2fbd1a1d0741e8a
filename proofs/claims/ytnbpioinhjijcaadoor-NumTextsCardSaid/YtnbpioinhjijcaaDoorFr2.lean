import Derived.Test.YtnbpioinhjijcaaDoorFrx
import Derived.Test.YtnbpioinhjijcaaDoorFmt
/-! Frexp. -/
namespace Go.Proofs.YtnbpioinhjijcaaDoor
open Go.RowKit

def SN (r : Nat) : Nat := sigR (normR r)
def EN (r : Nat) : Int := normE r + ((normR r / 4503599627370496 : Nat) : Int) - 1022
theorem SN_bounds (r : Nat) (h0 : 0 < r) (h1 : r < 9218868437227405312) : 4503599627370496 ≤ SN r ∧ SN r < 9007199254740992 := by
  have := normR_bounds r h0 h1
  refine ⟨?_, sigR_lt _⟩
  unfold SN sigR
  rw [if_neg (by omega)]
  omega
theorem EN_bounds (r : Nat) (h0 : 0 < r) (h1 : r < 9218868437227405312) : -1100 ≤ EN r ∧ EN r ≤ 1024 := by
  have := normR_bounds r h0 h1
  unfold EN normE
  split <;> omega
theorem isNaN_num (b : Nat) (h : nanB b = false) (w : World) : Calls Tryd.prog 54 #[.float .f64 b] w fun e w' => e = .returned (.bool false) ∧ w = w' := by
  have ho := order_num h
  clear h
  go_enter Tryd.func54, Tryd.ntmps54
  go_wp2
  go_ret
  exact ⟨rfl, rfl⟩
theorem nanB_pos {r : Nat} (h : r < 9218868437227405312) : nanB r = false := (nanB_false r).2 (by omega)

set_option maxRecDepth 100000 in
theorem frexp_any (r : Nat) (h0 : 0 < r) (h1 : r < 9218868437227405312) (w : World) : Calls Tryd.prog 65 #[.float .f64 r] w fun e w' => e = .returned (.tuple #[.float .f64 (mw (SN r) 0), .int .i64 (EN r)]) ∧ w = w' := by
  have ho : (FloatKind.f64.format.order r 0 == some .eq) = false := by
    rw [ord_eq (by omega) (by omega) (nan_pos (by omega)) (nan_pos (by omega)), sr_pos (by omega), sr_pos (by omega), decide_eq_false_iff_not]; omega
  have HI := Lib.hid (isInf_pos r h1 w)
  have HN := Lib.hid (isNaN_num r (nanB_pos h1) w)
  have HZ := Lib.hid (normalize_any r h0 h1 w)
  have hnb := normR_bounds r h0 h1
  have hx := run_f64bits (normR r)
  have hy := run_f64from
  have HS := Lib.hid (show mw (SN r) 0 = 4602678819172646912 + normR r % 4503599627370496 by
    unfold mw SN sigR
    rw [if_neg (by omega)]
    omega)
  have HE := Lib.hid (show EN r = normE r + ((normR r / 4503599627370496 : Nat) : Int) - 1022 from rfl)
  have HB := Lib.hid hnb
  have HNE := Lib.hid (show -52 ≤ normE r ∧ normE r ≤ 0 by unfold normE; split <;> omega)
  clear h0 h1 hnb
  generalize normR r = n at *
  generalize normE r = ne at *
  go_enter Tryd.func65, Tryd.ntmps65
  go_wp2_with fail
  refine HI.out.mono ?_
  rintro e w1 ⟨rfl, rfl⟩
  go_wp2_with fail
  refine HN.out.mono ?_
  rintro e w1 ⟨rfl, rfl⟩
  go_wp2_with fail
  refine HZ.out.mono ?_
  rintro e w1 ⟨rfl, rfl⟩
  go_wp2_with fail
  go_ret2
  refine ⟨?_, rfl⟩
  show Ending.returned (.tuple #[.float .f64 (bits .or .u64 (bits .andNot .u64 (n : Int) 9218868437227405312) 4602678819172646912).toNat, .int .i64 (wrap64 (ne + wrap64 (wrap64 (wrap64 (bits .and .u64 ((n : Int) / 4503599627370496) 2047) - 1023) + 1)))]) = _
  have hb := HB.out
  have he := HNE.out
  have hq : n / 4503599627370496 % 2048 = n / 4503599627370496 := by omega
  have hlt : n / 4503599627370496 < 2048 := by omega
  rw [andNot_expo n (by omega), or_half _ (by omega), and_expo n (by omega), hq, HE.out, HS.out]
  generalize n / 4503599627370496 = q at *
  have hw : wrap64 (ne + wrap64 (wrap64 (wrap64 (q : Int) - 1023) + 1)) = ne + (q : Int) - 1022 := by unfold wrap64; omega
  rw [hw]
  rfl

theorem Frexp_any (r : Nat) (h0 : 0 < r) (h1 : r < 9218868437227405312) (w : World) : Calls Tryd.prog 45 #[.float .f64 r] w fun e w' => e = .returned (.tuple #[.float .f64 (mw (SN r) 0), .int .i64 (EN r)]) ∧ w = w' := by
  have HF := Lib.hid (frexp_any r h0 h1 w)
  clear h0 h1
  go_enter Tryd.func45, Tryd.ntmps45
  go_wp2_with fail
  refine HF.out.mono ?_
  rintro e w1 ⟨rfl, rfl⟩
  go_wp2_with fail
  go_ret2
  exact ⟨rfl, rfl⟩

/-! The text of a float. -/
/-- How often a number can be halved. -/
def tzF : Nat → Nat → Nat
  | 0, _ => 0
  | f + 1, n => if n % 2 = 1 then 0 else tzF f (n / 2) + 1
def tz (n : Nat) : Nat := tzF 64 n
theorem tzF_eq : ∀ (f j n : Nat), j < f → n % 2 ^ j = 0 → n / 2 ^ j % 2 = 1 → tzF f n = j
  | 0, j, n, h, _, _ => by omega
  | f + 1, 0, n, _, _, h2 => by
    rw [Nat.pow_zero, Nat.div_one] at h2
    unfold tzF; rw [if_pos h2]
  | f + 1, j + 1, n, h, h1, h2 => by
    have e : n % 2 = 0 := by
      have : 2 ∣ n := Nat.dvd_trans ⟨2 ^ j, by rw [Nat.pow_succ, Nat.mul_comm]⟩ (Nat.dvd_of_mod_eq_zero h1)
      omega
    have h3 : n / 2 % 2 ^ j = 0 := by
      obtain ⟨k, hk⟩ := Nat.dvd_of_mod_eq_zero h1
      rw [hk, Nat.pow_succ, Nat.mul_comm (2 ^ j) 2, Nat.mul_assoc, Nat.mul_div_cancel_left _ (by omega), Nat.mul_mod_right]
    have h4 : n / 2 / 2 ^ j % 2 = 1 := by
      rw [Nat.div_div_eq_div_mul, Nat.mul_comm 2 (2 ^ j), ← Nat.pow_succ]; exact h2
    unfold tzF; rw [if_neg (by omega), tzF_eq f j (n / 2) (by omega) h3 h4]
theorem tz_eq {j n : Nat} (h : j < 64) (h1 : n % 2 ^ j = 0) (h2 : n / 2 ^ j % 2 = 1) : tz n = j := tzF_eq 64 j n h h1 h2

def magB (r : Nat) : Nat := SN r / 2 ^ tz (SN r)
def exB (r : Nat) : Int := EN r - 53 + (tz (SN r) : Int)
/-- The bytes behind the sign. -/
def bodyB (r : Nat) : List UInt8 := if r = 9218868437227405312 then [105, 110, 102] else if r = 0 then [48, 112, 48] else Lib.decDigits (magB r) ++ [112] ++ Lib.itoa (exB r)
def textB (b : Nat) : List UInt8 := if nanB b then [110, 97, 110] else (if signB b then [45] else []) ++ bodyB (b % 9223372036854775808)
end Go.Proofs.YtnbpioinhjijcaaDoor
