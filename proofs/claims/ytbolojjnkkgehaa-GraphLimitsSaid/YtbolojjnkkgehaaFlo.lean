import Derived.WalkKit
import Derived.WalkLawsBesides
import Derived.KernelRfl
import Derived.Laws.EntriesVeiled
import Derived.WideLaws
/-! Plain facts on the bits of a float64. -/
namespace Go.Proofs.Ytbolojjnkkgehaa
open Go.RowKit

/-- A float is stored as any value of one cell. -/
@[go_sem] theorem run_store_float (P : Program) (w : World) (a : Addr) (m : Mode) (k : FloatKind) (b : Nat) : (store a (.float k b) m).run P w = stored P w a (.float k b) m := run_store P w a _ m rfl

def nanB (b : Nat) : Bool := decide (9218868437227405312 < b % 9223372036854775808)
def canonB (b : Nat) : Nat := if nanB b then 9221120237041090561 else b
def keyB (b : Nat) : Nat := if nanB b then 18446744073709551615 else if 9223372036854775808 ≤ b then 18446744073709551615 - b else b + 9223372036854775808

theorem read_eq (b : Nat) : FloatKind.f64.format.read b =
    if b % 9223372036854775808 < 4503599627370496 then .number (b / 9223372036854775808 % 2 == 1) (b % 9223372036854775808) (-1074)
    else if b % 9223372036854775808 < 9218868437227405312 then
      .number (b / 9223372036854775808 % 2 == 1) (4503599627370496 + b % 9223372036854775808 % 4503599627370496) (-1074 + (b % 9223372036854775808 / 4503599627370496 - 1 : Nat))
    else if b % 9223372036854775808 = 9218868437227405312 then .infinity (b / 9223372036854775808 % 2 == 1)
    else .nan (b / 9223372036854775808 % 2 == 1) (b % 9223372036854775808 - 9218868437227405312) := by
  have e1 : FloatKind.f64.format.signWeight = 9223372036854775808 := by decide
  have e2 : FloatKind.f64.format.binade = 4503599627370496 := by decide
  have e3 : FloatKind.f64.format.infRung = 9218868437227405312 := by decide
  have e4 : FloatKind.f64.format.leastPlace = -1074 := by decide
  unfold Ieee.Format.read
  rw [e1, e2, e3, e4]

theorem order_self (b : Nat) : (FloatKind.f64.format.order b b == some .eq) = !nanB b := by
  unfold Ieee.Format.order nanB
  rw [read_eq]
  split
  · simp [Ieee.Datum.order]; omega
  · split
    · simp [Ieee.Datum.order]; omega
    · split
      · simp [Ieee.Datum.order]; omega
      · simp [Ieee.Datum.order]; omega
theorem order_nan {b : Nat} (h : nanB b = true) : (FloatKind.f64.format.order b b != some .eq) = true := by
  have := order_self b; rw [h] at this; simpa using this
theorem order_num {b : Nat} (h : nanB b = false) : (FloatKind.f64.format.order b b != some .eq) = false := by
  have := order_self b; rw [h] at this; simpa using this

theorem nanB_iff' (b : Nat) : nanB b = true ↔ 9218868437227405312 < b % 9223372036854775808 := by unfold nanB; simp

/-! Operations on 64 bits. -/
theorem u64max : IntKind.u64.max = ((18446744073709551615 : Nat) : Int) := by decide
theorem xor_max (b : Nat) (h : b < 18446744073709551616) : bits .xor .u64 IntKind.u64.max (b : Int) = ((18446744073709551615 - b : Nat) : Int) := by
  rw [u64max, u64_xor_nat _ _ (by decide) h]
  congr 1
  have h1 : 18446744073709551615 ^^^ b = (BitVec.ofNat 64 18446744073709551615 ^^^ BitVec.ofNat 64 b).toNat := by
    simp [BitVec.toNat_xor, BitVec.toNat_ofNat]; rw [Nat.mod_eq_of_lt h]
  have h2 : (BitVec.ofNat 64 18446744073709551615 ^^^ BitVec.ofNat 64 b) = ~~~ (BitVec.ofNat 64 b) := by
    rw [show BitVec.ofNat 64 18446744073709551615 = BitVec.allOnes 64 by decide, BitVec.allOnes_xor]
  rw [h1, h2, BitVec.toNat_not, BitVec.toNat_ofNat, Nat.mod_eq_of_lt h]
theorem or_sign (b : Nat) (h : b < 9223372036854775808) : bits .or .u64 (b : Int) 9223372036854775808 = ((b + 9223372036854775808 : Nat) : Int) := by
  rw [show (9223372036854775808 : Int) = ((9223372036854775808 : Nat) : Int) from rfl, u64_or_nat _ _ (by omega) (by decide), Nat.or_comm, nat_join 63 _ _ (by decide) (by simpa using h), Nat.add_comm]
theorem and_expo (b : Nat) (h : b < 18446744073709551616) : bits .and .u64 ((b : Int) / 4503599627370496) 2047 = ((b / 4503599627370496 % 2048 : Nat) : Int) := by
  rw [show (2047 : Int) = ((2047 : Nat) : Int) from rfl, show ((b : Int) / 4503599627370496) = ((b / 4503599627370496 : Nat) : Int) by omega, u64_and_nat _ _ (by omega) (by decide), nat_mask11]
theorem and_frac (b : Nat) (h : b < 18446744073709551616) : bits .and .u64 (b : Int) 4503599627370495 = ((b % 4503599627370496 : Nat) : Int) := by
  rw [show (4503599627370495 : Int) = ((4503599627370495 : Nat) : Int) from rfl, u64_and_nat _ _ h (by decide), nat_mask52]
theorem wrap64_nat (n : Nat) (h : n < 9223372036854775808) : wrap64 (n : Int) = n := by unfold wrap64; omega
theorem i64_wrap_nat (n : Nat) (h : n < 9223372036854775808) : IntKind.i64.wrap (n : Int) = n := by rw [IntKind.wrap_i64]; omega

def notB (b : Nat) : Nat := 18446744073709551615 - b
theorem notB_lt (b : Nat) : notB b < 18446744073709551616 := by unfold notB; omega
theorem xor_max' (b : Nat) (h : b < 18446744073709551616) : bits .xor .u64 IntKind.u64.max (b : Int) = (notB b : Nat) := xor_max b h
def lowB (b : Nat) : Nat := b - 9223372036854775808
theorem sub_bit (b : Nat) (h : b < 18446744073709551616) (hs : 9223372036854775808 ≤ b) : IntKind.u64.wrap ((b : Int) - 9223372036854775808) = (lowB b : Nat) := by
  rw [IntKind.wrap_u64]; unfold lowB; omega
theorem sub_bit' (b : Nat) (h : b < 18446744073709551616) (hs : 9223372036854775808 ≤ b) : (IntKind.u64.wrap ((b : Int) - 9223372036854775808)).toNat = lowB b := by
  rw [IntKind.wrap_u64]; unfold lowB; omega
theorem nan_lt : 9221120237041090561 < 18446744073709551616 := by omega
/-- sign, exponent field, fraction field -/
def signB (b : Nat) : Bool := decide (9223372036854775808 ≤ b)
def expoB (b : Nat) : Nat := b / 4503599627370496 % 2048
def fracB (b : Nat) : Nat := b % 4503599627370496
theorem expoB_lt (b : Nat) : expoB b < 2048 := by unfold expoB; omega
theorem fracB_lt (b : Nat) : fracB b < 4503599627370496 := by unfold fracB; omega
theorem nanB_parts (b : Nat) : nanB b = ((expoB b : Int) == 2047 && (fracB b : Int) != 0) := by
  rw [Bool.eq_iff_iff, nanB_iff']
  unfold expoB fracB
  simp
  omega

/-! The ends of calls. -/
theorem ret_int {k : IntKind} {a b : Int} (h : a = b) : Ending.returned (.int k a) = .returned (.int k b) := by rw [h]
theorem ret_bool {a b : Bool} (h : a = b) : Ending.returned (.bool a) = .returned (.bool b) := by rw [h]
theorem ret_float {k : FloatKind} {a b : Nat} (h : a = b) : Ending.returned (.float k a) = .returned (.float k b) := by rw [h]

/-! Keys. -/
theorem keyB_lt (b : Nat) (h : b < 18446744073709551616) : keyB b < 18446744073709551616 := by unfold keyB; split <;> (try split) <;> omega
theorem canonB_lt (b : Nat) (h : b < 18446744073709551616) : canonB b < 18446744073709551616 := by unfold canonB; split <;> omega
theorem nan_canon : nanB 9221120237041090561 = true := by decide
theorem nanB_iff (b : Nat) : nanB b = true ↔ 9218868437227405312 < b % 9223372036854775808 := by unfold nanB; simp
theorem nanB_false (b : Nat) : nanB b = false ↔ b % 9223372036854775808 ≤ 9218868437227405312 := by unfold nanB; simp

/-- The float of a key, where there is one. -/
def ofKeyB (k : Nat) : Nat := if k = 18446744073709551615 then 9221120237041090561 else if 9223372036854775808 ≤ k then k - 9223372036854775808 else 18446744073709551615 - k
theorem ofKeyB_lt (k : Nat) (h : k < 18446744073709551616) : ofKeyB k < 18446744073709551616 := by unfold ofKeyB; split <;> (try split) <;> omega
theorem ofKeyB_keyB (b : Nat) (h : b < 18446744073709551616) : ofKeyB (keyB b) = canonB b := by
  unfold keyB canonB
  by_cases hn : nanB b = true
  · simp [hn, ofKeyB]
  · have h2 := (nanB_false b).1 (by simpa using hn)
    rw [if_neg hn, if_neg hn]
    unfold ofKeyB
    by_cases hs : 9223372036854775808 ≤ b
    · rw [if_pos hs, if_neg (by omega), if_neg (by omega)]; omega
    · rw [if_neg hs, if_neg (by omega), if_pos (by omega)]; omega
theorem keyB_nan : keyB 9221120237041090561 = 18446744073709551615 := by unfold keyB; rw [if_pos nan_canon]
def ofKeyV (k : Nat) : Value := if keyB (ofKeyB k) = k then .tuple #[.float .f64 (ofKeyB k), .bool true] else .tuple #[.float .f64 0, .bool false]
theorem ofKeyV_yes {k : Nat} (h : keyB (ofKeyB k) = k) : ofKeyV k = .tuple #[.float .f64 (ofKeyB k), .bool true] := if_pos h
theorem ofKeyV_no {k : Nat} (h : ¬ keyB (ofKeyB k) = k) : ofKeyV k = .tuple #[.float .f64 0, .bool false] := if_neg h
theorem keyB_canonB (b : Nat) : keyB (canonB b) = keyB b := by
  unfold canonB
  split
  · rename_i h; simp [keyB, h, nan_canon]
  · rfl

theorem ofKeyB_max {k : Nat} (h : k = 18446744073709551615) : ofKeyB k = 9221120237041090561 := if_pos h
theorem ofKeyB_low {k : Nat} (h : ¬ k = 18446744073709551615) (hs : 9223372036854775808 ≤ k) : ofKeyB k = lowB k := by unfold ofKeyB lowB; rw [if_neg h, if_pos hs]
theorem ofKeyB_not {k : Nat} (h : ¬ k = 18446744073709551615) (hs : ¬ 9223372036854775808 ≤ k) : ofKeyB k = notB k := by unfold ofKeyB notB; rw [if_neg h, if_neg hs]
theorem signB_eq (b : Nat) : signB b = decide (9223372036854775808 ≤ b) := rfl
theorem expoB_eq (b : Nat) : expoB b = b / 4503599627370496 % 2048 := rfl
theorem fracB_eq (b : Nat) : fracB b = b % 4503599627370496 := rfl
theorem lowB_eq (k : Nat) : lowB k = k - 9223372036854775808 := rfl
theorem notB_eq (k : Nat) : notB k = 18446744073709551615 - k := rfl
theorem keyB_nan' {b : Nat} (h : nanB b = true) : keyB b = 18446744073709551615 := if_pos h
theorem keyB_neg {b : Nat} (h : nanB b = false) (hs : 9223372036854775808 ≤ b) : keyB b = 18446744073709551615 - b := by unfold keyB; rw [if_neg (by simp [h]), if_pos hs]
theorem keyB_pos {b : Nat} (h : nanB b = false) (hs : ¬ 9223372036854775808 ≤ b) : keyB b = b + 9223372036854775808 := by unfold keyB; rw [if_neg (by simp [h]), if_neg hs]
theorem canonB_nan {b : Nat} (h : nanB b = true) : canonB b = 9221120237041090561 := if_pos h
theorem canonB_num {b : Nat} (h : nanB b = false) : canonB b = b := by unfold canonB; rw [if_neg (by simp [h])]
attribute [irreducible] nanB canonB keyB ofKeyB notB lowB signB expoB fracB

end Go.Proofs.Ytbolojjnkkgehaa
