import Derived.WalkKit
import Derived.WalkLawsBesides
import Derived.KernelRfl
/-! Plain facts on the words of a float64: their values, their order, what rounds to them. -/
namespace Go.Proofs.YtnbpioinhjijcaaDoor

theorem log2_of {n k : Nat} (h1 : 2 ^ k ≤ n) (h2 : n < 2 ^ (k + 1)) : n.log2 = k := by
  have h0 : n ≠ 0 := by have := Nat.two_pow_pos k; omega
  have a := (Nat.le_log2 h0).2 h1
  have b := (Nat.log2_lt h0).2 h2
  omega
theorem log2_le_self {n : Nat} (h : n ≠ 0) : 2 ^ n.log2 ≤ n := (Nat.le_log2 h).1 (Nat.le_refl _)
theorem lt_log2_succ {n : Nat} (h : n ≠ 0) : n < 2 ^ (n.log2 + 1) := (Nat.log2_lt h).1 (by omega)
theorem log2_mul_pow {n : Nat} (h : n ≠ 0) (s : Nat) : (n * 2 ^ s).log2 = n.log2 + s := by
  apply log2_of
  · rw [Nat.pow_add]; exact Nat.mul_le_mul_right _ (log2_le_self h)
  · rw [show n.log2 + s + 1 = (n.log2 + 1) + s by omega, Nat.pow_add]
    exact Nat.mul_lt_mul_of_pos_right (lt_log2_succ h) (Nat.two_pow_pos s)

abbrev F64 : Ieee.Format := FloatKind.f64.format
theorem f64_sign : F64.signWeight = 9223372036854775808 := by decide
theorem f64_binade : F64.binade = 4503599627370496 := by decide
theorem f64_inf : F64.infRung = 9218868437227405312 := by decide
theorem f64_least : F64.leastPlace = -1074 := by decide
theorem f64_fbits : F64.fractionBits = 52 := by decide

theorem cut_zero (way : Ieee.Toward) (neg : Bool) (n : Nat) : way.cut neg n 0 = n := by
  unfold Ieee.Toward.cut
  cases way <;> simp [Nat.mod_one]
theorem cut_exact (way : Ieee.Toward) (neg : Bool) (k d : Nat) (hk : k ≠ 0) : way.cut neg (k * 2 ^ d) d = k := by
  unfold Ieee.Toward.cut
  have h1 := log2_mul_pow hk d
  have hm : min d ((k * 2 ^ d).log2 + 2) = d := by omega
  have hp := Nat.two_pow_pos d
  rw [hm, Nat.one_shiftLeft]
  simp only []
  rw [Nat.mul_div_cancel _ hp, Nat.mul_mod_left]
  cases way <;> simp

/-- A number that has its place among the words is written as it is. -/
theorem nearest_kept (neg : Bool) (m : Nat) (p : Int) (e0 kept : Nat) (hk0 : 0 < kept) (hk : kept < 9007199254740992) (hn : e0 = 0 ∨ 4503599627370496 ≤ kept) (hfin : e0 * 4503599627370496 + kept ≤ 9218868437227405312)
    (h : (∃ s : Nat, m * 2 ^ s = kept ∧ p = (e0 : Int) - 1074 + s) ∨ (∃ d : Nat, m = kept * 2 ^ d ∧ p = (e0 : Int) - 1074 - d)) : F64.nearest neg m p = F64.word neg (e0 * 4503599627370496 + kept) := by
  have hlk : kept.log2 ≤ 52 := by
    have := (Nat.log2_lt (show kept ≠ 0 by omega)).2 (show kept < 2 ^ 53 by omega)
    omega
  have hlk2 : e0 = 0 ∨ kept.log2 = 52 := by
    rcases hn with e | e
    · exact .inl e
    · exact .inr (log2_of (by omega) (by omega))
  have hm0 : m ≠ 0 := by
    rintro rfl
    rcases h with ⟨s, h1, _⟩ | ⟨d, h1, _⟩
    · omega
    · have : kept * 2 ^ d = 0 := h1.symm
      rcases Nat.mul_eq_zero.1 this with e | e
      · omega
      · have := Nat.two_pow_pos d; omega
  have hlast : max (p + m.log2 - (52 : Nat)) (-1074) = (e0 : Int) - 1074 := by
    rcases h with ⟨s, h1, h2⟩ | ⟨d, h1, h2⟩
    · have := log2_mul_pow hm0 s
      rw [h1] at this
      rcases hlk2 with e | e <;> omega
    · have := log2_mul_pow (show kept ≠ 0 by omega) d
      rw [← h1] at this
      rcases hlk2 with e | e <;> omega
  unfold Ieee.Format.nearest
  rw [if_neg hm0, f64_fbits, f64_least, f64_binade, f64_inf]
  simp only []
  rw [hlast]
  have hcut : Ieee.Toward.even.cut neg (m <<< (p - ((e0 : Int) - 1074)).toNat) ((e0 : Int) - 1074 - p).toNat = kept := by
    rcases h with ⟨s, h1, h2⟩ | ⟨d, h1, h2⟩
    · rw [show (p - ((e0 : Int) - 1074)).toNat = s by omega, show ((e0 : Int) - 1074 - p).toNat = 0 by omega, cut_zero, Nat.shiftLeft_eq, h1]
    · rw [show (p - ((e0 : Int) - 1074)).toNat = 0 by omega, show ((e0 : Int) - 1074 - p).toNat = d by omega, Nat.shiftLeft_zero, h1, cut_exact _ _ _ _ (by omega)]
  rw [hcut, show ((e0 : Int) - 1074 - -1074).toNat = e0 by omega, Nat.min_eq_left hfin]
theorem nearest_zero (neg : Bool) (p : Int) : F64.nearest neg 0 p = F64.word neg 0 := by
  unfold Ieee.Format.nearest
  rw [if_pos rfl]
theorem word_eq (neg : Bool) (r : Nat) : F64.word neg r = if neg then 9223372036854775808 + r else r := by
  unfold Ieee.Format.word
  rw [f64_sign]

/-- The significand and the place of a rung. -/
def sigR (r : Nat) : Nat := if r < 4503599627370496 then r else 4503599627370496 + r % 4503599627370496
def expR (r : Nat) : Nat := r / 4503599627370496 - 1
theorem rung_eq (r : Nat) : r = expR r * 4503599627370496 + sigR r := by unfold expR sigR; split <;> omega
theorem sigR_lt (r : Nat) : sigR r < 9007199254740992 := by unfold sigR; split <;> omega
theorem sigR_ge (r : Nat) : expR r = 0 ∨ 4503599627370496 ≤ sigR r := by unfold expR sigR; split <;> omega
theorem sigR_pos {r : Nat} (h : 0 < r) : 0 < sigR r := by unfold sigR; split <;> omega

theorem read_num (b : Nat) (h : b % 9223372036854775808 < 9218868437227405312) : F64.read b = .number (b / 9223372036854775808 % 2 == 1) (sigR (b % 9223372036854775808)) ((expR (b % 9223372036854775808) : Nat) - 1074) := by
  unfold Ieee.Format.read
  rw [f64_sign, f64_binade, f64_inf, f64_least]
  simp only []
  unfold sigR expR
  split
  · congr 1
    omega
  · congr 1
theorem read_infinite (b : Nat) (h : b % 9223372036854775808 = 9218868437227405312) : F64.read b = .infinity (b / 9223372036854775808 % 2 == 1) := by
  unfold Ieee.Format.read
  rw [f64_sign, f64_binade, f64_inf, f64_least]
  simp only []
  rw [if_neg (by omega), if_neg (by omega), if_pos h]

/-- The value of a rung, in units of the least place. -/
def rv (r : Nat) : Nat := sigR r * 2 ^ expR r
theorem rv_zero : rv 0 = 0 := by unfold rv; rw [show sigR 0 = 0 by decide, Nat.zero_mul]
theorem rv_lt {r s : Nat} (h : r < s) : rv r < rv s := by
  have hp := Nat.two_pow_pos (expR r)
  have e1 := rung_eq r
  have e2 := rung_eq s
  have l1 := sigR_lt r
  have g2 := sigR_ge s
  have l2 := sigR_lt s
  have g1 := sigR_ge r
  unfold rv
  by_cases he : expR r = expR s
  · rw [← he]
    exact Nat.mul_lt_mul_of_pos_right (by omega) hp
  · have hlt : expR r < expR s := by omega
    obtain ⟨d, hd⟩ : ∃ d, expR s = expR r + 1 + d := ⟨expR s - expR r - 1, by omega⟩
    rw [hd, Nat.pow_add, Nat.pow_add, ← Nat.mul_assoc]
    have h1 : sigR r * 2 ^ expR r < sigR s * 2 * 2 ^ expR r := Nat.mul_lt_mul_of_pos_right (by omega) hp
    have h2 : sigR s * (2 ^ expR r * 2 ^ 1) = sigR s * 2 * 2 ^ expR r := by rw [Nat.pow_one, Nat.mul_comm (2 ^ expR r) 2, Nat.mul_assoc]
    rw [h2]
    exact Nat.lt_of_lt_of_le h1 (Nat.le_mul_of_pos_right _ (Nat.two_pow_pos d))
theorem rv_le {r s : Nat} (h : r ≤ s) : rv r ≤ rv s := by
  rcases Nat.lt_or_ge r s with e | e
  · exact Nat.le_of_lt (rv_lt e)
  · rw [show r = s by omega]; exact Nat.le_refl _

/-- The signed rung of a word: floats that are no nan are in its order. -/
def sr (b : Nat) : Int := if 9223372036854775808 ≤ b then -((b - 9223372036854775808 : Nat) : Int) else b
theorem compare_mul (x y : Int) (k : Nat) (hk : 0 < k) : compare (x * k) (y * k) = compare x y := by
  have hk' : (0 : Int) < (k : Int) := by omega
  simp only [compare, compareOfLessAndEq]
  by_cases h1 : x < y
  · have : x * k < y * k := Int.mul_lt_mul_of_pos_right h1 hk'
    rw [if_pos this, if_pos h1]
  · by_cases h2 : x = y
    · subst h2; simp
    · have h3 : y < x := by omega
      have : y * k < x * k := Int.mul_lt_mul_of_pos_right h3 hk'
      rw [if_neg (by omega), if_neg (by omega), if_neg h1, if_neg h2]

def sval (b : Nat) : Int := if 9223372036854775808 ≤ b then -(rv (b - 9223372036854775808) : Int) else rv b
theorem sval_lt {x y : Nat} (h : sr x < sr y) : sval x < sval y := by
  unfold sr at h
  unfold sval
  split <;> split <;> rename_i h1 h2
  · rw [if_pos h1, if_pos h2] at h
    have := rv_lt (r := y - 9223372036854775808) (s := x - 9223372036854775808) (by omega)
    omega
  · rw [if_pos h1, if_neg h2] at h
    by_cases hx : x - 9223372036854775808 = 0
    · have := rv_lt (r := 0) (s := y) (by omega)
      rw [rv_zero] at this
      omega
    · have := rv_lt (r := 0) (s := x - 9223372036854775808) (by omega)
      rw [rv_zero] at this
      omega
  · rw [if_neg h1, if_pos h2] at h
    omega
  · rw [if_neg h1, if_neg h2] at h
    have := rv_lt (r := x) (s := y) (by omega)
    omega
theorem sval_eq {x y : Nat} (h : sr x = sr y) : sval x = sval y := by
  unfold sr at h
  unfold sval
  split <;> split <;> rename_i h1 h2
  · rw [if_pos h1, if_pos h2] at h
    rw [show x - 9223372036854775808 = y - 9223372036854775808 by omega]
  · rw [if_pos h1, if_neg h2] at h
    rw [show x - 9223372036854775808 = 0 by omega, show y = 0 by omega, rv_zero]; rfl
  · rw [if_neg h1, if_pos h2] at h
    rw [show y - 9223372036854775808 = 0 by omega, show x = 0 by omega, rv_zero]; rfl
  · rw [if_neg h1, if_neg h2] at h
    rw [show x = y by omega]
theorem compare_sval (x y : Nat) : compare (sval x) (sval y) = compare (sr x) (sr y) := by
  simp only [compare, compareOfLessAndEq]
  by_cases h1 : sr x < sr y
  · rw [if_pos h1, if_pos (sval_lt h1)]
  · by_cases h2 : sr x = sr y
    · rw [if_neg h1, if_pos h2, if_neg (by have := sval_eq h2; omega), if_pos (sval_eq h2)]
    · have := sval_lt (x := y) (y := x) (by omega)
      rw [if_neg h1, if_neg h2, if_neg (by omega), if_neg (by omega)]
theorem signed_eq (neg : Bool) (m up : Nat) : Ieee.signed neg m up = if neg then -((m * 2 ^ up : Nat) : Int) else ((m * 2 ^ up : Nat) : Int) := by
  unfold Ieee.signed
  rw [Nat.shiftLeft_eq]
theorem signed_rv (neg : Bool) (r k : Nat) (hk : k ≤ expR r) : Ieee.signed neg (sigR r) (expR r - k) * ((2 ^ k : Nat) : Int) = if neg then -(rv r : Int) else rv r := by
  rw [signed_eq]
  have h : sigR r * 2 ^ (expR r - k) * 2 ^ k = rv r := by
    unfold rv
    rw [Nat.mul_assoc, ← Nat.pow_add, Nat.sub_add_cancel hk]
  cases neg
  · simp only [Bool.false_eq_true, if_false]
    rw [← Int.natCast_mul, h]
  · simp only [if_true]
    rw [Int.neg_mul, ← Int.natCast_mul, h]
theorem sval_of (b : Nat) (hb : b < 18446744073709551616) : sval b = if b / 9223372036854775808 % 2 == 1 then -(rv (b % 9223372036854775808) : Int) else rv (b % 9223372036854775808) := by
  unfold sval
  by_cases h : 9223372036854775808 ≤ b
  · rw [if_pos h, show b / 9223372036854775808 = 1 by omega, show b % 9223372036854775808 = b - 9223372036854775808 by omega, show ((1 : Nat) % 2 == 1) = true by decide, if_pos rfl]
  · rw [if_neg h, show b / 9223372036854775808 = 0 by omega, show b % 9223372036854775808 = b by omega, show ((0 : Nat) % 2 == 1) = false by decide, if_neg (by decide)]

def nan (b : Nat) : Prop := 9218868437227405312 < b % 9223372036854775808
instance (b : Nat) : Decidable (nan b) := by unfold nan; infer_instance

theorem order_parts (s s' : Bool) (rx ry : Nat) : Ieee.Datum.order (.number s (sigR rx) ((expR rx : Nat) - 1074)) (.number s' (sigR ry) ((expR ry : Nat) - 1074)) = some (compare (if s then -(rv rx : Int) else rv rx) (if s' then -(rv ry : Int) else rv ry)) := by
  simp only [Ieee.Datum.order]
  have hk1 : min (expR rx) (expR ry) ≤ expR rx := Nat.min_le_left _ _
  have hk2 : min (expR rx) (expR ry) ≤ expR ry := Nat.min_le_right _ _
  have e1 : (((expR rx : Nat) : Int) - 1074 - min (((expR rx : Nat) : Int) - 1074) (((expR ry : Nat) : Int) - 1074)).toNat = expR rx - min (expR rx) (expR ry) := by omega
  have e2 : (((expR ry : Nat) : Int) - 1074 - min (((expR rx : Nat) : Int) - 1074) (((expR ry : Nat) : Int) - 1074)).toNat = expR ry - min (expR rx) (expR ry) := by omega
  rw [e1, e2]
  generalize min (expR rx) (expR ry) = k at hk1 hk2
  rw [← signed_rv s rx k hk1, ← signed_rv s' ry k hk2, compare_mul _ _ _ (Nat.two_pow_pos k)]

theorem order_finite (x y : Nat) (hx : x < 18446744073709551616) (hy : y < 18446744073709551616) (fx : x % 9223372036854775808 < 9218868437227405312) (fy : y % 9223372036854775808 < 9218868437227405312) :
    F64.order x y = some (compare (sr x) (sr y)) := by
  unfold Ieee.Format.order
  rw [read_num x fx, read_num y fy, ← compare_sval, sval_of x hx, sval_of y hy]
  clear fx fy hx hy
  generalize x % 9223372036854775808 = rx
  generalize y % 9223372036854775808 = ry
  generalize (x / 9223372036854775808 % 2 == 1) = s
  generalize (y / 9223372036854775808 % 2 == 1) = s'
  exact order_parts s s' rx ry

theorem compare_lt {a b : Int} (h : a < b) : compare a b = .lt := by simp only [compare, compareOfLessAndEq]; rw [if_pos h]
theorem compare_gt {a b : Int} (h : b < a) : compare a b = .gt := by simp only [compare, compareOfLessAndEq]; rw [if_neg (by omega), if_neg (by omega)]
theorem compare_eq {a b : Int} (h : a = b) : compare a b = .eq := by simp only [compare, compareOfLessAndEq]; rw [if_neg (by omega), if_pos h]

/-- Floats that are no nan are in the order of their signed rungs. -/
theorem order_sr (x y : Nat) (hx : x < 18446744073709551616) (hy : y < 18446744073709551616) (fx : ¬ nan x) (fy : ¬ nan y) : F64.order x y = some (compare (sr x) (sr y)) := by
  unfold nan at fx fy
  have sx : (x / 9223372036854775808 = 0 ∧ sr x = x) ∨ (x / 9223372036854775808 = 1 ∧ sr x = 9223372036854775808 - (x : Int)) := by unfold sr; split <;> omega
  have sy : (y / 9223372036854775808 = 0 ∧ sr y = y) ∨ (y / 9223372036854775808 = 1 ∧ sr y = 9223372036854775808 - (y : Int)) := by unfold sr; split <;> omega
  by_cases ix : x % 9223372036854775808 = 9218868437227405312
  · by_cases iy : y % 9223372036854775808 = 9218868437227405312
    · unfold Ieee.Format.order
      rw [read_infinite x ix, read_infinite y iy]
      simp only [Ieee.Datum.order]
      rcases sx with ⟨e1, f1⟩ | ⟨e1, f1⟩ <;> rcases sy with ⟨e2, f2⟩ | ⟨e2, f2⟩ <;> rw [e1, e2]
      · rw [compare_eq (a := sr x) (b := sr y) (by omega)]; decide
      · rw [compare_gt (a := sr x) (b := sr y) (by omega)]; decide
      · rw [compare_lt (a := sr x) (b := sr y) (by omega)]; decide
      · rw [compare_eq (a := sr x) (b := sr y) (by omega)]; decide
    · unfold Ieee.Format.order
      rw [read_infinite x ix, read_num y (by omega)]
      simp only [Ieee.Datum.order]
      rcases sx with ⟨e1, f1⟩ | ⟨e1, f1⟩ <;> rw [e1]
      · rw [compare_gt (a := sr x) (b := sr y) (by omega)]; rfl
      · rw [compare_lt (a := sr x) (b := sr y) (by omega)]; rfl
  · by_cases iy : y % 9223372036854775808 = 9218868437227405312
    · unfold Ieee.Format.order
      rw [read_infinite y iy, read_num x (by omega)]
      simp only [Ieee.Datum.order]
      rcases sy with ⟨e1, f1⟩ | ⟨e1, f1⟩ <;> rw [e1]
      · rw [compare_lt (a := sr x) (b := sr y) (by omega)]; rfl
      · rw [compare_gt (a := sr x) (b := sr y) (by omega)]; rfl
    · exact order_finite x y hx hy (by omega) (by omega)
end Go.Proofs.YtnbpioinhjijcaaDoor
