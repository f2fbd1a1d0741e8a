import Derived.Test.YtnbpioinhjijcaaDoorSm
import Derived.Laws.FloatArith
/-! IsInf, Frexp. -/
namespace Go.Proofs.YtnbpioinhjijcaaDoor
open Go.RowKit

theorem ord_gt {x y : Nat} (hx : x < 18446744073709551616) (hy : y < 18446744073709551616) (fx : ¬ nan x) (fy : ¬ nan y) : (FloatKind.f64.format.order x y == some .gt) = decide (sr y < sr x) := by
  rw [order_sr x y hx hy fx fy]
  rcases Int.lt_trichotomy (sr x) (sr y) with h | h | h
  · rw [compare_lt h]; simp; omega
  · rw [compare_eq h]; simp; omega
  · rw [compare_gt h]; simp; omega
theorem ord_lt {x y : Nat} (hx : x < 18446744073709551616) (hy : y < 18446744073709551616) (fx : ¬ nan x) (fy : ¬ nan y) : (FloatKind.f64.format.order x y == some .lt) = decide (sr x < sr y) := by
  rw [order_sr x y hx hy fx fy]
  rcases Int.lt_trichotomy (sr x) (sr y) with h | h | h
  · rw [compare_lt h]; simp; omega
  · rw [compare_eq h]; simp; omega
  · rw [compare_gt h]; simp; omega
theorem ord_eq {x y : Nat} (hx : x < 18446744073709551616) (hy : y < 18446744073709551616) (fx : ¬ nan x) (fy : ¬ nan y) : (FloatKind.f64.format.order x y == some .eq) = decide (sr x = sr y) := by
  rw [order_sr x y hx hy fx fy]
  rcases Int.lt_trichotomy (sr x) (sr y) with h | h | h
  · rw [compare_lt h]; simp; omega
  · rw [compare_eq h]; simp; omega
  · rw [compare_gt h]; simp; omega
theorem ord_ne {x y : Nat} (hx : x < 18446744073709551616) (hy : y < 18446744073709551616) (fx : ¬ nan x) (fy : ¬ nan y) : (FloatKind.f64.format.order x y != some .eq) = decide (sr x ≠ sr y) := by
  have := ord_eq hx hy fx fy
  unfold bne
  rw [this]
  simp
theorem sr_pos {r : Nat} (h : r < 9223372036854775808) : sr r = r := by unfold sr; rw [if_neg (by omega)]
theorem nan_pos {r : Nat} (h : r ≤ 9218868437227405312) : ¬ nan r := by unfold nan; omega
theorem nan_abs {b : Nat} (h : ¬ nan b) : ¬ nan (b % 9223372036854775808) := by unfold nan at *; omega

theorem isInf_any (b : Nat) (hb : b < 18446744073709551616) (hn : ¬ nan b) (w : World) : Calls Tryd.prog 31 #[.float .f64 b, .int .i64 0] w fun e w' => e = .returned (.bool (decide (b % 9223372036854775808 = 9218868437227405312))) ∧ w = w' := by
  have ho : (FloatKind.f64.format.order (b % 9223372036854775808) 9218868437227405311 == some .gt) = decide (b % 9223372036854775808 = 9218868437227405312) := by
    rw [ord_gt (by omega) (by decide) (nan_abs hn) (nan_pos (by decide)), sr_pos (by omega), sr_pos (by omega)]
    unfold nan at hn
    congr 1
    apply propext
    constructor <;> intro h <;> omega
  have HB := Lib.hid hb
  clear hb hn
  have HA := Lib.hid (abs_any b HB.out w)
  generalize hr : b % 9223372036854775808 = r at *
  clear hr
  go_enter Tryd.func31, Tryd.ntmps31
  go_wp2_with fail
  refine HA.out.mono ?_
  rintro e w1 ⟨rfl, rfl⟩
  go_wp2_with fail
  go_ret
  exact ⟨by rw [← ho]; rfl, rfl⟩

/-- Made normal. -/
def normR (r : Nat) : Nat := if r < 4503599627370496 then r.log2 * 4503599627370496 + r * 2 ^ (52 - r.log2) else r
def normE (r : Nat) : Int := if r < 4503599627370496 then -52 else 0
theorem norm_sub (r : Nat) (h0 : 0 < r) (h : r < 4503599627370496) : normR r = r.log2 * 4503599627370496 + r * 2 ^ (52 - r.log2) ∧ 4503599627370496 ≤ r * 2 ^ (52 - r.log2) ∧ r * 2 ^ (52 - r.log2) < 9007199254740992 ∧ r.log2 ≤ 51 := by
  have h1 := log2_le_self (show r ≠ 0 by omega)
  have h2 := lt_log2_succ (show r ≠ 0 by omega)
  have hl : r.log2 ≤ 51 := by
    have := (Nat.log2_lt (show r ≠ 0 by omega)).2 (show r < 2 ^ 52 by omega)
    omega
  refine ⟨if_pos h, ?_, ?_, hl⟩
  · have : 2 ^ r.log2 * 2 ^ (52 - r.log2) ≤ r * 2 ^ (52 - r.log2) := Nat.mul_le_mul_right _ h1
    rw [← Nat.pow_add, show r.log2 + (52 - r.log2) = 52 by omega] at this
    omega
  · have : r * 2 ^ (52 - r.log2) < 2 ^ (r.log2 + 1) * 2 ^ (52 - r.log2) := Nat.mul_lt_mul_of_pos_right h2 (Nat.two_pow_pos _)
    rw [← Nat.pow_add, show r.log2 + 1 + (52 - r.log2) = 53 by omega] at this
    omega
theorem normR_bounds (r : Nat) (h0 : 0 < r) (h1 : r < 9218868437227405312) : 4503599627370496 ≤ normR r ∧ normR r < 9218868437227405312 := by
  by_cases h : r < 4503599627370496
  · obtain ⟨e, a, b, c⟩ := norm_sub r h0 h
    rw [e]
    omega
  · unfold normR; rw [if_neg h]; omega
theorem mul_norm (r : Nat) (h0 : 0 < r) (h : r < 4503599627370496) : F64.mul r 4841369599423283200 = some (normR r) := by
  obtain ⟨e, a, b, c⟩ := norm_sub r h0 h
  unfold Ieee.Format.mul
  have e2 : F64.read 4841369599423283200 = .number false 4503599627370496 0 := by decide +kernel
  have hs : sigR r = r ∧ expR r = 0 := by unfold sigR expR; rw [if_pos h]; omega
  rw [read_num r (by omega), show r % 9223372036854775808 = r by omega, show r / 9223372036854775808 = 0 by omega, e2, hs.1, hs.2]
  simp only [Ieee.Datum.product, Option.map_some, Ieee.Format.write]
  congr 1
  have := nearest_kept (((0 : Nat) % 2 == 1) ^^ false) (r * 4503599627370496) (((0 : Nat) : Int) - 1074 + 0) r.log2 (r * 2 ^ (52 - r.log2)) (by omega) b (.inr a) (by omega) (.inr ⟨r.log2, by
    rw [Nat.mul_assoc, ← Nat.pow_add, show 52 - r.log2 + r.log2 = 52 by omega], by omega⟩)
  rw [this, word_eq, if_neg (by decide), e]

theorem abs_pos (r : Nat) (h : r < 9223372036854775808) (w : World) : Calls Tryd.prog 46 #[.float .f64 r] w fun e w' => e = .returned (.float .f64 r) ∧ w = w' := by
  have := abs_any r (by omega) w
  rwa [show r % 9223372036854775808 = r by omega] at this
theorem isInf_pos (r : Nat) (h : r < 9218868437227405312) (w : World) : Calls Tryd.prog 31 #[.float .f64 r, .int .i64 0] w fun e w' => e = .returned (.bool false) ∧ w = w' := by
  have := isInf_any r (by omega) (nan_pos (by omega)) w
  rwa [show decide (r % 9223372036854775808 = 9218868437227405312) = false by rw [decide_eq_false_iff_not]; omega] at this

theorem normalize_any (r : Nat) (h0 : 0 < r) (h1 : r < 9218868437227405312) (w : World) : Calls Tryd.prog 80 #[.float .f64 r] w fun e w' => e = .returned (.tuple #[.float .f64 (normR r), .int .i64 (normE r)]) ∧ w = w' := by
  have HA := Lib.hid (abs_pos r (by omega) w)
  by_cases h : r < 4503599627370496
  · have ho : (FloatKind.f64.format.order r 4503599627370496 == some .lt) = true := by
      rw [ord_lt (by omega) (by decide) (nan_pos (by omega)) (nan_pos (by decide)), sr_pos (by omega), sr_pos (by omega)]
      rw [decide_eq_true_eq]; omega
    have hm : ∀ t w, (binOp .mul t (.float .f64 r) (.float .f64 4841369599423283200)).run Tryd.prog w = .ok (.float .f64 (normR r)) w := fun t w => run_float_arith w .mul t .f64 r _ _ (mul_norm r h0 h)
    have HE := Lib.hid (show normE r = -52 from if_pos h)
    clear h h0 h1
    go_enter Tryd.func80, Tryd.ntmps80
    go_wp2_with fail
    refine HA.out.mono ?_
    rintro e w1 ⟨rfl, rfl⟩
    go_wp2_with fail
    go_ret2
    exact ⟨by rw [HE.out]; rfl, rfl⟩
  · have ho : (FloatKind.f64.format.order r 4503599627370496 == some .lt) = false := by
      rw [ord_lt (by omega) (by decide) (nan_pos (by omega)) (nan_pos (by decide)), sr_pos (by omega), sr_pos (by omega)]
      rw [decide_eq_false_iff_not]; omega
    have HE := Lib.hid (show normE r = 0 from if_neg h)
    have HR := Lib.hid (show normR r = r from if_neg h)
    clear h h0 h1
    go_enter Tryd.func80, Tryd.ntmps80
    go_wp2_with fail
    refine HA.out.mono ?_
    rintro e w1 ⟨rfl, rfl⟩
    go_wp2_with fail
    go_ret2
    exact ⟨by rw [HE.out, HR.out]; rfl, rfl⟩
end Go.Proofs.YtnbpioinhjijcaaDoor
