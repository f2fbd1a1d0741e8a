import Derived.Test.YtnbpioinhjijcaaDoorLdx
/-! Floors, and whole numbers held against floats: plain. -/
namespace Go.Proofs.YtnbpioinhjijcaaDoor
open Go.RowKit

theorem unit_j : ∃ j, j = 1074 ∧ unit = 2 ^ j := by
  obtain ⟨j, hj⟩ : ∃ j, j = 1074 := ⟨_, rfl⟩
  exact ⟨j, hj, by rw [hj]; rfl⟩
theorem unit_pos : 0 < unit := by
  obtain ⟨j, _, h⟩ := unit_j
  rw [h]
  exact Nat.two_pow_pos j
theorem unit_split {e : Nat} (h : e ≤ 1074) : unit = 2 ^ (1074 - e) * 2 ^ e := unit_eq e h
/-- y is x's floor, the whole number z. -/
structure FloorOf (x y : Nat) (z : Int) : Prop where
  lt : y < 18446744073709551616
  num : ¬ nan y
  val : sval y = z * unit
  lo : z * unit ≤ sval x
  hi : sval x < (z + 1) * unit
  int : (F64.read y).toInt .zero = some z

theorem sval_word (s : Bool) (r : Nat) (h : r < 9223372036854775808) : sval (F64.word s r) = if s then -(rv r : Int) else rv r := by
  rw [word_eq]
  unfold sval
  cases s
  · simp only [Bool.false_eq_true, if_false]
    rw [if_neg (by omega)]
  · simp only [if_true]
    rw [if_pos (by omega), Nat.add_sub_cancel_left]
theorem word_mod (s : Bool) (r : Nat) (h : r < 9223372036854775808) : F64.word s r % 9223372036854775808 = r ∧ (F64.word s r / 9223372036854775808 % 2 == 1) = s ∧ F64.word s r < 18446744073709551616 := by
  rw [word_eq]
  cases s
  · rw [if_neg (by decide)]
    refine ⟨by omega, ?_, by omega⟩
    rw [show r / 9223372036854775808 = 0 by omega]; decide
  · rw [if_pos rfl]
    refine ⟨by omega, ?_, by omega⟩
    rw [show (9223372036854775808 + r) / 9223372036854775808 = 1 by omega]; decide
theorem word_self (x : Nat) (hx : x < 18446744073709551616) : F64.word (x / 9223372036854775808 % 2 == 1) (x % 9223372036854775808) = x := by
  rw [word_eq]
  rcases (show x / 9223372036854775808 = 0 ∨ x / 9223372036854775808 = 1 by omega) with e | e <;> rw [e]
  · rw [if_neg (by decide)]; omega
  · rw [if_pos (by decide)]; omega

theorem toInt_word (s : Bool) (q : Nat) (hq : q < 9007199254740992) : (F64.read (F64.word s (wi q))).toInt .zero = some (if s then -(q : Int) else q) := by
  have hl := (wi_rung q hq).2
  obtain ⟨a, b, c⟩ := word_mod s (wi q) (by omega)
  rw [read_num _ (by rw [a]; exact hl), a, b]
  simp only [Ieee.Datum.toInt, Ieee.Datum.integral]
  have hcut : Ieee.Toward.zero.cut s (sigR (wi q) <<< (((expR (wi q) : Nat) : Int) - 1074).toNat) (-(((expR (wi q) : Nat) : Int) - 1074)).toNat = q := by
    rw [cut_toward, Nat.shiftLeft_eq]
    by_cases h0 : q = 0
    · subst h0
      have : wi 0 = 0 := by unfold wi; rw [nearest_zero, word_eq, if_neg (by decide)]
      rw [this, show sigR 0 = 0 by decide, Nat.zero_mul, Nat.zero_div]
    · obtain ⟨k1, k2, k3⟩ := kn_bounds q (by omega) hq
      have hs := sig_exp_of (1022 + q.log2) (knB q) k2 (.inr k1)
      rw [← wi_eq q (by omega) hq] at hs
      rw [hs.1, hs.2, show (((1022 + q.log2 : Nat) : Int) - 1074).toNat = 0 by omega, show (-(((1022 + q.log2 : Nat) : Int) - 1074)).toNat = 52 - q.log2 by omega, Nat.pow_zero, Nat.mul_one]
      unfold knB
      exact Nat.mul_div_cancel _ (Nat.two_pow_pos _)
  rw [hcut, signed_eq, Nat.pow_zero, Nat.mul_one]

theorem floor_spec (x : Nat) (hx : x < 18446744073709551616) (hf : x % 9223372036854775808 < 9218868437227405312) : ∃ z, FloorOf x (floorB x) z := by
  obtain ⟨r, hr⟩ : ∃ r, x % 9223372036854775808 = r := ⟨_, rfl⟩
  obtain ⟨s, hs⟩ : ∃ s, (x / 9223372036854775808 % 2 == 1) = s := ⟨_, rfl⟩
  have hread := read_num x hf
  have hw := word_self x hx
  rw [hr, hs] at hw hread
  rw [hr] at hf
  have hsv : sval x = if s then -(rv r : Int) else rv r := by rw [← hw, sval_word s r (by omega)]
  have hfl : floorB x = F64.nearest s (Ieee.Toward.down.cut s (sigR r <<< (((expR r : Nat) : Int) - 1074).toNat) (-(((expR r : Nat) : Int) - 1074)).toNat) 0 := by
    unfold floorB
    rw [hread]
    rfl
  have hu := unit_pos
  by_cases he : 1074 ≤ expR r
  · -- whole
    have hN : Ieee.Toward.down.cut s (sigR r <<< (((expR r : Nat) : Int) - 1074).toNat) (-(((expR r : Nat) : Int) - 1074)).toNat = sigR r * 2 ^ (expR r - 1074) := by
      rw [show (((expR r : Nat) : Int) - 1074).toNat = expR r - 1074 by omega, show (-(((expR r : Nat) : Int) - 1074)).toNat = 0 by omega, cut_zero, Nat.shiftLeft_eq]
    have hv : sigR r * 2 ^ (expR r - 1074) * unit = rv r := by
      obtain ⟨j, hj, hju⟩ := unit_j
      unfold rv
      rw [hju, Nat.mul_assoc, ← Nat.pow_add, show expR r - 1074 + j = expR r by omega]
    have hy : floorB x = x := by
      rw [hfl, hN]
      obtain ⟨j, hj, huj⟩ := unit_j
      rw [nearest_val s _ 0 r (by omega) (.inl ⟨j, by omega, by rw [← huj]; exact hv⟩), hw]
    generalize sigR r * 2 ^ (expR r - 1074) = N at *
    refine ⟨if s then -(N : Int) else N, by rw [hy]; exact hx, by rw [hy]; unfold nan; omega, ?_, ?_, ?_, ?_⟩
    · rw [hy, hsv, ← hv]
      cases s <;> simp [Int.neg_mul]
    · rw [hsv, ← hv]
      cases s <;> simp [Int.neg_mul]
    · rw [hsv, ← hv]
      have : (0 : Int) < (unit : Int) := by omega
      cases s
      · simp only [Bool.false_eq_true, if_false, Int.natCast_mul, Int.add_mul]; omega
      · simp only [if_true, Int.natCast_mul, Int.add_mul, Int.neg_mul]; omega
    · rw [hy, hread]
      simp only [Ieee.Datum.toInt, Ieee.Datum.integral]
      have hN2 : Ieee.Toward.zero.cut s (sigR r <<< (((expR r : Nat) : Int) - 1074).toNat) (-(((expR r : Nat) : Int) - 1074)).toNat = N := by
        rw [← hN, show (-(((expR r : Nat) : Int) - 1074)).toNat = 0 by omega, cut_zero, cut_zero]
      rw [hN2, signed_eq, Nat.pow_zero, Nat.mul_one]
  · obtain ⟨d, hd⟩ : ∃ d, 1074 - expR r = d := ⟨_, rfl⟩
    have hd0 : 0 < d := by omega
    have hcut : Ieee.Toward.down.cut s (sigR r <<< (((expR r : Nat) : Int) - 1074).toNat) (-(((expR r : Nat) : Int) - 1074)).toNat = sigR r / 2 ^ d + (if s = true ∧ sigR r % 2 ^ d ≠ 0 then 1 else 0) := by
      rw [show (((expR r : Nat) : Int) - 1074).toNat = 0 by omega, show (-(((expR r : Nat) : Int) - 1074)).toNat = d by omega, cut_down, Nat.shiftLeft_zero]
    have hub : unit = 2 ^ d * 2 ^ expR r := by
      rw [← hd]; exact unit_split (by omega)
    have hsig := sigR_lt r
    have hq : sigR r / 2 ^ d + (if s = true ∧ sigR r % 2 ^ d ≠ 0 then 1 else 0) < 9007199254740992 := by
      have h2 : 2 ^ 1 ≤ 2 ^ d := Nat.pow_le_pow_right (by omega) hd0
      have h3 : sigR r / 2 ^ d ≤ sigR r / 2 ^ 1 := Nat.div_le_div_left h2 (by decide)
      split <;> omega
    have hdm := Nat.div_add_mod (sigR r) (2 ^ d)
    have hml := Nat.mod_lt (sigR r) (Nat.two_pow_pos d)
    have hrv : rv r = sigR r * 2 ^ expR r := rfl
    have hpe := Nat.two_pow_pos (expR r)
    have hpd := Nat.two_pow_pos d
    rw [hcut] at hfl
    obtain ⟨q0, hq0⟩ : ∃ q0, sigR r / 2 ^ d = q0 := ⟨_, rfl⟩
    obtain ⟨m0, hm0⟩ : ∃ m0, sigR r % 2 ^ d = m0 := ⟨_, rfl⟩
    rw [hq0, hm0] at hfl hq hdm
    rw [hm0] at hml
    -- the value: q0 units and a rest
    have hval : rv r = q0 * unit + m0 * 2 ^ expR r := by
      rw [hrv, ← hdm, Nat.add_mul, hub, Nat.mul_comm (2 ^ d) q0, Nat.mul_assoc]
    have hrest : m0 * 2 ^ expR r < unit := by
      rw [hub]; exact Nat.mul_lt_mul_of_pos_right hml hpe
    have hrest0 : m0 * 2 ^ expR r = 0 ↔ m0 = 0 := by
      constructor
      · intro e
        rcases Nat.mul_eq_zero.1 e with e | e
        · exact e
        · omega
      · intro e; rw [e, Nat.zero_mul]
    have hnear : ∀ q, q < 9007199254740992 → F64.nearest s q 0 = F64.word s (wi q) := by
      intro q hq
      obtain ⟨j, hj, huj⟩ := unit_j
      exact nearest_val s q 0 (wi q) (by have := (wi_rung q hq).2; omega) (.inl ⟨j, by omega, by rw [← huj]; exact (wi_rung q hq).1.symm⟩)
    generalize m0 * 2 ^ expR r = rest at *
    clear hrv hpe hpd hub hml hdm hcut hd0 hq0 hm0 hread hsig hd
    have build : ∀ q, q < 9007199254740992 → floorB x = F64.nearest s q 0 → (if s then -(q : Int) else (q : Int)) * unit ≤ sval x → sval x < ((if s then -(q : Int) else (q : Int)) + 1) * unit → ∃ z, FloorOf x (floorB x) z := by
      intro q hq hfe h1 h2
      have hl := wi_rung q hq
      obtain ⟨a, b, c⟩ := word_mod s (wi q) (by omega)
      rw [hfe, hnear q hq]
      refine ⟨if s then -(q : Int) else q, c, by unfold nan; rw [a]; omega, ?_, h1, h2, toInt_word s q hq⟩
      rw [sval_word s _ (by omega), hl.1]
      cases s <;> simp [Int.neg_mul]
    cases s with
    | false =>
      have e : (if false = true ∧ m0 ≠ 0 then 1 else 0) = 0 := if_neg (by simp)
      rw [e, Nat.add_zero] at hfl hq
      refine build q0 hq hfl ?_ ?_
      · rw [hsv, hval]
        simp only [Bool.false_eq_true, if_false]
        rw [Int.natCast_add, Int.natCast_mul]; omega
      · rw [hsv, hval]
        simp only [Bool.false_eq_true, if_false]
        rw [Int.natCast_add, Int.natCast_mul, Int.add_mul]; omega
    | true =>
      by_cases hm : m0 = 0
      · have e : (if true = true ∧ m0 ≠ 0 then 1 else 0) = 0 := if_neg (by simp [hm])
        have hr0 := hrest0.2 hm
        rw [e, Nat.add_zero] at hfl hq
        refine build q0 hq hfl ?_ ?_
        · rw [hsv, hval, hr0]
          simp only [if_true]
          rw [Nat.add_zero, Int.natCast_mul, Int.neg_mul]; omega
        · rw [hsv, hval, hr0]
          simp only [if_true]
          rw [Nat.add_zero, Int.natCast_mul, Int.add_mul, Int.neg_mul]; omega
      · have e : (if true = true ∧ m0 ≠ 0 then 1 else 0) = 1 := if_pos ⟨rfl, hm⟩
        have hr0 : rest ≠ 0 := fun x => hm (hrest0.1 x)
        rw [e] at hfl hq
        refine build (q0 + 1) hq hfl ?_ ?_
        · rw [hsv, hval]
          simp only [if_true]
          rw [Int.natCast_add, Int.natCast_add, Int.natCast_mul, Int.neg_mul, Int.add_mul]; omega
        · rw [hsv, hval]
          simp only [if_true]
          rw [Int.natCast_add, Int.natCast_add, Int.natCast_mul, Int.add_mul, Int.neg_mul, Int.add_mul]; omega
end Go.Proofs.YtnbpioinhjijcaaDoor
