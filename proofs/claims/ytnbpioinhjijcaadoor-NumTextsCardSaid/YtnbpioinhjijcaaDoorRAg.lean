import Derived.Test.YtnbpioinhjijcaaDoorAg
/-! ref01.Against. -/
namespace Go.Proofs.YtnbpioinhjijcaaDoor
open Go.RowKit

/-- ref01.Sign -/
theorem sign_any (a b : Int) (w : World) : Calls Tryd.prog 52 #[.int .i64 a, .int .i64 b] w fun e w' => e = .returned (.int .i64 (cmpZ a b)) ∧ w = w' := by
  rcases Int.lt_trichotomy a b with h | h | h
  · have c1 : decide (a < b) = true := by simpa using h
    have HE := Lib.hid (cmpZ_lt h)
    clear h
    go_enter Tryd.func52, Tryd.ntmps52
    go_wp2
    go_ret
    exact ⟨by rw [HE.out]; rfl, rfl⟩
  · have c1 : decide (a < b) = false := by simp; omega
    have c2 : decide (b < a) = false := by simp; omega
    have HE := Lib.hid (cmpZ_eq h)
    clear h
    go_enter Tryd.func52, Tryd.ntmps52
    go_wp2
    go_ret
    exact ⟨by rw [HE.out]; rfl, rfl⟩
  · have c1 : decide (a < b) = false := by simp; omega
    have c2 : decide (b < a) = true := by simpa using h
    have HE := Lib.hid (cmpZ_gt h)
    clear h
    go_enter Tryd.func52, Tryd.ntmps52
    go_wp2
    go_ret
    exact ⟨by rw [HE.out]; rfl, rfl⟩

def btZ (n low : Int) : Int := if n ≤ low then -1 else 1
theorem btZ_le {n low : Int} (h : n ≤ low) : btZ n low = -1 := if_pos h
theorem btZ_gt {n low : Int} (h : low < n) : btZ n low = 1 := if_neg (by omega)
def lowZ (minus : Bool) (q : Nat) : Int := if minus then -(q : Int) - 1 else q
/-- ref01.between -/
theorem between_any (n : Int) (minus : Bool) (m d : Nat) (hm : m < 9007199254740992) (hd : 0 < d) (hd2 : d ≤ 1074) (w : World) :
    Calls Tryd.prog 53 #[.int .i64 n, .bool minus, .int .i64 m, .int .i64 (-(d : Int))] w fun e w' => e = .returned (.int .i64 (btZ n (lowZ minus (m / 2 ^ d)))) ∧ w = w' := by
  obtain ⟨q, hq⟩ : ∃ q, m / 2 ^ d = q := ⟨_, rfl⟩
  have hql : q < 9007199254740992 := by rw [← hq]; exact Nat.lt_of_le_of_lt (Nat.div_le_self _ _) hm
  rw [hq]
  have hqi : (m : Int) / 2 ^ (-(-(d : Int))).toNat = (q : Int) := by
    rw [show (-(-(d : Int))).toNat = d by omega, ← hq]
    simp
  have hqi2 : (m : Int) / 2 ^ d = (q : Int) := by
    rw [← hq]
    simp
  have hw1 : wrap64 (wrap64 (-(q : Int)) - 1) = -(q : Int) - 1 := by unfold wrap64; omega
  by_cases hs : (-63 : Int) < -(d : Int)
  · have c0 : decide ((-63 : Int) < -(d : Int)) = true := by simpa using hs
    have HD := Lib.hid hd
    have HD2 := Lib.hid hd2
    have hd3 : d < 63 := by omega
    clear hq hm hql hs
    cases minus with
    | true =>
      obtain ⟨low, hlow⟩ : ∃ low, lowZ true q = low := ⟨_, rfl⟩
      have hw2 : wrap64 (wrap64 (-(q : Int)) - 1) = low := by rw [hw1, ← hlow]; rfl
      rw [hlow]
      clear hlow hw1
      by_cases hn : n ≤ low
      · have c1 : decide (n ≤ low) = true := by simpa using hn
        have HE := Lib.hid (btZ_le hn)
        clear hn
        go_enter Tryd.func53, Tryd.ntmps53
        go_wp2_with fail
        go_ret
        exact ⟨by rw [HE.out]; rfl, rfl⟩
      · have c1 : decide (n ≤ low) = false := by simpa using hn
        have HE := Lib.hid (btZ_gt (show low < n by omega))
        clear hn
        go_enter Tryd.func53, Tryd.ntmps53
        go_wp2_with fail
        go_ret
        exact ⟨by rw [HE.out]; rfl, rfl⟩
    | false =>
      have hlow : lowZ false q = (q : Int) := rfl
      rw [hlow]
      clear hlow hw1
      by_cases hn : n ≤ (q : Int)
      · have c1 : decide (n ≤ (q : Int)) = true := by simpa using hn
        have HE := Lib.hid (btZ_le hn)
        clear hn
        go_enter Tryd.func53, Tryd.ntmps53
        go_wp2_with fail
        go_ret
        exact ⟨by rw [HE.out]; rfl, rfl⟩
      · have c1 : decide (n ≤ (q : Int)) = false := by simpa using hn
        have HE := Lib.hid (btZ_gt (show (q : Int) < n by omega))
        clear hn
        go_enter Tryd.func53, Tryd.ntmps53
        go_wp2_with fail
        go_ret
        exact ⟨by rw [HE.out]; rfl, rfl⟩
  · have c0 : decide ((d : Int) < 63) = false := by simp; omega
    have c00 : (63 : Int) ≤ (d : Int) := by omega
    have hq0 : q = 0 := by
      rw [← hq]
      apply Nat.div_eq_of_lt
      have : 2 ^ 63 ≤ 2 ^ d := Nat.pow_le_pow_right (by omega) (by omega)
      omega
    subst hq0
    have HD := Lib.hid hd
    have HD2 := Lib.hid hd2
    clear hq hm hql hs hqi hqi2 hw1 hd hd2
    cases minus with
    | true =>
      have hlow : lowZ true 0 = -1 := rfl
      rw [hlow]
      clear hlow
      by_cases hn : n ≤ -1
      · have c1 : decide (n ≤ -1) = true := by simpa using hn
        have HE := Lib.hid (btZ_le hn)
        clear hn
        go_enter Tryd.func53, Tryd.ntmps53
        go_wp2_with fail
        go_ret
        exact ⟨by rw [HE.out]; rfl, rfl⟩
      · have c1 : decide (n ≤ -1) = false := by simpa using hn
        have HE := Lib.hid (btZ_gt (show -1 < n by omega))
        clear hn
        go_enter Tryd.func53, Tryd.ntmps53
        go_wp2_with fail
        go_ret
        exact ⟨by rw [HE.out]; rfl, rfl⟩
    | false =>
      have hlow : lowZ false 0 = 0 := rfl
      rw [hlow]
      clear hlow
      by_cases hn : n ≤ 0
      · have c1 : decide (n ≤ 0) = true := by simpa using hn
        have HE := Lib.hid (btZ_le hn)
        clear hn
        go_enter Tryd.func53, Tryd.ntmps53
        go_wp2_with fail
        go_ret
        exact ⟨by rw [HE.out]; rfl, rfl⟩
      · have c1 : decide (n ≤ 0) = false := by simpa using hn
        have HE := Lib.hid (btZ_gt (show (0 : Int) < n by omega))
        clear hn
        go_enter Tryd.func53, Tryd.ntmps53
        go_wp2_with fail
        go_ret
        exact ⟨by rw [HE.out]; rfl, rfl⟩

/-- The value of a float by its parts. -/
theorem sval_parts (b : Nat) (hb : b < 18446744073709551616) : sval b = if signB b then -(rv (b % 9223372036854775808) : Int) else rv (b % 9223372036854775808) := by
  unfold sval
  by_cases h : 9223372036854775808 ≤ b
  · rw [if_pos h, if_pos ((signB_iff b).2 h), show b - 9223372036854775808 = b % 9223372036854775808 by omega]
  · rw [if_neg h, if_neg (fun e => h ((signB_iff b).1 e)), show b % 9223372036854775808 = b by omega]

/-- Not whole: held against the whole number below. -/
theorem cmp_between (n : Int) (s : Bool) (m d : Nat) (e0 : Nat) (hde : d + e0 = 1074) (hodd : m % 2 = 1) (hd : 0 < d) :
    cmpZ (n * unit) (if s then -((m * 2 ^ e0 : Nat) : Int) else ((m * 2 ^ e0 : Nat) : Int)) = btZ n (lowZ s (m / 2 ^ d)) := by
  have hu : unit = 2 ^ d * 2 ^ e0 := by
    have := unit_eq e0 (by omega)
    rwa [show 1074 - e0 = d by omega] at this
  have hdm := Nat.div_add_mod m (2 ^ d)
  have hml := Nat.mod_lt m (Nat.two_pow_pos d)
  have hm0 : 0 < m % 2 ^ d := by
    rcases Nat.eq_zero_or_pos (m % 2 ^ d) with e | e
    · exfalso
      obtain ⟨c, hc⟩ : ∃ c, d = c + 1 := ⟨d - 1, by omega⟩
      have h2d : 2 ∣ 2 ^ d := ⟨2 ^ c, by rw [hc, Nat.pow_succ, Nat.mul_comm]⟩
      have : 2 ∣ m := Nat.dvd_trans h2d (Nat.dvd_of_mod_eq_zero e)
      omega
    · exact e
  have hpe := Nat.two_pow_pos e0
  obtain ⟨q, hq⟩ : ∃ q, m / 2 ^ d = q := ⟨_, rfl⟩
  obtain ⟨r, hr⟩ : ∃ r, m % 2 ^ d = r := ⟨_, rfl⟩
  rw [hq, hr] at hdm
  rw [hr] at hml hm0
  rw [hq]
  have hval : m * 2 ^ e0 = q * unit + r * 2 ^ e0 := by
    rw [hu, ← hdm, Nat.add_mul, Nat.mul_comm (2 ^ d) q, Nat.mul_assoc]
  have h1 : 0 < r * 2 ^ e0 := Nat.mul_pos hm0 hpe
  have h2 : r * 2 ^ e0 < unit := by rw [hu]; exact Nat.mul_lt_mul_of_pos_right hml hpe
  rw [hval]
  generalize r * 2 ^ e0 = rest at *
  have hup := unit_pos
  clear hu hdm hml hm0 hpe hval hq hr
  cases s with
  | false =>
    simp only [Bool.false_eq_true, if_false, lowZ]
    by_cases hn : n ≤ (q : Int)
    · rw [btZ_le hn, cmpZ_lt]
      have : n * (unit : Int) ≤ q * unit := Int.mul_le_mul_of_nonneg_right hn (by omega)
      rw [Int.natCast_add, Int.natCast_mul]; omega
    · rw [btZ_gt (by omega), cmpZ_gt]
      have : ((q : Int) + 1) * unit ≤ n * unit := Int.mul_le_mul_of_nonneg_right (by omega) (by omega)
      rw [Int.add_mul] at this
      rw [Int.natCast_add, Int.natCast_mul]; omega
  | true =>
    simp only [if_true, lowZ]
    by_cases hn : n ≤ -(q : Int) - 1
    · rw [btZ_le hn, cmpZ_lt]
      have : n * (unit : Int) ≤ (-(q : Int) - 1) * unit := Int.mul_le_mul_of_nonneg_right hn (by omega)
      rw [Int.sub_mul, Int.neg_mul] at this
      rw [Int.natCast_add, Int.natCast_mul]; omega
    · rw [btZ_gt (by omega), cmpZ_gt]
      have : (-(q : Int)) * unit ≤ n * unit := Int.mul_le_mul_of_nonneg_right (by omega) (by omega)
      rw [Int.neg_mul] at this
      rw [Int.natCast_add, Int.natCast_mul]; omega
theorem cmp_whole (n : Int) (s : Bool) (v : Nat) : cmpZ (n * unit) (if s then -((v * unit : Nat) : Int) else ((v * unit : Nat) : Int)) = cmpZ n (if s then -(v : Int) else v) := by
  have hup := unit_pos
  have e : (if s then -((v * unit : Nat) : Int) else ((v * unit : Nat) : Int)) = (if s then -(v : Int) else v) * unit := by
    cases s <;> simp [Int.neg_mul]
  rw [e]
  generalize (if s then -(v : Int) else (v : Int)) = z
  have hu : (0 : Int) < (unit : Int) := by omega
  rcases Int.lt_trichotomy n z with h | h | h
  · rw [cmpZ_lt h, cmpZ_lt (Int.mul_lt_mul_of_pos_right h hu)]
  · rw [cmpZ_eq h, cmpZ_eq (by rw [h])]
  · rw [cmpZ_gt h, cmpZ_gt (Int.mul_lt_mul_of_pos_right h hu)]
end Go.Proofs.YtnbpioinhjijcaaDoor
