import Derived.Test.YtnbpioinhjijcaaDoorRA3
/-! ref01.Against. -/
namespace Go.Proofs.YtnbpioinhjijcaaDoor
open Go.RowKit
/-- ref01.Against -/
theorem refAgainst_any (n : Int) (n0 : -9223372036854775808 ≤ n) (n1 : n ≤ 9223372036854775807) (b : Nat) (hb : b < 18446744073709551616) (w : World) :
    Calls Tryd.prog 27 #[.int .i64 n, .float .f64 b] w fun e w' => e = .returned (agV n b) ∧ w = w' := by
  have hp := parts_are b hb
  have he := expoB_eq b
  have hm := fracB_eq b
  have hml := fracB_lt b
  have hel := expoB_lt b
  have hsv := sval_parts b hb
  obtain ⟨r, hr⟩ : ∃ r, b % 9223372036854775808 = r := ⟨_, rfl⟩
  have hrr : r = expoB b * 4503599627370496 + fracB b := by rw [he, hm]; omega
  have hup : (0 : Int) < (unit : Int) := by have := unit_pos; omega
  cases hn : nanB b with
  | true =>
    have h1 := (nanB_iff b).1 hn
    rw [agV_nan hn]
    exact refA_nan n b _ _ _ hp (by simp; omega) (by simp; omega) w
  | false =>
    have h1 := (nanB_false b).1 hn
    rw [agV_num hn, hsv, hr]
    rw [hr] at h1
    generalize signB b = s at *
    generalize expoB b = ef at *
    generalize fracB b = mf at *
    clear he hm hsv hn hb
    by_cases hbig : 1086 ≤ ef
    · by_cases hlow : s = true ∧ ef = 1086 ∧ mf = 0
      · obtain ⟨rfl, rfl, rfl⟩ := hlow
        have hv : cmpZ (n * unit) (if true = true then -(rv r : Int) else rv r) = cmpZ n (-9223372036854775808) := by
          have := cmp_whole n true 9223372036854775808
          rw [← rv_big, show (4890909195324358656 : Nat) = r by omega] at this
          exact this
        rw [hv]
        exact refA_low n b _ _ hp (by decide) (by decide) (by decide) w
      · have hge : 9223372036854775808 * unit ≤ rv r := by rw [← rv_big]; exact rv_le (by omega)
        have hgt : s = true → 9223372036854775808 * unit < rv r := by
          intro e
          rw [← rv_big]
          apply rv_lt
          rcases Nat.lt_or_ge 4890909195324358656 r with h | h
          · exact h
          · exact absurd ⟨e, by omega, by omega⟩ hlow
        have hv : cmpZ (n * unit) (if s = true then -(rv r : Int) else rv r) = if s = true then 1 else -1 := by
          cases s with
          | true =>
            have h2 := hgt rfl
            simp only [if_true]
            apply cmpZ_gt
            have h3 : (-9223372036854775808 : Int) * unit ≤ n * unit := Int.mul_le_mul_of_nonneg_right n0 (by omega)
            omega
          | false =>
            simp only [Bool.false_eq_true, if_false]
            apply cmpZ_lt
            have h3 : n * (unit : Int) < 9223372036854775808 * unit := Int.mul_lt_mul_of_pos_right (by omega) hup
            omega
        rw [hv]
        refine refA_big n b s ef mf hp _ _ _ _ rfl rfl rfl rfl (by omega) ?_ ?_ w
        · by_cases e : ef = 2047
          · simp; omega
          · simp; omega
        · cases s <;> simp
          intro e; simp at hlow; omega
    · by_cases hz : ef = 0 ∧ mf = 0
      · obtain ⟨rfl, rfl⟩ := hz
        have hv : cmpZ (n * unit) (if s = true then -(rv r : Int) else rv r) = cmpZ n 0 := by
          have := cmp_whole n s 0
          rw [Nat.zero_mul, ← rv_zero, show (0 : Nat) = r by omega] at this
          rw [this]
          cases s <;> simp
          all_goals rw [show r = 0 by omega]
          all_goals rfl
        rw [hv]
        exact refA_zero n b s 0 0 hp (by decide) (by decide) (by decide) (by decide) (by decide) w
      · -- a number below 2^63
        have hsig : (ef = 0 ∧ sigR r = mf ∧ expR r = 0) ∨ (0 < ef ∧ sigR r = mf + 4503599627370496 ∧ expR r = ef - 1) := by
          unfold sigR expR
          by_cases e : ef = 0
          · left; rw [if_pos (by omega)]; omega
          · right; rw [if_neg (by omega)]; omega
        by_cases hneg : ef < 1075
        · obtain ⟨d0, hd0⟩ : ∃ d0, d0 + expR r = 1074 := ⟨1074 - expR r, by omega⟩
          have hbt : ∀ j m d, m * 2 ^ j = sigR r → d + j = d0 → m % 2 = 1 → 0 < d → btZ n (lowZ s (m / 2 ^ d)) = cmpZ (n * unit) (if s = true then -(rv r : Int) else rv r) := by
            intro j m d hj hdj ho hd
            have := cmp_between n s m d (j + expR r) (by omega) ho hd
            have hmv : m * 2 ^ (j + expR r) = rv r := by
              rw [Nat.pow_add, ← Nat.mul_assoc, hj]
              rfl
            rw [hmv] at this
            exact this.symm
          have hwh : ∀ m, m * 2 ^ d0 = sigR r → cmpZ n (if s = true then -(m : Int) else m) = cmpZ (n * unit) (if s = true then -(rv r : Int) else rv r) := by
            intro m hm
            have hmu : m * unit = rv r := by
              rw [unit_eq (expR r) (by omega), show 1074 - expR r = d0 by omega, ← Nat.mul_assoc, hm]
              rfl
            have := cmp_whole n s m
            rw [hmu] at this
            exact this.symm
          rcases hsig with ⟨e1, e2, e3⟩ | ⟨e1, e2, e3⟩
          · rw [e2] at hbt hwh
            cases s with
            | true => exact refA_sub_true n b ef mf mf d0 hp (by simp; omega) (by simp; omega) (by omega) (by simp; omega) (by simp; omega) rfl (by omega) (by omega) (by omega) _ hbt hwh w
            | false => exact refA_sub_false n b ef mf mf d0 hp (by simp; omega) (by simp; omega) (by omega) (by simp; omega) (by simp; omega) rfl (by omega) (by omega) (by omega) _ hbt hwh w
          · rw [e2] at hbt hwh
            cases s with
            | true => exact refA_norm_true n b ef mf (mf + 4503599627370496) d0 hp (by simp; omega) (by simp; omega) (by omega) (by simp; omega) (by unfold wrap64; omega) (by omega) (by omega) (by omega) _ hbt hwh w
            | false => exact refA_norm_false n b ef mf (mf + 4503599627370496) d0 hp (by simp; omega) (by simp; omega) (by omega) (by simp; omega) (by unfold wrap64; omega) (by omega) (by omega) (by omega) _ hbt hwh w
        · rcases hsig with ⟨e1, e2, e3⟩ | ⟨e1, e2, e3⟩
          · omega
          · have hv := cmp_whole n s ((mf + 4503599627370496) * 2 ^ (ef - 1075))
            have hrv : (mf + 4503599627370496) * 2 ^ (ef - 1075) * unit = rv r := by
              obtain ⟨j, hj, hu⟩ := unit_j
              unfold rv
              rw [hu, e2, e3, Nat.mul_assoc, ← Nat.pow_add, show ef - 1075 + j = ef - 1 by omega]
            rw [hrv] at hv
            rw [hv]
            exact refA_up n b s ef mf hp (by omega) (by omega) (by omega) w
end Go.Proofs.YtnbpioinhjijcaaDoor

