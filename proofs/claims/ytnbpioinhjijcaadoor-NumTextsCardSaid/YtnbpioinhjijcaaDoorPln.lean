import Derived.Test.YtnbpioinhjijcaaDoorTxt2
import Derived.Test.YtnbpioinhjijcaaDoorPu2
/-! Plain laws of the texts of floats. -/
namespace Go.Proofs.YtnbpioinhjijcaaDoor
open Go.RowKit

theorem dec_small {u : Nat} (h : u < 10) : Lib.decDigits u = [UInt8.ofNat (48 + u)] := by rw [Lib.decDigits, dif_pos h]
theorem dec_big {u : Nat} (h : ¬ u < 10) : Lib.decDigits u = Lib.decDigits (u / 10) ++ [UInt8.ofNat (48 + u % 10)] := by rw [Lib.decDigits, dif_neg h]
theorem dig_toNat {d : Nat} (h : d < 10) : (UInt8.ofNat (48 + d)).toNat = 48 + d := by rw [UInt8.toNat_ofNat']; omega
theorem dec_digits (u : Nat) : ∀ c ∈ Lib.decDigits u, 48 ≤ c.toNat ∧ c.toNat ≤ 57 := by
  induction u using Nat.strongRecOn with
  | _ u ih =>
    by_cases h : u < 10
    · rw [dec_small h]
      intro c hc
      rw [List.mem_singleton] at hc
      subst hc
      rw [dig_toNat h]; omega
    · rw [dec_big h]
      intro c hc
      rcases List.mem_append.1 hc with hc | hc
      · exact ih (u / 10) (by omega) c hc
      · rw [List.mem_singleton] at hc
        subst hc
        rw [dig_toNat (by omega)]; omega
theorem dec_cons (u : Nat) : ∃ c l, Lib.decDigits u = c :: l := by
  cases h : Lib.decDigits u with
  | nil =>
    exfalso
    by_cases h2 : u < 10
    · rw [dec_small h2] at h; cases h
    · rw [dec_big h2] at h; simp at h
  | cons c l => exact ⟨c, l, rfl⟩
theorem parseM_append (M : Nat) : ∀ (l r : List UInt8) (acc a : Nat), Lib.parseUintM M acc l = .ok a → Lib.parseUintM M acc (l ++ r) = Lib.parseUintM M a r
  | [], r, acc, a, h => by simp only [Lib.parseUintM] at h; injection h with h; rw [h]; rfl
  | c :: l, r, acc, a, h => by
    rw [List.cons_append]
    simp only [Lib.parseUintM] at h ⊢
    split at h
    · rename_i h1
      rw [if_pos h1]
      split at h
      · cases h
      · rename_i h2
        rw [if_neg h2]
        split at h
        · cases h
        · rename_i h3
          rw [if_neg h3]
          exact parseM_append M l r _ a h
    · cases h
theorem parseM_dec (M : Nat) (hM : M < 9223372036854775808) (u : Nat) : u ≤ M → Lib.parseUintM M 0 (Lib.decDigits u) = .ok u := by
  induction u using Nat.strongRecOn with
  | _ u ih =>
    intro hu
    by_cases h : u < 10
    · rw [dec_small h]
      simp only [Lib.parseUintM, dig_toNat h]
      rw [if_pos (by omega), if_neg (by omega), if_neg (by omega)]
      congr 1; omega
    · rw [dec_big h, parseM_append M _ _ 0 _ (ih (u / 10) (by omega) (by omega))]
      simp only [Lib.parseUintM, dig_toNat (show u % 10 < 10 by omega)]
      rw [if_pos (by omega), if_neg (by omega), if_neg (by omega)]
      congr 1; omega
theorem uint53_dec (u : Nat) (h : u < 9007199254740992) : uint53 (Lib.decDigits u) = .ok u := by
  unfold uint53
  obtain ⟨c, l, e⟩ := dec_cons u
  rw [if_neg (by rw [e]; simp)]
  exact parseM_dec _ (by omega) u (by omega)
theorem parseUint10_dec (u : Nat) : u < 9223372036854775808 → Lib.parseUint10 0 (Lib.decDigits u) = .ok u := by
  have happ : ∀ (l r : List UInt8) (acc a : Nat), Lib.parseUint10 acc l = .ok a → Lib.parseUint10 acc (l ++ r) = Lib.parseUint10 a r := by
    intro l
    induction l with
    | nil => intro r acc a h; simp only [Lib.parseUint10] at h; injection h with h; rw [h]; rfl
    | cons c l ih =>
      intro r acc a h
      rw [List.cons_append]
      simp only [Lib.parseUint10] at h ⊢
      split at h
      · rename_i h1
        rw [if_pos h1]
        split at h
        · cases h
        · rename_i h2
          rw [if_neg h2]
          split at h
          · cases h
          · rename_i h3
            rw [if_neg h3]
            exact ih r _ a h
      · cases h
  induction u using Nat.strongRecOn with
  | _ u ih =>
    intro hu
    by_cases h : u < 10
    · rw [dec_small h]
      simp only [Lib.parseUint10, dig_toNat h]
      rw [if_pos (by omega), if_neg (by omega), if_neg (by omega)]
      congr 1; omega
    · rw [dec_big h, happ _ _ 0 _ (ih (u / 10) (by omega) (by omega))]
      simp only [Lib.parseUint10, dig_toNat (show u % 10 < 10 by omega)]
      rw [if_pos (by omega), if_neg (by omega), if_neg (by omega)]
      congr 1; omega
theorem atoi_itoa (n : Int) (h0 : -9223372036854775808 < n) (h1 : n < 9223372036854775808) : Lib.atoiAll (Lib.itoa n) = .ok n := by
  unfold Lib.itoa
  by_cases hn : n < 0
  · rw [if_pos hn]
    obtain ⟨c, l, e⟩ := dec_cons n.natAbs
    have hp := parseUint10_dec n.natAbs (by omega)
    simp only [Lib.atoiAll]
    rw [if_pos (.inr (by decide))]
    unfold Lib.parseMag
    rw [if_neg (by rw [e]; simp), hp]
    simp
    rw [if_neg (by omega)]
    congr 1; omega
  · rw [if_neg hn]
    obtain ⟨c, l, e⟩ := dec_cons n.toNat
    have hp := parseUint10_dec n.toNat (by omega)
    have hd := dec_digits n.toNat c (by rw [e]; simp)
    rw [e]
    simp only [Lib.atoiAll]
    rw [if_neg (by omega), ← e]
    unfold Lib.parseMag
    rw [if_neg (by rw [e]; simp), hp]
    simp only []
    rw [if_neg (by omega), if_neg (by omega), if_neg (by omega)]
    congr 1; omega

/-! Halving out. -/
theorem tzF_spec : ∀ (f n : Nat), 0 < n → n < 2 ^ f → n % 2 ^ tzF f n = 0 ∧ n / 2 ^ tzF f n % 2 = 1
  | 0, n, h0, h1 => by rw [Nat.pow_zero] at h1; omega
  | f + 1, n, h0, h1 => by
    unfold tzF
    by_cases h : n % 2 = 1
    · rw [if_pos h, Nat.pow_zero, Nat.mod_one, Nat.div_one]; exact ⟨rfl, h⟩
    · rw [if_neg h]
      have ih := tzF_spec f (n / 2) (by omega) (by rw [Nat.pow_succ] at h1; omega)
      obtain ⟨q, hq⟩ := Nat.dvd_of_mod_eq_zero ih.1
      have hn : n = 2 ^ (tzF f (n / 2) + 1) * q := by rw [Nat.pow_succ, Nat.mul_comm (2 ^ _) 2, Nat.mul_assoc, ← hq]; omega
      refine ⟨?_, ?_⟩
      · exact Nat.mod_eq_zero_of_dvd ⟨q, hn⟩
      · rw [Nat.pow_succ, Nat.mul_comm (2 ^ _) 2, ← Nat.div_div_eq_div_mul]; exact ih.2
theorem tz_spec {n : Nat} (h0 : 0 < n) (h1 : n < 18446744073709551616) : n = n / 2 ^ tz n * 2 ^ tz n ∧ n / 2 ^ tz n % 2 = 1 := by
  obtain ⟨a, b⟩ := tzF_spec 64 n h0 (by omega)
  refine ⟨?_, b⟩
  have := Nat.div_add_mod n (2 ^ tz n)
  rw [show n % 2 ^ tz n = 0 from a, Nat.add_zero, Nat.mul_comm] at this
  exact this.symm

/-- The value of a number: its text's M and E. -/
theorem mag_spec (r : Nat) (h0 : 0 < r) (h1 : r < 9218868437227405312) : magB r % 2 = 1 ∧ 0 < magB r ∧ magB r < 9007199254740992 ∧ ∃ a : Nat, exB r = (a : Int) - 1074 ∧ rv r = magB r * 2 ^ a ∧ a ≤ 2098 := by
  obtain ⟨s1, s2⟩ := SN_bounds r h0 h1
  obtain ⟨t1, t2⟩ := tz_spec (n := SN r) (by omega) (by omega)
  have hm : magB r ≤ SN r := Nat.div_le_self _ _
  have htz : tz (SN r) ≤ 52 := by
    rcases Nat.lt_or_ge 52 (tz (SN r)) with h | h
    · exfalso
      have h3 : 2 ^ 53 ≤ 2 ^ tz (SN r) := Nat.pow_le_pow_right (by omega) h
      have h4 : SN r / 2 ^ tz (SN r) = 0 := Nat.div_eq_of_lt (by omega)
      omega
    · exact h
  refine ⟨t2, ?_, by omega, ?_⟩
  · unfold magB
    exact Nat.pos_of_ne_zero (fun e => by rw [e] at t2; omega)
  · by_cases h : r < 4503599627370496
    · obtain ⟨e, a, b, c⟩ := norm_sub r h0 h
      have hs := sig_exp_of r.log2 _ b (.inr a)
      have hSN : SN r = r * 2 ^ (52 - r.log2) := by unfold SN; rw [e, hs.1]
      have hEN : EN r = (r.log2 : Int) - 1073 := by
        unfold EN normE
        rw [if_pos h, e]
        omega
      have hge : 52 - r.log2 ≤ tz (SN r) := by
        rcases Nat.lt_or_ge (tz (SN r)) (52 - r.log2) with g | g
        · exfalso
          have : SN r / 2 ^ tz (SN r) = r * 2 ^ (52 - r.log2 - tz (SN r)) := by
            conv => lhs; lhs; rw [hSN]
            rw [show 52 - r.log2 = (52 - r.log2 - tz (SN r)) + tz (SN r) by omega, Nat.pow_add, ← Nat.mul_assoc, Nat.add_sub_cancel, Nat.mul_div_cancel _ (Nat.two_pow_pos _)]
          rw [this, show 52 - r.log2 - tz (SN r) = (52 - r.log2 - tz (SN r) - 1) + 1 by omega, Nat.pow_succ, ← Nat.mul_assoc, Nat.mul_mod_left] at t2
          omega
        · exact g
      refine ⟨tz (SN r) - (52 - r.log2), ?_, ?_, by omega⟩
      · unfold exB; rw [hEN]; omega
      · have hrv : rv r = r := by
          have := rv_of 0 r (by omega) (.inl rfl)
          simpa using this
        have h5 : r * 2 ^ (52 - r.log2) = magB r * 2 ^ (tz (SN r) - (52 - r.log2)) * 2 ^ (52 - r.log2) := by
          rw [Nat.mul_assoc, ← Nat.pow_add, Nat.sub_add_cancel hge, ← hSN]
          exact t1
        rw [hrv]
        exact Nat.eq_of_mul_eq_mul_right (Nat.two_pow_pos _) h5
    · have hn : normR r = r := if_neg h
      have hSN : SN r = sigR r := by unfold SN; rw [hn]
      have hq : r / 4503599627370496 = expR r + 1 := by unfold expR; omega
      have hle : expR r ≤ 2045 := by unfold expR; omega
      refine ⟨expR r + tz (SN r), ?_, ?_, by omega⟩
      · unfold exB EN normE
        rw [if_neg h, hn, hq]; omega
      · unfold rv
        rw [Nat.add_comm, Nat.pow_add, ← Nat.mul_assoc, ← hSN]
        congr 1
end Go.Proofs.YtnbpioinhjijcaaDoor
