import Derived.Test.YtnbpioinhjijcaaDoorFp
/-! Plain facts on the words of a float64: products, floors, whole numbers. -/
namespace Go.Proofs.YtnbpioinhjijcaaDoor

theorem sig_exp_of (e0 kept : Nat) (hk : kept < 9007199254740992) (hn : e0 = 0 ∨ 4503599627370496 ≤ kept) : sigR (e0 * 4503599627370496 + kept) = kept ∧ expR (e0 * 4503599627370496 + kept) = e0 := by
  unfold sigR expR
  split <;> omega
theorem rv_of (e0 kept : Nat) (hk : kept < 9007199254740992) (hn : e0 = 0 ∨ 4503599627370496 ≤ kept) : rv (e0 * 4503599627370496 + kept) = kept * 2 ^ e0 := by
  unfold rv
  rw [(sig_exp_of e0 kept hk hn).1, (sig_exp_of e0 kept hk hn).2]
theorem rv_inj {r s : Nat} (h : rv r = rv s) : r = s := by
  rcases Nat.lt_trichotomy r s with e | e | e
  · have := rv_lt e; omega
  · exact e
  · have := rv_lt e; omega

/-- What has the value of a rung is written as that rung. -/
theorem nearest_val (neg : Bool) (m : Nat) (p : Int) (r : Nat) (hr : r ≤ 9218868437227405312) (h : (∃ a : Nat, p = (a : Int) - 1074 ∧ m * 2 ^ a = rv r) ∨ (∃ b : Nat, p = -1074 - (b : Int) ∧ m = rv r * 2 ^ b)) : F64.nearest neg m p = F64.word neg r := by
  by_cases h0 : r = 0
  · subst h0
    have hm : m = 0 := by
      rcases h with ⟨a, _, h2⟩ | ⟨b, _, h2⟩
      · rw [rv_zero] at h2
        rcases Nat.mul_eq_zero.1 h2 with e | e
        · exact e
        · have := Nat.two_pow_pos a; omega
      · rw [rv_zero, Nat.zero_mul] at h2; exact h2
    rw [hm, nearest_zero]
  · have e := rung_eq r
    have hp := Nat.two_pow_pos (expR r)
    conv => rhs; rw [e]
    refine nearest_kept neg m p (expR r) (sigR r) (sigR_pos (by omega)) (sigR_lt r) (sigR_ge r) (by omega) ?_
    unfold rv at h
    rcases h with ⟨a, h1, h2⟩ | ⟨b, h1, h2⟩
    · by_cases hae : expR r ≤ a
      · refine .inl ⟨a - expR r, ?_, by omega⟩
        rw [show a = (a - expR r) + expR r by omega, Nat.pow_add, ← Nat.mul_assoc] at h2
        exact Nat.eq_of_mul_eq_mul_right hp h2
      · refine .inr ⟨expR r - a, ?_, by omega⟩
        rw [show expR r = (expR r - a) + a by omega, Nat.pow_add, ← Nat.mul_assoc] at h2
        exact Nat.eq_of_mul_eq_mul_right (Nat.two_pow_pos a) h2
    · refine .inr ⟨expR r + b, ?_, by omega⟩
      rw [h2, Nat.pow_add, Nat.mul_assoc]

/-- Every finite nonzero number of at most 53 digits has a rung. -/
theorem rung_of (n a : Nat) (hn : 0 < n) (h53 : n < 9007199254740992) (ha : a ≤ 2045) : ∃ r, rv r = n * 2 ^ a ∧ 0 < r ∧ r < 9218868437227405312 := by
  have hl : n.log2 ≤ 52 := by
    have := (Nat.log2_lt (show n ≠ 0 by omega)).2 (show n < 2 ^ 53 by omega)
    omega
  by_cases hs : 52 - n.log2 ≤ a
  · have h1 := log2_le_self (show n ≠ 0 by omega)
    have h2 := lt_log2_succ (show n ≠ 0 by omega)
    have hk1 : 4503599627370496 ≤ n * 2 ^ (52 - n.log2) := by
      have : 2 ^ n.log2 * 2 ^ (52 - n.log2) ≤ n * 2 ^ (52 - n.log2) := Nat.mul_le_mul_right _ h1
      rw [← Nat.pow_add, show n.log2 + (52 - n.log2) = 52 by omega] at this
      omega
    have hk2 : n * 2 ^ (52 - n.log2) < 9007199254740992 := by
      have : n * 2 ^ (52 - n.log2) < 2 ^ (n.log2 + 1) * 2 ^ (52 - n.log2) := Nat.mul_lt_mul_of_pos_right h2 (Nat.two_pow_pos _)
      rw [← Nat.pow_add, show n.log2 + 1 + (52 - n.log2) = 53 by omega] at this
      omega
    refine ⟨(a - (52 - n.log2)) * 4503599627370496 + n * 2 ^ (52 - n.log2), ?_, by omega, ?_⟩
    · rw [rv_of _ _ hk2 (.inr hk1), Nat.mul_assoc, ← Nat.pow_add, show 52 - n.log2 + (a - (52 - n.log2)) = a by omega]
    · have : a - (52 - n.log2) ≤ 2045 := by omega
      omega
  · refine ⟨n * 2 ^ a, ?_, Nat.mul_pos hn (Nat.two_pow_pos a), ?_⟩
    · have h2 := lt_log2_succ (show n ≠ 0 by omega)
      have hk2 : n * 2 ^ a < 9007199254740992 := by
        have h3 : n * 2 ^ a < 2 ^ (n.log2 + 1) * 2 ^ a := Nat.mul_lt_mul_of_pos_right h2 (Nat.two_pow_pos _)
        rw [← Nat.pow_add] at h3
        have : 2 ^ (n.log2 + 1 + a) ≤ 2 ^ 53 := Nat.pow_le_pow_right (by omega) (by omega)
        omega
      have := rv_of 0 (n * 2 ^ a) hk2 (.inl rfl)
      simpa using this
    · have h2 := lt_log2_succ (show n ≠ 0 by omega)
      have h3 : n * 2 ^ a < 2 ^ (n.log2 + 1) * 2 ^ a := Nat.mul_lt_mul_of_pos_right h2 (Nat.two_pow_pos _)
      rw [← Nat.pow_add] at h3
      have : 2 ^ (n.log2 + 1 + a) ≤ 2 ^ 53 := Nat.pow_le_pow_right (by omega) (by omega)
      omega

/-! Floors. -/
theorem cut_down (neg : Bool) (n d : Nat) : Ieee.Toward.down.cut neg n d = n / 2 ^ d + (if neg = true ∧ n % 2 ^ d ≠ 0 then 1 else 0) := by
  unfold Ieee.Toward.cut
  rw [Nat.one_shiftLeft]
  simp only []
  by_cases h0 : n = 0
  · subst h0; simp
  · have hlt := lt_log2_succ h0
    by_cases hd : d ≤ n.log2 + 2
    · rw [Nat.min_eq_left hd]
      cases neg
      · simp
      · by_cases hr : n % 2 ^ d = 0 <;> simp [hr]
    · rw [Nat.min_eq_right (by omega)]
      have h1 : n < 2 ^ (n.log2 + 2) := Nat.lt_trans hlt (Nat.pow_lt_pow_right (by omega) (by omega))
      have h2 : n < 2 ^ d := Nat.lt_trans h1 (Nat.pow_lt_pow_right (by omega) (by omega))
      rw [Nat.div_eq_of_lt h1, Nat.div_eq_of_lt h2, Nat.mod_eq_of_lt h1, Nat.mod_eq_of_lt h2]
      cases neg <;> simp [h0]
theorem cut_toward (neg : Bool) (n d : Nat) : Ieee.Toward.zero.cut neg n d = n / 2 ^ d := by
  unfold Ieee.Toward.cut
  rw [Nat.one_shiftLeft]
  simp only []
  by_cases h0 : n = 0
  · subst h0; simp
  · have hlt := lt_log2_succ h0
    by_cases hd : d ≤ n.log2 + 2
    · rw [Nat.min_eq_left hd]; simp
    · rw [Nat.min_eq_right (by omega)]
      have h1 : n < 2 ^ (n.log2 + 2) := Nat.lt_trans hlt (Nat.pow_lt_pow_right (by omega) (by omega))
      have h2 : n < 2 ^ d := Nat.lt_trans h1 (Nat.pow_lt_pow_right (by omega) (by omega))
      rw [Nat.div_eq_of_lt h1, Nat.div_eq_of_lt h2]; simp

/-- One, in units of the least place. -/
def unit : Nat := 2 ^ 1074
theorem unit_eq (j : Nat) (h : j ≤ 1074) : unit = 2 ^ (1074 - j) * 2 ^ j := by
  unfold unit
  rw [← Nat.pow_add]
  congr 1
  omega
/-- The float of a whole number of at most 53 digits. -/
def wi (n : Nat) : Nat := F64.nearest false n 0
theorem wi_rung (n : Nat) (h53 : n < 9007199254740992) : rv (wi n) = n * unit ∧ wi n < 9218868437227405312 := by
  by_cases h0 : n = 0
  · subst h0
    unfold wi
    rw [nearest_zero, word_eq, if_neg (by decide), rv_zero, Nat.zero_mul]
    exact ⟨rfl, by decide⟩
  · have hl : n.log2 ≤ 52 := by
      have := (Nat.log2_lt h0).2 (show n < 2 ^ 53 by omega)
      omega
    obtain ⟨j, hj⟩ : ∃ j, j = 1074 := ⟨_, rfl⟩
    have hu : unit = 2 ^ j := by rw [hj]; rfl
    obtain ⟨r, h1, h2, h3⟩ := rung_of n j (by omega) h53 (by omega)
    have : wi n = r := by
      unfold wi
      rw [nearest_val false n 0 r (by omega) (.inl ⟨j, by omega, h1.symm⟩), word_eq, if_neg (by decide)]
    rw [this, hu]
    exact ⟨h1, h3⟩

/-- The fraction of a significand S, between a half and one, doubled k times. -/
def mw (S k : Nat) : Nat := (1021 + k) * 4503599627370496 + S
theorem mw_sig (S k : Nat) (h1 : 4503599627370496 ≤ S) (h2 : S < 9007199254740992) : sigR (mw S k) = S ∧ expR (mw S k) = 1021 + k := sig_exp_of _ _ h2 (.inr h1)
theorem mw_lt (S k : Nat) (h2 : S < 9007199254740992) (hk : k ≤ 53) : mw S k < 9218868437227405312 := by unfold mw; omega
theorem read_mw (S k : Nat) (h1 : 4503599627370496 ≤ S) (h2 : S < 9007199254740992) (hk : k ≤ 53) : F64.read (mw S k) = .number false S ((k : Int) - 53) := by
  have hl := mw_lt S k h2 hk
  rw [read_num _ (by omega), show mw S k % 9223372036854775808 = mw S k by omega, show mw S k / 9223372036854775808 = 0 by omega, (mw_sig S k h1 h2).1, (mw_sig S k h1 h2).2]
  congr 1
  omega

theorem two_eq : (4611686018427387904 : Nat) = 1023 * 4503599627370496 + 4503599627370496 := by omega
theorem mul_two (S k : Nat) (h1 : 4503599627370496 ≤ S) (h2 : S < 9007199254740992) (hk : k ≤ 52) : F64.mul (mw S k) 4611686018427387904 = some (mw S (k + 1)) := by
  unfold Ieee.Format.mul
  have e : F64.read 4611686018427387904 = .number false 4503599627370496 (-51) := by decide +kernel
  rw [read_mw S k h1 h2 (by omega), e]
  simp only [Ieee.Datum.product, Option.map_some, Ieee.Format.write]
  congr 1
  have := nearest_kept (false ^^ false) (S * 4503599627370496) ((k : Int) - 53 + -51) (1021 + (k + 1)) S (by omega) h2 (.inr h1) (by omega) (.inr ⟨52, by rw [show (2 : Nat) ^ 52 = 4503599627370496 by decide], by omega⟩)
  rw [this, word_eq, if_neg (by decide)]
  rfl

/-- Floor of the k-th doubling. -/
theorem floor_mw (S k : Nat) (h1 : 4503599627370496 ≤ S) (h2 : S < 9007199254740992) (hk : k ≤ 53) : F64.write ((F64.read (mw S k)).integral .down) = wi (S / 2 ^ (53 - k)) := by
  rw [read_mw S k h1 h2 hk]
  simp only [Ieee.Datum.integral, Ieee.Format.write]
  rw [show ((k : Int) - 53).toNat = 0 by omega, show (-((k : Int) - 53)).toNat = 53 - k by omega, cut_down, Nat.shiftLeft_zero]
  simp [wi]
theorem toInt_mw (S k : Nat) (h1 : 4503599627370496 ≤ S) (h2 : S < 9007199254740992) (hk : k ≤ 53) : (F64.read (mw S k)).toInt .zero = some ((S / 2 ^ (53 - k) : Nat) : Int) := by
  rw [read_mw S k h1 h2 hk]
  simp only [Ieee.Datum.toInt, Ieee.Datum.integral]
  rw [show ((k : Int) - 53).toNat = 0 by omega, show (-((k : Int) - 53)).toNat = 53 - k by omega, cut_toward, Nat.shiftLeft_zero, signed_eq]
  simp
/-- Is it whole? -/
theorem whole_mw (S k : Nat) (h1 : 4503599627370496 ≤ S) (h2 : S < 9007199254740992) (hk : k ≤ 53) : mw S k = wi (S / 2 ^ (53 - k)) ↔ S % 2 ^ (53 - k) = 0 := by
  have hq : S / 2 ^ (53 - k) < 9007199254740992 := Nat.lt_of_le_of_lt (Nat.div_le_self _ _) h2
  have hv := (wi_rung _ hq).1
  have hm : rv (mw S k) = S * 2 ^ (1021 + k) := rv_of _ _ h2 (.inr h1)
  have hpw := Nat.two_pow_pos (1021 + k)
  have hd := Nat.div_add_mod S (2 ^ (53 - k))
  have hu : unit = 2 ^ (53 - k) * 2 ^ (1021 + k) := by
    have := unit_eq (1021 + k) (by omega)
    rwa [show 1074 - (1021 + k) = 53 - k by omega] at this
  have e : S / 2 ^ (53 - k) * unit = (2 ^ (53 - k) * (S / 2 ^ (53 - k))) * 2 ^ (1021 + k) := by
    rw [hu, ← Nat.mul_assoc, Nat.mul_comm (2 ^ (53 - k))]
  rw [e] at hv
  clear e hu hq
  constructor
  · intro h
    rw [h, hv] at hm
    have := Nat.eq_of_mul_eq_mul_right hpw hm
    omega
  · intro h
    apply rv_inj
    rw [hm, hv]
    congr 1
    omega
end Go.Proofs.YtnbpioinhjijcaaDoor
