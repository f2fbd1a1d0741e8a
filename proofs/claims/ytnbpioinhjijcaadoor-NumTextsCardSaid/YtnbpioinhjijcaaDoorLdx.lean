import Derived.Test.YtnbpioinhjijcaaDoorFr2
import Derived.Deep.LoopGhost
/-! Ldexp. -/
namespace Go.Proofs.YtnbpioinhjijcaaDoor
open Go.RowKit

def knB (n : Nat) : Nat := n * 2 ^ (52 - n.log2)
theorem kn_bounds (n : Nat) (h0 : 0 < n) (h : n < 9007199254740992) : 4503599627370496 ≤ knB n ∧ knB n < 9007199254740992 ∧ n.log2 ≤ 52 := by
  have h1 := log2_le_self (show n ≠ 0 by omega)
  have h2 := lt_log2_succ (show n ≠ 0 by omega)
  have hl : n.log2 ≤ 52 := by
    have := (Nat.log2_lt (show n ≠ 0 by omega)).2 (show n < 2 ^ 53 by omega)
    omega
  unfold knB
  refine ⟨?_, ?_, hl⟩
  · have : 2 ^ n.log2 * 2 ^ (52 - n.log2) ≤ n * 2 ^ (52 - n.log2) := Nat.mul_le_mul_right _ h1
    rw [← Nat.pow_add, show n.log2 + (52 - n.log2) = 52 by omega] at this
    omega
  · have : n * 2 ^ (52 - n.log2) < 2 ^ (n.log2 + 1) * 2 ^ (52 - n.log2) := Nat.mul_lt_mul_of_pos_right h2 (Nat.two_pow_pos _)
    rw [← Nat.pow_add, show n.log2 + 1 + (52 - n.log2) = 53 by omega] at this
    omega
theorem wi_eq (n : Nat) (h0 : 0 < n) (h : n < 9007199254740992) : wi n = (1022 + n.log2) * 4503599627370496 + knB n := by
  obtain ⟨a, b, c⟩ := kn_bounds n h0 h
  unfold wi
  rw [nearest_kept false n 0 (1022 + n.log2) (knB n) (by omega) b (.inr a) (by omega) (.inl ⟨52 - n.log2, rfl, by omega⟩), word_eq, if_neg (by decide)]

/-- The word with the significand and another exponent. -/
def xw (e : Nat) (kn : Nat) : Nat := e * 4503599627370496 + (kn - 4503599627370496)
theorem read_xw (e kn : Nat) (h0 : 1 ≤ e) (h1 : e ≤ 2046) (a : 4503599627370496 ≤ kn) (b : kn < 9007199254740992) : F64.read (xw e kn) = .number false kn ((e : Int) - 1075) := by
  have hx : xw e kn = (e - 1) * 4503599627370496 + kn := by unfold xw; omega
  have hlt : xw e kn < 9218868437227405312 := by unfold xw; omega
  have hs := sig_exp_of (e - 1) kn b (.inr a)
  rw [← hx] at hs
  rw [read_num _ (by omega), show xw e kn % 9223372036854775808 = xw e kn by omega, show xw e kn / 9223372036854775808 = 0 by omega, hs.1, hs.2, show ((e - 1 : Nat) : Int) - 1074 = (e : Int) - 1075 by omega, show ((0 : Nat) % 2 == 1) = false by decide]
theorem mul_one (e kn : Nat) (h0 : 1 ≤ e) (h1 : e ≤ 2046) (a : 4503599627370496 ≤ kn) (b : kn < 9007199254740992) : F64.mul 4607182418800017408 (xw e kn) = some (xw e kn) := by
  unfold Ieee.Format.mul
  have e2 : F64.read 4607182418800017408 = .number false 4503599627370496 (-52) := by decide +kernel
  rw [e2, read_xw e kn h0 h1 a b]
  simp only [Ieee.Datum.product, Option.map_some, Ieee.Format.write]
  refine congrArg some ?_
  have := nearest_kept (false ^^ false) (4503599627370496 * kn) (-52 + ((e : Int) - 1075)) (e - 1) kn (by omega) b (.inr a) (by omega) (.inr ⟨52, by rw [Nat.mul_comm, show (2 : Nat) ^ 52 = 4503599627370496 by decide], by omega⟩)
  rw [this, word_eq, if_neg (by decide)]
  unfold xw; omega
theorem mul_small (e kn : Nat) (h0 : 1 ≤ e) (h1 : e ≤ 2046) (a : 4503599627370496 ≤ kn) (b : kn < 9007199254740992) : ∃ y, F64.mul 4368491638549381120 (xw e kn) = some y ∧ y < 18446744073709551616 ∧ ∀ r j, r ≤ 9218868437227405312 → (e : Int) - 1180 = -1074 - (j : Nat) → 4503599627370496 * kn = rv r * 2 ^ j → y = r := by
  have e2 : F64.read 4368491638549381120 = .number false 4503599627370496 (-105) := by decide +kernel
  have hm : F64.mul 4368491638549381120 (xw e kn) = some (F64.nearest (false ^^ false) (4503599627370496 * kn) (-105 + ((e : Int) - 1075))) := by
    unfold Ieee.Format.mul
    rw [e2, read_xw e kn h0 h1 a b]
    simp only [Ieee.Datum.product, Option.map_some, Ieee.Format.write]
  refine ⟨_, hm, ?_, fun r j hr hp hv => ?_⟩
  · exact F64.mul_lt hm
  · rw [nearest_val _ _ _ r hr (.inr ⟨j, by omega, hv⟩), word_eq, if_neg (by decide)]

theorem andNot_expo' (n : Nat) (h : n < 9223372036854775808) : bits .andNot .u64 (n : Int) 9218868437227405312 = ((n % 4503599627370496 : Nat) : Int) := andNot_expo n h

theorem i64_and2047 (n : Int) : bits .and .i64 n 2047 = n % 2048 := by
  have h127 : (BitVec.ofInt 64 2047).toNat = 2 ^ 11 - 1 := by decide
  have key : (BitVec.ofInt 64 n &&& BitVec.ofInt 64 2047).toNat = (n % ((2 ^ 64 : Nat) : Int)).toNat % 2 ^ 11 := by
    rw [BitVec.toNat_and, BitVec.toNat_ofInt, h127, Nat.and_two_pow_sub_one_eq_mod]
  show IntKind.i64.wrap ((BitVec.ofInt 64 n &&& BitVec.ofInt 64 2047).toNat : Nat) = n % 2048
  rw [key, IntKind.wrap_i64]
  omega
theorem and_sign (b : Nat) (h : b < 18446744073709551616) : bits .and .u64 (b : Int) 9223372036854775808 = (((if signB b then 9223372036854775808 else 0) : Nat) : Int) := by
  rw [show (9223372036854775808 : Int) = ((9223372036854775808 : Nat) : Int) from rfl, u64_and_nat _ _ h (by decide)]
  congr 1
  have h1 := Nat.and_two_pow_sub_one_eq_mod b 63
  have e : b &&& 9223372036854775808 = b - b % 9223372036854775808 := by
    have h2 : b = (b - b % 9223372036854775808) ||| (b % 9223372036854775808) := by
      rw [nat_join 63 _ _ (by omega) (by omega)]; omega
    have h3 : (b % 9223372036854775808) &&& 9223372036854775808 = 0 := by
      apply Nat.eq_of_testBit_eq
      intro i
      rw [Nat.testBit_and, show (9223372036854775808 : Nat) = 2 ^ 63 by decide, Nat.testBit_two_pow]
      by_cases hi : 63 = i
      · subst hi
        rw [Nat.testBit_lt_two_pow (Nat.mod_lt _ (Nat.two_pow_pos 63))]
        simp
      · simp [hi]
    conv => lhs; rw [h2]
    rw [Nat.and_or_distrib_right, h3, Nat.or_zero]
    by_cases hs : 9223372036854775808 ≤ b
    · rw [show b - b % 9223372036854775808 = 9223372036854775808 by omega, Nat.and_self]
    · rw [show b - b % 9223372036854775808 = 0 by omega, Nat.zero_and]
  rw [e]
  by_cases hs : 9223372036854775808 ≤ b
  · rw [if_pos ((signB_iff b).2 hs)]; omega
  · rw [if_neg (fun x => hs ((signB_iff b).1 x))]; omega
def csB (f s : Nat) : Nat := f % 9223372036854775808 + (if signB s then 9223372036854775808 else 0)
theorem copysign_bits (f s : Nat) (hf : f < 18446744073709551616) (hs : s < 18446744073709551616) : (bits .or .u64 (bits .andNot .u64 (f : Int) 9223372036854775808) (bits .and .u64 (s : Int) 9223372036854775808)).toNat = csB f s := by
  unfold csB
  rw [andNot_sign f hf, and_sign s hs, u64_or_nat _ _ (by omega) (by split <;> omega)]
  rw [Int.toNat_natCast, Nat.or_comm, nat_join 63 _ _ (by split <;> decide) (Nat.mod_lt _ (Nat.two_pow_pos 63)), Nat.add_comm]
theorem copysign_any (f s : Nat) (hf : f < 18446744073709551616) (hs : s < 18446744073709551616) (w : World) : Calls Tryd.prog 55 #[.float .f64 f, .float .f64 s] w fun e w' => e = .returned (.float .f64 (csB f s)) ∧ w = w' := by
  have hx := run_f64bits f
  have hy := run_f64bits s
  have hz := run_f64from
  have HC := Lib.hid (copysign_bits f s hf hs)
  clear hf hs
  go_enter Tryd.func55, Tryd.ntmps55
  go_wp2
  go_ret
  exact ⟨by rw [← HC.out]; rfl, rfl⟩
theorem inf_pos (w : World) : Calls Tryd.prog 33 #[.int .i64 1] w fun e w' => e = .returned (.float .f64 9218868437227405312) ∧ w = w' := by
  have hz := run_f64from
  go_enter Tryd.func33, Tryd.ntmps33
  go_wp2
  go_ret
  exact ⟨rfl, rfl⟩

/-- A number's parts, by those of a whole number times a power. -/
theorem parts_of (n q a : Nat) (h0 : 0 < n) (h : n < 9007199254740992) (q0 : 0 < q) (q1 : q < 9218868437227405312) (hv : rv q = n * 2 ^ a) :
    (4503599627370496 ≤ q ∧ expR q + 52 = a + n.log2 ∧ sigR q = knB n) ∨ (q < 4503599627370496 ∧ q = n * 2 ^ a ∧ a + n.log2 ≤ 51) := by
  obtain ⟨ha, hb, hl⟩ := kn_bounds n h0 h
  have e1 := log2_mul_pow (show sigR q ≠ 0 by have := sigR_pos q0; omega) (expR q)
  have e2 := log2_mul_pow (show n ≠ 0 by omega) a
  have e3 : sigR q * 2 ^ expR q = n * 2 ^ a := hv
  rw [e3, e2] at e1
  by_cases hq : q < 4503599627370496
  · right
    have hs : sigR q = q ∧ expR q = 0 := by unfold sigR expR; rw [if_pos hq]; omega
    rw [hs.1, hs.2, Nat.pow_zero, Nat.mul_one] at e3
    rw [hs.1, hs.2] at e1
    have : q.log2 ≤ 51 := by
      have := (Nat.log2_lt (show q ≠ 0 by omega)).2 (show q < 2 ^ 52 by omega)
      omega
    exact ⟨hq, e3, by omega⟩
  · left
    have h52 : (sigR q).log2 = 52 := by
      have g1 := sigR_lt q
      have g2 : 4503599627370496 ≤ sigR q := by unfold sigR; rw [if_neg hq]; omega
      exact log2_of (by omega) (by omega)
    rw [h52] at e1
    refine ⟨by omega, by omega, ?_⟩
    have : n * 2 ^ a = knB n * 2 ^ expR q := by
      unfold knB
      rw [Nat.mul_assoc, ← Nat.pow_add]
      congr 2
      omega
    rw [this] at e3
    exact Nat.eq_of_mul_eq_mul_right (Nat.two_pow_pos _) e3

/-- The word that Ldexp builds. -/
theorem ld_bits (r L : Nat) (ex : Int) (hr : r < 9218868437227405312) (he0 : -1022 ≤ ex) (he1 : ex ≤ 1023) (kn : Nat) (hw : r = (1022 + L) * 4503599627370496 + kn) (ha : 4503599627370496 ≤ kn) (hb : kn < 9007199254740992) :
    (bits .or .u64 (bits .andNot .u64 (r : Int) 9218868437227405312) (IntKind.u64.wrap (IntKind.u64.wrap (wrap64 (ex + 1023)) * 4503599627370496))).toNat = xw (ex + 1023).toNat kn := by
  obtain ⟨e, he⟩ : ∃ e : Nat, ex + 1023 = e := ⟨(ex + 1023).toNat, by omega⟩
  rw [he, Int.toNat_natCast, andNot_expo r (by omega)]
  have h1 : IntKind.u64.wrap (IntKind.u64.wrap (wrap64 (e : Int)) * 4503599627370496) = ((e * 4503599627370496 : Nat) : Int) := by
    rw [IntKind.wrap_u64, IntKind.wrap_u64]; unfold wrap64; omega
  rw [h1, u64_or_nat _ _ (by omega) (by omega), Int.toNat_natCast, Nat.or_comm, nat_join 52 _ _ (by rw [show (2 : Nat) ^ 52 = 4503599627370496 by decide]; exact Nat.mul_mod_left _ _) (by omega)]
  unfold xw
  omega

theorem small_eq (n a : Nat) (h : a + n.log2 ≤ 51) : 4503599627370496 * knB n = n * 2 ^ a * 2 ^ (104 - (a + n.log2)) := by
  unfold knB
  have e : (4503599627370496 : Nat) = 2 ^ 52 := by decide
  rw [e, Nat.mul_left_comm, ← Nat.pow_add, Nat.mul_assoc, ← Nat.pow_add, show 52 + (52 - n.log2) = a + (104 - (a + n.log2)) by omega]

def LdexpIs (n : Nat) (k : Int) (y : Nat) : Prop := y < 18446744073709551616 ∧ ∀ q a : Nat, 0 < q → q < 9218868437227405312 → k = (a : Int) - 1074 → rv q = n * 2 ^ a → y = q
set_option maxRecDepth 100000 in
theorem ldexp_walk (n : Nat) (k : Int) (h0 : 0 < n) (h : n < 9007199254740992) (k0 : -2000 ≤ k) (k1 : k ≤ 2000) (w : World) :
    Calls Tryd.prog 63 #[.float .f64 (wi n), .int .i64 k] w fun e w' => w = w' ∧ ∃ y, LdexpIs n k y ∧ e = .returned (.float .f64 y) := by
  have hwe := wi_eq n h0 h
  obtain ⟨ha, hb, hl⟩ := kn_bounds n h0 h
  obtain ⟨L, hL⟩ : ∃ L, n.log2 = L := ⟨_, rfl⟩
  rw [hL] at hwe hl
  have hlt : wi n < 9218868437227405312 := by omega
  have hge : 4503599627370496 ≤ wi n := by omega
  have hdiv : wi n / 4503599627370496 = 1023 + L := by omega
  have ho : (FloatKind.f64.format.order (wi n) 0 == some .eq) = false := by
    rw [ord_eq (by omega) (by omega) (nan_pos (by omega)) (nan_pos (by omega)), sr_pos (by omega), sr_pos (by omega), decide_eq_false_iff_not]; omega
  have HI := Lib.hid (isInf_pos (wi n) hlt w)
  have HN := Lib.hid (isNaN_num (wi n) (nanB_pos hlt) w)
  have HZ := normalize_any (wi n) (by omega) hlt w
  rw [show normR (wi n) = wi n from if_neg (by omega), show normE (wi n) = 0 from if_neg (by omega)] at HZ
  have HZ' := Lib.hid HZ
  have hx := run_f64bits (wi n)
  have hy := run_f64from
  have HWE := Lib.hid hwe
  have HDV := Lib.hid hdiv
  have HHL := Lib.hid hL
  clear HZ hwe hdiv hL
  generalize wi n = r at *
  obtain ⟨ex, hex⟩ : ∃ ex, wrap64 (wrap64 k + wrap64 (bits .and .i64 ((r : Int) / 4503599627370496) 2047 - 1023)) = ex := ⟨_, rfl⟩
  have hexv : ex = k + L := by
    have hq := HDV.out
    rw [← hex, show ((r : Int) / 4503599627370496) = ((1023 + L : Nat) : Int) by omega, i64_and2047]
    unfold wrap64
    omega
  have hltz : (FloatKind.f64.format.order r 0 == some .lt) = false := by
    rw [ord_lt (by omega) (by omega) (nan_pos (by omega)) (nan_pos (by omega)), sr_pos (by omega), sr_pos (by omega), decide_eq_false_iff_not]; omega
  have HEX := Lib.hid hexv
  have HK := Lib.hid (And.intro k0 k1)
  clear hexv k0 k1
  by_cases c1 : ex < -1075
  · have HC := Lib.hid (copysign_any 0 r (by omega) (by omega) w)
    rw [show csB 0 r = 0 by unfold csB; rw [if_neg (fun x => by have := (signB_iff r).1 x; omega)]] at HC
    go_enter Tryd.func63, Tryd.ntmps63
    go_wp2_with fail
    refine HI.out.mono ?_
    rintro e w1 ⟨rfl, rfl⟩
    go_wp2_with fail
    refine HN.out.mono ?_
    rintro e w1 ⟨rfl, rfl⟩
    go_wp2_with fail
    refine HZ'.out.mono ?_
    rintro e w1 ⟨rfl, rfl⟩
    go_wp2_with fail
    refine HC.out.mono ?_
    rintro e w1 ⟨rfl, rfl⟩
    go_wp2_with fail
    go_ret
    refine ⟨rfl, 0, ⟨by omega, fun q a q0 q1 hk hv => ?_⟩, rfl⟩
    have h1 := HEX.out
    omega
  · have c1' : decide (ex < -1075) = false := by simpa using c1
    by_cases c2 : 1023 < ex
    · go_enter Tryd.func63, Tryd.ntmps63
      go_wp2_with fail
      refine HI.out.mono ?_
      rintro e w1 ⟨rfl, rfl⟩
      go_wp2_with fail
      refine HN.out.mono ?_
      rintro e w1 ⟨rfl, rfl⟩
      go_wp2_with fail
      refine HZ'.out.mono ?_
      rintro e w1 ⟨rfl, rfl⟩
      go_wp2_with fail
      refine (inf_pos w).mono ?_
      rintro e w1 ⟨rfl, rfl⟩
      go_wp2_with fail
      go_ret
      refine ⟨rfl, 9218868437227405312, ⟨by omega, fun q a q0 q1 hk hv => ?_⟩, rfl⟩
      have h1 := HEX.out
      have h2 := HHL.out
      rcases parts_of n q a h0 h q0 q1 hv with ⟨g1, g2, g3⟩ | ⟨g1, g2, g3⟩
      · have : expR q ≤ 2045 := by unfold expR; omega
        omega
      · omega
    · have c2' : decide (1023 < ex) = false := by simpa using c2
      by_cases c3 : ex < -1022
      · have hw53 : wrap64 (ex + 53) = ex + 53 := by unfold wrap64; omega
        obtain ⟨X, hX⟩ : ∃ X, xw (ex + 53 + 1023).toNat (knB n) = X := ⟨_, rfl⟩
        have hbx := ld_bits r L (ex + 53) hlt (by omega) (by omega) (knB n) HWE.out ha hb
        obtain ⟨y, hm1, hm2, hm3⟩ := mul_small (ex + 53 + 1023).toNat (knB n) (by omega) (by omega) ha hb
        rw [hX] at hbx hm1
        have hm : ∀ t w, (binOp .mul t (.float .f64 4368491638549381120) (.float .f64 X)).run Tryd.prog w = .ok (.float .f64 y) w := fun t w => run_float_arith w .mul t .f64 _ _ _ hm1
        have HY := Lib.hid (show LdexpIs n k y from ⟨hm2, fun q a q0 q1 hk hv => by
          have h1 := HEX.out
          have h2 := HHL.out
          rcases parts_of n q a h0 h q0 q1 hv with ⟨g1, g2, g3⟩ | ⟨g1, g2, g3⟩
          · omega
          · refine hm3 q (104 - (a + L)) (by omega) (by omega) ?_
            rw [hv, ← h2]
            exact small_eq n a g3⟩)
        clear hX hm1 hm2 hm3 c1 c2
        go_enter Tryd.func63, Tryd.ntmps63
        go_wp2_with fail
        refine HI.out.mono ?_
        rintro e w1 ⟨rfl, rfl⟩
        go_wp2_with fail
        refine HN.out.mono ?_
        rintro e w1 ⟨rfl, rfl⟩
        go_wp2_with fail
        refine HZ'.out.mono ?_
        rintro e w1 ⟨rfl, rfl⟩
        go_wp2_with fail
        go_ret
        exact ⟨rfl, y, HY.out, rfl⟩
      · have c3' : decide (ex < -1022) = false := by simpa using c3
        obtain ⟨X, hX⟩ : ∃ X, xw (ex + 1023).toNat (knB n) = X := ⟨_, rfl⟩
        have hbx := ld_bits r L ex hlt (by omega) (by omega) (knB n) HWE.out ha hb
        have hm1 := mul_one (ex + 1023).toNat (knB n) (by omega) (by omega) ha hb
        rw [hX] at hbx hm1
        have hm : ∀ t w, (binOp .mul t (.float .f64 4607182418800017408) (.float .f64 X)).run Tryd.prog w = .ok (.float .f64 X) w := fun t w => run_float_arith w .mul t .f64 _ _ _ hm1
        have HY := Lib.hid (show LdexpIs n k X from ⟨by rw [← hX]; unfold xw; omega, fun q a q0 q1 hk hv => by
          have h1 := HEX.out
          have h2 := HHL.out
          rcases parts_of n q a h0 h q0 q1 hv with ⟨g1, g2, g3⟩ | ⟨g1, g2, g3⟩
          · have := rung_eq q
            rw [← hX]
            unfold xw
            rw [show (ex + 1023).toNat = expR q + 1 by omega]
            omega
          · omega⟩)
        clear hX hm1
        clear c1 c2 c3
        go_enter Tryd.func63, Tryd.ntmps63
        go_wp2_with fail
        refine HI.out.mono ?_
        rintro e w1 ⟨rfl, rfl⟩
        go_wp2_with fail
        refine HN.out.mono ?_
        rintro e w1 ⟨rfl, rfl⟩
        go_wp2_with fail
        refine HZ'.out.mono ?_
        rintro e w1 ⟨rfl, rfl⟩
        go_wp2_with fail
        go_ret
        exact ⟨rfl, X, HY.out, rfl⟩
end Go.Proofs.YtnbpioinhjijcaaDoor
