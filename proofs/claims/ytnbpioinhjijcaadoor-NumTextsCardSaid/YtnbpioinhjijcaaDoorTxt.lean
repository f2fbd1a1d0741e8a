import Derived.Test.YtnbpioinhjijcaaDoorFr2
import Derived.Deep.LoopGhost
import Derived.Deep.RegionHeld3
/-! num.Text. -/
namespace Go.Proofs.YtnbpioinhjijcaaDoor
open Go.RowKit

theorem str_add (x y z : List UInt8) (hz : x ++ y = z) (h : z.length ≤ 9223372036854775807) : (Op.stringOp .add ⟨x.toArray⟩ ⟨y.toArray⟩ : Sem Value) = pure (.string ⟨z.toArray⟩) := by
  subst hz
  unfold Op.stringOp
  have e : ((⟨x.toArray⟩ : ByteArray).size + (⟨y.toArray⟩ : ByteArray).size : Nat) = (x ++ y).length := by rw [List.length_append]; rfl
  simp only [e]
  rw [if_neg]
  · congr 2
  · have : IntKind.i64.max = 9223372036854775807 := rfl
    rw [this]; omega
theorem half_odd {n j : Nat} (h1 : n % 2 ^ j = 0) (h2 : n % 2 ^ (j + 1) ≠ 0) : n / 2 ^ j % 2 = 1 := by
  obtain ⟨q, hq⟩ := Nat.dvd_of_mod_eq_zero h1
  rw [hq, Nat.mul_div_cancel_left _ (Nat.two_pow_pos j)]
  rcases Nat.mod_two_eq_zero_or_one q with e | e
  · exfalso
    apply h2
    obtain ⟨p, hp⟩ := Nat.dvd_of_mod_eq_zero e
    rw [hq, hp, Nat.pow_succ, ← Nat.mul_assoc, Nat.mul_mod_right]
  · exact e
theorem nDigits_le (u : Nat) (h : u < 18446744073709551616) : (Lib.decDigits u).length ≤ 20 := by
  rw [Lib.decDigits_length]
  by_cases h1 : 1 ≤ u
  · have := Lib.numDigits_eq u h1 h; split at this <;> omega
  · obtain rfl : u = 0 := by omega
    rw [Lib.nDigits_small (by omega)]; omega
theorem itoa_le (n : Int) (h0 : -9223372036854775808 ≤ n) (h1 : n ≤ 9223372036854775807) : (Lib.itoa n).length ≤ 21 := by
  unfold Lib.itoa
  split
  · have := nDigits_le n.natAbs (by omega); simp; omega
  · have := nDigits_le n.toNat (by omega); omega

theorem toInt_gen (b : Nat) (n : Int) (k : IntKind) (h : (FloatKind.f64.decode b).toInt .zero = some n) (h0 : k.min ≤ n) (h1 : n ≤ k.max) : floatToIntVal .f64 b k = some n := by
  unfold floatToIntVal
  rw [h]
  exact if_pos ⟨h0, h1⟩
theorem toInt_val (S k : Nat) (h1 : 4503599627370496 ≤ S) (h2 : S < 9007199254740992) (hk : k ≤ 53) : floatToIntVal .f64 (mw S k) .u64 = some ((S / 2 ^ (53 - k) : Nat) : Int) := by
  have hti := toInt_mw S k h1 h2 hk
  have hq : S / 2 ^ (53 - k) < 9007199254740992 := Nat.lt_of_le_of_lt (Nat.div_le_self _ _) h2
  generalize S / 2 ^ (53 - k) = q at *
  exact toInt_gen _ _ _ hti (by rw [show IntKind.u64.min = 0 from rfl]; omega) (by rw [u64max]; omega)
theorem conv_mw (S k : Nat) (h1 : 4503599627370496 ≤ S) (h2 : S < 9007199254740992) (hk : k ≤ 53) (w' : World) : (convert 24 22 (.float .f64 (mw S k))).run Tryd.prog w' = .ok (.int .u64 ((S / 2 ^ (53 - k) : Nat) : Int)) w' :=
  run_convert_float_int w' 24 22 .f64 .u64 _ _ (by rw [Tryd.underlying24]; rfl) Tryd.underlying22 (toInt_val S k h1 h2 hk)
theorem exit_tz (S k : Nat) (h1 : 4503599627370496 ≤ S) (h2 : S < 9007199254740992) (hk : k ≤ 53) (hz : S % 2 ^ (53 - k) = 0) (hj : ∀ j, j < k → S % 2 ^ (53 - j) ≠ 0) : tz S = 53 - k := by
  have hk0 : 0 < k := by
    rcases Nat.eq_zero_or_pos k with e | e
    · subst e
      rw [Nat.mod_eq_of_lt (by omega)] at hz
      omega
    · exact e
  have h3 := hj (k - 1) (by omega)
  rw [show 53 - (k - 1) = 53 - k + 1 by omega] at h3
  exact tz_eq (by omega) hz (half_odd hz h3)
theorem test_no (S k : Nat) (h1 : 4503599627370496 ≤ S) (h2 : S < 9007199254740992) (hk : k ≤ 53) (hz : S % 2 ^ (53 - k) = 0) : (FloatKind.f64.format.order (mw S k) (wi (S / 2 ^ (53 - k))) != some .eq) = false := by
  have hq : S / 2 ^ (53 - k) < 9007199254740992 := Nat.lt_of_le_of_lt (Nat.div_le_self _ _) h2
  have hwl := (wi_rung _ hq).2
  have hml := mw_lt S k h2 hk
  have hw := (whole_mw S k h1 h2 hk).2 hz
  rw [ord_ne (by omega) (by omega) (nan_pos (by omega)) (nan_pos (by omega)), sr_pos (by omega), sr_pos (by omega), ← hw]
  simp
theorem test_yes (S k : Nat) (h1 : 4503599627370496 ≤ S) (h2 : S < 9007199254740992) (hk : k ≤ 53) (hz : ¬ S % 2 ^ (53 - k) = 0) : (FloatKind.f64.format.order (mw S k) (wi (S / 2 ^ (53 - k))) != some .eq) = true := by
  have hq : S / 2 ^ (53 - k) < 9007199254740992 := Nat.lt_of_le_of_lt (Nat.div_le_self _ _) h2
  have hwl := (wi_rung _ hq).2
  have hml := mw_lt S k h2 hk
  have hw : mw S k ≠ wi (S / 2 ^ (53 - k)) := fun e => hz ((whole_mw S k h1 h2 hk).1 e)
  rw [ord_ne (by omega) (by omega) (nan_pos (by omega)) (nan_pos (by omega)), sr_pos (by omega), sr_pos (by omega)]
  generalize wi (S / 2 ^ (53 - k)) = q at *
  generalize mw S k = p at *
  simp; omega
theorem floor_at (S k : Nat) (h1 : 4503599627370496 ≤ S) (h2 : S < 9007199254740992) (hk : k ≤ 53) (w : World) : Calls Tryd.prog 47 #[.float .f64 (mw S k)] w fun e w' => e = .returned (.float .f64 (wi (S / 2 ^ (53 - k)))) ∧ w = w' := by
  have h := floor_any (mw S k) (nan_pos (by have := mw_lt S k h2 hk; omega)) w
  rwa [show floorB (mw S k) = wi (S / 2 ^ (53 - k)) from floor_mw S k h1 h2 hk] at h

set_option maxRecDepth 100000 in
set_option maxHeartbeats 4000000 in
theorem text_num (b r : Nat) (s : Bool) (hr : b % 9223372036854775808 = r) (hs : signB b = s) (hb : b < 18446744073709551616) (h0 : 0 < r) (h1 : r < 9218868437227405312) (w : World) (hv : Vars w) :
    Calls Tryd.prog 23 #[.float .f64 b] w fun e w' => e = .returned (.string ⟨((if s then [45] else []) ++ (Lib.decDigits (magB r) ++ [112] ++ Lib.itoa (exB r))).toArray⟩) ∧ Below w.heap.size w w' := by
  have hnan : nanB b = false := (nanB_false b).2 (by omega)
  have ho := order_num hnan
  have HSB := Lib.hid (signbit_any b hb w)
  rw [hs] at HSB
  have HI := Lib.hid (isInf_any b hb (by unfold nan; omega) w)
  rw [hr, show decide (r = 9218868437227405312) = false by rw [decide_eq_false_iff_not]; omega] at HI
  have hz : (FloatKind.f64.format.order b 0 == some .eq) = false := by
    rw [ord_eq hb (by omega) (by unfold nan; omega) (nan_pos (by omega)), sr_pos (r := 0) (by omega), decide_eq_false_iff_not]
    unfold sr
    split <;> omega
  have HA := Lib.hid (abs_any b hb w)
  rw [hr] at HA
  have HF := Lib.hid (Frexp_any r h0 h1 w)
  have HSN := Lib.hid (SN_bounds r h0 h1)
  have HEN := Lib.hid (EN_bounds r h0 h1)
  have HV := Lib.hid hv
  have HM := Lib.hid (show magB r = SN r / 2 ^ tz (SN r) ∧ exB r = EN r - 53 + (tz (SN r) : Int) from ⟨rfl, rfl⟩)
  clear hnan hb h0 h1 hv hr hs
  generalize SN r = S at *
  generalize EN r = E at *
  cases s with
  | true =>
    go_enter Tryd.func23, Tryd.ntmps23
    go_wp2_with fail
    refine HSB.out.mono ?_
    rintro e w1 ⟨rfl, rfl⟩
    go_wp2_with fail
    refine HI.out.mono ?_
    rintro e w1 ⟨rfl, rfl⟩
    go_wp2_with fail
    refine HA.out.mono ?_
    rintro e w1 ⟨rfl, rfl⟩
    go_wp2_with fail
    refine HF.out.mono ?_
    rintro e w1 ⟨rfl, rfl⟩
    go_wp2_with fail
    clear ho hz HSB HI HA HF
    go_loopw [4, 5, 28, 29, 30, 31, 32, 33, 34, 35] (fun v4 v5 _ _ _ _ _ _ _ _ wr => ∃ k : Nat, k ≤ 53 ∧ v4 = .float .f64 (mw S k) ∧ v5 = .int .i64 (E - k) ∧ wr = w ∧ Hid (∀ j, j < k → S % 2 ^ (53 - j) ≠ 0)) (fun _ v5 _ _ _ _ _ _ _ _ _ => (intOf v5 - (E - 53)).toNat)
    case atStart => exact ⟨0, by omega, rfl, by simp, rfl, Lib.hid fun j hj => by omega⟩
    case round =>
      obtain ⟨k, hk, rfl, rfl, rfl, HK⟩ := hrel
      have HFL := Lib.hid (floor_at S k HSN.out.1 HSN.out.2 hk wr)
      by_cases hz : S % 2 ^ (53 - k) = 0
      · have ht := test_no S k HSN.out.1 HSN.out.2 hk hz
        have htz := exit_tz S k HSN.out.1 HSN.out.2 hk hz HK.out
        have HMG := Lib.hid (show magB r = S / 2 ^ (53 - k) ∧ exB r = E - k by
          rw [HM.out.1, HM.out.2, htz]; exact ⟨rfl, by omega⟩)
        have hq : S / 2 ^ (53 - k) < 9007199254740992 := Nat.lt_of_le_of_lt (Nat.div_le_self _ _) HSN.out.2
        have hcv := conv_mw S k HSN.out.1 HSN.out.2 hk
        have hen : E - (k : Int) = exB r := HMG.out.2.symm
        have hmg : S / 2 ^ (53 - k) = magB r := HMG.out.1.symm
        have HB2 := Lib.hid (show magB r < 18446744073709551616 by rw [← hmg]; omega)
        have HB3 := Lib.hid (show -9223372036854775808 ≤ exB r ∧ exB r ≤ 9223372036854775807 by have := HEN.out; omega)
        rw [hmg] at hcv HFL ht
        rw [hen]
        have l1 := nDigits_le _ HB2.out
        have l2 := itoa_le _ HB3.out.1 HB3.out.2
        generalize hmr : magB r = mg at *
        generalize hxr : exB r = ex at *
        have HMR := Lib.hid (And.intro hmr hxr)
        clear hmr hxr
        obtain ⟨z1, hz1⟩ : ∃ z, [45] ++ Lib.decDigits mg = z := ⟨_, rfl⟩
        obtain ⟨z2, hz2⟩ : ∃ z, z1 ++ [112] = z := ⟨_, rfl⟩
        obtain ⟨z3, hz3⟩ : ∃ z, z2 ++ Lib.itoa ex = z := ⟨_, rfl⟩
        have a1 := str_add [45] (Lib.decDigits mg) z1 hz1 (by rw [← hz1]; simp; omega)
        have a2 := str_add z1 [112] z2 hz2 (by rw [← hz2, ← hz1]; simp; omega)
        have a3 := str_add z2 (Lib.itoa ex) z3 hz3 (by rw [← hz3, ← hz2, ← hz1]; simp; omega)
        have HZ3 := Lib.hid (show [45] ++ (Lib.decDigits mg ++ [112] ++ Lib.itoa ex) = z3 by rw [← hz3, ← hz2, ← hz1]; simp)
        clear hz1 hz2 hz3
        have A1 := Lib.hid a1
        have A2 := Lib.hid a2
        have A3 := Lib.hid a3
        clear hz htz hq hmg hen l1 l2 a1 a2 a3
        go_wp2_with fail
        refine HFL.out.mono ?_
        rintro e w1 ⟨rfl, rfl⟩
        go_wp2_with fail
        refine (formatUint_any mg HB2.out wr HV.out).mono ?_
        rintro e w1 ⟨rfl, hb1⟩
        have HV1 := Lib.hid (HV.out.below hb1)
        have HBB1 := Lib.hid hb1
        have a1 := A1.out
        have a2 := A2.out
        have a3 := A3.out
        clear hb1
        go_wp2_with fail
        refine (itoa_any ex HB3.out.1 HB3.out.2 w1 HV1.out).mono ?_
        rintro e w2 ⟨rfl, hb2⟩
        go_wp2_with fail
        go_ret
        exact ⟨by have h := HZ3.out; rw [HMR.out.1, HMR.out.2]; show Ending.returned (.string ⟨z3.toArray⟩) = _; rw [← h]; simp, HBB1.out.trans (hb2.mono HBB1.out.size)⟩
      · have ht := test_yes S k HSN.out.1 HSN.out.2 hk hz
        have hk2 : k ≤ 52 := by
          rcases Nat.lt_or_ge k 53 with e | e
          · omega
          · obtain rfl : k = 53 := by omega
            rw [Nat.sub_self, Nat.pow_zero, Nat.mod_one] at hz
            exact absurd rfl hz
        have hm : ∀ t w, (binOp .mul t (.float .f64 (mw S k)) (.float .f64 4611686018427387904)).run Tryd.prog w = .ok (.float .f64 (mw S (k + 1))) w := fun t w => run_float_arith w .mul t .f64 _ _ _ (mul_two S k HSN.out.1 HSN.out.2 hk2)
        have HZ := Lib.hid hz
        have hwe : wrap64 (E - (k : Int) - 1) = E - ((k + 1 : Nat) : Int) := by have := HEN.out; unfold wrap64; omega
        generalize wi (S / 2 ^ (53 - k)) = fl at *
        clear hz
        go_wp2_with fail
        refine HFL.out.mono ?_
        rintro e w1 ⟨rfl, rfl⟩
        go_wp2_with fail
        go_roundw
        case rel =>
          refine ⟨k + 1, by omega, by first | trivial | rfl, ?_, by first | trivial | rfl, Lib.hid fun j hj => ?_⟩
          · first | exact congrArg _ hwe | (rw [hwe])
          · by_cases e : j = k
            · rw [e]; exact HZ.out
            · exact HK.out j (by omega)
        case measure =>
          simp only [intOf]
          rw [hwe]
          omega
  | false =>
    go_enter Tryd.func23, Tryd.ntmps23
    go_wp2_with fail
    refine HSB.out.mono ?_
    rintro e w1 ⟨rfl, rfl⟩
    go_wp2_with fail
    refine HI.out.mono ?_
    rintro e w1 ⟨rfl, rfl⟩
    go_wp2_with fail
    refine HA.out.mono ?_
    rintro e w1 ⟨rfl, rfl⟩
    go_wp2_with fail
    refine HF.out.mono ?_
    rintro e w1 ⟨rfl, rfl⟩
    go_wp2_with fail
    clear ho hz HSB HI HA HF
    go_loopw [4, 5, 28, 29, 30, 31, 32, 33, 34, 35] (fun v4 v5 _ _ _ _ _ _ _ _ wr => ∃ k : Nat, k ≤ 53 ∧ v4 = .float .f64 (mw S k) ∧ v5 = .int .i64 (E - k) ∧ wr = w ∧ Hid (∀ j, j < k → S % 2 ^ (53 - j) ≠ 0)) (fun _ v5 _ _ _ _ _ _ _ _ _ => (intOf v5 - (E - 53)).toNat)
    case atStart => exact ⟨0, by omega, rfl, by simp, rfl, Lib.hid fun j hj => by omega⟩
    case round =>
      obtain ⟨k, hk, rfl, rfl, rfl, HK⟩ := hrel
      have HFL := Lib.hid (floor_at S k HSN.out.1 HSN.out.2 hk wr)
      by_cases hz : S % 2 ^ (53 - k) = 0
      · have ht := test_no S k HSN.out.1 HSN.out.2 hk hz
        have htz := exit_tz S k HSN.out.1 HSN.out.2 hk hz HK.out
        have HMG := Lib.hid (show magB r = S / 2 ^ (53 - k) ∧ exB r = E - k by
          rw [HM.out.1, HM.out.2, htz]; exact ⟨rfl, by omega⟩)
        have hq : S / 2 ^ (53 - k) < 9007199254740992 := Nat.lt_of_le_of_lt (Nat.div_le_self _ _) HSN.out.2
        have hcv := conv_mw S k HSN.out.1 HSN.out.2 hk
        have hen : E - (k : Int) = exB r := HMG.out.2.symm
        have hmg : S / 2 ^ (53 - k) = magB r := HMG.out.1.symm
        have HB2 := Lib.hid (show magB r < 18446744073709551616 by rw [← hmg]; omega)
        have HB3 := Lib.hid (show -9223372036854775808 ≤ exB r ∧ exB r ≤ 9223372036854775807 by have := HEN.out; omega)
        rw [hmg] at hcv HFL ht
        rw [hen]
        have l1 := nDigits_le _ HB2.out
        have l2 := itoa_le _ HB3.out.1 HB3.out.2
        generalize hmr : magB r = mg at *
        generalize hxr : exB r = ex at *
        have HMR := Lib.hid (And.intro hmr hxr)
        clear hmr hxr
        obtain ⟨z1, hz1⟩ : ∃ z, [] ++ Lib.decDigits mg = z := ⟨_, rfl⟩
        obtain ⟨z2, hz2⟩ : ∃ z, z1 ++ [112] = z := ⟨_, rfl⟩
        obtain ⟨z3, hz3⟩ : ∃ z, z2 ++ Lib.itoa ex = z := ⟨_, rfl⟩
        have a1 := str_add [] (Lib.decDigits mg) z1 hz1 (by rw [← hz1]; simp; omega)
        have a2 := str_add z1 [112] z2 hz2 (by rw [← hz2, ← hz1]; simp; omega)
        have a3 := str_add z2 (Lib.itoa ex) z3 hz3 (by rw [← hz3, ← hz2, ← hz1]; simp; omega)
        have HZ3 := Lib.hid (show [] ++ (Lib.decDigits mg ++ [112] ++ Lib.itoa ex) = z3 by rw [← hz3, ← hz2, ← hz1]; simp)
        clear hz1 hz2 hz3
        have A1 := Lib.hid a1
        have A2 := Lib.hid a2
        have A3 := Lib.hid a3
        clear hz htz hq hmg hen l1 l2 a1 a2 a3
        go_wp2_with fail
        refine HFL.out.mono ?_
        rintro e w1 ⟨rfl, rfl⟩
        go_wp2_with fail
        refine (formatUint_any mg HB2.out wr HV.out).mono ?_
        rintro e w1 ⟨rfl, hb1⟩
        have HV1 := Lib.hid (HV.out.below hb1)
        have HBB1 := Lib.hid hb1
        have a1 := A1.out
        have a2 := A2.out
        have a3 := A3.out
        clear hb1
        go_wp2_with fail
        refine (itoa_any ex HB3.out.1 HB3.out.2 w1 HV1.out).mono ?_
        rintro e w2 ⟨rfl, hb2⟩
        go_wp2_with fail
        go_ret
        exact ⟨by have h := HZ3.out; rw [HMR.out.1, HMR.out.2]; show Ending.returned (.string ⟨z3.toArray⟩) = _; rw [← h]; simp, HBB1.out.trans (hb2.mono HBB1.out.size)⟩
      · have ht := test_yes S k HSN.out.1 HSN.out.2 hk hz
        have hk2 : k ≤ 52 := by
          rcases Nat.lt_or_ge k 53 with e | e
          · omega
          · obtain rfl : k = 53 := by omega
            rw [Nat.sub_self, Nat.pow_zero, Nat.mod_one] at hz
            exact absurd rfl hz
        have hm : ∀ t w, (binOp .mul t (.float .f64 (mw S k)) (.float .f64 4611686018427387904)).run Tryd.prog w = .ok (.float .f64 (mw S (k + 1))) w := fun t w => run_float_arith w .mul t .f64 _ _ _ (mul_two S k HSN.out.1 HSN.out.2 hk2)
        have HZ := Lib.hid hz
        have hwe : wrap64 (E - (k : Int) - 1) = E - ((k + 1 : Nat) : Int) := by have := HEN.out; unfold wrap64; omega
        generalize wi (S / 2 ^ (53 - k)) = fl at *
        clear hz
        go_wp2_with fail
        refine HFL.out.mono ?_
        rintro e w1 ⟨rfl, rfl⟩
        go_wp2_with fail
        go_roundw
        case rel =>
          refine ⟨k + 1, by omega, by first | trivial | rfl, ?_, by first | trivial | rfl, Lib.hid fun j hj => ?_⟩
          · first | exact congrArg _ hwe | (rw [hwe])
          · by_cases e : j = k
            · rw [e]; exact HZ.out
            · exact HK.out j (by omega)
        case measure =>
          simp only [intOf]
          rw [hwe]
          omega
end Go.Proofs.YtnbpioinhjijcaaDoor
