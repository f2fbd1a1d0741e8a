import Derived.Test.YtnbpioinhjijcaaDoorBase
import Derived.Test.YtnbpioinhjijcaaDoorFq
/-! Orders and keys. -/
namespace Go.Proofs.YtnbpioinhjijcaaDoor
open Go.RowKit

def cmpN (a b : Nat) : Int := if a < b then -1 else if b < a then 1 else 0
def ordB (a b : Nat) : Int := cmpN (keyB a) (keyB b)
theorem cmpN_lt {a b : Nat} (h : a < b) : cmpN a b = -1 := if_pos h
theorem cmpN_gt {a b : Nat} (h : b < a) : cmpN a b = 1 := by unfold cmpN; rw [if_neg (by omega), if_pos h]
theorem cmpN_eq {a b : Nat} (h : a = b) : cmpN a b = 0 := by unfold cmpN; rw [if_neg (by omega), if_neg (by omega)]

theorem of_any (b : Nat) (w : World) : Calls Tryd.prog 13 #[.int .u64 b] w fun e w' => e = .returned (.float .f64 b) ∧ w = w' := by
  have hx := run_f64from
  go_enter Tryd.func13, Tryd.ntmps13
  go_wp2
  go_ret
  exact ⟨rfl, rfl⟩
theorem same_any (a b : Nat) (w : World) : Calls Tryd.prog 25 #[.float .f64 a, .float .f64 b] w fun e w' => e = .returned (.bool ((a : Int) == (b : Int))) ∧ w = w' := by
  have hx := run_f64bits a
  have hy := run_f64bits b
  go_enter Tryd.func25, Tryd.ntmps25
  go_wp2
  go_ret
  exact ⟨rfl, rfl⟩

/-- cmp.Compare of two uint64 -/
theorem cmpU_any (a b : Nat) (w : World) : Calls Tryd.prog 37 #[.int .u64 a, .int .u64 b] w fun e w' => e = .returned (.int .i64 (cmpN a b)) ∧ w = w' := by
  rcases Nat.lt_trichotomy a b with h | h | h
  · have c1 : decide (a < b) = true := by simp; omega
    have HE := Lib.hid (cmpN_lt h)
    clear h
    go_enter Tryd.func37, Tryd.ntmps37
    go_wp2
    go_ret
    exact ⟨by rw [HE.out]; rfl, rfl⟩
  · have c1 : decide (a < b) = false := by simp; omega
    have c2 : decide (b < a) = false := by simp; omega
    have HE := Lib.hid (cmpN_eq h)
    clear h
    go_enter Tryd.func37, Tryd.ntmps37
    go_wp2
    go_ret
    exact ⟨by rw [HE.out]; rfl, rfl⟩
  · have c1 : decide (a < b) = false := by simp; omega
    have c2 : decide (b < a) = true := by simp; omega
    have HE := Lib.hid (cmpN_gt h)
    clear h
    go_enter Tryd.func37, Tryd.ntmps37
    go_wp2
    go_ret
    exact ⟨by rw [HE.out]; rfl, rfl⟩

/-- num.Order -/
theorem order_any (a b : Nat) (ha : a < 18446744073709551616) (hb : b < 18446744073709551616) (w : World) : Calls Tryd.prog 17 #[.float .f64 a, .float .f64 b] w fun e w' => e = .returned (.int .i64 (ordB a b)) ∧ w = w' := by
  have HA := Lib.hid ha
  have HB := Lib.hid hb
  clear ha hb
  go_enter Tryd.func17, Tryd.ntmps17
  go_wp2_with fail
  refine (key_any a HA.out w).mono ?_
  rintro e w1 ⟨rfl, rfl⟩
  go_wp2_with fail
  refine (key_any b HB.out w).mono ?_
  rintro e w1 ⟨rfl, rfl⟩
  go_wp2_with fail
  refine (cmpU_any _ _ w).mono ?_
  rintro e w1 ⟨rfl, rfl⟩
  go_wp2_with fail
  go_ret
  exact ⟨rfl, rfl⟩

theorem signB_iff (b : Nat) : signB b = true ↔ 9223372036854775808 ≤ b := by rw [signB_eq]; simp
/-- ref01.Order -/
theorem refOrder_any (a b : Nat) (ha : a < 18446744073709551616) (hb : b < 18446744073709551616) (w : World) : Calls Tryd.prog 18 #[.float .f64 a, .float .f64 b] w fun e w' => e = .returned (.int .i64 (ordB a b)) ∧ w = w' := by
  have HA := Lib.hid ha
  have HB := Lib.hid hb
  have ka := keyB_canonB a
  have kb := keyB_canonB b
  have la := canonB_lt a ha
  have lb := canonB_lt b hb
  by_cases e0 : canonB a = canonB b
  · have c0 : ((canonB a : Int) == (canonB b : Int)) = true := by simp; omega
    have HE := Lib.hid (show ordB a b = 0 by apply cmpN_eq; rw [← ka, ← kb, e0])
    clear ha hb ka kb la lb e0
    go_enter Tryd.func18, Tryd.ntmps18
    go_wp2_with fail
    refine (bits_any a HA.out w).mono ?_
    rintro e w1 ⟨rfl, rfl⟩
    go_wp2_with fail
    refine (bits_any b HB.out w).mono ?_
    rintro e w1 ⟨rfl, rfl⟩
    go_wp2_with fail
    go_ret
    exact ⟨by rw [HE.out]; rfl, rfl⟩
  have c0 : ((canonB a : Int) == (canonB b : Int)) = false := by simp; omega
  cases na : nanB a with
  | true =>
    have HNA := Lib.hid na
    have HE := Lib.hid (show ordB a b = 1 by
      apply cmpN_gt
      cases nb : nanB b with
      | true => rw [canonB_nan na, canonB_nan nb] at e0; exact absurd rfl e0
      | false =>
        rw [keyB_nan' na]
        have := (nanB_false b).1 nb
        by_cases hs : 9223372036854775808 ≤ b
        · rw [keyB_neg nb hs]; omega
        · rw [keyB_pos nb hs]; omega)
    clear ha hb ka kb la lb e0 na
    cases nb : nanB b with
    | true =>
      have HNB := Lib.hid nb
      clear nb
      go_enter Tryd.func18, Tryd.ntmps18
      go_wp2_with fail
      refine (bits_any a HA.out w).mono ?_
      rintro e w1 ⟨rfl, rfl⟩
      go_wp2_with fail
      refine (bits_any b HB.out w).mono ?_
      rintro e w1 ⟨rfl, rfl⟩
      go_wp2_with fail
      refine (nan_any a HA.out w).mono ?_
      rintro e w1 ⟨rfl, rfl⟩
      rw [HNA.out]
      go_wp2_with fail
      refine (nan_any b HB.out w).mono ?_
      rintro e w1 ⟨rfl, rfl⟩
      rw [HNB.out]
      go_wp2_with fail
      go_ret
      exact ⟨by rw [HE.out]; rfl, rfl⟩
    | false =>
      have HNB := Lib.hid nb
      clear nb
      go_enter Tryd.func18, Tryd.ntmps18
      go_wp2_with fail
      refine (bits_any a HA.out w).mono ?_
      rintro e w1 ⟨rfl, rfl⟩
      go_wp2_with fail
      refine (bits_any b HB.out w).mono ?_
      rintro e w1 ⟨rfl, rfl⟩
      go_wp2_with fail
      refine (nan_any a HA.out w).mono ?_
      rintro e w1 ⟨rfl, rfl⟩
      rw [HNA.out]
      go_wp2_with fail
      refine (nan_any b HB.out w).mono ?_
      rintro e w1 ⟨rfl, rfl⟩
      rw [HNB.out]
      go_wp2_with fail
      go_ret
      exact ⟨by rw [HE.out]; rfl, rfl⟩
  | false =>
    have HNA := Lib.hid na
    have fa := (nanB_false a).1 na
    cases nb : nanB b with
    | true =>
      have HNB := Lib.hid nb
      have HE := Lib.hid (show ordB a b = -1 by
        apply cmpN_lt
        rw [keyB_nan' nb]
        by_cases hs : 9223372036854775808 ≤ a
        · rw [keyB_neg na hs]; omega
        · rw [keyB_pos na hs]; omega)
      clear ha hb ka kb la lb e0 na nb fa
      go_enter Tryd.func18, Tryd.ntmps18
      go_wp2_with fail
      refine (bits_any a HA.out w).mono ?_
      rintro e w1 ⟨rfl, rfl⟩
      go_wp2_with fail
      refine (bits_any b HB.out w).mono ?_
      rintro e w1 ⟨rfl, rfl⟩
      go_wp2_with fail
      refine (nan_any a HA.out w).mono ?_
      rintro e w1 ⟨rfl, rfl⟩
      rw [HNA.out]
      go_wp2_with fail
      refine (nan_any b HB.out w).mono ?_
      rintro e w1 ⟨rfl, rfl⟩
      rw [HNB.out]
      go_wp2_with fail
      go_ret
      exact ⟨by rw [HE.out]; rfl, rfl⟩
    | false =>
      have HNB := Lib.hid nb
      have fb := (nanB_false b).1 nb
      have ca := canonB_num na
      have cb := canonB_num nb
      obtain ⟨sa, hsa⟩ : ∃ sa : Bool, sa = ((canonB a : Int) / 9223372036854775808 == 1) := ⟨_, rfl⟩
      obtain ⟨sb, hsb⟩ : ∃ sb : Bool, sb = ((canonB b : Int) / 9223372036854775808 == 1) := ⟨_, rfl⟩
      obtain ⟨lt, hlt⟩ : ∃ lt : Bool, lt = decide (canonB a < canonB b) := ⟨_, rfl⟩
      have hne : a ≠ b := by rw [← ca, ← cb]; exact e0
      have HE := Lib.hid (show ordB a b = if (sa != sb) = true then (if sa = true then -1 else 1) else (if (lt == sa) = true then 1 else -1) by
        subst hsa; subst hsb; subst hlt
        rw [ca, cb] at *
        by_cases h1 : 9223372036854775808 ≤ a
        · rw [show ((a : Int) / 9223372036854775808 == 1) = true by simp; omega]
          by_cases h2 : 9223372036854775808 ≤ b
          · rw [show ((b : Int) / 9223372036854775808 == 1) = true by simp; omega]
            by_cases h3 : a < b
            · rw [show decide (a < b) = true by simp; omega]
              exact cmpN_gt (by rw [keyB_neg na h1, keyB_neg nb h2]; omega)
            · rw [show decide (a < b) = false by simp; omega]
              exact cmpN_lt (by rw [keyB_neg na h1, keyB_neg nb h2]; omega)
          · rw [show ((b : Int) / 9223372036854775808 == 1) = false by simp; omega]
            exact cmpN_lt (by rw [keyB_neg na h1, keyB_pos nb h2]; omega)
        · rw [show ((a : Int) / 9223372036854775808 == 1) = false by simp; omega]
          by_cases h2 : 9223372036854775808 ≤ b
          · rw [show ((b : Int) / 9223372036854775808 == 1) = true by simp; omega]
            exact cmpN_gt (by rw [keyB_pos na h1, keyB_neg nb h2]; omega)
          · rw [show ((b : Int) / 9223372036854775808 == 1) = false by simp; omega]
            by_cases h3 : a < b
            · rw [show decide (a < b) = true by simp; omega]
              exact cmpN_lt (by rw [keyB_pos na h1, keyB_pos nb h2]; omega)
            · rw [show decide (a < b) = false by simp; omega]
              exact cmpN_gt (by rw [keyB_pos na h1, keyB_pos nb h2]; omega))
      have HSA := Lib.hid hsa.symm
      have HSB := Lib.hid hsb.symm
      have HLT := Lib.hid hlt.symm
      have C0 := Lib.hid c0
      clear ha hb ka kb la lb e0 na nb fa fb ca cb hsa hsb hlt hne c0
      have HX := Lib.hid (bits_any a HA.out w)
      have HY := Lib.hid (bits_any b HB.out w)
      generalize canonB a = x at *
      generalize canonB b = y at *
      cases sa <;> cases sb <;> cases lt <;>
      · have hsa := HSA.out
        have hsb := HSB.out
        have hlt := HLT.out
        have c0 := C0.out
        go_enter Tryd.func18, Tryd.ntmps18
        go_wp2_with fail
        refine HX.out.mono ?_
        rintro e w1 ⟨rfl, rfl⟩
        go_wp2_with fail
        refine HY.out.mono ?_
        rintro e w1 ⟨rfl, rfl⟩
        go_wp2_with fail
        refine (nan_any a HA.out w).mono ?_
        rintro e w1 ⟨rfl, rfl⟩
        rw [HNA.out]
        go_wp2_with fail
        refine (nan_any b HB.out w).mono ?_
        rintro e w1 ⟨rfl, rfl⟩
        rw [HNB.out]
        go_wp2_with fail
        go_ret
        exact ⟨by rw [HE.out]; rfl, rfl⟩
end Go.Proofs.YtnbpioinhjijcaaDoor
