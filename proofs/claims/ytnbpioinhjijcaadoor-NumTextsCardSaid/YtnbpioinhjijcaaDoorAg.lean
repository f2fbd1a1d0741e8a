import Derived.Test.YtnbpioinhjijcaaDoorFlr
import Derived.Test.YtnbpioinhjijcaaDoorTxt
/-! num.Against. -/
namespace Go.Proofs.YtnbpioinhjijcaaDoor
open Go.RowKit

def cmpZ (a b : Int) : Int := if a < b then -1 else if b < a then 1 else 0
theorem cmpZ_lt {a b : Int} (h : a < b) : cmpZ a b = -1 := if_pos h
theorem cmpZ_gt {a b : Int} (h : b < a) : cmpZ a b = 1 := by unfold cmpZ; rw [if_neg (by omega), if_pos h]
theorem cmpZ_eq {a b : Int} (h : a = b) : cmpZ a b = 0 := by unfold cmpZ; rw [if_neg (by omega), if_neg (by omega)]
theorem cmpI_any (a b : Int) (w : World) : Calls Tryd.prog 51 #[.int .i64 a, .int .i64 b] w fun e w' => e = .returned (.int .i64 (cmpZ a b)) ∧ w = w' := by
  rcases Int.lt_trichotomy a b with h | h | h
  · have c1 : decide (a < b) = true := by simpa using h
    have HE := Lib.hid (cmpZ_lt h)
    clear h
    go_enter Tryd.func51, Tryd.ntmps51
    go_wp2
    go_ret
    exact ⟨by rw [HE.out]; rfl, rfl⟩
  · have c1 : decide (a < b) = false := by simp; omega
    have c2 : decide (b < a) = false := by simp; omega
    have HE := Lib.hid (cmpZ_eq h)
    clear h
    go_enter Tryd.func51, Tryd.ntmps51
    go_wp2
    go_ret
    exact ⟨by rw [HE.out]; rfl, rfl⟩
  · have c1 : decide (a < b) = false := by simp; omega
    have c2 : decide (b < a) = true := by simpa using h
    have HE := Lib.hid (cmpZ_gt h)
    clear h
    go_enter Tryd.func51, Tryd.ntmps51
    go_wp2
    go_ret
    exact ⟨by rw [HE.out]; rfl, rfl⟩

theorem rv_big : rv 4890909195324358656 = 9223372036854775808 * unit := by
  obtain ⟨j, hj, hu⟩ := unit_j
  unfold rv
  rw [hu, show sigR 4890909195324358656 = 2 ^ 52 by decide, show expR 4890909195324358656 = 11 + j by rw [hj]; decide, show (9223372036854775808 : Nat) = 2 ^ 52 * 2 ^ 11 by decide, Nat.pow_add, Nat.mul_assoc]
theorem sval_big : sval 4890909195324358656 = 9223372036854775808 * (unit : Int) := by
  unfold sval
  rw [if_neg (by omega), rv_big, Int.natCast_mul]; rfl
theorem sval_low : sval 14114281232179134464 = -(9223372036854775808 * (unit : Int)) := by
  unfold sval
  rw [if_pos (by omega), show 14114281232179134464 - 9223372036854775808 = 4890909195324358656 by omega, rv_big, Int.natCast_mul]; rfl
theorem sr_big : sr 4890909195324358656 = 4890909195324358656 := by unfold sr; rw [if_neg (by omega)]; rfl
theorem sr_low : sr 14114281232179134464 = -4890909195324358656 := by unfold sr; rw [if_pos (by omega)]; rfl

theorem sval_le {x y : Nat} (h : sr x ≤ sr y) : sval x ≤ sval y := by
  rcases Int.lt_or_eq_of_le h with e | e
  · exact Int.le_of_lt (sval_lt e)
  · exact Int.le_of_eq (sval_eq e)
theorem sr_of_sval {x y : Nat} (h : sval x = sval y) : sr x = sr y := by
  rcases Int.lt_trichotomy (sr x) (sr y) with e | e | e
  · have := sval_lt e; omega
  · exact e
  · have := sval_lt e; omega

def agV (n : Int) (b : Nat) : Value := if nanB b then .tuple #[.int .i64 0, .bool false] else .tuple #[.int .i64 (cmpZ (n * unit) (sval b)), .bool true]
theorem agV_nan {n : Int} {b : Nat} (h : nanB b = true) : agV n b = .tuple #[.int .i64 0, .bool false] := if_pos h
theorem agV_num {n : Int} {b : Nat} (h : nanB b = false) : agV n b = .tuple #[.int .i64 (cmpZ (n * unit) (sval b)), .bool true] := if_neg (by rw [h]; decide)
theorem nan_of {b : Nat} (h : nanB b = false) : ¬ nan b := by
  have := (nanB_false b).1 h
  unfold nan; omega

set_option maxRecDepth 100000 in
theorem against_any (n : Int) (n0 : -9223372036854775808 ≤ n) (n1 : n ≤ 9223372036854775807) (b : Nat) (hb : b < 18446744073709551616) (w : World) :
    Calls Tryd.prog 26 #[.int .i64 n, .float .f64 b] w fun e w' => e = .returned (agV n b) ∧ w = w' := by
  cases hn : nanB b with
  | true =>
    have ho := order_nan hn
    have HE := Lib.hid (agV_nan (n := n) hn)
    clear hn hb n0 n1
    go_enter Tryd.func26, Tryd.ntmps26
    go_wp2_with fail
    go_ret2
    exact ⟨by rw [HE.out]; rfl, rfl⟩
  | false =>
    have ho := order_num hn
    have hnn := nan_of hn
    have HE := Lib.hid (agV_num (n := n) hn)
    have hup : (0 : Int) < (unit : Int) := by have := unit_pos; omega
    have hgt := ord_gt (x := b) (y := 4890909195324358656) hb (by omega) hnn (by unfold nan; omega)
    have heq := ord_eq (x := b) (y := 4890909195324358656) hb (by omega) hnn (by unfold nan; omega)
    have hlt := ord_lt (x := b) (y := 14114281232179134464) hb (by omega) hnn (by unfold nan; omega)
    rw [sr_big] at hgt heq
    rw [sr_low] at hlt
    by_cases c1 : 4890909195324358656 ≤ sr b
    · have hge : (FloatKind.f64.format.order b 4890909195324358656 == some .gt || FloatKind.f64.format.order b 4890909195324358656 == some .eq) = true := by
        rw [hgt, heq]; simp; omega
      have HV := Lib.hid (show cmpZ (n * unit) (sval b) = -1 by
        apply cmpZ_lt
        have h1 := sval_le (x := 4890909195324358656) (y := b) (by rw [sr_big]; exact c1)
        rw [sval_big] at h1
        have h2 : n * (unit : Int) < 9223372036854775808 * unit := Int.mul_lt_mul_of_pos_right (by omega) hup
        omega)
      clear hn hb n0 n1 hnn hup hgt heq hlt c1
      go_enter Tryd.func26, Tryd.ntmps26
      go_wp2_with fail
      go_ret2
      exact ⟨by rw [HE.out, HV.out]; rfl, rfl⟩
    · have hge : (FloatKind.f64.format.order b 4890909195324358656 == some .gt || FloatKind.f64.format.order b 4890909195324358656 == some .eq) = false := by
        rw [hgt, heq]; simp; omega
      by_cases c2 : sr b < -4890909195324358656
      · have hl : (FloatKind.f64.format.order b 14114281232179134464 == some .lt) = true := by rw [hlt]; simpa using c2
        have HV := Lib.hid (show cmpZ (n * unit) (sval b) = 1 by
          apply cmpZ_gt
          have h1 := sval_lt (x := b) (y := 14114281232179134464) (by rw [sr_low]; exact c2)
          rw [sval_low] at h1
          have h2 : -9223372036854775808 * (unit : Int) ≤ n * unit := Int.mul_le_mul_of_nonneg_right n0 (Int.le_of_lt hup)
          omega)
        clear hn hb n0 n1 hnn hup hgt heq hlt c1 c2
        go_enter Tryd.func26, Tryd.ntmps26
        go_wp2_with fail
        go_ret2
        exact ⟨by rw [HE.out, HV.out]; rfl, rfl⟩
      · have hl : (FloatKind.f64.format.order b 14114281232179134464 == some .lt) = false := by rw [hlt]; simpa using c2
        have hfin : b % 9223372036854775808 < 9218868437227405312 := by
          unfold sr at c1 c2
          split at c1 <;> omega
        obtain ⟨z, hz⟩ := floor_spec b hb hfin
        have z1 : z < 9223372036854775808 := by
          have h1 := sval_lt (x := b) (y := 4890909195324358656) (by rw [sr_big]; omega)
          rw [sval_big] at h1
          have h2 := hz.lo
          exact Int.lt_of_mul_lt_mul_right (Int.lt_of_le_of_lt h2 h1) (Int.le_of_lt hup)
        have z0 : -9223372036854775808 ≤ z := by
          have h1 := sval_le (x := 14114281232179134464) (y := b) (by rw [sr_low]; omega)
          rw [sval_low] at h1
          have h2 := hz.hi
          have h3 : (-9223372036854775808 : Int) * unit < (z + 1) * unit := by omega
          have := Int.lt_of_mul_lt_mul_right h3 (Int.le_of_lt hup)
          omega
        have HF := Lib.hid (floor_any b hnn w)
        have hcv : ∀ w', (convert 24 2 (.float .f64 (floorB b))).run Tryd.prog w' = .ok (.int .i64 z) w' := fun w' =>
          run_convert_float_int w' 24 2 .f64 .i64 _ _ (by rw [Tryd.underlying24]; rfl) Tryd.underlying2 (toInt_gen _ _ _ hz.int (by rw [show IntKind.i64.min = -9223372036854775808 by decide]; omega) (by rw [show IntKind.i64.max = 9223372036854775807 by decide]; omega))
        have heq2 := ord_eq (x := floorB b) (y := b) hz.lt hb hz.num hnn
        have HZ := Lib.hid hz
        have HUP := Lib.hid hup
        have HN := Lib.hid hnn
        clear hn hb n0 n1 hup hgt heq hlt c1 c2 hz z0 z1 hfin hnn
        generalize floorB b = y at *
        rcases Int.lt_trichotomy n z with h | h | h
        · have HV := Lib.hid (show cmpZ (n * unit) (sval b) = -1 by
            apply cmpZ_lt
            have h2 : n * (unit : Int) < z * unit := Int.mul_lt_mul_of_pos_right h HUP.out
            have := HZ.out.lo
            omega)
          have HC := Lib.hid (cmpZ_lt h)
          clear heq2 h
          go_enter Tryd.func26, Tryd.ntmps26
          go_wp2_with fail
          refine HF.out.mono ?_
          rintro e w1 ⟨rfl, rfl⟩
          go_wp2_with fail
          refine (cmpI_any n z w).mono ?_
          rintro e w1 ⟨rfl, rfl⟩
          rw [HC.out]
          go_wp2_with fail
          go_ret2
          exact ⟨by rw [HE.out, HV.out]; rfl, rfl⟩
        · by_cases hw : sr y = sr b
          · have ht : (FloatKind.f64.format.order y b == some .eq) = true := by rw [heq2]; simpa using hw
            have HV := Lib.hid (show cmpZ (n * unit) (sval b) = 0 by
              apply cmpZ_eq
              have := sval_eq hw
              rw [← this, HZ.out.val, h])
            have HC := Lib.hid (cmpZ_eq h)
            clear heq2 h hw
            go_enter Tryd.func26, Tryd.ntmps26
            go_wp2_with fail
            refine HF.out.mono ?_
            rintro e w1 ⟨rfl, rfl⟩
            go_wp2_with fail
            refine (cmpI_any n z w).mono ?_
            rintro e w1 ⟨rfl, rfl⟩
            rw [HC.out]
            go_wp2_with fail
            go_ret2
            exact ⟨by rw [HE.out, HV.out]; rfl, rfl⟩
          · have ht : (FloatKind.f64.format.order y b == some .eq) = false := by rw [heq2]; simpa using hw
            have HV := Lib.hid (show cmpZ (n * unit) (sval b) = -1 by
              apply cmpZ_lt
              have h1 := HZ.out.lo
              have h2 : sval y ≠ sval b := fun e => hw (sr_of_sval e)
              have h3 := HZ.out.val
              rw [h]
              omega)
            have HC := Lib.hid (cmpZ_eq h)
            clear heq2 h hw
            go_enter Tryd.func26, Tryd.ntmps26
            go_wp2_with fail
            refine HF.out.mono ?_
            rintro e w1 ⟨rfl, rfl⟩
            go_wp2_with fail
            refine (cmpI_any n z w).mono ?_
            rintro e w1 ⟨rfl, rfl⟩
            rw [HC.out]
            go_wp2_with fail
            go_ret2
            exact ⟨by rw [HE.out, HV.out]; rfl, rfl⟩
        · have HV := Lib.hid (show cmpZ (n * unit) (sval b) = 1 by
            apply cmpZ_gt
            have h2 : (z + 1) * (unit : Int) ≤ n * unit := Int.mul_le_mul_of_nonneg_right (by omega) (Int.le_of_lt HUP.out)
            have := HZ.out.hi
            omega)
          have HC := Lib.hid (cmpZ_gt h)
          clear heq2 h
          go_enter Tryd.func26, Tryd.ntmps26
          go_wp2_with fail
          refine HF.out.mono ?_
          rintro e w1 ⟨rfl, rfl⟩
          go_wp2_with fail
          refine (cmpI_any n z w).mono ?_
          rintro e w1 ⟨rfl, rfl⟩
          rw [HC.out]
          go_wp2_with fail
          go_ret2
          exact ⟨by rw [HE.out, HV.out]; rfl, rfl⟩
end Go.Proofs.YtnbpioinhjijcaaDoor
