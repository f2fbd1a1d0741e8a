import Derived.Test.YtnbpioinhjijcaaDoorTxt
/-! num.Text of any float. -/
namespace Go.Proofs.YtnbpioinhjijcaaDoor
open Go.RowKit

set_option maxRecDepth 100000 in
theorem text_nan_true (b : Nat) (hb : b < 18446744073709551616) (hn : nanB b = true) (hs : signB b = true) (w : World) : Calls Tryd.prog 23 #[.float .f64 b] w fun e w' => e = .returned (.string ⟨([110, 97, 110] : List UInt8).toArray⟩) ∧ Below w.heap.size w w' := by
  have ho := order_nan hn
  have HSB := Lib.hid (signbit_any b hb w)
  rw [hs] at HSB
  clear hn hb hs
  go_enter Tryd.func23, Tryd.ntmps23
  go_wp2_with fail
  refine HSB.out.mono ?_
  rintro e w1 ⟨rfl, rfl⟩
  go_wp2_with fail
  go_ret
  exact ⟨rfl, Below.refl _ _⟩
set_option maxRecDepth 100000 in
theorem text_inf_true (b : Nat) (hb : b < 18446744073709551616) (hr : b % 9223372036854775808 = 9218868437227405312) (hs : signB b = true) (w : World) : Calls Tryd.prog 23 #[.float .f64 b] w fun e w' => e = .returned (.string ⟨([45] ++ [105, 110, 102] : List UInt8).toArray⟩) ∧ Below w.heap.size w w' := by
  have hn : nanB b = false := (nanB_false b).2 (by omega)
  have ho := order_num hn
  have HSB := Lib.hid (signbit_any b hb w)
  rw [hs] at HSB
  have HI := Lib.hid (isInf_any b hb (by unfold nan; omega) w)
  rw [hr, show decide ((9218868437227405312 : Nat) = 9218868437227405312) = true by decide] at HI
  have a1 := str_add [45] [105, 110, 102] _ rfl (by decide)
  clear hn hb hs hr
  go_enter Tryd.func23, Tryd.ntmps23
  go_wp2_with fail
  refine HSB.out.mono ?_
  rintro e w1 ⟨rfl, rfl⟩
  go_wp2_with fail
  refine HI.out.mono ?_
  rintro e w1 ⟨rfl, rfl⟩
  go_wp2_with fail
  go_ret
  exact ⟨rfl, Below.refl _ _⟩
set_option maxRecDepth 100000 in
theorem text_zero_true (b : Nat) (hb : b < 18446744073709551616) (hr : b % 9223372036854775808 = 0) (hs : signB b = true) (w : World) : Calls Tryd.prog 23 #[.float .f64 b] w fun e w' => e = .returned (.string ⟨([45] ++ [48, 112, 48] : List UInt8).toArray⟩) ∧ Below w.heap.size w w' := by
  have hn : nanB b = false := (nanB_false b).2 (by omega)
  have ho := order_num hn
  have HSB := Lib.hid (signbit_any b hb w)
  rw [hs] at HSB
  have HI := Lib.hid (isInf_any b hb (by unfold nan; omega) w)
  rw [hr, show decide ((0 : Nat) = 9218868437227405312) = false by decide] at HI
  have hz : (FloatKind.f64.format.order b 0 == some .eq) = true := by
    rw [ord_eq hb (by omega) (by unfold nan; omega) (nan_pos (by omega)), sr_pos (r := 0) (by omega), decide_eq_true_eq]
    unfold sr
    split <;> omega
  have a1 := str_add [45] [48, 112, 48] _ rfl (by decide)
  clear hn hb hs hr
  go_enter Tryd.func23, Tryd.ntmps23
  go_wp2_with fail
  refine HSB.out.mono ?_
  rintro e w1 ⟨rfl, rfl⟩
  go_wp2_with fail
  refine HI.out.mono ?_
  rintro e w1 ⟨rfl, rfl⟩
  go_wp2_with fail
  go_ret
  exact ⟨rfl, Below.refl _ _⟩

set_option maxRecDepth 100000 in
theorem text_nan_false (b : Nat) (hb : b < 18446744073709551616) (hn : nanB b = true) (hs : signB b = false) (w : World) : Calls Tryd.prog 23 #[.float .f64 b] w fun e w' => e = .returned (.string ⟨([110, 97, 110] : List UInt8).toArray⟩) ∧ Below w.heap.size w w' := by
  have ho := order_nan hn
  have HSB := Lib.hid (signbit_any b hb w)
  rw [hs] at HSB
  clear hn hb hs
  go_enter Tryd.func23, Tryd.ntmps23
  go_wp2_with fail
  refine HSB.out.mono ?_
  rintro e w1 ⟨rfl, rfl⟩
  go_wp2_with fail
  go_ret
  exact ⟨rfl, Below.refl _ _⟩
set_option maxRecDepth 100000 in
theorem text_inf_false (b : Nat) (hb : b < 18446744073709551616) (hr : b % 9223372036854775808 = 9218868437227405312) (hs : signB b = false) (w : World) : Calls Tryd.prog 23 #[.float .f64 b] w fun e w' => e = .returned (.string ⟨([] ++ [105, 110, 102] : List UInt8).toArray⟩) ∧ Below w.heap.size w w' := by
  have hn : nanB b = false := (nanB_false b).2 (by omega)
  have ho := order_num hn
  have HSB := Lib.hid (signbit_any b hb w)
  rw [hs] at HSB
  have HI := Lib.hid (isInf_any b hb (by unfold nan; omega) w)
  rw [hr, show decide ((9218868437227405312 : Nat) = 9218868437227405312) = true by decide] at HI
  have a1 := str_add [] [105, 110, 102] _ rfl (by decide)
  clear hn hb hs hr
  go_enter Tryd.func23, Tryd.ntmps23
  go_wp2_with fail
  refine HSB.out.mono ?_
  rintro e w1 ⟨rfl, rfl⟩
  go_wp2_with fail
  refine HI.out.mono ?_
  rintro e w1 ⟨rfl, rfl⟩
  go_wp2_with fail
  go_ret
  exact ⟨rfl, Below.refl _ _⟩
set_option maxRecDepth 100000 in
theorem text_zero_false (b : Nat) (hb : b < 18446744073709551616) (hr : b % 9223372036854775808 = 0) (hs : signB b = false) (w : World) : Calls Tryd.prog 23 #[.float .f64 b] w fun e w' => e = .returned (.string ⟨([] ++ [48, 112, 48] : List UInt8).toArray⟩) ∧ Below w.heap.size w w' := by
  have hn : nanB b = false := (nanB_false b).2 (by omega)
  have ho := order_num hn
  have HSB := Lib.hid (signbit_any b hb w)
  rw [hs] at HSB
  have HI := Lib.hid (isInf_any b hb (by unfold nan; omega) w)
  rw [hr, show decide ((0 : Nat) = 9218868437227405312) = false by decide] at HI
  have hz : (FloatKind.f64.format.order b 0 == some .eq) = true := by
    rw [ord_eq hb (by omega) (by unfold nan; omega) (nan_pos (by omega)), sr_pos (r := 0) (by omega), decide_eq_true_eq]
    unfold sr
    split <;> omega
  have a1 := str_add [] [48, 112, 48] _ rfl (by decide)
  clear hn hb hs hr
  go_enter Tryd.func23, Tryd.ntmps23
  go_wp2_with fail
  refine HSB.out.mono ?_
  rintro e w1 ⟨rfl, rfl⟩
  go_wp2_with fail
  refine HI.out.mono ?_
  rintro e w1 ⟨rfl, rfl⟩
  go_wp2_with fail
  go_ret
  exact ⟨rfl, Below.refl _ _⟩

/-- num.Text -/
theorem text_any (b : Nat) (hb : b < 18446744073709551616) (w : World) (hv : Vars w) : Calls Tryd.prog 23 #[.float .f64 b] w fun e w' => e = .returned (.string ⟨(textB b).toArray⟩) ∧ Below w.heap.size w w' := by
  unfold textB
  cases hn : nanB b with
  | true =>
    rw [if_pos rfl]
    cases hs : signB b with
    | true => exact text_nan_true b hb hn hs w
    | false => exact text_nan_false b hb hn hs w
  | false =>
    rw [if_neg (by decide)]
    have h0 := (nanB_false b).1 hn
    unfold bodyB
    by_cases hi : b % 9223372036854775808 = 9218868437227405312
    · rw [if_pos hi]
      cases hs : signB b with
      | true => exact text_inf_true b hb hi hs w
      | false => exact text_inf_false b hb hi hs w
    · rw [if_neg hi]
      by_cases hz : b % 9223372036854775808 = 0
      · rw [if_pos hz]
        cases hs : signB b with
        | true => exact text_zero_true b hb hz hs w
        | false => exact text_zero_false b hb hz hs w
      · rw [if_neg hz]
        exact text_num b _ _ rfl rfl hb (by omega) (by omega) w hv
end Go.Proofs.YtnbpioinhjijcaaDoor

