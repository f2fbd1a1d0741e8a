/- Proved: 'bridlewaylaw01.NumSteps' returns true for any bits of a float and any whole number, and leaves its input as it was; the package-level variables that the row lists are tied to the program's text (the card). No condition. -/
import Derived.Test.YtnbpioinhjijcaaDoorRow
import Derived.Test.YtnbpioinhjijcaaDoorTie
import Derived.Test.YtnbpioinhjijcaaDoorCards
import Derived.Test.YtnbpioinhjijcaaDoorShn
import Derived.ChangeMaps5
namespace Go.Proofs.YtnbpioinhjijcaaDoor
open Go.ChangeShapes Go.WideShapes Go.ChangeAt Go.RowKit

theorem isInf1_any (b : Nat) (hb : b < 18446744073709551616) (hn : ¬ nan b) (w : World) : Calls Tryd.prog 31 #[.float .f64 b, .int .i64 1] w fun e w' => e = .returned (.bool (decide (b = 9218868437227405312))) ∧ w = w' := by
  have ho : (FloatKind.f64.format.order b 9218868437227405311 == some .gt) = decide (b = 9218868437227405312) := by
    rw [ord_gt hb (by omega) hn (nan_pos (by omega)), sr_pos (r := 9218868437227405311) (by omega)]
    unfold nan at hn
    unfold sr
    congr 1
    apply propext
    split <;> constructor <;> intro h <;> omega
  clear hb hn
  go_enter Tryd.func31, Tryd.ntmps31
  go_wp2_with fail
  go_ret
  exact ⟨by rw [← ho]; rfl, rfl⟩

/-- The next float upwards. -/
def nextB (b : Nat) : Nat := if b % 9223372036854775808 = 0 then 1 else if b < 9223372036854775808 then b + 1 else b - 1
theorem nextafter_any (b : Nat) (hb : b < 18446744073709551616) (hn : nanB b = false) (hi : b ≠ 9218868437227405312) (w : World) :
    Calls Tryd.prog 32 #[.float .f64 b, .float .f64 9218868437227405312] w fun e w' => e = .returned (.float .f64 (nextB b)) ∧ w = w' := by
  have hnn := nan_of hn
  have hni : ¬ nan 9218868437227405312 := nan_pos (by omega)
  have hle := (nanB_false b).1 hn
  have HN1 := Lib.hid (isNaN_num b hn w)
  have HN2 := Lib.hid (isNaN_num 9218868437227405312 ((nanB_false _).2 (by omega)) w)
  have h1 : (FloatKind.f64.format.order b 9218868437227405312 == some .eq) = false := by
    rw [ord_eq hb (by omega) hnn hni, sr_pos (r := 9218868437227405312) (by omega), decide_eq_false_iff_not]
    unfold sr; split <;> omega
  have h2 : (FloatKind.f64.format.order 9218868437227405312 b == some .gt) = true := by
    rw [ord_gt (by omega) hb hni hnn, sr_pos (r := 9218868437227405312) (by omega), decide_eq_true_eq]
    unfold sr; split <;> omega
  have h3 := ord_eq hb (show 0 < 18446744073709551616 by omega) hnn (nan_pos (r := 0) (by omega))
  have h4 := ord_gt hb (show 0 < 18446744073709551616 by omega) hnn (nan_pos (r := 0) (by omega))
  rw [sr_pos (r := 0) (by omega)] at h3 h4
  have hx := run_f64bits b
  have hy := run_f64from
  by_cases hz : b % 9223372036854775808 = 0
  · have c3 : (FloatKind.f64.format.order b 0 == some .eq) = true := by
      rw [h3, decide_eq_true_eq]; unfold sr; split <;> omega
    have HE := Lib.hid (show nextB b = 1 from if_pos hz)
    have HC := Lib.hid (copysign_any 1 9218868437227405312 (by omega) (by omega) w)
    rw [show csB 1 9218868437227405312 = 1 by unfold csB; rw [if_neg (fun e => by have := (signB_iff _).1 e; omega)]] at HC
    clear h3 h4 hz hle hnn hni hn hb hi
    go_enter Tryd.func32, Tryd.ntmps32
    go_wp2_with fail
    refine HN1.out.mono ?_
    rintro e w1 ⟨rfl, rfl⟩
    go_wp2_with fail
    refine HN2.out.mono ?_
    rintro e w1 ⟨rfl, rfl⟩
    go_wp2_with fail
    refine HC.out.mono ?_
    rintro e w1 ⟨rfl, rfl⟩
    go_wp2_with fail
    go_ret
    exact ⟨by rw [HE.out]; rfl, rfl⟩
  · have c3 : (FloatKind.f64.format.order b 0 == some .eq) = false := by
      rw [h3, decide_eq_false_iff_not]; unfold sr; split <;> omega
    by_cases hs : b < 9223372036854775808
    · have c4 : (FloatKind.f64.format.order b 0 == some .gt) = true := by
        rw [h4, decide_eq_true_eq]; unfold sr; split <;> omega
      have HE := Lib.hid (show nextB b = b + 1 by unfold nextB; rw [if_neg hz, if_pos hs])
      have hw : IntKind.u64.wrap ((b : Int) + 1) = (b : Int) + 1 := by rw [IntKind.wrap_u64]; omega
      clear h3 h4 hz hle hnn hni hn hb hi hs
      go_enter Tryd.func32, Tryd.ntmps32
      go_wp2_with fail
      refine HN1.out.mono ?_
      rintro e w1 ⟨rfl, rfl⟩
      go_wp2_with fail
      refine HN2.out.mono ?_
      rintro e w1 ⟨rfl, rfl⟩
      go_wp2_with fail
      go_ret
      exact ⟨by rw [HE.out]; rfl, rfl⟩
    · have c4 : (FloatKind.f64.format.order b 0 == some .gt) = false := by
        rw [h4, decide_eq_false_iff_not]; unfold sr; split <;> omega
      have HE := Lib.hid (show nextB b = b - 1 by unfold nextB; rw [if_neg hz, if_neg hs])
      have HP := Lib.hid (show 0 < b by omega)
      have HB := Lib.hid hb
      clear h3 h4 hz hle hnn hni hn hb hi hs
      go_enter Tryd.func32, Tryd.ntmps32
      go_wp2_with fail
      refine HN1.out.mono ?_
      rintro e w1 ⟨rfl, rfl⟩
      go_wp2_with fail
      refine HN2.out.mono ?_
      rintro e w1 ⟨rfl, rfl⟩
      go_wp2_with fail
      go_ret
      refine ⟨?_, rfl⟩
      show Ending.returned (.float .f64 (IntKind.u64.wrap ((b : Int) - 1)).toNat) = _
      rw [HE.out]
      congr 2
      have := HP.out
      have := HB.out
      rw [IntKind.wrap_u64]
      omega

/-- The keys of floats: all but the greatest and the least. -/
theorem key_mid {k : Nat} (h0 : 4503599627370496 ≤ k) (h1 : k ≤ 18442240474082181119) : keyB (ofKeyB k) = k := by
  by_cases hs : 9223372036854775808 ≤ k
  · rw [ofKeyB_low (by omega) hs, lowB_eq, keyB_pos ((nanB_false _).2 (by omega)) (by omega)]; omega
  · rw [ofKeyB_not (by omega) hs, notB_eq, keyB_neg ((nanB_false _).2 (by omega)) (by omega)]; omega
theorem sr_up (a : Nat) (h : a < 9223372036854775807) : sr a ≤ sr (a + 1) := by
  rw [sr_pos (by omega), sr_pos (by omega)]; omega
theorem sr_hi (a : Nat) (h : 9223372036854775808 ≤ a) : sr a = 9223372036854775808 - (a : Int) := by
  unfold sr; rw [if_pos h]; omega
theorem step_zero : 9223372036854775807 + 1 < 18446744073709551616 ∧ keyB (ofKeyB (9223372036854775807 + 1)) = 9223372036854775807 + 1 ∧ sr 9223372036854775808 ≤ sr (ofKeyB (9223372036854775807 + 1)) ∧ nanB (ofKeyB (9223372036854775807 + 1)) = false ∧
    (9223372036854775808 % 9223372036854775808 ≠ 0 → ofKeyB (9223372036854775807 + 1) % 9223372036854775808 ≠ 0 → nextB 9223372036854775808 = ofKeyB (9223372036854775807 + 1)) := by
  have hy : ofKeyB (9223372036854775807 + 1) = 0 := by rw [ofKeyB_low (by omega) (by omega), lowB_eq]
  have hm := key_mid (k := 9223372036854775807 + 1) (by omega) (by omega)
  refine ⟨by omega, hm, ?_, ?_, fun h _ => absurd (Nat.mod_self _) h⟩
  · rw [hy, sr_hi _ (by omega), sr_pos (by omega)]; omega
  · rw [hy]; exact (nanB_false _).2 (by omega)
theorem step_neg (a : Nat) (ha : a < 18446744073709551616) (hn : nanB a = false) (hs : 9223372036854775808 < a) :
    keyB a + 1 < 18446744073709551616 ∧ keyB (ofKeyB (keyB a + 1)) = keyB a + 1 ∧ sr a ≤ sr (ofKeyB (keyB a + 1)) ∧ nanB (ofKeyB (keyB a + 1)) = false ∧
    (a % 9223372036854775808 ≠ 0 → ofKeyB (keyB a + 1) % 9223372036854775808 ≠ 0 → nextB a = ofKeyB (keyB a + 1)) := by
  have hle := (nanB_false a).1 hn
  have hk := keyB_neg hn (show 9223372036854775808 ≤ a by omega)
  have hy0 := ofKeyB_not (k := keyB a + 1) (by omega) (by omega)
  rw [notB_eq] at hy0
  have hy : ofKeyB (keyB a + 1) = a - 1 := by omega
  have hm := key_mid (k := keyB a + 1) (by omega) (by omega)
  refine ⟨by omega, hm, ?_, ?_, fun h1 h2 => ?_⟩
  · rw [hy, sr_hi a (by omega), sr_hi (a - 1) (by omega)]; omega
  · rw [hy]; exact (nanB_false _).2 (by omega)
  · rw [hy]
    unfold nextB
    have hnl : ¬ a < 9223372036854775808 := by omega
    rw [if_neg h1, if_neg hnl]
theorem step_pos (a : Nat) (hn : nanB a = false) (hi : a ≠ 9218868437227405312) (hs : a < 9223372036854775808) :
    keyB a + 1 < 18446744073709551616 ∧ keyB (ofKeyB (keyB a + 1)) = keyB a + 1 ∧ sr a ≤ sr (ofKeyB (keyB a + 1)) ∧ nanB (ofKeyB (keyB a + 1)) = false ∧
    (a % 9223372036854775808 ≠ 0 → ofKeyB (keyB a + 1) % 9223372036854775808 ≠ 0 → nextB a = ofKeyB (keyB a + 1)) := by
  have hle := (nanB_false a).1 hn
  have hk := keyB_pos hn (show ¬ 9223372036854775808 ≤ a by omega)
  have hy0 := ofKeyB_low (k := keyB a + 1) (by omega) (by omega)
  rw [lowB_eq] at hy0
  have hy : ofKeyB (keyB a + 1) = a + 1 := by omega
  have hm : keyB (ofKeyB (keyB a + 1)) = keyB a + 1 := by
    have h1 := keyB_pos (b := a + 1) ((nanB_false (a + 1)).2 (by omega)) (by omega)
    rw [hy]
    omega
  refine ⟨by omega, hm, ?_, ?_, fun h1 h2 => ?_⟩
  · rw [hy]; exact sr_up a (by omega)
  · rw [hy]; exact (nanB_false (a + 1)).2 (by omega)
  · rw [hy]
    unfold nextB
    rw [if_neg h1, if_pos hs]
/-- The float with the next key. -/
theorem step_facts (a : Nat) (ha : a < 18446744073709551616) (hn : nanB a = false) (hi : a ≠ 9218868437227405312) :
    keyB a + 1 < 18446744073709551616 ∧ keyB (ofKeyB (keyB a + 1)) = keyB a + 1 ∧ sr a ≤ sr (ofKeyB (keyB a + 1)) ∧ nanB (ofKeyB (keyB a + 1)) = false ∧
    (a % 9223372036854775808 ≠ 0 → ofKeyB (keyB a + 1) % 9223372036854775808 ≠ 0 → nextB a = ofKeyB (keyB a + 1)) := by
  by_cases hs : 9223372036854775808 < a
  · exact step_neg a ha hn hs
  · by_cases hz : a = 9223372036854775808
    · have hk : keyB a = 9223372036854775807 := by
        rw [keyB_neg hn (show 9223372036854775808 ≤ a by omega)]; omega
      rw [hk, hz]
      exact step_zero
    · exact step_pos a hn hi (by omega)
theorem cmpZ_mono {n x y : Int} (h : x ≤ y) : cmpZ n y ≤ cmpZ n x := by
  unfold cmpZ
  split <;> split <;> (try split) <;> (try split) <;> omega

set_option maxRecDepth 100000 in
theorem steps_walk (a : Nat) (n : Int) (ha : a < 18446744073709551616) (n0 : -9223372036854775808 ≤ n) (n1 : n ≤ 9223372036854775807) (w : World) (hv : Vars w) :
    Calls Tryd.prog 11 #[.int .u64 a, .int .i64 n] w fun e w' => e = .returned (.bool true) ∧ Below w.heap.size w w' := by
  have HS := Lib.hid (shown_any w hv)
  cases hn : nanB a with
  | true =>
    have ho := order_nan hn
    clear hn ha n0 n1 hv
    go_enter Tryd.func11, Tryd.ntmps11
    go_wp2_with fail
    refine HS.out.mono ?_
    rintro e w1 ⟨rfl, hb1⟩
    have HB1 := Lib.hid hb1
    clear hb1
    go_wp2_with fail
    refine (of_any a w1).mono ?_
    rintro e w2 ⟨rfl, rfl⟩
    go_wp2_with fail
    go_ret
    exact ⟨rfl, HB1.out⟩
  | false =>
    have ho := order_num hn
    have HI := Lib.hid (fun w => isInf1_any a ha (nan_of hn) w)
    by_cases hi : a = 9218868437227405312
    · rw [show decide (a = 9218868437227405312) = true by simpa using hi] at HI
      clear hn ha n0 n1 hv hi
      go_enter Tryd.func11, Tryd.ntmps11
      go_wp2_with fail
      refine HS.out.mono ?_
      rintro e w1 ⟨rfl, hb1⟩
      have HB1 := Lib.hid hb1
      clear hb1
      go_wp2_with fail
      refine (of_any a w1).mono ?_
      rintro e w2 ⟨rfl, rfl⟩
      go_wp2_with fail
      refine (HI.out w1).mono ?_
      rintro e w2 ⟨rfl, rfl⟩
      go_wp2_with fail
      go_ret
      exact ⟨rfl, HB1.out⟩
    · rw [show decide (a = 9218868437227405312) = false by simpa using hi] at HI
      obtain ⟨s1, s2, s3, s4, s5⟩ := step_facts a ha hn hi
      have HK := Lib.hid (fun w => key_any a ha w)
      have HF := Lib.hid (fun w => ofKey_nat (keyB a + 1) s1 w)
      rw [ofKeyV_yes s2] at HF
      have hyl := ofKeyB_lt (keyB a + 1) s1
      have HO := Lib.hid (fun w => order_any a (ofKeyB (keyB a + 1)) ha hyl w)
      rw [show ordB a (ofKeyB (keyB a + 1)) = -1 from cmpN_lt (by rw [s2]; omega)] at HO
      have HX := Lib.hid (fun w => nextafter_any a ha hn hi w)
      have HA1 := Lib.hid (fun w => against_any n n0 n1 a ha w)
      have HA2 := Lib.hid (fun w => against_any n n0 n1 (ofKeyB (keyB a + 1)) hyl w)
      rw [agV_num hn] at HA1
      rw [agV_num s4] at HA2
      have hmono := cmpZ_mono (n := n * unit) (sval_le s3)
      have z1 := ord_eq ha (show 0 < 18446744073709551616 by omega) (nan_of hn) (nan_pos (r := 0) (by omega))
      have z2 := ord_eq hyl (show 0 < 18446744073709551616 by omega) (nan_of s4) (nan_pos (r := 0) (by omega))
      rw [sr_pos (r := 0) (by omega)] at z1 z2
      have hz1 : sr a = 0 ↔ a % 9223372036854775808 = 0 := by unfold sr; split <;> omega
      have hz2 : sr (ofKeyB (keyB a + 1)) = 0 ↔ ofKeyB (keyB a + 1) % 9223372036854775808 = 0 := by unfold sr; split <;> omega
      have hwrap : IntKind.u64.wrap ((keyB a : Int) + 1) = ((keyB a + 1 : Nat) : Int) := by rw [IntKind.wrap_u64]; omega
      generalize cmpZ (n * unit) (sval a) = c at *
      generalize cmpZ (n * unit) (sval (ofKeyB (keyB a + 1))) = d at *
      generalize ofKeyB (keyB a + 1) = y at *
      generalize keyB a + 1 = k1 at *
      generalize keyB a = ka at *
      generalize nextB a = nx at *
      have hge : decide (d ≤ c) = true := by simpa using hmono
      have hcase : ((FloatKind.f64.format.order a 0 == some .eq) = true) ∨ ((FloatKind.f64.format.order a 0 == some .eq) = false ∧ (FloatKind.f64.format.order y 0 == some .eq) = true) ∨ ((FloatKind.f64.format.order a 0 == some .eq) = false ∧ (FloatKind.f64.format.order y 0 == some .eq) = false ∧ nx = y) := by
        by_cases g1 : sr a = 0
        · left; rw [z1]; simpa using g1
        · right
          by_cases g2 : sr y = 0
          · left; exact ⟨by rw [z1]; simpa using g1, by rw [z2]; simpa using g2⟩
          · right; exact ⟨by rw [z1]; simpa using g1, by rw [z2]; simpa using g2, s5 (fun e => g1 (hz1.2 e)) (fun e => g2 (hz2.2 e))⟩
      clear z1 z2 hz1 hz2 s1 s2 s3 s4 s5 hyl hn ha n0 n1 hv hi
      rcases hcase with h1 | ⟨h1, h2⟩ | ⟨h1, h2, rfl⟩
      all_goals
        go_enter Tryd.func11, Tryd.ntmps11
        go_wp2_with fail
        refine HS.out.mono ?_
        rintro e w1 ⟨rfl, hb1⟩
        have HB1 := Lib.hid hb1
        clear hb1
        go_wp2_with fail
        refine (of_any a w1).mono ?_
        rintro e w2 ⟨rfl, rfl⟩
        go_wp2_with fail
        refine (HI.out w1).mono ?_
        rintro e w2 ⟨rfl, rfl⟩
        go_wp2_with fail
        refine (HK.out w1).mono ?_
        rintro e w2 ⟨rfl, rfl⟩
        go_wp2_with fail
        refine (HF.out w1).mono ?_
        rintro e w2 ⟨rfl, rfl⟩
        go_wp2_with fail
        refine (HO.out w1).mono ?_
        rintro e w2 ⟨rfl, rfl⟩
        go_wp2_with fail
        refine (inf_pos w1).mono ?_
        rintro e w2 ⟨rfl, rfl⟩
        go_wp2_with fail
        refine (HX.out w1).mono ?_
        rintro e w2 ⟨rfl, rfl⟩
        go_wp2_with (first | (go_at_call 25; refine (same_any _ _ w1).mono ?_; rintro e w2 ⟨rfl, rfl⟩))
        refine (HA1.out w1).mono ?_
        rintro e w2 ⟨rfl, rfl⟩
        go_wp2_with fail
        refine (HA2.out w1).mono ?_
        rintro e w2 ⟨rfl, rfl⟩
        go_wp2_with fail
        go_ret
        exact ⟨rfl, HB1.out⟩

set_option maxRecDepth 100000 in
theorem steps_lifted (os : Os) (started : os.Started) (H : Type) (enc : TypeId × Value → H) :
    ReturnsInHanded {} Tryd.checked os 11 .any (fun w args => (Rows.numStepsSpec.pre enc Tryd.prog Tryd.f11 Rows.numStepsRow.domain false w args ∧ laidMet Tryd.prog Rows.numStepsRow.laid w) ∧ sizedMet enc Tryd.prog Tryd.f11 (OpenSpec.ofChange Rows.numStepsSpec) false w args)
      (Rows.numStepsSpec.post enc Tryd.prog Tryd.f11 false true false false) := by
  refine returnsInHanded_of_change_and (C := Tryd.checked) (X := fun w _ => laidMet Tryd.prog Rows.numStepsRow.laid w) (fun _ _ _ hh h => h.of_heap hh) own started (by kernel_rfl) Tryd.func11
    (ChangeSpec.witness_at (enc := enc) (C := Tryd.checked) (os := os) (X := fun w _ => laidMet Tryd.prog Rows.numStepsRow.laid w) false (laidWorld os) #[.int .u64 0, .int .i64 0] 8 rfl (by kernel_rfl) (by kernel_rfl) (by kernel_rfl) (by kernel_rfl) (by kernel_rfl) (laid_met os _)) ?_
  intro W base args ds gs before hval0 hW hcnd0 _ hL _
  have hval : ∀ (j : Nat) t v, Tryd.f11.params[j]? = some t → args[j]? = some v → Value.okWide Tryd.prog W .any base t v := hval0
  have hvars := vars_of_laid (W := W) hL
  have hW' := hW
  obtain ⟨p, q, hA0, hV, rfl, hfz, hnd⟩ := hW
  have hA : DataW.TrodAll enc Tryd.prog W 0 (fun _ => true) true Tryd.f11.params.toList args.toList ds p := hA0
  rw [Tryd.params11] at hA hval
  obtain ⟨rfl, rfl⟩ := trodVars_none hV
  have hlt : ∀ x ∈ p, x.block < W.heap.size := fun x hx => hW'.lt x (by simp [hx])
  have hrd2 : Tryd.prog.readableRec 2 = true ∧ 2 < Tryd.prog.types.size := ⟨by kernel_rfl, of_decide_eq_true (by kernel_rfl)⟩
  have hrd22 : Tryd.prog.readableRec 22 = true ∧ 22 < Tryd.prog.types.size := ⟨by kernel_rfl, of_decide_eq_true (by kernel_rfl)⟩
  have hargs := fun (W' : World) (hb : Below W.heap.size W W') => trodAll_below laidOut hb (by simp only [List.mem_cons, List.not_mem_nil, or_false]; rintro t (rfl | rfl) <;> first | exact hrd2 | exact hrd22) hA hlt
  obtain ⟨v0, vs0, d0, ds0, p0, q0, hargs0, rfl, rfl, h0, r0⟩ := trodAll_cons hA
  obtain ⟨v1, vs1, d1, ds1, p1, q1, rfl, rfl, rfl, h1, r1⟩ := trodAll_cons r0
  obtain ⟨rfl, rfl, rfl⟩ := trodAll_nil r1
  obtain rfl : args = #[v0, v1] := by cases args; simp_all
  obtain ⟨a0, rfl, rfl, rfl, w0⟩ := open_int Tryd.underlying22 (hval 0 22 v0 rfl rfl) h0
  obtain ⟨x0, rfl, hx0⟩ := u64_of_wf w0
  obtain ⟨a1, rfl, rfl, rfl, w1⟩ := open_int Tryd.underlying2 (hval 1 2 v1 rfl rfl) h1
  have hx1 := i64_of_wf w1
  clear hA0 hval0
  refine (steps_walk x0 a1 hx0 hx1.1 hx1.2 W hvars).mono fun e W' ⟨he, hb⟩ => ?_
  subst he
  exact ⟨_, rfl, ⟨_, _, _, [], _, [], hW', trodAll_mk1 (shut_bool Tryd.underlying4 _), hargs W' hb, rfl, hb.frame _, fun h => by cases h⟩⟩

theorem steps_over : Rows.NumStepsSaid :=
  OpenClaim.holds_of_wide 11 Tryd.f11 rfl rfl rfl rfl rfl rfl rfl ⟨rfl, rfl, rfl, rfl, rfl⟩ rfl rfl rfl rfl rfl (by kernel_rfl) Tryd.func11 (by kernel_rfl)
    (of_decide_eq_true (by kernel_rfl)) (by unfold Func.isWrapper; first | (rw [if_pos (by decide +kernel)]; kernel_rfl) | (rw [if_neg (by decide +kernel)]; exact ⟨rfl, rfl⟩))
    (fun os started H enc _ => steps_lifted os started H enc)

theorem steps_proved : Rows.NumStepsCardSaid :=
  Claim7.holds_tied_plain_at .later [] [.data, .data, .data, .sentinel, .sentinel] true (true, "7f84538c3e12298df9f8ce1369e67df473f76a916b9af3c6d42fcf7292796bf3") true
    steps_over (fun _ h => by cases h) (by kernel_rfl) (fun _ h => by cases h) numSteps_row_tie rfl ⟨rfl, rfl⟩ (by kernel_rfl) rfl
    (fun f fn hf hfn => by
      obtain rfl : f = 11 := Option.some.inj ((show Tryd.prog.funcNamed "bridleway/bridlewaylaw01.NumSteps" = some 11 by kernel_rfl).symm.trans hf) |>.symm
      obtain rfl : fn = Tryd.f11 := (Option.some.inj (Tryd.func11.symm.trans hfn)).symm
      exact ⟨by kernel_rfl, fun j t ht => by
        rw [Tryd.params11] at ht
        have h3 : t = 22 ∨ t = 2 := by
          have hm := List.mem_of_getElem? (show ([22, 2] : List Nat)[j]? = some t by simpa using ht)
          simp only [List.mem_cons, List.not_mem_nil, or_false] at hm
          first | exact hm | (rcases hm with h | h <;> simp [h])
        rcases h3 with rfl | rfl
        · exact (show Tryd.prog.wantsStandIn 22 = false by kernel_rfl)
        · exact (show Tryd.prog.wantsStandIn 2 = false by kernel_rfl)⟩)
    (by kernel_rfl)
end Go.Proofs.YtnbpioinhjijcaaDoor
