/- Proved: 'bridlewaylaw01.NumSigns' returns true for any bits of a float, and leaves its input as it was; the package-level variables that the row lists are tied to the program's text (the card). No condition. -/
import Derived.Test.YtnbpioinhjijcaaDoorRow
import Derived.Test.YtnbpioinhjijcaaDoorTie
import Derived.Test.YtnbpioinhjijcaaDoorCards
import Derived.Test.YtnbpioinhjijcaaDoorShn
import Derived.ChangeMaps5
namespace Go.Proofs.YtnbpioinhjijcaaDoor
open Go.ChangeShapes Go.WideShapes Go.ChangeAt Go.RowKit

theorem xor_sign (a : Nat) (h : a < 18446744073709551616) : bits .xor .u64 (a : Int) 9223372036854775808 = ((negB a : Nat) : Int) := by
  rw [show (9223372036854775808 : Int) = ((9223372036854775808 : Nat) : Int) from rfl, u64_xor_nat _ _ h (by decide)]
  rfl
theorem negB_low {a : Nat} (h : a < 9223372036854775808) : negB a = 9223372036854775808 + a := negB_pos h
theorem negB_high {a : Nat} (h : a < 18446744073709551616) (hs : 9223372036854775808 ≤ a) : negB a = a - 9223372036854775808 := by
  have h1 := negB_neg h hs
  have h2 : negB (negB (a % 9223372036854775808)) = a % 9223372036854775808 := by
    unfold negB
    rw [Nat.xor_assoc, Nat.xor_self, Nat.xor_zero]
  rw [h1] at h2
  rw [h2]; omega
theorem body_size (r : Nat) (hr : r ≤ 9218868437227405312) : (bodyB r).length ≤ 90 := by
  by_cases h1 : r = 9218868437227405312
  · rw [h1, body_inf]; decide
  · by_cases h0 : r = 0
    · rw [h0, body_zero]; decide
    · rw [body_num (by omega) (by omega)]
      obtain ⟨m1, m2, m3, x, m4, m5, m6⟩ := mag_spec r (by omega) (by omega)
      have l1 := nDigits_le (magB r) (by omega)
      have l2 := itoa_le (exB r) (by omega) (by omega)
      simp; omega

/-- What is asked of two mirrored floats, the one that is not below nought ahead. -/
theorem mirror (r : Nat) (h : r ≤ 9218868437227405312) : nanB r = false ∧ nanB (9223372036854775808 + r) = false ∧ keyB r + keyB (9223372036854775808 + r) = 18446744073709551615 ∧ ordB r (9223372036854775808 + r) = 1 ∧ ordB (9223372036854775808 + r) r = -1 ∧
    textB r = bodyB r ∧ textB (9223372036854775808 + r) = 45 :: bodyB r := by
  have n1 : nanB r = false := (nanB_false r).2 (by omega)
  have n2 : nanB (9223372036854775808 + r) = false := (nanB_false _).2 (by omega)
  have k1 := keyB_pos n1 (show ¬ 9223372036854775808 ≤ r by omega)
  have k2 := keyB_neg n2 (show 9223372036854775808 ≤ 9223372036854775808 + r by omega)
  have s1 : signB r = false := by
    cases hs : signB r with
    | true => exact absurd ((signB_iff r).1 hs) (by omega)
    | false => rfl
  have s2 : signB (9223372036854775808 + r) = true := (signB_iff _).2 (by omega)
  refine ⟨n1, n2, by omega, cmpN_gt (by omega), cmpN_lt (by omega), ?_, ?_⟩
  · unfold textB
    rw [n1, s1, if_neg (by decide), if_neg (by decide), List.nil_append, show r % 9223372036854775808 = r by omega]
  · unfold textB
    rw [n2, s2, if_neg (by decide), if_pos rfl, show (9223372036854775808 + r) % 9223372036854775808 = r by omega]
    rfl

set_option maxRecDepth 100000 in
theorem signs_walk (a : Nat) (ha : a < 18446744073709551616) (w : World) (hv : Vars w) :
    Calls Tryd.prog 7 #[.int .u64 a] w fun e w' => e = .returned (.bool true) ∧ Below w.heap.size w w' := by
  have HS := Lib.hid (shown_any w hv)
  have HV := Lib.hid hv
  have hxor := xor_sign a ha
  have hyl := negB_lt ha
  have HKX := Lib.hid (fun w => key_any a ha w)
  have HKY := Lib.hid (fun w => key_any (negB a) hyl w)
  have HTX := Lib.hid (fun w hv => text_any a ha w hv)
  have HTY := Lib.hid (fun w hv => text_any (negB a) hyl w hv)
  have HO1 := Lib.hid (fun w => order_any a (negB a) ha hyl w)
  have HO2 := Lib.hid (fun w => order_any (negB a) a hyl ha w)
  by_cases hs : a < 9223372036854775808
  · have hy := negB_low hs
    have hsh : ((a : Int) / 9223372036854775808 == 1) = false := by simp; omega
    cases hn : nanB a with
    | true =>
      have hn2 : nanB (negB a) = true := by
        have h1 := (nanB_iff a).1 hn
        exact (nanB_iff (negB a)).2 (by rw [hy]; omega)
      have ho := order_nan hn
      rw [keyB_nan' hn] at HKX
      rw [keyB_nan' hn2] at HKY
      rw [show textB a = [110, 97, 110] by unfold textB; rw [if_pos hn]] at HTX
      rw [show textB (negB a) = [110, 97, 110] by unfold textB; rw [if_pos hn2]] at HTY
      generalize negB a = y at *
      clear hn hn2 hy hs hv ha hyl hsh HO1 HO2
      go_enter Tryd.func7, Tryd.ntmps7
      go_wp2_with fail
      refine HS.out.mono ?_
      rintro e w1 ⟨rfl, hb1⟩
      have HB1 := Lib.hid hb1
      have HV1 := Lib.hid (HV.out.below hb1)
      clear hb1
      go_wp2_with fail
      refine (of_any a w1).mono ?_
      rintro e w2 ⟨rfl, rfl⟩
      go_wp2_with fail
      refine (of_any y w1).mono ?_
      rintro e w2 ⟨rfl, rfl⟩
      go_wp2_with fail
      refine (HKX.out w1).mono ?_
      rintro e w2 ⟨rfl, rfl⟩
      go_wp2_with fail
      refine (HKY.out w1).mono ?_
      rintro e w2 ⟨rfl, rfl⟩
      go_wp2_with fail
      refine (HTX.out w1 HV1.out).mono ?_
      rintro e w2 ⟨rfl, hb2⟩
      have HB2 := Lib.hid (HB1.out.trans (hb2.mono HB1.out.size))
      have HV2 := Lib.hid (HV1.out.below hb2)
      clear hb2
      go_wp2_with fail
      refine (HTY.out w2 HV2.out).mono ?_
      rintro e w3 ⟨rfl, hb3⟩
      have HB3 := Lib.hid (HB2.out.trans (hb3.mono HB2.out.size))
      clear hb3
      go_wp2_with fail
      go_ret
      exact ⟨rfl, HB3.out⟩
    | false =>
      have hle := (nanB_false a).1 hn
      have ho := order_num hn
      obtain ⟨m1, m2, m3, m4, m5, m6, m7⟩ := mirror a (by omega)
      rw [← hy] at m2 m3 m4 m5 m7
      rw [m4] at HO1
      rw [m5] at HO2
      rw [m6] at HTX
      rw [m7] at HTY
      have hbl := body_size a (by omega)
      generalize bodyB a = body at *
      have hadd := str_add [45] body (45 :: body) rfl (by simp; omega)
      have hsum : IntKind.u64.wrap ((keyB a : Int) + (keyB (negB a) : Int)) = 18446744073709551615 := by rw [IntKind.wrap_u64]; omega
      generalize keyB a = ka at *
      generalize keyB (negB a) = ky at *
      generalize negB a = y at *
      clear hn hy hs hv ha hyl m1 m2 m3 m4 m5 m6 m7 hle hbl
      go_enter Tryd.func7, Tryd.ntmps7
      go_wp2_with fail
      refine HS.out.mono ?_
      rintro e w1 ⟨rfl, hb1⟩
      have HB1 := Lib.hid hb1
      have HV1 := Lib.hid (HV.out.below hb1)
      clear hb1
      go_wp2_with fail
      refine (of_any a w1).mono ?_
      rintro e w2 ⟨rfl, rfl⟩
      go_wp2_with fail
      refine (of_any y w1).mono ?_
      rintro e w2 ⟨rfl, rfl⟩
      go_wp2_with fail
      refine (HTX.out w1 HV1.out).mono ?_
      rintro e w2 ⟨rfl, hb2⟩
      have HB2 := Lib.hid (HB1.out.trans (hb2.mono HB1.out.size))
      have HV2 := Lib.hid (HV1.out.below hb2)
      clear hb2
      go_wp2_with fail
      refine (HTY.out w2 HV2.out).mono ?_
      rintro e w3 ⟨rfl, hb3⟩
      have HB3 := Lib.hid (HB2.out.trans (hb3.mono HB2.out.size))
      clear hb3
      go_wp2_with fail
      refine (HKX.out w3).mono ?_
      rintro e w4 ⟨rfl, rfl⟩
      go_wp2_with fail
      refine (HKY.out w3).mono ?_
      rintro e w4 ⟨rfl, rfl⟩
      go_wp2_with fail
      refine (HO1.out w3).mono ?_
      rintro e w4 ⟨rfl, rfl⟩
      go_wp2_with fail
      refine (HO2.out w3).mono ?_
      rintro e w4 ⟨rfl, rfl⟩
      go_wp2_with fail
      go_ret
      exact ⟨rfl, HB3.out⟩
  · have hs2 : 9223372036854775808 ≤ a := by omega
    have hy := negB_high ha hs2
    have hsh : ((a : Int) / 9223372036854775808 == 1) = true := by simp; omega
    cases hn : nanB a with
    | true =>
      have hn2 : nanB (negB a) = true := by
        have h1 := (nanB_iff a).1 hn
        exact (nanB_iff (negB a)).2 (by rw [hy]; omega)
      have ho := order_nan hn
      rw [keyB_nan' hn] at HKX
      rw [keyB_nan' hn2] at HKY
      rw [show textB a = [110, 97, 110] by unfold textB; rw [if_pos hn]] at HTX
      rw [show textB (negB a) = [110, 97, 110] by unfold textB; rw [if_pos hn2]] at HTY
      generalize negB a = y at *
      clear hn hn2 hy hs hs2 hv ha hyl hsh HO1 HO2
      go_enter Tryd.func7, Tryd.ntmps7
      go_wp2_with fail
      refine HS.out.mono ?_
      rintro e w1 ⟨rfl, hb1⟩
      have HB1 := Lib.hid hb1
      have HV1 := Lib.hid (HV.out.below hb1)
      clear hb1
      go_wp2_with fail
      refine (of_any a w1).mono ?_
      rintro e w2 ⟨rfl, rfl⟩
      go_wp2_with fail
      refine (of_any y w1).mono ?_
      rintro e w2 ⟨rfl, rfl⟩
      go_wp2_with fail
      refine (HKX.out w1).mono ?_
      rintro e w2 ⟨rfl, rfl⟩
      go_wp2_with fail
      refine (HKY.out w1).mono ?_
      rintro e w2 ⟨rfl, rfl⟩
      go_wp2_with fail
      refine (HTX.out w1 HV1.out).mono ?_
      rintro e w2 ⟨rfl, hb2⟩
      have HB2 := Lib.hid (HB1.out.trans (hb2.mono HB1.out.size))
      have HV2 := Lib.hid (HV1.out.below hb2)
      clear hb2
      go_wp2_with fail
      refine (HTY.out w2 HV2.out).mono ?_
      rintro e w3 ⟨rfl, hb3⟩
      have HB3 := Lib.hid (HB2.out.trans (hb3.mono HB2.out.size))
      clear hb3
      go_wp2_with fail
      go_ret
      exact ⟨rfl, HB3.out⟩
    | false =>
      have hle := (nanB_false a).1 hn
      have ho := order_num hn
      obtain ⟨m1, m2, m3, m4, m5, m6, m7⟩ := mirror (negB a) (by omega)
      rw [show 9223372036854775808 + negB a = a by omega] at m2 m3 m4 m5 m7
      rw [m5] at HO1
      rw [m4] at HO2
      rw [m7] at HTX
      rw [m6] at HTY
      have hbl := body_size (negB a) (by omega)
      generalize bodyB (negB a) = body at *
      have hadd := str_add [45] body (45 :: body) rfl (by simp; omega)
      have hsum : IntKind.u64.wrap ((keyB a : Int) + (keyB (negB a) : Int)) = 18446744073709551615 := by rw [IntKind.wrap_u64]; omega
      generalize keyB a = ka at *
      generalize keyB (negB a) = ky at *
      generalize negB a = y at *
      clear hn hy hs hs2 hv ha hyl m1 m2 m3 m4 m5 m6 m7 hle hbl
      go_enter Tryd.func7, Tryd.ntmps7
      go_wp2_with fail
      refine HS.out.mono ?_
      rintro e w1 ⟨rfl, hb1⟩
      have HB1 := Lib.hid hb1
      have HV1 := Lib.hid (HV.out.below hb1)
      clear hb1
      go_wp2_with fail
      refine (of_any a w1).mono ?_
      rintro e w2 ⟨rfl, rfl⟩
      go_wp2_with fail
      refine (of_any y w1).mono ?_
      rintro e w2 ⟨rfl, rfl⟩
      go_wp2_with fail
      refine (HTX.out w1 HV1.out).mono ?_
      rintro e w2 ⟨rfl, hb2⟩
      have HB2 := Lib.hid (HB1.out.trans (hb2.mono HB1.out.size))
      have HV2 := Lib.hid (HV1.out.below hb2)
      clear hb2
      go_wp2_with fail
      refine (HTY.out w2 HV2.out).mono ?_
      rintro e w3 ⟨rfl, hb3⟩
      have HB3 := Lib.hid (HB2.out.trans (hb3.mono HB2.out.size))
      clear hb3
      go_wp2_with fail
      refine (HKX.out w3).mono ?_
      rintro e w4 ⟨rfl, rfl⟩
      go_wp2_with fail
      refine (HKY.out w3).mono ?_
      rintro e w4 ⟨rfl, rfl⟩
      go_wp2_with fail
      refine (HO1.out w3).mono ?_
      rintro e w4 ⟨rfl, rfl⟩
      go_wp2_with fail
      refine (HO2.out w3).mono ?_
      rintro e w4 ⟨rfl, rfl⟩
      go_wp2_with fail
      go_ret
      exact ⟨rfl, HB3.out⟩

set_option maxRecDepth 100000 in
theorem signs_lifted (os : Os) (started : os.Started) (H : Type) (enc : TypeId × Value → H) :
    ReturnsInHanded {} Tryd.checked os 7 .any (fun w args => (Rows.numSignsSpec.pre enc Tryd.prog Tryd.f7 Rows.numSignsRow.domain false w args ∧ laidMet Tryd.prog Rows.numSignsRow.laid w) ∧ sizedMet enc Tryd.prog Tryd.f7 (OpenSpec.ofChange Rows.numSignsSpec) false w args)
      (Rows.numSignsSpec.post enc Tryd.prog Tryd.f7 false true false false) := by
  refine returnsInHanded_of_change_and (C := Tryd.checked) (X := fun w _ => laidMet Tryd.prog Rows.numSignsRow.laid w) (fun _ _ _ hh h => h.of_heap hh) own started (by kernel_rfl) Tryd.func7
    (ChangeSpec.witness_at (enc := enc) (C := Tryd.checked) (os := os) (X := fun w _ => laidMet Tryd.prog Rows.numSignsRow.laid w) false (laidWorld os) #[.int .u64 0] 8 rfl (by kernel_rfl) (by kernel_rfl) (by kernel_rfl) (by kernel_rfl) (by kernel_rfl) (laid_met os _)) ?_
  intro W base args ds gs before hval0 hW hcnd0 _ hL _
  have hval : ∀ (j : Nat) t v, Tryd.f7.params[j]? = some t → args[j]? = some v → Value.okWide Tryd.prog W .any base t v := hval0
  have hvars := vars_of_laid (W := W) hL
  have hW' := hW
  obtain ⟨p, q, hA0, hV, rfl, hfz, hnd⟩ := hW
  have hA : DataW.TrodAll enc Tryd.prog W 0 (fun _ => true) true Tryd.f7.params.toList args.toList ds p := hA0
  rw [Tryd.params7] at hA hval
  obtain ⟨rfl, rfl⟩ := trodVars_none hV
  have hlt : ∀ x ∈ p, x.block < W.heap.size := fun x hx => hW'.lt x (by simp [hx])
  have hrd22 : Tryd.prog.readableRec 22 = true ∧ 22 < Tryd.prog.types.size := ⟨by kernel_rfl, of_decide_eq_true (by kernel_rfl)⟩
  have hargs := fun (W' : World) (hb : Below W.heap.size W W') => trodAll_below laidOut hb (by simp only [List.mem_cons, List.not_mem_nil, or_false]; rintro t rfl; exact hrd22) hA hlt
  obtain ⟨v0, vs0, d0, ds0, p0, q0, hargs0, rfl, rfl, h0, r0⟩ := trodAll_cons hA
  obtain ⟨rfl, rfl, rfl⟩ := trodAll_nil r0
  obtain rfl : args = #[v0] := by cases args; simp_all
  obtain ⟨a0, rfl, rfl, rfl, w0⟩ := open_int Tryd.underlying22 (hval 0 22 v0 rfl rfl) h0
  obtain ⟨x0, rfl, hx0⟩ := u64_of_wf w0
  clear hA0 hval0
  refine (signs_walk x0 hx0 W hvars).mono fun e W' ⟨he, hb⟩ => ?_
  subst he
  exact ⟨_, rfl, ⟨_, _, _, [], _, [], hW', trodAll_mk1 (shut_bool Tryd.underlying4 _), hargs W' hb, rfl, hb.frame _, fun h => by cases h⟩⟩

theorem signs_over : Rows.NumSignsSaid :=
  OpenClaim.holds_of_wide 7 Tryd.f7 rfl rfl rfl rfl rfl rfl rfl ⟨rfl, rfl, rfl, rfl, rfl⟩ rfl rfl rfl rfl rfl (by kernel_rfl) Tryd.func7 (by kernel_rfl)
    (of_decide_eq_true (by kernel_rfl)) (by unfold Func.isWrapper; first | (rw [if_pos (by decide +kernel)]; kernel_rfl) | (rw [if_neg (by decide +kernel)]; exact ⟨rfl, rfl⟩))
    (fun os started H enc _ => signs_lifted os started H enc)

theorem signs_proved : Rows.NumSignsCardSaid :=
  Claim7.holds_tied_plain_at .later [] [.data, .data, .data, .sentinel, .sentinel] true (true, "7f84538c3e12298df9f8ce1369e67df473f76a916b9af3c6d42fcf7292796bf3") true
    signs_over (fun _ h => by cases h) (by kernel_rfl) (fun _ h => by cases h) numSigns_row_tie rfl ⟨rfl, rfl⟩ (by kernel_rfl) rfl
    (fun f fn hf hfn => by
      obtain rfl : f = 7 := Option.some.inj ((show Tryd.prog.funcNamed "bridleway/bridlewaylaw01.NumSigns" = some 7 by kernel_rfl).symm.trans hf) |>.symm
      obtain rfl : fn = Tryd.f7 := (Option.some.inj (Tryd.func7.symm.trans hfn)).symm
      exact ⟨by kernel_rfl, fun j t ht => by
        rw [Tryd.params7] at ht
        have h3 : t = 22 := by
          have hm := List.mem_of_getElem? (show ([22] : List Nat)[j]? = some t by simpa using ht)
          simp only [List.mem_cons, List.not_mem_nil, or_false] at hm
          first | exact hm | (rcases hm with h <;> simp [h])
        subst h3
        exact (show Tryd.prog.wantsStandIn 22 = false by kernel_rfl)⟩)
    (by kernel_rfl)
end Go.Proofs.YtnbpioinhjijcaaDoor
