import Derived.Test.YtnbpioinhjijcaaDoorPrs
import Derived.Test.YtnbpioinhjijcaaDoorAg
/-! shown. -/
namespace Go.Proofs.YtnbpioinhjijcaaDoor
open Go.RowKit

/-- A text is one float's, but for nans. -/
theorem text_inj {f g : Nat} (hf : f < 18446744073709551616) (hg : g < 18446744073709551616) (h : textB f = textB g) : canonB f = canonB g := by
  rcases text_split f _ rfl with ⟨a1, a2⟩ | ⟨a1, a2, a3, a4⟩
  · rcases text_split g _ rfl with ⟨b1, b2⟩ | ⟨b1, b2, b3, b4⟩
    · rw [canonB_nan a1, canonB_nan b1]
    · rw [← h, a2, (trim_pos 110 _ (by decide)).2] at b3
      exact absurd b3.symm (body_not_nan _)
  · rcases text_split g _ rfl with ⟨b1, b2⟩ | ⟨b1, b2, b3, b4⟩
    · rw [h, b2, (trim_pos 110 _ (by decide)).2] at a3
      exact absurd a3.symm (body_not_nan _)
    · rw [canonB_num a1, canonB_num b1]
      rw [h] at a2 a3
      have hs : signB f = signB g := a2.symm.trans b2
      have hb : bodyB (f % 9223372036854775808) = bodyB (g % 9223372036854775808) := a3.symm.trans b3
      have hr : f % 9223372036854775808 = g % 9223372036854775808 := by
        generalize f % 9223372036854775808 = r at *
        generalize g % 9223372036854775808 = q at *
        have key : ∀ r q, 0 < r → r < 9218868437227405312 → q ≤ 9218868437227405312 → bodyB r = bodyB q → r = q := by
          intro r q r0 r1 q1 e
          by_cases qi : q = 9218868437227405312
          · rw [qi, body_inf] at e
            rw [body_is_inf e, qi]
          · obtain ⟨m1, m2, m3, x, m4, m5, m6⟩ := mag_spec r r0 r1
            obtain ⟨c1, c2⟩ := cut_body r0 r1
            rw [e] at c1 c2
            by_cases q0 : q = 0
            · rw [q0, body_zero] at c1
              have u := uint53_dec _ m3
              rw [← c1] at u
              have u0 : uint53 (cutM [48, 112, 48]) = .ok 0 := by decide
              rw [u0] at u
              injection u with u
              omega
            · obtain ⟨n1, n2, n3, y, n4, n5, n6⟩ := mag_spec q (by omega) (by omega)
              obtain ⟨d1, d2⟩ := cut_body (r := q) (by omega) (by omega)
              have u1 := uint53_dec _ m3
              have u2 := uint53_dec _ n3
              rw [← c1, d1, u2] at u1
              injection u1 with u1
              have v1 := atoi_itoa (exB r) (by omega) (by omega)
              have v2 := atoi_itoa (exB q) (by omega) (by omega)
              rw [← c2, d2, v2] at v1
              injection v1 with v1
              apply rv_inj
              rw [m5, n5, ← u1, show x = y by omega]
        by_cases r1 : r = 9218868437227405312
        · rw [r1, body_inf] at hb
          rw [r1, body_is_inf hb.symm]
        · by_cases q1 : q = 9218868437227405312
          · rw [q1, body_inf] at hb
            rw [q1, body_is_inf hb]
          · by_cases r0 : 0 < r
            · exact key r q r0 (by omega) b4 hb
            · by_cases q0 : 0 < q
              · exact (key q r q0 (by omega) a4 hb.symm).symm
              · omega
      have h1 := flip_same hf hr
      have h2 := flip_same hg rfl
      rw [hs] at h1
      exact h1.symm.trans h2

theorem text_3 : textB 4609434218613702656 = [51, 112, 45, 49] := by
  unfold textB
  rw [show nanB 4609434218613702656 = false from (nanB_false _).2 (by omega), if_neg (by decide), show signB 4609434218613702656 = false by rw [signB_eq]; decide, if_neg (by decide), List.nil_append, show (4609434218613702656 : Nat) % 9223372036854775808 = 4609434218613702656 by omega]
  rw [body_num (by omega) (by omega), show magB 4609434218613702656 = 3 by decide +kernel, show exB 4609434218613702656 = -1 by decide +kernel]
  unfold Lib.itoa
  rw [if_pos (by decide), dec_small (by omega), dec_small (by decide)]
  decide
theorem text_5 : textB 4621819117588971520 = [53, 112, 49] := by
  unfold textB
  rw [show nanB 4621819117588971520 = false from (nanB_false _).2 (by omega), if_neg (by decide), show signB 4621819117588971520 = false by rw [signB_eq]; decide, if_neg (by decide), List.nil_append, show (4621819117588971520 : Nat) % 9223372036854775808 = 4621819117588971520 by omega]
  rw [body_num (by omega) (by omega), show magB 4621819117588971520 = 5 by decide +kernel, show exB 4621819117588971520 = 1 by decide +kernel]
  unfold Lib.itoa
  rw [if_neg (by decide), dec_small (by omega), dec_small (by decide)]
  decide
theorem no_six : ∀ f, f < 18446744073709551616 → textB f ≠ [54, 112, 45, 50] := by
  intro f hf h
  rcases text_split f _ h with ⟨a1, a2⟩ | ⟨a1, a2, a3, a4⟩
  · revert a2; decide
  · rw [(trim_pos 54 _ (by decide)).2] at a3
    by_cases r1 : f % 9223372036854775808 = 9218868437227405312
    · rw [r1, body_inf] at a3; revert a3; decide
    · by_cases r0 : f % 9223372036854775808 = 0
      · rw [r0, body_zero] at a3; revert a3; decide
      · obtain ⟨m1, m2, m3, x, m4, m5, m6⟩ := mag_spec (f % 9223372036854775808) (by omega) (by omega)
        obtain ⟨c1, c2⟩ := cut_body (r := f % 9223372036854775808) (by omega) (by omega)
        rw [← a3] at c1
        have u := uint53_dec _ m3
        rw [← c1] at u
        have u0 : uint53 (cutM [54, 112, 45, 50]) = .ok 6 := by decide
        rw [u0] at u
        injection u with u
        omega
theorem parse_3 (w : World) (hv : Vars w) : Calls Tryd.prog 21 #[.string ⟨#[51, 112, 45, 49]⟩] w fun e w' => e = .returned (.tuple #[.float .f64 4609434218613702656, .int .i64 0]) ∧ Below w.heap.size w w' := by
  refine (parse_any ⟨#[51, 112, 45, 49]⟩ (by decide) w hv).mono ?_
  rintro e w' ⟨⟨f, hf, ht, rfl⟩ | ⟨hno, _⟩, hb⟩
  · have e : textB f = textB 4609434218613702656 := ht.trans text_3.symm
    rw [text_inj hf (by omega) e, canonB_num ((nanB_false _).2 (by omega))]
    exact ⟨rfl, hb⟩
  · exact absurd text_3 (hno _ (by omega))
theorem parse_6 (w : World) (hv : Vars w) : Calls Tryd.prog 21 #[.string ⟨#[54, 112, 45, 50]⟩] w fun e w' => e = .returned (.tuple #[.float .f64 0, .int .i64 2]) ∧ Below w.heap.size w w' := by
  refine (parse_any ⟨#[54, 112, 45, 50]⟩ (by decide) w hv).mono ?_
  rintro e w' ⟨⟨f, hf, ht, rfl⟩ | ⟨hno, rfl⟩, hb⟩
  · exact absurd ht (no_six f hf)
  · exact ⟨rfl, hb⟩
theorem ag_shown (w : World) : Calls Tryd.prog 26 #[.int .i64 9007199254740993, .float .f64 4845873199050653696] w fun e w' => e = .returned (.tuple #[.int .i64 1, .bool true]) ∧ w = w' := by
  refine (against_any 9007199254740993 (by omega) (by omega) 4845873199050653696 (by omega) w).mono ?_
  rintro e w' ⟨rfl, rfl⟩
  rw [agV_num ((nanB_false _).2 (by omega)), cmpZ_gt]
  · exact ⟨rfl, rfl⟩
  · obtain ⟨j, hj, hu⟩ := unit_j
    have hup := unit_pos
    have : rv 4845873199050653696 = 9007199254740992 * unit := by
      unfold rv
      rw [hu, show sigR 4845873199050653696 = 2 ^ 52 by decide, show expR 4845873199050653696 = 1 + j by rw [hj]; decide, show (9007199254740992 : Nat) = 2 ^ 52 * 2 ^ 1 by decide, Nat.pow_add, Nat.mul_assoc]
    unfold sval
    rw [if_neg (by omega), this, Int.natCast_mul]
    have h2 : (9007199254740992 : Int) * unit < 9007199254740993 * unit := Int.mul_lt_mul_of_pos_right (by omega) (by omega)
    exact h2
theorem order_01 (w : World) : Calls Tryd.prog 17 #[.float .f64 0, .float .f64 4607182418800017408] w fun e w' => e = .returned (.int .i64 (-1)) ∧ w = w' := by
  refine (order_any 0 4607182418800017408 (by omega) (by omega) w).mono ?_
  rintro e w' ⟨rfl, rfl⟩
  rw [show ordB 0 4607182418800017408 = -1 from cmpN_lt (by
    rw [keyB_pos ((nanB_false _).2 (by omega)) (by omega), keyB_pos ((nanB_false _).2 (by omega)) (by omega)]; omega)]
  exact ⟨rfl, rfl⟩
theorem text_15 (w : World) (hv : Vars w) : Calls Tryd.prog 23 #[.float .f64 4609434218613702656] w fun e w' => e = .returned (.string ⟨#[51, 112, 45, 49]⟩) ∧ Below w.heap.size w w' := by
  have h := text_any 4609434218613702656 (by omega) w hv
  rwa [text_3] at h
theorem text_10 (w : World) (hv : Vars w) : Calls Tryd.prog 23 #[.float .f64 4621819117588971520] w fun e w' => e = .returned (.string ⟨#[53, 112, 49]⟩) ∧ Below w.heap.size w w' := by
  have h := text_any 4621819117588971520 (by omega) w hv
  rwa [text_5] at h
theorem text_nan (w : World) (hv : Vars w) : Calls Tryd.prog 23 #[.float .f64 9221120237041090561] w fun e w' => e = .returned (.string ⟨#[110, 97, 110]⟩) ∧ Below w.heap.size w w' := by
  have h := text_any 9221120237041090561 (by omega) w hv
  rwa [show textB 9221120237041090561 = [110, 97, 110] by unfold textB; rw [if_pos nan_canon]] at h

set_option maxRecDepth 100000 in
theorem shown_any (w : World) (hv : Vars w) : Calls Tryd.prog 12 #[] w fun e w' => e = .returned (.bool true) ∧ Below w.heap.size w w' := by
  have h15 : (FloatKind.f64.format.order 4609434218613702656 4609434218613702656 == some .eq) = true := by
    rw [ord_eq (by omega) (by omega) (by unfold nan; omega) (by unfold nan; omega)]; simp
  have HV := Lib.hid hv
  clear hv
  go_enter Tryd.func12, Tryd.ntmps12
  go_wp2_with fail
  refine (parse_3 w HV.out).mono ?_
  rintro e w1 ⟨rfl, hb1⟩
  have HV1 := Lib.hid (HV.out.below hb1)
  have HB1 := Lib.hid hb1
  clear hb1
  go_wp2_with fail
  refine (parse_6 w1 HV1.out).mono ?_
  rintro e w2 ⟨rfl, hb2⟩
  have HV2 := Lib.hid (HV1.out.below hb2)
  have HB2 := Lib.hid (HB1.out.trans (hb2.mono HB1.out.size))
  clear hb2
  go_wp2_with fail
  refine (ag_shown w2).mono ?_
  rintro e w3 ⟨rfl, rfl⟩
  go_wp2_with fail
  refine (text_15 w2 HV2.out).mono ?_
  rintro e w3 ⟨rfl, hb3⟩
  have HV3 := Lib.hid (HV2.out.below hb3)
  have HB3 := Lib.hid (HB2.out.trans (hb3.mono HB2.out.size))
  clear hb3
  go_wp2_with fail
  refine (text_10 w3 HV3.out).mono ?_
  rintro e w4 ⟨rfl, hb4⟩
  have HV4 := Lib.hid (HV3.out.below hb4)
  have HB4 := Lib.hid (HB3.out.trans (hb4.mono HB3.out.size))
  clear hb4
  go_wp2_with fail
  refine (order_01 w4).mono ?_
  rintro e w5 ⟨rfl, rfl⟩
  go_wp2_with fail
  refine (nan0_any w4).mono ?_
  rintro e w5 ⟨rfl, rfl⟩
  go_wp2_with fail
  refine (text_nan w4 HV4.out).mono ?_
  rintro e w6 ⟨rfl, hb6⟩
  have HB6 := Lib.hid (HB4.out.trans (hb6.mono HB4.out.size))
  clear hb6
  go_wp2_with fail
  go_ret
  exact ⟨rfl, HB6.out⟩
end Go.Proofs.YtnbpioinhjijcaaDoor
