/- Proved: 'bridlewaylaw01.NumBack' returns true for any bits of a float and any text, and leaves its input as it was; the package-level variables that the row lists are tied to the program's text (the card). No condition. -/
import Derived.Test.YtnbpioinhjijcaaDoorRow
import Derived.Test.YtnbpioinhjijcaaDoorTie
import Derived.Test.YtnbpioinhjijcaaDoorCards
import Derived.Test.YtnbpioinhjijcaaDoorShn
import Derived.ChangeMaps5
namespace Go.Proofs.YtnbpioinhjijcaaDoor
open Go.ChangeShapes Go.WideShapes Go.ChangeAt Go.RowKit

theorem body_len (r : Nat) (hr : r ≤ 9218868437227405312) : (bodyB r).length ≤ 90 := by
  by_cases h1 : r = 9218868437227405312
  · rw [h1, body_inf]; decide
  · by_cases h0 : r = 0
    · rw [h0, body_zero]; decide
    · rw [body_num (by omega) (by omega)]
      obtain ⟨m1, m2, m3, x, m4, m5, m6⟩ := mag_spec r (by omega) (by omega)
      have l1 := nDigits_le (magB r) (by omega)
      have l2 := itoa_le (exB r) (by omega) (by omega)
      simp; omega
theorem text_len (b : Nat) : (textB b).length ≤ 100 := by
  unfold textB
  cases h : nanB b with
  | true => rw [if_pos rfl]; decide
  | false =>
    rw [if_neg (by decide)]
    have := body_len (b % 9223372036854775808) ((nanB_false b).1 h)
    split <;> simp <;> omega
theorem text_canon (f : Nat) : textB (canonB f) = textB f := by
  cases h : nanB f with
  | true => rw [canonB_nan h]; unfold textB; rw [if_pos nan_canon, if_pos h]
  | false => rw [canonB_num h]
theorem canon_canon (f : Nat) : canonB (canonB f) = canonB f := by
  cases h : nanB f with
  | true => rw [canonB_nan h, canonB_nan nan_canon]
  | false => rw [canonB_num h, canonB_num h]
theorem canon_lt (f : Nat) (h : f < 18446744073709551616) : canonB f < 18446744073709551616 := canonB_lt f h
theorem parse_text (a : Nat) (ha : a < 18446744073709551616) (w : World) (hv : Vars w) : Calls Tryd.prog 21 #[.string ⟨(textB a).toArray⟩] w fun e w' => e = .returned (.tuple #[.float .f64 (canonB a), .int .i64 0]) ∧ Below w.heap.size w w' := by
  have hl := text_len a
  refine (parse_any ⟨(textB a).toArray⟩ (by show (textB a).toArray.size ≤ _; simp; omega) w hv).mono ?_
  rintro e w' ⟨⟨f, hf, ht, rfl⟩ | ⟨hno, _⟩, hb⟩
  · have e : textB f = textB a := ht
    rw [text_inj hf ha e]
    exact ⟨rfl, hb⟩
  · exact absurd rfl (hno a ha)
theorem cut50 (s : ByteArray) : ∃ q : Nat, (if (50 : Int) < (s.size : Int) then (50 : Int) else (s.size : Int)) = (q : Int) ∧ (0 : Int) ≤ (q : Int) ∧ (q : Int) ≤ (s.size : Int) ∧ (s.extract 0 q).size ≤ 50 ∧ min (s.size : Int) 50 = (q : Int) := by
  split
  · exact ⟨50, rfl, by omega, by omega, by simp; omega, by omega⟩
  · exact ⟨s.size, rfl, by omega, by omega, by simp; omega, by omega⟩

set_option maxRecDepth 100000 in
theorem back_walk (a : Nat) (s : ByteArray) (ha : a < 18446744073709551616) (w : World) (hv : Vars w) :
    Calls Tryd.prog 5 #[.int .u64 a, .string s] w fun e w' => e = .returned (.bool true) ∧ Below w.heap.size w w' := by
  have HS := Lib.hid (shown_any w hv)
  have HV := Lib.hid hv
  have HA := Lib.hid ha
  obtain ⟨q, hq, hq0, hq1, hq2, hq3⟩ := cut50 s
  have HQ2 := Lib.hid hq2
  clear hv ha hq2
  go_enter Tryd.func5, Tryd.ntmps5
  go_wp2_with fail
  refine HS.out.mono ?_
  rintro e w1 ⟨rfl, hb1⟩
  have HB1 := Lib.hid hb1
  have HV1 := Lib.hid (HV.out.below hb1)
  clear hb1
  go_wp2_with fail
  refine (of_any a w1).mono ?_
  rintro e w2 ⟨rfl, rfl⟩
  go_wp2_with fail
  refine (text_any a HA.out w1 HV1.out).mono ?_
  rintro e w2 ⟨rfl, hb2⟩
  have HB2 := Lib.hid (HB1.out.trans (hb2.mono HB1.out.size))
  have HV2 := Lib.hid (HV1.out.below hb2)
  clear hb2
  go_wp2_with fail
  refine (parse_text a HA.out w2 HV2.out).mono ?_
  rintro e w3 ⟨rfl, hb3⟩
  have HB3 := Lib.hid (HB2.out.trans (hb3.mono HB2.out.size))
  have HV3 := Lib.hid (HV2.out.below hb3)
  clear hb3
  go_wp2_with fail
  refine (canon_any a w3).mono ?_
  rintro e w4 ⟨rfl, rfl⟩
  go_wp2_with fail
  refine (same_any (canonB a) (canonB a) w3).mono ?_
  rintro e w4 ⟨rfl, rfl⟩
  go_wp2_with fail
  refine (parse_any (s.extract 0 q) (Nat.le_trans HQ2.out (by omega)) w3 HV3.out).mono ?_
  rintro e w4 ⟨hend, hb4⟩
  have HB4 := Lib.hid (HB3.out.trans (hb4.mono HB3.out.size))
  have HV4 := Lib.hid (HV3.out.below hb4)
  clear hb4
  rcases hend with ⟨f, hf, ht, rfl⟩ | ⟨hno, rfl⟩
  · obtain ⟨g, hg⟩ : ∃ g, canonB f = g := ⟨_, rfl⟩
    have hgl := canon_lt f hf
    have HTG := Lib.hid (show textB g = (s.extract 0 q).data.toList by rw [← hg, text_canon, ht])
    have HCG := Lib.hid (show canonB g = g by rw [← hg, canon_canon])
    rw [hg] at hgl
    rw [hg]
    have HGL := Lib.hid hgl
    clear hg ht hf hgl
    obtain ⟨T, hT⟩ : ∃ T, (s.extract 0 q) = T := ⟨_, rfl⟩
    rw [hT] at HTG
    have HTX := Lib.hid (show (⟨(textB g).toArray⟩ : ByteArray) = T by rw [HTG.out])
    have HXT := Lib.hid hT
    have hc := canon_any g
    rw [HCG.out] at hc
    have HC := Lib.hid hc
    have HTA := Lib.hid (fun w hv => text_any g HGL.out w hv)
    rw [HTX.out] at HTA
    rw [← hT] at HTA
    clear hT hc HTX
    go_wp2_with fail
    refine (HTA.out w4 HV4.out).mono ?_
    rintro e w5 ⟨rfl, hb5⟩
    have HB5 := Lib.hid (HB4.out.trans (hb5.mono HB4.out.size))
    clear hb5
    go_wp2_with fail
    refine (HC.out w5).mono ?_
    rintro e w6 ⟨rfl, rfl⟩
    go_wp2_with fail
    refine (same_any g g w5).mono ?_
    rintro e w6 ⟨rfl, rfl⟩
    go_wp2_with fail
    go_ret
    exact ⟨rfl, HB5.out⟩
  · clear hno
    go_wp2_with fail
    refine (same_any 0 0 w4).mono ?_
    rintro e w6 ⟨rfl, rfl⟩
    go_wp2_with fail
    go_ret
    exact ⟨rfl, HB4.out⟩

set_option maxRecDepth 100000 in
theorem back_lifted (os : Os) (started : os.Started) (H : Type) (enc : TypeId × Value → H) :
    ReturnsInHanded {} Tryd.checked os 5 .any (fun w args => (Rows.numBackSpec.pre enc Tryd.prog Tryd.f5 Rows.numBackRow.domain false w args ∧ laidMet Tryd.prog Rows.numBackRow.laid w) ∧ sizedMet enc Tryd.prog Tryd.f5 (OpenSpec.ofChange Rows.numBackSpec) false w args)
      (Rows.numBackSpec.post enc Tryd.prog Tryd.f5 false true false false) := by
  refine returnsInHanded_of_change_and (C := Tryd.checked) (X := fun w _ => laidMet Tryd.prog Rows.numBackRow.laid w) (fun _ _ _ hh h => h.of_heap hh) own started (by kernel_rfl) Tryd.func5
    (ChangeSpec.witness_at (enc := enc) (C := Tryd.checked) (os := os) (X := fun w _ => laidMet Tryd.prog Rows.numBackRow.laid w) false (laidWorld os) #[.int .u64 0, .string ⟨#[]⟩] 8 rfl (by kernel_rfl) (by kernel_rfl) (by kernel_rfl) (by kernel_rfl) (by kernel_rfl) (laid_met os _)) ?_
  intro W base args ds gs before hval0 hW hcnd0 _ hL _
  have hval : ∀ (j : Nat) t v, Tryd.f5.params[j]? = some t → args[j]? = some v → Value.okWide Tryd.prog W .any base t v := hval0
  have hvars := vars_of_laid (W := W) hL
  have hW' := hW
  obtain ⟨p, q, hA0, hV, rfl, hfz, hnd⟩ := hW
  have hA : DataW.TrodAll enc Tryd.prog W 0 (fun _ => true) true Tryd.f5.params.toList args.toList ds p := hA0
  rw [Tryd.params5] at hA hval
  obtain ⟨rfl, rfl⟩ := trodVars_none hV
  have hlt : ∀ x ∈ p, x.block < W.heap.size := fun x hx => hW'.lt x (by simp [hx])
  have hrd9 : Tryd.prog.readableRec 9 = true ∧ 9 < Tryd.prog.types.size := ⟨by kernel_rfl, of_decide_eq_true (by kernel_rfl)⟩
  have hrd22 : Tryd.prog.readableRec 22 = true ∧ 22 < Tryd.prog.types.size := ⟨by kernel_rfl, of_decide_eq_true (by kernel_rfl)⟩
  have hargs := fun (W' : World) (hb : Below W.heap.size W W') => trodAll_below laidOut hb (by simp only [List.mem_cons, List.not_mem_nil, or_false]; rintro t (rfl | rfl) <;> first | exact hrd9 | exact hrd22) hA hlt
  obtain ⟨v0, vs0, d0, ds0, p0, q0, hargs0, rfl, rfl, h0, r0⟩ := trodAll_cons hA
  obtain ⟨v1, vs1, d1, ds1, p1, q1, rfl, rfl, rfl, h1, r1⟩ := trodAll_cons r0
  obtain ⟨rfl, rfl, rfl⟩ := trodAll_nil r1
  obtain rfl : args = #[v0, v1] := by cases args; simp_all
  obtain ⟨a0, rfl, rfl, rfl, w0⟩ := open_int Tryd.underlying22 (hval 0 22 v0 rfl rfl) h0
  obtain ⟨x0, rfl, hx0⟩ := u64_of_wf w0
  obtain ⟨s1, rfl, rfl, rfl, hs1⟩ := Go.ChangeMaps.open_string Tryd.underlying9 (hval 1 9 v1 rfl rfl) h1
  clear hA0 hval0
  refine (back_walk x0 s1 hx0 W hvars).mono fun e W' ⟨he, hb⟩ => ?_
  subst he
  exact ⟨_, rfl, ⟨_, _, _, [], _, [], hW', trodAll_mk1 (shut_bool Tryd.underlying4 _), hargs W' hb, rfl, hb.frame _, fun h => by cases h⟩⟩

theorem back_over : Rows.NumBackSaid :=
  OpenClaim.holds_of_wide 5 Tryd.f5 rfl rfl rfl rfl rfl rfl rfl ⟨rfl, rfl, rfl, rfl, rfl⟩ rfl rfl rfl rfl rfl (by kernel_rfl) Tryd.func5 (by kernel_rfl)
    (of_decide_eq_true (by kernel_rfl)) (by unfold Func.isWrapper; first | (rw [if_pos (by decide +kernel)]; kernel_rfl) | (rw [if_neg (by decide +kernel)]; exact ⟨rfl, rfl⟩))
    (fun os started H enc _ => back_lifted os started H enc)

theorem back_proved : Rows.NumBackCardSaid :=
  Claim7.holds_tied_plain_at .later [] [.data, .data, .data, .sentinel, .sentinel] true (true, "7f84538c3e12298df9f8ce1369e67df473f76a916b9af3c6d42fcf7292796bf3") true
    back_over (fun _ h => by cases h) (by kernel_rfl) (fun _ h => by cases h) numBack_row_tie rfl ⟨rfl, rfl⟩ (by kernel_rfl) rfl
    (fun f fn hf hfn => by
      obtain rfl : f = 5 := Option.some.inj ((show Tryd.prog.funcNamed "bridleway/bridlewaylaw01.NumBack" = some 5 by kernel_rfl).symm.trans hf) |>.symm
      obtain rfl : fn = Tryd.f5 := (Option.some.inj (Tryd.func5.symm.trans hfn)).symm
      exact ⟨by kernel_rfl, fun j t ht => by
        rw [Tryd.params5] at ht
        have h3 : t = 22 ∨ t = 9 := by
          have hm := List.mem_of_getElem? (show ([22, 9] : List Nat)[j]? = some t by simpa using ht)
          simp only [List.mem_cons, List.not_mem_nil, or_false] at hm
          first | exact hm | (rcases hm with h | h <;> simp [h])
        rcases h3 with rfl | rfl
        · exact (show Tryd.prog.wantsStandIn 22 = false by kernel_rfl)
        · exact (show Tryd.prog.wantsStandIn 9 = false by kernel_rfl)⟩)
    (by kernel_rfl)
end Go.Proofs.YtnbpioinhjijcaaDoor
