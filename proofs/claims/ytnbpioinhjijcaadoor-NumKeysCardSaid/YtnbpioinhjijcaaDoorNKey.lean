/- Proved: 'bridlewaylaw01.NumKeys' returns true for any three numbers, and leaves its input as it was; the package-level variables that the row lists are tied to the program's text (the card). No condition. -/
import Derived.Test.YtnbpioinhjijcaaDoorRow
import Derived.Test.YtnbpioinhjijcaaDoorTie
import Derived.Test.YtnbpioinhjijcaaDoorCards
import Derived.Test.YtnbpioinhjijcaaDoorShn
import Derived.ChangeMaps5
namespace Go.Proofs.YtnbpioinhjijcaaDoor
open Go.ChangeShapes Go.WideShapes Go.ChangeAt Go.RowKit

theorem ofKeyV_key (a : Nat) (ha : a < 18446744073709551616) : ofKeyV (keyB a) = .tuple #[.float .f64 (canonB a), .bool true] := by
  rw [ofKeyV_yes (by rw [ofKeyB_keyB a ha, keyB_canonB]), ofKeyB_keyB a ha]
/-- The keys of floats: all but the greatest and the least. -/
theorem key_of_mid {k : Nat} (h0 : 4503599627370496 ≤ k) (h1 : k ≤ 18442240474082181119) : keyB (ofKeyB k) = k := by
  by_cases hs : 9223372036854775808 ≤ k
  · rw [ofKeyB_low (by omega) hs, lowB_eq, keyB_pos ((nanB_false _).2 (by omega)) (by omega)]; omega
  · rw [ofKeyB_not (by omega) hs, notB_eq, keyB_neg ((nanB_false _).2 (by omega)) (by omega)]; omega
theorem cmpN_swap (a b : Nat) : cmpN b a = -cmpN a b := by
  rcases Nat.lt_trichotomy a b with h | h | h
  · simp [cmpN_lt h, cmpN_gt h]
  · simp [cmpN_eq h, cmpN_eq h.symm]
  · simp [cmpN_lt h, cmpN_gt h]
theorem cmpN_three (a b : Nat) : (cmpN a b = -1 ∧ a < b) ∨ (cmpN a b = 0 ∧ a = b) ∨ (cmpN a b = 1 ∧ b < a) := by
  rcases Nat.lt_trichotomy a b with h | h | h
  · exact .inl ⟨cmpN_lt h, h⟩
  · exact .inr (.inl ⟨cmpN_eq h, h⟩)
  · exact .inr (.inr ⟨cmpN_gt h, h⟩)

set_option maxHeartbeats 4000000 in
set_option maxRecDepth 100000 in
theorem keys_walk (a b k : Nat) (ha : a < 18446744073709551616) (hb : b < 18446744073709551616) (hk : k < 18446744073709551616) (w : World) (hv : Vars w) :
    Calls Tryd.prog 10 #[.int .u64 a, .int .u64 b, .int .u64 k] w fun e w' => e = .returned (.bool true) ∧ Below w.heap.size w w' := by
  have HS := Lib.hid (shown_any w hv)
  obtain ⟨o, ho⟩ : ∃ o, ordB a b = o := ⟨_, rfl⟩
  have ho2 : ordB b a = -o := by rw [← ho]; exact cmpN_swap _ _
  have hthree : (o = -1 ∧ keyB a < keyB b) ∨ (o = 0 ∧ keyB a = keyB b) ∨ (o = 1 ∧ keyB b < keyB a) := by rw [← ho]; exact cmpN_three _ _
  have HKA := Lib.hid (fun w => key_any a ha w)
  have HKB := Lib.hid (fun w => key_any b hb w)
  have HO1 := Lib.hid (fun w => order_any a b ha hb w)
  have HO2 := Lib.hid (fun w => order_any b a hb ha w)
  rw [ho] at HO1
  rw [ho2] at HO2
  have HF1 := Lib.hid (fun w => ofKey_nat (keyB a) (keyB_lt a ha) w)
  rw [ofKeyV_key a ha] at HF1
  have HF2 := Lib.hid (fun w => ofKey_nat k hk w)
  have HCN := Lib.hid (fun w => canon_any a w)
  have HLT := Lib.hid (ofKeyB_lt k hk)
  have HKF := Lib.hid (fun w => key_any (ofKeyB k) (ofKeyB_lt k hk) w)
  have HMID := Lib.hid (fun (h0 : 4503599627370496 ≤ k) (h1 : k ≤ 18442240474082181119) => key_of_mid h0 h1)
  generalize keyB a = ka at *
  generalize keyB b = kb at *
  generalize canonB a = ca at *
  clear ho ho2 ha hb hk hv
  by_cases hyes : keyB (ofKeyB k) = k
  · rw [ofKeyV_yes hyes] at HF2
    rw [hyes] at HKF
    clear hyes
    generalize ofKeyB k = fk at *
    rcases hthree with ⟨rfl, hlt⟩ | ⟨rfl, rfl⟩ | ⟨rfl, hlt⟩
    all_goals (try have c2 : decide (kb < ka) = false := by simp; omega)
    all_goals (try have c2 : decide (ka < kb) = false := by simp; omega)
    all_goals
      go_enter Tryd.func10, Tryd.ntmps10
      go_wp2_with fail
      refine HS.out.mono ?_
      rintro e w1 ⟨rfl, hb1⟩
      have HB1 := Lib.hid hb1
      clear hb1
      go_wp2_with fail
      refine (of_any a w1).mono ?_
      rintro e w2 ⟨rfl, rfl⟩
      go_wp2_with fail
      refine (of_any b w1).mono ?_
      rintro e w2 ⟨rfl, rfl⟩
      go_wp2_with fail
      refine (HKA.out w1).mono ?_
      rintro e w2 ⟨rfl, rfl⟩
      go_wp2_with fail
      refine (HKB.out w1).mono ?_
      rintro e w2 ⟨rfl, rfl⟩
      go_wp2_with fail
      refine (HKA.out w1).mono ?_
      rintro e w2 ⟨rfl, rfl⟩
      go_wp2_with fail
      refine (HKB.out w1).mono ?_
      rintro e w2 ⟨rfl, rfl⟩
      go_wp2_with fail
      refine (HO1.out w1).mono ?_
      rintro e w2 ⟨rfl, rfl⟩
      go_wp2_with fail
      refine (HKA.out w1).mono ?_
      rintro e w2 ⟨rfl, rfl⟩
      go_wp2_with fail
      refine (HF1.out w1).mono ?_
      rintro e w2 ⟨rfl, rfl⟩
      go_wp2_with fail
      refine (HF2.out w1).mono ?_
      rintro e w2 ⟨rfl, rfl⟩
      go_wp2_with fail
      refine (HCN.out w1).mono ?_
      rintro e w2 ⟨rfl, rfl⟩
      go_wp2_with fail
      refine (same_any ca ca w1).mono ?_
      rintro e w2 ⟨rfl, rfl⟩
      go_wp2_with fail
      refine (HO2.out w1).mono ?_
      rintro e w2 ⟨rfl, rfl⟩
      go_wp2_with fail
      refine (HKF.out w1).mono ?_
      rintro e w2 ⟨rfl, rfl⟩
      go_wp2_with fail
      go_ret
      exact ⟨rfl, HB1.out⟩
  · have hout : k < 4503599627370496 ∨ 18442240474082181119 < k := by
      rcases Nat.lt_or_ge k 4503599627370496 with h | h
      · exact .inl h
      · rcases Nat.lt_or_ge 18442240474082181119 k with g | g
        · exact .inr g
        · exact absurd (HMID.out h g) hyes
    rw [ofKeyV_no hyes] at HF2
    clear hyes HMID HKF HLT
    rcases hout with hout | hout
    · have e1 : decide ((k : Int) < 4503599627370496) = true := by simp; omega
      clear hout
      rcases hthree with ⟨rfl, hlt⟩ | ⟨rfl, rfl⟩ | ⟨rfl, hlt⟩
      all_goals (try have c2 : decide (kb < ka) = false := by simp; omega)
      all_goals (try have c2 : decide (ka < kb) = false := by simp; omega)
      all_goals
        go_enter Tryd.func10, Tryd.ntmps10
        go_wp2_with fail
        refine HS.out.mono ?_
        rintro e w1 ⟨rfl, hb1⟩
        have HB1 := Lib.hid hb1
        clear hb1
        go_wp2_with fail
        refine (of_any a w1).mono ?_
        rintro e w2 ⟨rfl, rfl⟩
        go_wp2_with fail
        refine (of_any b w1).mono ?_
        rintro e w2 ⟨rfl, rfl⟩
        go_wp2_with fail
        refine (HKA.out w1).mono ?_
        rintro e w2 ⟨rfl, rfl⟩
        go_wp2_with fail
        refine (HKB.out w1).mono ?_
        rintro e w2 ⟨rfl, rfl⟩
        go_wp2_with fail
        refine (HKA.out w1).mono ?_
        rintro e w2 ⟨rfl, rfl⟩
        go_wp2_with fail
        refine (HKB.out w1).mono ?_
        rintro e w2 ⟨rfl, rfl⟩
        go_wp2_with fail
        refine (HO1.out w1).mono ?_
        rintro e w2 ⟨rfl, rfl⟩
        go_wp2_with fail
        refine (HKA.out w1).mono ?_
        rintro e w2 ⟨rfl, rfl⟩
        go_wp2_with fail
        refine (HF1.out w1).mono ?_
        rintro e w2 ⟨rfl, rfl⟩
        go_wp2_with fail
        refine (HF2.out w1).mono ?_
        rintro e w2 ⟨rfl, rfl⟩
        go_wp2_with fail
        refine (HCN.out w1).mono ?_
        rintro e w2 ⟨rfl, rfl⟩
        go_wp2_with fail
        refine (same_any ca ca w1).mono ?_
        rintro e w2 ⟨rfl, rfl⟩
        go_wp2_with fail
        refine (HO2.out w1).mono ?_
        rintro e w2 ⟨rfl, rfl⟩
        go_wp2_with fail
        refine (same_any 0 0 w1).mono ?_
        rintro e w2 ⟨rfl, rfl⟩
        go_wp2_with fail
        go_ret
        exact ⟨rfl, HB1.out⟩
    · have e1 : decide ((k : Int) < 4503599627370496) = false := by simp; omega
      have e2 : decide ((18442240474082181119 : Int) < (k : Int)) = true := by simp; omega
      clear hout
      rcases hthree with ⟨rfl, hlt⟩ | ⟨rfl, rfl⟩ | ⟨rfl, hlt⟩
      all_goals (try have c2 : decide (kb < ka) = false := by simp; omega)
      all_goals (try have c2 : decide (ka < kb) = false := by simp; omega)
      all_goals
        go_enter Tryd.func10, Tryd.ntmps10
        go_wp2_with fail
        refine HS.out.mono ?_
        rintro e w1 ⟨rfl, hb1⟩
        have HB1 := Lib.hid hb1
        clear hb1
        go_wp2_with fail
        refine (of_any a w1).mono ?_
        rintro e w2 ⟨rfl, rfl⟩
        go_wp2_with fail
        refine (of_any b w1).mono ?_
        rintro e w2 ⟨rfl, rfl⟩
        go_wp2_with fail
        refine (HKA.out w1).mono ?_
        rintro e w2 ⟨rfl, rfl⟩
        go_wp2_with fail
        refine (HKB.out w1).mono ?_
        rintro e w2 ⟨rfl, rfl⟩
        go_wp2_with fail
        refine (HKA.out w1).mono ?_
        rintro e w2 ⟨rfl, rfl⟩
        go_wp2_with fail
        refine (HKB.out w1).mono ?_
        rintro e w2 ⟨rfl, rfl⟩
        go_wp2_with fail
        refine (HO1.out w1).mono ?_
        rintro e w2 ⟨rfl, rfl⟩
        go_wp2_with fail
        refine (HKA.out w1).mono ?_
        rintro e w2 ⟨rfl, rfl⟩
        go_wp2_with fail
        refine (HF1.out w1).mono ?_
        rintro e w2 ⟨rfl, rfl⟩
        go_wp2_with fail
        refine (HF2.out w1).mono ?_
        rintro e w2 ⟨rfl, rfl⟩
        go_wp2_with fail
        refine (HCN.out w1).mono ?_
        rintro e w2 ⟨rfl, rfl⟩
        go_wp2_with fail
        refine (same_any ca ca w1).mono ?_
        rintro e w2 ⟨rfl, rfl⟩
        go_wp2_with fail
        refine (HO2.out w1).mono ?_
        rintro e w2 ⟨rfl, rfl⟩
        go_wp2_with fail
        refine (same_any 0 0 w1).mono ?_
        rintro e w2 ⟨rfl, rfl⟩
        go_wp2_with fail
        go_ret
        exact ⟨rfl, HB1.out⟩

set_option maxRecDepth 100000 in
theorem keys_lifted (os : Os) (started : os.Started) (H : Type) (enc : TypeId × Value → H) :
    ReturnsInHanded {} Tryd.checked os 10 .any (fun w args => (Rows.numKeysSpec.pre enc Tryd.prog Tryd.f10 Rows.numKeysRow.domain false w args ∧ laidMet Tryd.prog Rows.numKeysRow.laid w) ∧ sizedMet enc Tryd.prog Tryd.f10 (OpenSpec.ofChange Rows.numKeysSpec) false w args)
      (Rows.numKeysSpec.post enc Tryd.prog Tryd.f10 false true false false) := by
  refine returnsInHanded_of_change_and (C := Tryd.checked) (X := fun w _ => laidMet Tryd.prog Rows.numKeysRow.laid w) (fun _ _ _ hh h => h.of_heap hh) own started (by kernel_rfl) Tryd.func10
    (ChangeSpec.witness_at (enc := enc) (C := Tryd.checked) (os := os) (X := fun w _ => laidMet Tryd.prog Rows.numKeysRow.laid w) false (laidWorld os) #[.int .u64 0, .int .u64 0, .int .u64 0] 8 rfl (by kernel_rfl) (by kernel_rfl) (by kernel_rfl) (by kernel_rfl) (by kernel_rfl) (laid_met os _)) ?_
  intro W base args ds gs before hval0 hW hcnd0 _ hL _
  have hval : ∀ (j : Nat) t v, Tryd.f10.params[j]? = some t → args[j]? = some v → Value.okWide Tryd.prog W .any base t v := hval0
  have hvars := vars_of_laid (W := W) hL
  have hW' := hW
  obtain ⟨p, q, hA0, hV, rfl, hfz, hnd⟩ := hW
  have hA : DataW.TrodAll enc Tryd.prog W 0 (fun _ => true) true Tryd.f10.params.toList args.toList ds p := hA0
  rw [Tryd.params10] at hA hval
  obtain ⟨rfl, rfl⟩ := trodVars_none hV
  have hlt : ∀ x ∈ p, x.block < W.heap.size := fun x hx => hW'.lt x (by simp [hx])
  have hrd22 : Tryd.prog.readableRec 22 = true ∧ 22 < Tryd.prog.types.size := ⟨by kernel_rfl, of_decide_eq_true (by kernel_rfl)⟩
  have hargs := fun (W' : World) (hb : Below W.heap.size W W') => trodAll_below laidOut hb (by simp only [List.mem_cons, List.not_mem_nil, or_false]; rintro t (rfl | rfl | rfl) <;> first | exact hrd22) hA hlt
  obtain ⟨v0, vs0, d0, ds0, p0, q0, hargs0, rfl, rfl, h0, r0⟩ := trodAll_cons hA
  obtain ⟨v1, vs1, d1, ds1, p1, q1, rfl, rfl, rfl, h1, r1⟩ := trodAll_cons r0
  obtain ⟨v2, vs2, d2, ds2, p2, q2, rfl, rfl, rfl, h2, r2⟩ := trodAll_cons r1
  obtain ⟨rfl, rfl, rfl⟩ := trodAll_nil r2
  obtain rfl : args = #[v0, v1, v2] := by cases args; simp_all
  obtain ⟨a0, rfl, rfl, rfl, w0⟩ := open_int Tryd.underlying22 (hval 0 22 v0 rfl rfl) h0
  obtain ⟨x0, rfl, hx0⟩ := u64_of_wf w0
  obtain ⟨a1, rfl, rfl, rfl, w1⟩ := open_int Tryd.underlying22 (hval 1 22 v1 rfl rfl) h1
  obtain ⟨x1, rfl, hx1⟩ := u64_of_wf w1
  obtain ⟨a2, rfl, rfl, rfl, w2⟩ := open_int Tryd.underlying22 (hval 2 22 v2 rfl rfl) h2
  obtain ⟨x2, rfl, hx2⟩ := u64_of_wf w2
  clear hA0 hval0
  refine (keys_walk x0 x1 x2 hx0 hx1 hx2 W hvars).mono fun e W' ⟨he, hb⟩ => ?_
  subst he
  exact ⟨_, rfl, ⟨_, _, _, [], _, [], hW', trodAll_mk1 (shut_bool Tryd.underlying4 _), hargs W' hb, rfl, hb.frame _, fun h => by cases h⟩⟩

theorem keys_over : Rows.NumKeysSaid :=
  OpenClaim.holds_of_wide 10 Tryd.f10 rfl rfl rfl rfl rfl rfl rfl ⟨rfl, rfl, rfl, rfl, rfl⟩ rfl rfl rfl rfl rfl (by kernel_rfl) Tryd.func10 (by kernel_rfl)
    (of_decide_eq_true (by kernel_rfl)) (by unfold Func.isWrapper; first | (rw [if_pos (by decide +kernel)]; kernel_rfl) | (rw [if_neg (by decide +kernel)]; exact ⟨rfl, rfl⟩))
    (fun os started H enc _ => keys_lifted os started H enc)

theorem keys_proved : Rows.NumKeysCardSaid :=
  Claim7.holds_tied_plain_at .later [] [.data, .data, .data, .sentinel, .sentinel] true (true, "7f84538c3e12298df9f8ce1369e67df473f76a916b9af3c6d42fcf7292796bf3") true
    keys_over (fun _ h => by cases h) (by kernel_rfl) (fun _ h => by cases h) numKeys_row_tie rfl ⟨rfl, rfl⟩ (by kernel_rfl) rfl
    (fun f fn hf hfn => by
      obtain rfl : f = 10 := Option.some.inj ((show Tryd.prog.funcNamed "bridleway/bridlewaylaw01.NumKeys" = some 10 by kernel_rfl).symm.trans hf) |>.symm
      obtain rfl : fn = Tryd.f10 := (Option.some.inj (Tryd.func10.symm.trans hfn)).symm
      exact ⟨by kernel_rfl, fun j t ht => by
        rw [Tryd.params10] at ht
        have h3 : t = 22 := by
          have hm := List.mem_of_getElem? (show ([22, 22, 22] : List Nat)[j]? = some t by simpa using ht)
          simp only [List.mem_cons, List.not_mem_nil, or_false] at hm
          first | exact hm | (rcases hm with h | h | h <;> simp [h])
        subst h3
        exact (show Tryd.prog.wantsStandIn 22 = false by kernel_rfl)⟩)
    (by kernel_rfl)
end Go.Proofs.YtnbpioinhjijcaaDoor
