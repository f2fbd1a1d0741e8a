import Derived.Test.YtnbpioinhjijcaaDoorRT1
/-! NumParsed. -/
namespace Go.Proofs.YtnbpioinhjijcaaDoor
open Go.RowKit Bk

theorem mask53 (n : Int) : bits .and .i64 n 9007199254740991 = n % 9007199254740992 := by
  have h127 : (BitVec.ofInt 64 9007199254740991).toNat = 2 ^ 53 - 1 := by decide
  have key : (BitVec.ofInt 64 n &&& BitVec.ofInt 64 9007199254740991).toNat = (n % ((2 ^ 64 : Nat) : Int)).toNat % 2 ^ 53 := by
    rw [BitVec.toNat_and, BitVec.toNat_ofInt, h127, Nat.and_two_pow_sub_one_eq_mod]
  show IntKind.i64.wrap ((BitVec.ofInt 64 n &&& BitVec.ofInt 64 9007199254740991).toNat : Nat) = _
  rw [key, IntKind.wrap_i64]
  omega
theorem mask16 (n : Int) : bits .and .i64 n 65535 = n % 65536 := by
  have h127 : (BitVec.ofInt 64 65535).toNat = 2 ^ 16 - 1 := by decide
  have key : (BitVec.ofInt 64 n &&& BitVec.ofInt 64 65535).toNat = (n % ((2 ^ 64 : Nat) : Int)).toNat % 2 ^ 16 := by
    rw [BitVec.toNat_and, BitVec.toNat_ofInt, h127, Nat.and_two_pow_sub_one_eq_mod]
  show IntKind.i64.wrap ((BitVec.ofInt 64 n &&& BitVec.ofInt 64 65535).toNat : Nat) = _
  rw [key, IntKind.wrap_i64]
  omega
theorem or_one (x : Nat) (h : x < 9007199254740992) : ∃ m : Nat, bits .or .i64 (x : Int) 1 = (m : Int) ∧ m % 2 = 1 ∧ m < 9007199254740992 := by
  refine ⟨x ||| 1, ?_, ?_, ?_⟩
  · have hb : x ||| 1 < 2 ^ 53 := Nat.or_lt_two_pow h (by decide)
    have h1 : (BitVec.ofInt 64 (x : Int)).toNat = x := by rw [BitVec.toNat_ofInt]; omega
    have h2 : (BitVec.ofInt 64 (1 : Int)).toNat = 1 := by decide
    have key : (BitVec.ofInt 64 (x : Int) ||| BitVec.ofInt 64 1).toNat = x ||| 1 := by rw [BitVec.toNat_or, h1, h2]
    show IntKind.i64.wrap ((BitVec.ofInt 64 (x : Int) ||| BitVec.ofInt 64 1).toNat : Nat) = _
    rw [key, IntKind.wrap_i64]
    omega
  · rw [Nat.or_mod_two_eq_one]; right; rfl
  · exact Nat.or_lt_two_pow (n := 53) h (by decide)
theorem m_odd (m : Int) : ∃ m0 : Nat, bits .or .i64 (bits .and .i64 m 9007199254740991) 1 = (m0 : Int) ∧ m0 % 2 = 1 ∧ m0 < 9007199254740992 := by
  rw [mask53]
  obtain ⟨x, hx⟩ : ∃ x : Nat, m % 9007199254740992 = (x : Int) := ⟨(m % 9007199254740992).toNat, by omega⟩
  rw [hx]
  exact or_one x (by omega)

theorem half_pow (m j : Nat) : m / 2 ^ j / 2 = m / 2 ^ (j + 1) := by rw [Nat.div_div_eq_div_mul, Nat.pow_succ]
theorem bits_more {m j : Nat} (h0 : 0 < m) (h : 0 < m / 2 ^ j) : j + 1 ≤ m.log2 + 1 := by
  have h1 : 2 ^ j ≤ m := by
    rcases Nat.lt_or_ge m (2 ^ j) with h2 | h2
    · rw [Nat.div_eq_of_lt h2] at h; omega
    · exact h2
  have := (Nat.le_log2 (show m ≠ 0 by omega)).2 h1
  omega
theorem bits_done {m j : Nat} (h0 : 0 < m) (hj : j ≤ m.log2 + 1) (h : ¬ 0 < m / 2 ^ j) : j = m.log2 + 1 := by
  rcases Nat.lt_or_ge m (2 ^ j) with h2 | h2
  · have := (Nat.log2_lt (show m ≠ 0 by omega)).2 h2
    omega
  · exfalso
    have := Nat.div_pos h2 (Nat.two_pow_pos j)
    omega
set_option maxHeartbeats 2000000 in
set_option maxRecDepth 100000 in
theorem parsed_true (m e : Int) (m0 : Nat) (e0 : Int) (F : Nat) (hm : bits .or .i64 (bits .and .i64 m 9007199254740991) 1 = (m0 : Int)) (he : (e % 65536).tmod 2401 = e0 + 1200)
   (hml : m0 < 9007199254740992) (hmp : 0 < m0) (hel : -1200 ≤ e0 ∧ e0 ≤ 1200)
   (hyes : -1074 ≤ e0 → e0 + ((m0.log2 + 1 : Nat) : Int) ≤ 1024 → ∀ w, Vars w → Calls Tryd.prog 21 #[.string ⟨([45] ++ (Lib.decDigits m0 ++ [112] ++ Lib.itoa e0)).toArray⟩] w fun e w' => e = .returned (.tuple #[.float .f64 F, .int .i64 0]) ∧ Below w.heap.size w w')
   (hno : ¬ (-1074 ≤ e0 ∧ e0 + ((m0.log2 + 1 : Nat) : Int) ≤ 1024) → ∀ w, Vars w → Calls Tryd.prog 21 #[.string ⟨([45] ++ (Lib.decDigits m0 ++ [112] ++ Lib.itoa e0)).toArray⟩] w fun e w' => e = .returned (.tuple #[.float .f64 0, .int .i64 2]) ∧ Below w.heap.size w w')
   (htx : -1074 ≤ e0 → e0 + ((m0.log2 + 1 : Nat) : Int) ≤ 1024 → ∀ w, Vars w → Calls Tryd.prog 23 #[.float .f64 F] w fun e w' => e = .returned (.string ⟨([45] ++ (Lib.decDigits m0 ++ [112] ++ Lib.itoa e0)).toArray⟩) ∧ Below w.heap.size w w')
   (hord : -1074 ≤ e0 → e0 + ((m0.log2 + 1 : Nat) : Int) ≤ 1024 → (FloatKind.f64.format.order F 0 == some .lt) = true)
   (w : World) (hv : Vars w) :
    Calls Tryd.prog 9 #[.int .i64 m, .int .i64 e, .bool true] w fun e w' => e = .returned (.bool true) ∧ Below w.heap.size w w' := by
  have HS := Lib.hid (shown_any w hv)
  have HV := Lib.hid hv
  have hmk := mask16 e
  have hwe : wrap64 e0 = e0 := by unfold wrap64; omega
  have h00 : (FloatKind.f64.format.order 0 0 == some .eq) = true := by rw [ord_eq (by omega) (by omega) (nan_pos (by omega)) (nan_pos (by omega))]; simp
  have HD := Lib.hid (digits_any m0 (by omega))
  have HG := Lib.hid (signed_any e0 (by omega) (by omega))
  have l1 := nDigits_le m0 (by omega)
  have l2 := itoa_le e0 (by omega) (by omega)
  have HLG := Lib.hid (show m0.log2 ≤ 52 by
    have := (Nat.log2_lt (show m0 ≠ 0 by omega)).2 (show m0 < 2 ^ 53 by omega)
    omega)
  generalize Lib.decDigits m0 = D at *
  generalize Lib.itoa e0 = I at *
  have a1 := str_add D [112] _ rfl (by simp; omega)
  have a2 := str_add (D ++ [112]) I _ rfl (by simp; omega)
  have a3 := str_add [45] (D ++ [112] ++ I) _ rfl (by simp; omega)
  generalize [45] ++ (D ++ [112] ++ I) = S2 at *
  generalize (D ++ [112] ++ I) = S1 at *
  generalize D ++ [112] = X1 at *
  have HYES := Lib.hid hyes
  have HNO := Lib.hid hno
  have HTX := Lib.hid htx
  have HORD := Lib.hid hord
  have HML := Lib.hid hml
  have HMP := Lib.hid hmp
  have HEL := Lib.hid hel
  clear hv hml hel l1 l2 hyes hno htx hord hmp
  go_enter Tryd.func9, Tryd.ntmps9
  go_wp2_with fail
  refine HS.out.mono ?_
  rintro e w1 ⟨rfl, hb1⟩
  have HV1 := Lib.hid (HV.out.below hb1)
  have HB1 := Lib.hid hb1
  clear hb1
  go_wp2_with fail
  refine (HD.out w1).mono ?_
  rintro e w2 ⟨rfl, hb2⟩
  have HV2 := Lib.hid (HV1.out.below hb2)
  have HB2 := Lib.hid (HB1.out.trans (hb2.mono HB1.out.size))
  clear hb2
  go_wp2_with fail
  refine (HG.out w2).mono ?_
  rintro e w3 ⟨rfl, hb3⟩
  have HV3 := Lib.hid (HV2.out.below hb3)
  have HB3 := Lib.hid (HB2.out.trans (hb3.mono HB2.out.size))
  clear hb3
  go_wp2_with fail
  clear HS HV HV1 HV2 HB1 HB2 HD HG hm he hmk hwe
  go_loopw [9, 10, 33, 34, 35, 36, 37, 38] (fun v9 v10 _ _ _ _ _ _ wr => ∃ j n : Nat, v9 = .int .i64 (j : Int) ∧ v10 = .int .i64 (n : Int) ∧ wr = w3 ∧ Hid (n = m0 / 2 ^ j ∧ j ≤ m0.log2 + 1)) (fun _ v10 _ _ _ _ _ _ _ => (intOf v10).toNat)
  case atStart =>
    exact ⟨0, m0, rfl, rfl, rfl, Lib.hid ⟨by simp, by omega⟩⟩
  case round =>
    obtain ⟨j, n, rfl, rfl, rfl, HI⟩ := hrel
    have HJ := Lib.hid (show j ≤ 53 by have := HI.out.2; have := HLG.out; omega)
    by_cases hn : 0 < n
    · have hn1 : (0 : Int) < (n : Int) := by omega
      have HNN := Lib.hid (show n < 9007199254740992 by
        have h1 := HI.out.1
        have h2 := HML.out
        have h3 := Nat.div_le_self m0 (2 ^ j)
        rw [← h1] at h3
        omega)
      have HK := Lib.hid (bits_more HMP.out (by rw [← HI.out.1]; exact hn))
      have HH := Lib.hid (half_pow m0 j)
      go_wp2_with fail
      have h1 := HI.out.1
      have h5 := HNN.out
      have h6 := HJ.out
      have e1 : wrap64 ((j : Int) + 1) = ((j + 1 : Nat) : Int) := by clear h1; unfold wrap64; omega
      have e2 : wrap64 ((n : Int) / 2) = ((n / 2 : Nat) : Int) := by clear h1; unfold wrap64; omega
      refine ⟨⟨j + 1, n / 2, by rw [e1], by rw [e2], trivial, Lib.hid ⟨by rw [h1, HH.out], HK.out⟩⟩, ?_⟩
      rw [e2]; simp only [intOf]; clear h1; omega
    · have hn0 : n = 0 := by omega
      subst hn0
      have HJ2 := Lib.hid (bits_done HMP.out HI.out.2 (by rw [← HI.out.1]; omega))
      have hE2 : wrap64 (e0 + (j : Int)) = e0 + (j : Int) := by have := HEL.out; have := HJ.out; unfold wrap64; omega
      by_cases hlow : -1074 ≤ e0
      · by_cases hhi : e0 + (j : Int) ≤ 1024
        · have hy := HYES.out hlow (by rw [← HJ2.out]; exact hhi)
          have ho := HORD.out hlow (by rw [← HJ2.out]; exact hhi)
          have HT := Lib.hid (HTX.out hlow (by rw [← HJ2.out]; exact hhi))
          clear HYES HNO HTX HORD hn
          go_wp2_with fail
          refine (hy wr HV3.out).mono ?_
          rintro e w4 ⟨rfl, hb4⟩
          have HV4 := Lib.hid (HV3.out.below hb4)
          have HB4 := Lib.hid (HB3.out.trans (hb4.mono HB3.out.size))
          clear hb4
          go_wp2_with fail
          refine (HT.out w4 HV4.out).mono ?_
          rintro e w5 ⟨rfl, hb5⟩
          have HB5 := Lib.hid (HB4.out.trans (hb5.mono HB4.out.size))
          clear hb5
          go_wp2_with fail
          go_ret
          exact ⟨rfl, HB5.out⟩
        · have hq := HNO.out (fun h => hhi (by rw [HJ2.out]; exact h.2))
          clear HYES HNO HTX HORD hn
          go_wp2_with fail
          refine (hq wr HV3.out).mono ?_
          rintro e w4 ⟨rfl, hb4⟩
          have HB4 := Lib.hid (HB3.out.trans (hb4.mono HB3.out.size))
          clear hb4
          go_wp2_with fail
          go_ret
          exact ⟨rfl, HB4.out⟩
      · have hq := HNO.out (fun h => hlow h.1)
        clear HYES HNO HTX HORD hn
        go_wp2_with fail
        refine (hq wr HV3.out).mono ?_
        rintro e w4 ⟨rfl, hb4⟩
        have HB4 := Lib.hid (HB3.out.trans (hb4.mono HB3.out.size))
        clear hb4
        go_wp2_with fail
        go_ret
        exact ⟨rfl, HB4.out⟩
set_option maxHeartbeats 2000000 in
set_option maxRecDepth 100000 in
theorem parsed_false (m e : Int) (m0 : Nat) (e0 : Int) (F : Nat) (hm : bits .or .i64 (bits .and .i64 m 9007199254740991) 1 = (m0 : Int)) (he : (e % 65536).tmod 2401 = e0 + 1200)
   (hml : m0 < 9007199254740992) (hmp : 0 < m0) (hel : -1200 ≤ e0 ∧ e0 ≤ 1200)
   (hyes : -1074 ≤ e0 → e0 + ((m0.log2 + 1 : Nat) : Int) ≤ 1024 → ∀ w, Vars w → Calls Tryd.prog 21 #[.string ⟨(Lib.decDigits m0 ++ [112] ++ Lib.itoa e0).toArray⟩] w fun e w' => e = .returned (.tuple #[.float .f64 F, .int .i64 0]) ∧ Below w.heap.size w w')
   (hno : ¬ (-1074 ≤ e0 ∧ e0 + ((m0.log2 + 1 : Nat) : Int) ≤ 1024) → ∀ w, Vars w → Calls Tryd.prog 21 #[.string ⟨(Lib.decDigits m0 ++ [112] ++ Lib.itoa e0).toArray⟩] w fun e w' => e = .returned (.tuple #[.float .f64 0, .int .i64 2]) ∧ Below w.heap.size w w')
   (htx : -1074 ≤ e0 → e0 + ((m0.log2 + 1 : Nat) : Int) ≤ 1024 → ∀ w, Vars w → Calls Tryd.prog 23 #[.float .f64 F] w fun e w' => e = .returned (.string ⟨(Lib.decDigits m0 ++ [112] ++ Lib.itoa e0).toArray⟩) ∧ Below w.heap.size w w')
   (hord : -1074 ≤ e0 → e0 + ((m0.log2 + 1 : Nat) : Int) ≤ 1024 → (FloatKind.f64.format.order F 0 == some .lt) = false)
   (w : World) (hv : Vars w) :
    Calls Tryd.prog 9 #[.int .i64 m, .int .i64 e, .bool false] w fun e w' => e = .returned (.bool true) ∧ Below w.heap.size w w' := by
  have HS := Lib.hid (shown_any w hv)
  have HV := Lib.hid hv
  have hmk := mask16 e
  have hwe : wrap64 e0 = e0 := by unfold wrap64; omega
  have h00 : (FloatKind.f64.format.order 0 0 == some .eq) = true := by rw [ord_eq (by omega) (by omega) (nan_pos (by omega)) (nan_pos (by omega))]; simp
  have HD := Lib.hid (digits_any m0 (by omega))
  have HG := Lib.hid (signed_any e0 (by omega) (by omega))
  have l1 := nDigits_le m0 (by omega)
  have l2 := itoa_le e0 (by omega) (by omega)
  have HLG := Lib.hid (show m0.log2 ≤ 52 by
    have := (Nat.log2_lt (show m0 ≠ 0 by omega)).2 (show m0 < 2 ^ 53 by omega)
    omega)
  generalize Lib.decDigits m0 = D at *
  generalize Lib.itoa e0 = I at *
  have a1 := str_add D [112] _ rfl (by simp; omega)
  have a2 := str_add (D ++ [112]) I _ rfl (by simp; omega)
  generalize (D ++ [112] ++ I) = S1 at *
  generalize D ++ [112] = X1 at *
  have HYES := Lib.hid hyes
  have HNO := Lib.hid hno
  have HTX := Lib.hid htx
  have HORD := Lib.hid hord
  have HML := Lib.hid hml
  have HMP := Lib.hid hmp
  have HEL := Lib.hid hel
  clear hv hml hel l1 l2 hyes hno htx hord hmp
  go_enter Tryd.func9, Tryd.ntmps9
  go_wp2_with fail
  refine HS.out.mono ?_
  rintro e w1 ⟨rfl, hb1⟩
  have HV1 := Lib.hid (HV.out.below hb1)
  have HB1 := Lib.hid hb1
  clear hb1
  go_wp2_with fail
  refine (HD.out w1).mono ?_
  rintro e w2 ⟨rfl, hb2⟩
  have HV2 := Lib.hid (HV1.out.below hb2)
  have HB2 := Lib.hid (HB1.out.trans (hb2.mono HB1.out.size))
  clear hb2
  go_wp2_with fail
  refine (HG.out w2).mono ?_
  rintro e w3 ⟨rfl, hb3⟩
  have HV3 := Lib.hid (HV2.out.below hb3)
  have HB3 := Lib.hid (HB2.out.trans (hb3.mono HB2.out.size))
  clear hb3
  go_wp2_with fail
  clear HS HV HV1 HV2 HB1 HB2 HD HG hm he hmk hwe
  go_loopw [9, 10, 33, 34, 35, 36, 37, 38] (fun v9 v10 _ _ _ _ _ _ wr => ∃ j n : Nat, v9 = .int .i64 (j : Int) ∧ v10 = .int .i64 (n : Int) ∧ wr = w3 ∧ Hid (n = m0 / 2 ^ j ∧ j ≤ m0.log2 + 1)) (fun _ v10 _ _ _ _ _ _ _ => (intOf v10).toNat)
  case atStart =>
    exact ⟨0, m0, rfl, rfl, rfl, Lib.hid ⟨by simp, by omega⟩⟩
  case round =>
    obtain ⟨j, n, rfl, rfl, rfl, HI⟩ := hrel
    have HJ := Lib.hid (show j ≤ 53 by have := HI.out.2; have := HLG.out; omega)
    by_cases hn : 0 < n
    · have hn1 : (0 : Int) < (n : Int) := by omega
      have HNN := Lib.hid (show n < 9007199254740992 by
        have h1 := HI.out.1
        have h2 := HML.out
        have h3 := Nat.div_le_self m0 (2 ^ j)
        rw [← h1] at h3
        omega)
      have HK := Lib.hid (bits_more HMP.out (by rw [← HI.out.1]; exact hn))
      have HH := Lib.hid (half_pow m0 j)
      go_wp2_with fail
      have h1 := HI.out.1
      have h5 := HNN.out
      have h6 := HJ.out
      have e1 : wrap64 ((j : Int) + 1) = ((j + 1 : Nat) : Int) := by clear h1; unfold wrap64; omega
      have e2 : wrap64 ((n : Int) / 2) = ((n / 2 : Nat) : Int) := by clear h1; unfold wrap64; omega
      refine ⟨⟨j + 1, n / 2, by rw [e1], by rw [e2], trivial, Lib.hid ⟨by rw [h1, HH.out], HK.out⟩⟩, ?_⟩
      rw [e2]; simp only [intOf]; clear h1; omega
    · have hn0 : n = 0 := by omega
      subst hn0
      have HJ2 := Lib.hid (bits_done HMP.out HI.out.2 (by rw [← HI.out.1]; omega))
      have hE2 : wrap64 (e0 + (j : Int)) = e0 + (j : Int) := by have := HEL.out; have := HJ.out; unfold wrap64; omega
      by_cases hlow : -1074 ≤ e0
      · by_cases hhi : e0 + (j : Int) ≤ 1024
        · have hy := HYES.out hlow (by rw [← HJ2.out]; exact hhi)
          have ho := HORD.out hlow (by rw [← HJ2.out]; exact hhi)
          have HT := Lib.hid (HTX.out hlow (by rw [← HJ2.out]; exact hhi))
          clear HYES HNO HTX HORD hn
          go_wp2_with fail
          refine (hy wr HV3.out).mono ?_
          rintro e w4 ⟨rfl, hb4⟩
          have HV4 := Lib.hid (HV3.out.below hb4)
          have HB4 := Lib.hid (HB3.out.trans (hb4.mono HB3.out.size))
          clear hb4
          go_wp2_with fail
          refine (HT.out w4 HV4.out).mono ?_
          rintro e w5 ⟨rfl, hb5⟩
          have HB5 := Lib.hid (HB4.out.trans (hb5.mono HB4.out.size))
          clear hb5
          go_wp2_with fail
          go_ret
          exact ⟨rfl, HB5.out⟩
        · have hq := HNO.out (fun h => hhi (by rw [HJ2.out]; exact h.2))
          clear HYES HNO HTX HORD hn
          go_wp2_with fail
          refine (hq wr HV3.out).mono ?_
          rintro e w4 ⟨rfl, hb4⟩
          have HB4 := Lib.hid (HB3.out.trans (hb4.mono HB3.out.size))
          clear hb4
          go_wp2_with fail
          go_ret
          exact ⟨rfl, HB4.out⟩
      · have hq := HNO.out (fun h => hlow h.1)
        clear HYES HNO HTX HORD hn
        go_wp2_with fail
        refine (hq wr HV3.out).mono ?_
        rintro e w4 ⟨rfl, hb4⟩
        have HB4 := Lib.hid (HB3.out.trans (hb4.mono HB3.out.size))
        clear hb4
        go_wp2_with fail
        go_ret
        exact ⟨rfl, HB4.out⟩
end Go.Proofs.YtnbpioinhjijcaaDoor
