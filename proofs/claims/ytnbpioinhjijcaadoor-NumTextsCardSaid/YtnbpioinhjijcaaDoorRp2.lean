import Derived.Test.YtnbpioinhjijcaaDoorNb2
/-! ref01.Parse. -/
namespace Go.Proofs.YtnbpioinhjijcaaDoor
open Go.RowKit Bk

def NoText (l : List UInt8) : Prop := ∀ f, f < 18446744073709551616 → textB f ≠ l
theorem parse_no {l : List UInt8} (h : NoText l) : ParseEnd l (.returned (.tuple #[.float .f64 0, .int .i64 2])) := .inr ⟨h, rfl⟩

/-- What the last loop makes of a significand and its exponent. -/
structure Scaled (u : Nat) (k : Int) (m : Nat) (j : Nat) : Prop where
  val : m = u * 2 ^ j
  lim : m < 9007199254740992
  low : j = 0 ∨ -1074 ≤ k - j
  le : j ≤ 53
theorem scaled_zero {u : Nat} {k : Int} (h1 : u < 9007199254740992) : Scaled u k u 0 := ⟨by simp, h1, .inl rfl, by omega⟩
theorem scaled_step {u : Nat} {k : Int} {m j : Nat} (h : Scaled u k m j) (h0 : 0 < u) (h1 : m < 4503599627370496) (h2 : -1074 < k - j) : Scaled u k (m * 2) (j + 1) ∧ j ≤ 52 := by
  have hj : j ≤ 52 := by
    rcases Nat.lt_or_ge 52 j with hj | hj
    · exfalso
      have a := h.val
      have b : 1 * 2 ^ j ≤ u * 2 ^ j := Nat.mul_le_mul_right _ h0
      have c : 2 ^ 53 ≤ 2 ^ j := Nat.pow_le_pow_right (by omega) (by omega)
      rw [← a] at b
      clear a
      omega
    · exact hj
  exact ⟨⟨by rw [h.val, Nat.pow_succ, Nat.mul_assoc], by omega, .inr (by omega), by omega⟩, hj⟩

theorem scaled_pos {u : Nat} {k : Int} {m j : Nat} (h : Scaled u k m j) (h0 : 0 < u) : 0 < m := by
  rw [h.val]; exact Nat.mul_pos h0 (Nat.two_pow_pos j)
theorem fin_low {l : List UInt8} {b : Bool} {u : Nat} {k : Int} {m j : Nat} (h : Scaled u k m j) (hu : u < 9007199254740992) (h0 : 0 < u) (hk : -2000 ≤ k ∧ k ≤ 2000) (hg : l = numText b u k) (hl : k - (j : Int) < -1074) : NoText l := by
  intro f hf e
  have := has_room (e := k) h0 hu (by omega) (by omega) f (e.trans hg)
  have := h.low
  omega
theorem scaled_log {u : Nat} {k : Int} {m j : Nat} (h : Scaled u k m j) (h0 : 0 < u) (hm : 4503599627370496 ≤ m) : u.log2 + j = 52 := by
  have h1 := log2_mul_pow (show u ≠ 0 by omega) j
  rw [← h.val] at h1
  rw [← h1]
  exact log2_of (k := 52) (by omega) (by have := h.lim; omega)
theorem fin_high {l : List UInt8} {b : Bool} {u : Nat} {k : Int} {m j : Nat} (h : Scaled u k m j) (hu : u < 9007199254740992) (h0 : 0 < u) (hk : -2000 ≤ k ∧ k ≤ 2000) (hg : l = numText b u k) (hl : 971 < k - (j : Int)) (hm : 4503599627370496 ≤ m) : NoText l := by
  intro f hf e
  have := has_room (e := k) h0 hu (by omega) (by omega) f (e.trans hg)
  have := scaled_log h h0 hm
  omega
theorem text_of_rv {b : Bool} {u : Nat} {k : Int} {r a : Nat} (hodd : u % 2 = 1) (hr : rv r = u * 2 ^ a) (ha : k = (a : Int) - 1074) (r2 : 0 < r) (r3 : r < 9218868437227405312) :
    textB (flipB b r) = numText b u k ∧ canonB (flipB b r) = flipB b r ∧ flipB b r = (if b then 9223372036854775808 else 0) + r := by
  obtain ⟨m1, m2, m3, x, m4, m5, m6⟩ := mag_spec r r2 r3
  rw [hr] at m5
  obtain ⟨o1, o2⟩ := odd_part hodd m1 m5
  have hb : bodyB r = Lib.decDigits u ++ [112] ++ Lib.itoa k := by rw [body_num r2 r3, ← o1, m4, ← o2, ← ha]
  have hf : flipB b r = (if b then 9223372036854775808 else 0) + r := by
    unfold flipB
    cases b
    · simp
    · simp only [if_true]; exact negB_pos (by omega)
  rw [hf]
  unfold textB numText
  cases b with
  | true =>
    simp only [if_true]
    have hn : nanB (9223372036854775808 + r) = false := (nanB_false _).2 (by omega)
    rw [hn, if_neg (by decide), if_pos ((signB_iff _).2 (by omega)), show (9223372036854775808 + r) % 9223372036854775808 = r by omega, hb, canonB_num hn]
    exact ⟨rfl, rfl, trivial⟩
  | false =>
    simp only [Bool.false_eq_true, if_false, Nat.zero_add]
    have hn : nanB r = false := (nanB_false _).2 (by omega)
    rw [hn, if_neg (by decide), if_neg (fun x => by have := (signB_iff _).1 x; omega), show r % 9223372036854775808 = r by omega, hb, canonB_num hn]
    exact ⟨rfl, rfl, trivial⟩
theorem parse_ok {l : List UInt8} {b : Bool} {u : Nat} {k : Int} {r a : Nat} (hg : l = numText b u k) (hodd : u % 2 = 1) (hr : rv r = u * 2 ^ a) (ha : k = (a : Int) - 1074) (r2 : 0 < r) (r3 : r < 9218868437227405312) :
    ParseEnd l (.returned (.tuple #[.float .f64 ((if b then 9223372036854775808 else 0) + r), .int .i64 0])) := by
  obtain ⟨t1, t2, t3⟩ := text_of_rv (b := b) hodd hr ha r2 r3
  refine .inl ⟨flipB b r, flipB_lt (by omega), by rw [t1, hg], ?_⟩
  rw [t2, t3]
theorem fin_sub {l : List UInt8} {b : Bool} {u : Nat} {k : Int} {m j : Nat} (h : Scaled u k m j) (_hu : u < 9007199254740992) (h0 : 0 < u) (hodd : u % 2 = 1) (_hk : -2000 ≤ k ∧ k ≤ 2000) (hg : l = numText b u k) (hl : k - (j : Int) = -1074) (hm : m < 4503599627370496) :
    ParseEnd l (.returned (.tuple #[.float .f64 ((if b then 9223372036854775808 else 0) + m), .int .i64 0])) := by
  refine parse_ok (a := j) hg hodd ?_ (by omega) (scaled_pos h h0) (by omega)
  have := rv_of 0 m (by omega) (.inl rfl)
  rw [Nat.zero_mul, Nat.zero_add, Nat.pow_zero, Nat.mul_one] at this
  rw [this, h.val]
theorem fin_norm {l : List UInt8} {b : Bool} {u : Nat} {k : Int} {m j F : Nat} (h : Scaled u k m j) (_hu : u < 9007199254740992) (_h0 : 0 < u) (hodd : u % 2 = 1) (_hk : -2000 ≤ k ∧ k ≤ 2000) (hg : l = numText b u k) (hF : k - (j : Int) + 1075 = (F : Int)) (hFl : 1 ≤ F ∧ F ≤ 2046) (hm : 4503599627370496 ≤ m) :
    ParseEnd l (.returned (.tuple #[.float .f64 ((if b then 9223372036854775808 else 0) + (F * 4503599627370496 + (m - 4503599627370496))), .int .i64 0])) := by
  have hml := h.lim
  refine parse_ok (a := j + (F - 1)) hg hodd ?_ (by omega) (by omega) (by omega)
  have := rv_of (F - 1) m hml (.inr hm)
  rw [show F * 4503599627370496 + (m - 4503599627370496) = (F - 1) * 4503599627370496 + m by omega, this, h.val, Nat.pow_add, Nat.mul_assoc]
theorem pe_eq {l : List UInt8} {X Y : Nat} (h : ParseEnd l (.returned (.tuple #[.float .f64 Y, .int .i64 0]))) (e : X = Y) : ParseEnd l (.returned (.tuple #[.float .f64 X, .int .i64 0])) := e ▸ h
theorem norm_true (F m : Nat) (h0 : 4503599627370496 ≤ m) (h1 : m < 9007199254740992) :
    9223372036854775808 + F * 4503599627370496 + m % 4503599627370496 = (if true then 9223372036854775808 else 0) + (F * 4503599627370496 + (m - 4503599627370496)) := by
  rw [if_pos rfl, show m % 4503599627370496 = m - 4503599627370496 by omega, Nat.add_assoc]
theorem norm_false (F m : Nat) (h0 : 4503599627370496 ≤ m) (h1 : m < 9007199254740992) :
    F * 4503599627370496 + m % 4503599627370496 = (if false then 9223372036854775808 else 0) + (F * 4503599627370496 + (m - 4503599627370496)) := by
  rw [if_neg (by decide), show m % 4503599627370496 = m - 4503599627370496 by omega, Nat.zero_add]
theorem mask52 (m : Nat) (h : m < 9223372036854775808) : bits .and .u64 (m : Int) 4503599627370495 = ((m % 4503599627370496 : Nat) : Int) := by
  rw [show (4503599627370495 : Int) = ((4503599627370495 : Nat) : Int) from rfl, u64_and_nat _ _ (by omega) (by decide)]
  congr 1
  exact Nat.and_two_pow_sub_one_eq_mod m 52
set_option maxHeartbeats 4000000 in
set_option maxRecDepth 100000 in
theorem rP_true (s T : ByteArray) (h0 : 0 < s.size) (hc : (((s[0]'h0).toNat : Int) == 45) = true) (hx : s.extract 1 s.size = T) (hts : T.size ≤ 100000)
   (hn : (s.toList == [110, 97, 110]) = false) (ht1 : (T.toList == [105, 110, 102]) = false) (ht2 : (T.toList == [48, 112, 48]) = false)
   (c : Nat) (M R R2 : ByteArray) (hM : T.extract 0 c = M) (hR : T.extract (c + 1) T.size = R) (hR2 : R.extract 1 R.size = R2) (hRs : c + 1 < T.size → 1 ≤ R.size) (hcl : c ≤ T.size) (hnp : ∀ i, i < c → ∀ h : i < T.size, ((T[i]'h).toNat : Int) ≠ 112) (hyp : ∀ h : c < T.size, ((T[c]'h).toNat : Int) = 112)
   (hb1 : (∀ u, u ≤ 9007199254740991 → Lib.decDigits u ≠ M.data.toList) → NoText s.data.toList)
   (hb2 : ∀ u, Lib.decDigits u = M.data.toList → u % 2 = 0 → NoText s.data.toList)
   (hb3 : T.size ≤ c + 1 → NoText s.data.toList)
   (hb4 : ∀ h : c + 1 < T.size, T[c + 1]'h = 45 → (∀ u, u ≤ 2000 → Lib.decDigits u ≠ R2.data.toList) → NoText s.data.toList)
   (hb5 : ∀ h : c + 1 < T.size, T[c + 1]'h = 45 → Lib.decDigits 0 = R2.data.toList → NoText s.data.toList)
   (hb6 : ∀ h : c + 1 < T.size, ¬ T[c + 1]'h = 45 → (∀ u, u ≤ 2000 → Lib.decDigits u ≠ R.data.toList) → NoText s.data.toList)
   (hg1 : ∀ u k, Lib.decDigits u = M.data.toList → ∀ h : c + 1 < T.size, T[c + 1]'h = 45 → Lib.decDigits k = R2.data.toList → 0 < k → s.data.toList = numText true u (-(k : Int)))
   (hg2 : ∀ u k, Lib.decDigits u = M.data.toList → ∀ h : c + 1 < T.size, ¬ T[c + 1]'h = 45 → Lib.decDigits k = R.data.toList → s.data.toList = numText true u (k : Int))
   (w : World) :
    Calls Tryd.prog 22 #[.string s] w fun e w' => ParseEnd s.data.toList e ∧ w = w' := by
  have h0' : (0 : Int) < (s.size : Int) := by omega
  have h1' : (1 : Int) ≤ (s.size : Int) := by omega
  have HNP := Lib.hid hnp
  have HYP := Lib.hid hyp
  have HRS := Lib.hid hRs
  have HB1 := Lib.hid hb1
  have HB2 := Lib.hid hb2
  have HB3 := Lib.hid hb3
  have HB4 := Lib.hid hb4
  have HB5 := Lib.hid hb5
  have HB6 := Lib.hid hb6
  have HG1 := Lib.hid hg1
  have HG2 := Lib.hid hg2
  clear hnp hyp hRs hb1 hb2 hb3 hb4 hb5 hb6 hg1 hg2

  go_enter Tryd.func22, Tryd.ntmps22
  go_wp2_with fail

  go_loopw [6, 35, 36, 37, 38, 39, 40, 41, 42, 43, 44, 45, 46] (fun v6 _ _ _ _ _ _ _ _ _ _ _ _ wr => ∃ i : Nat, v6 = .int .i64 (i : Int) ∧ wr = w ∧ i ≤ c) (fun v6 _ _ _ _ _ _ _ _ _ _ _ _ _ => (100000 - intOf v6).toNat)
  case atStart => exact ⟨0, rfl, rfl, by omega⟩
  case round =>
    obtain ⟨i, rfl, rfl, hi⟩ := hrel
    by_cases hlt : i < c
    · have hl1 : (i : Int) < (T.size : Int) := by omega
      have hl2 : i < T.size := by omega
      have HP1 := Lib.hid (HNP.out i hlt hl2)
      have hp1 : (((T[i]'hl2).toNat : Int) != 112) = true := by have := HP1.out; simpa using this
      go_wp2_with fail
      refine ⟨⟨i + 1, rfl, trivial, by omega⟩, ?_⟩
      simp only [intOf]; omega
    · obtain rfl : i = c := by omega
      clear hlt
      by_cases hlen : i < T.size
      · have hl1 : (i : Int) < (T.size : Int) := by omega
        have HP2 := Lib.hid (HYP.out hlen)
        have hp2 : (((T[i]'hlen).toNat : Int) != 112) = false := by have := HP2.out; simpa using this
        go_wp2_with fail
        clear HP2 hp2
        refine (number_any M 9007199254740991 (by omega) wr).mono ?_
        rintro e w1 ⟨⟨u, hu1, hu2, rfl⟩ | ⟨hu, rfl⟩, rfl⟩
        · have hi9 : wrap64 ((T.size : Int) - 1) = (T.size : Int) - 1 := by unfold wrap64; omega
          have hi8 : wrap64 ((i : Int) + 1) = (i : Int) + 1 := by unfold wrap64; omega
          by_cases hu0 : u = 0
          · subst hu0
            have HX := Lib.hid (HB2.out 0 hu2 (by omega))
            go_wp2_with fail
            go_ret2
            exact ⟨parse_no HX.out, rfl⟩
          · have hu0' : ¬ (u : Int) < 1 := by omega
            by_cases hev : u % 2 = 0
            · have HX := Lib.hid (HB2.out u hu2 hev)
              have o1 : ((u : Int) % 2 == 0) = true := by simp; omega
              go_wp2_with fail
              go_ret2
              exact ⟨parse_no HX.out, rfl⟩
            · have o1 : ((u : Int) % 2 == 0) = false := by simp; omega
              have HOD := Lib.hid (show u % 2 = 1 by omega)
              by_cases hc1 : i + 1 < T.size
              · have hc1' : (i : Int) + 1 < (T.size : Int) := by omega
                have hc2' : ¬ (T.size : Int) - 1 ≤ (i : Int) := by omega
                by_cases h45 : T[i + 1]'hc1 = 45
                · have hd : (((T[i + 1]'hc1).toNat : Int) == 45) = true := by rw [h45]; rfl
                  have h1R : (1 : Int) ≤ (R.size : Int) := by have := HRS.out hc1; omega
                  go_wp2_with fail
                  refine (number_any R2 2000 (by omega) wr).mono ?_
                  rintro e w1 ⟨⟨k, hk1, hk2, rfl⟩ | ⟨hk, rfl⟩, rfl⟩
                  · by_cases hk0 : k = 0
                    · subst hk0
                      have HX := Lib.hid (HB5.out hc1 h45 hk2)
                      go_wp2_with fail
                      go_ret2
                      exact ⟨parse_no HX.out, rfl⟩
                    · have hk0' : ((k : Int) == 0) = false := by simp; omega
                      have HKL := Lib.hid (show -2000 ≤ -(k : Int) ∧ -(k : Int) ≤ 2000 by omega)
                      go_wp2_with fail
                      have HG := Lib.hid (HG1.out u k hu2 hc1 h45 hk2 (by omega))
                      have HUL := Lib.hid (show u < 9007199254740992 by omega)
                      have HU0 := Lib.hid (show 0 < u by omega)
                      clear HNP HYP HB1 HB2 HB3 HB4 HB5 HB6 HG1 HG2 h45 hd hu2 hu1
                      go_loopw [7, 10, 91, 92, 93, 94, 95, 96, 97, 98, 99, 100] (fun v7 v10 _ _ _ _ _ _ _ _ _ _ wr2 => ∃ m j : Nat, v7 = .int .i64 (m : Int) ∧ v10 = .int .i64 (-(k : Int) - (j : Int)) ∧ wr2 = wr ∧ Hid (Scaled u (-(k : Int)) m j)) (fun v7 _ _ _ _ _ _ _ _ _ _ _ _ => (9007199254740992 - intOf v7).toNat)
                      case atStart => exact ⟨u, 0, rfl, by simp, rfl, Lib.hid (scaled_zero HUL.out)⟩
                      case round =>
                        obtain ⟨m, j, rfl, rfl, rfl, HI⟩ := hrel
                        have HJ := Lib.hid HI.out.le
                        have HML := Lib.hid HI.out.lim
                        have HMP := Lib.hid (scaled_pos HI.out HU0.out)
                        have hw5 : wrap64 (-(k : Int) - (j : Int) + 1075) = -(k : Int) - (j : Int) + 1075 := by have := HJ.out; have := HKL.out; unfold wrap64; omega
                        by_cases hm52 : (m : Int) < 4503599627370496
                        · by_cases hk : -1074 < -(k : Int) - (j : Int)
                          · have HST := Lib.hid (scaled_step HI.out HU0.out (by omega) hk)
                            go_wp2_with fail
                            have h1 := HST.out.2
                            have h2 := HMP.out
                            refine ⟨⟨m * 2, j + 1, by congr 1, by congr 1; omega, trivial, Lib.hid HST.out.1⟩, ?_⟩
                            simp only [intOf]; omega
                          · by_cases hlow : -(k : Int) - (j : Int) < -1074
                            · have HX := Lib.hid (fin_low HI.out HUL.out HU0.out HKL.out HG.out hlow)
                              go_wp2_with fail
                              go_ret2
                              exact ⟨parse_no HX.out, rfl⟩
                            · have heq : -(k : Int) - (j : Int) = -1074 := by omega
                              have HX := Lib.hid (fin_sub HI.out HUL.out HU0.out HOD.out HKL.out HG.out heq (by omega))
                              have hmk := mask52 m (by have := HML.out; omega)
                              have hy := run_f64from
                              clear hk hlow hw5
                              have hwm : IntKind.u64.wrap (m : Int) = (m : Int) := by have := HML.out; rw [IntKind.wrap_u64]; omega
                              have HE := Lib.hid (show 9223372036854775808 + m % 4503599627370496 = (if true then 9223372036854775808 else 0) + m by rw [Nat.mod_eq_of_lt (by omega)]; simp)
                              go_wp2_with fail
                              go_ret2
                              exact ⟨pe_eq HX.out HE.out, rfl⟩
                        · by_cases hlow : -(k : Int) - (j : Int) < -1074
                          · have HX := Lib.hid (fin_low HI.out HUL.out HU0.out HKL.out HG.out hlow)
                            go_wp2_with fail
                            go_ret2
                            exact ⟨parse_no HX.out, rfl⟩
                          · by_cases hhi : 971 < -(k : Int) - (j : Int)
                            · have HX := Lib.hid (fin_high HI.out HUL.out HU0.out HKL.out HG.out hhi (by omega))
                              go_wp2_with fail
                              go_ret2
                              exact ⟨parse_no HX.out, rfl⟩
                            · obtain ⟨F, hF⟩ : ∃ F : Nat, -(k : Int) - (j : Int) + 1075 = (F : Int) := ⟨(-(k : Int) - (j : Int) + 1075).toNat, by omega⟩
                              have HFL := Lib.hid (show 1 ≤ F ∧ F ≤ 2046 by omega)
                              have HX := Lib.hid (fin_norm HI.out HUL.out HU0.out HOD.out HKL.out HG.out hF HFL.out (by omega))
                              have hmk := mask52 m (by have := HML.out; omega)
                              have hy := run_f64from
                              have hwm : IntKind.u64.wrap (m : Int) = (m : Int) := by have := HML.out; rw [IntKind.wrap_u64]; omega
                              have HE := Lib.hid (norm_true F m (by omega) (by have := HML.out; omega))
                              go_wp2_with fail
                              go_ret2
                              exact ⟨pe_eq HX.out HE.out, rfl⟩
                  · have HX := Lib.hid (HB4.out hc1 h45 hk)
                    go_wp2_with fail
                    go_ret2
                    exact ⟨parse_no HX.out, rfl⟩
                · have hd : (((T[i + 1]'hc1).toNat : Int) == 45) = false := by
                    rw [beq_eq_false_iff_ne]
                    intro x
                    apply h45
                    apply UInt8.toNat_inj.1
                    show _ = 45
                    omega
                  go_wp2_with fail
                  refine (number_any R 2000 (by omega) wr).mono ?_
                  rintro e w1 ⟨⟨k, hk1, hk2, rfl⟩ | ⟨hk, rfl⟩, rfl⟩
                  · have HKL := Lib.hid (show -2000 ≤ (k : Int) ∧ (k : Int) ≤ 2000 by omega)
                    go_wp2_with fail
                    have HG := Lib.hid (HG2.out u k hu2 hc1 h45 hk2)
                    have HUL := Lib.hid (show u < 9007199254740992 by omega)
                    have HU0 := Lib.hid (show 0 < u by omega)
                    clear HNP HYP HB1 HB2 HB3 HB4 HB5 HB6 HG1 HG2 h45 hd hu2 hu1
                    go_loopw [7, 10, 91, 92, 93, 94, 95, 96, 97, 98, 99, 100] (fun v7 v10 _ _ _ _ _ _ _ _ _ _ wr2 => ∃ m j : Nat, v7 = .int .i64 (m : Int) ∧ v10 = .int .i64 ((k : Int) - (j : Int)) ∧ wr2 = wr ∧ Hid (Scaled u ((k : Int)) m j)) (fun v7 _ _ _ _ _ _ _ _ _ _ _ _ => (9007199254740992 - intOf v7).toNat)
                    case atStart => exact ⟨u, 0, rfl, by simp, rfl, Lib.hid (scaled_zero HUL.out)⟩
                    case round =>
                      obtain ⟨m, j, rfl, rfl, rfl, HI⟩ := hrel
                      have HJ := Lib.hid HI.out.le
                      have HML := Lib.hid HI.out.lim
                      have HMP := Lib.hid (scaled_pos HI.out HU0.out)
                      have hw5 : wrap64 ((k : Int) - (j : Int) + 1075) = (k : Int) - (j : Int) + 1075 := by have := HJ.out; have := HKL.out; unfold wrap64; omega
                      by_cases hm52 : (m : Int) < 4503599627370496
                      · by_cases hk : -1074 < (k : Int) - (j : Int)
                        · have HST := Lib.hid (scaled_step HI.out HU0.out (by omega) hk)
                          go_wp2_with fail
                          have h1 := HST.out.2
                          have h2 := HMP.out
                          refine ⟨⟨m * 2, j + 1, by congr 1, by congr 1; omega, trivial, Lib.hid HST.out.1⟩, ?_⟩
                          simp only [intOf]; omega
                        · by_cases hlow : (k : Int) - (j : Int) < -1074
                          · have HX := Lib.hid (fin_low HI.out HUL.out HU0.out HKL.out HG.out hlow)
                            go_wp2_with fail
                            go_ret2
                            exact ⟨parse_no HX.out, rfl⟩
                          · have heq : (k : Int) - (j : Int) = -1074 := by omega
                            have HX := Lib.hid (fin_sub HI.out HUL.out HU0.out HOD.out HKL.out HG.out heq (by omega))
                            have hmk := mask52 m (by have := HML.out; omega)
                            have hy := run_f64from
                            clear hk hlow hw5
                            have hwm : IntKind.u64.wrap (m : Int) = (m : Int) := by have := HML.out; rw [IntKind.wrap_u64]; omega
                            have HE := Lib.hid (show 9223372036854775808 + m % 4503599627370496 = (if true then 9223372036854775808 else 0) + m by rw [Nat.mod_eq_of_lt (by omega)]; simp)
                            go_wp2_with fail
                            go_ret2
                            exact ⟨pe_eq HX.out HE.out, rfl⟩
                      · by_cases hlow : (k : Int) - (j : Int) < -1074
                        · have HX := Lib.hid (fin_low HI.out HUL.out HU0.out HKL.out HG.out hlow)
                          go_wp2_with fail
                          go_ret2
                          exact ⟨parse_no HX.out, rfl⟩
                        · by_cases hhi : 971 < (k : Int) - (j : Int)
                          · have HX := Lib.hid (fin_high HI.out HUL.out HU0.out HKL.out HG.out hhi (by omega))
                            go_wp2_with fail
                            go_ret2
                            exact ⟨parse_no HX.out, rfl⟩
                          · obtain ⟨F, hF⟩ : ∃ F : Nat, (k : Int) - (j : Int) + 1075 = (F : Int) := ⟨((k : Int) - (j : Int) + 1075).toNat, by omega⟩
                            have HFL := Lib.hid (show 1 ≤ F ∧ F ≤ 2046 by omega)
                            have HX := Lib.hid (fin_norm HI.out HUL.out HU0.out HOD.out HKL.out HG.out hF HFL.out (by omega))
                            have hmk := mask52 m (by have := HML.out; omega)
                            have hy := run_f64from
                            have hwm : IntKind.u64.wrap (m : Int) = (m : Int) := by have := HML.out; rw [IntKind.wrap_u64]; omega
                            have HE := Lib.hid (norm_true F m (by omega) (by have := HML.out; omega))
                            go_wp2_with fail
                            go_ret2
                            exact ⟨pe_eq HX.out HE.out, rfl⟩
                  · have HX := Lib.hid (HB6.out hc1 h45 hk)
                    go_wp2_with fail
                    go_ret2
                    exact ⟨parse_no HX.out, rfl⟩
              · have hc2' : (T.size : Int) - 1 ≤ (i : Int) := by omega
                have HX := Lib.hid (HB3.out (by omega))
                go_wp2_with fail
                go_ret2
                exact ⟨parse_no HX.out, rfl⟩
        · have HX := Lib.hid (HB1.out hu)
          go_wp2_with fail
          go_ret2
          exact ⟨parse_no HX.out, rfl⟩
      · have hl1 : ¬ (i : Int) < (T.size : Int) := by omega
        have hi9 : wrap64 ((T.size : Int) - 1) = (T.size : Int) - 1 := by unfold wrap64; omega
        have hc2' : (T.size : Int) - 1 ≤ (i : Int) := by omega
        have HX := Lib.hid (HB3.out (by omega))
        go_wp2_with fail
        refine (number_any M 9007199254740991 (by omega) wr).mono ?_
        rintro e w1 ⟨⟨u, hu1, hu2, rfl⟩ | ⟨hu, rfl⟩, rfl⟩
        · by_cases hu0 : u = 0
          · subst hu0
            go_wp2_with fail
            go_ret2
            exact ⟨parse_no HX.out, rfl⟩
          · have hu0' : ¬ (u : Int) < 1 := by omega
            by_cases hev : u % 2 = 0
            · have o1 : ((u : Int) % 2 == 0) = true := by simp; omega
              go_wp2_with fail
              go_ret2
              exact ⟨parse_no HX.out, rfl⟩
            · have o1 : ((u : Int) % 2 == 0) = false := by simp; omega
              go_wp2_with fail
              go_ret2
              exact ⟨parse_no HX.out, rfl⟩
        · skip
          go_wp2_with fail
          go_ret2
          exact ⟨parse_no HX.out, rfl⟩
set_option maxHeartbeats 4000000 in
set_option maxRecDepth 100000 in
theorem rP_false (s T : ByteArray) (h0 : 0 < s.size) (hc : (((s[0]'h0).toNat : Int) == 45) = false) (hx : T = s) (hts : T.size ≤ 100000)
   (hn : (s.toList == [110, 97, 110]) = false) (ht1 : (T.toList == [105, 110, 102]) = false) (ht2 : (T.toList == [48, 112, 48]) = false)
   (c : Nat) (M R R2 : ByteArray) (hM : T.extract 0 c = M) (hR : T.extract (c + 1) T.size = R) (hR2 : R.extract 1 R.size = R2) (hRs : c + 1 < T.size → 1 ≤ R.size) (hcl : c ≤ T.size) (hnp : ∀ i, i < c → ∀ h : i < T.size, ((T[i]'h).toNat : Int) ≠ 112) (hyp : ∀ h : c < T.size, ((T[c]'h).toNat : Int) = 112)
   (hb1 : (∀ u, u ≤ 9007199254740991 → Lib.decDigits u ≠ M.data.toList) → NoText s.data.toList)
   (hb2 : ∀ u, Lib.decDigits u = M.data.toList → u % 2 = 0 → NoText s.data.toList)
   (hb3 : T.size ≤ c + 1 → NoText s.data.toList)
   (hb4 : ∀ h : c + 1 < T.size, T[c + 1]'h = 45 → (∀ u, u ≤ 2000 → Lib.decDigits u ≠ R2.data.toList) → NoText s.data.toList)
   (hb5 : ∀ h : c + 1 < T.size, T[c + 1]'h = 45 → Lib.decDigits 0 = R2.data.toList → NoText s.data.toList)
   (hb6 : ∀ h : c + 1 < T.size, ¬ T[c + 1]'h = 45 → (∀ u, u ≤ 2000 → Lib.decDigits u ≠ R.data.toList) → NoText s.data.toList)
   (hg1 : ∀ u k, Lib.decDigits u = M.data.toList → ∀ h : c + 1 < T.size, T[c + 1]'h = 45 → Lib.decDigits k = R2.data.toList → 0 < k → s.data.toList = numText false u (-(k : Int)))
   (hg2 : ∀ u k, Lib.decDigits u = M.data.toList → ∀ h : c + 1 < T.size, ¬ T[c + 1]'h = 45 → Lib.decDigits k = R.data.toList → s.data.toList = numText false u (k : Int))
   (w : World) :
    Calls Tryd.prog 22 #[.string s] w fun e w' => ParseEnd s.data.toList e ∧ w = w' := by
  have h0' : (0 : Int) < (s.size : Int) := by omega
  have h1' : (1 : Int) ≤ (s.size : Int) := by omega
  have HNP := Lib.hid hnp
  have HYP := Lib.hid hyp
  have HRS := Lib.hid hRs
  have HB1 := Lib.hid hb1
  have HB2 := Lib.hid hb2
  have HB3 := Lib.hid hb3
  have HB4 := Lib.hid hb4
  have HB5 := Lib.hid hb5
  have HB6 := Lib.hid hb6
  have HG1 := Lib.hid hg1
  have HG2 := Lib.hid hg2
  clear hnp hyp hRs hb1 hb2 hb3 hb4 hb5 hb6 hg1 hg2
  subst hx
  go_enter Tryd.func22, Tryd.ntmps22
  go_wp2_with fail

  go_loopw [6, 35, 36, 37, 38, 39, 40, 41, 42, 43, 44, 45, 46] (fun v6 _ _ _ _ _ _ _ _ _ _ _ _ wr => ∃ i : Nat, v6 = .int .i64 (i : Int) ∧ wr = w ∧ i ≤ c) (fun v6 _ _ _ _ _ _ _ _ _ _ _ _ _ => (100000 - intOf v6).toNat)
  case atStart => exact ⟨0, rfl, rfl, by omega⟩
  case round =>
    obtain ⟨i, rfl, rfl, hi⟩ := hrel
    by_cases hlt : i < c
    · have hl1 : (i : Int) < (T.size : Int) := by omega
      have hl2 : i < T.size := by omega
      have HP1 := Lib.hid (HNP.out i hlt hl2)
      have hp1 : (((T[i]'hl2).toNat : Int) != 112) = true := by have := HP1.out; simpa using this
      go_wp2_with fail
      refine ⟨⟨i + 1, rfl, trivial, by omega⟩, ?_⟩
      simp only [intOf]; omega
    · obtain rfl : i = c := by omega
      clear hlt
      by_cases hlen : i < T.size
      · have hl1 : (i : Int) < (T.size : Int) := by omega
        have HP2 := Lib.hid (HYP.out hlen)
        have hp2 : (((T[i]'hlen).toNat : Int) != 112) = false := by have := HP2.out; simpa using this
        go_wp2_with fail
        clear HP2 hp2
        refine (number_any M 9007199254740991 (by omega) wr).mono ?_
        rintro e w1 ⟨⟨u, hu1, hu2, rfl⟩ | ⟨hu, rfl⟩, rfl⟩
        · have hi9 : wrap64 ((T.size : Int) - 1) = (T.size : Int) - 1 := by unfold wrap64; omega
          have hi8 : wrap64 ((i : Int) + 1) = (i : Int) + 1 := by unfold wrap64; omega
          by_cases hu0 : u = 0
          · subst hu0
            have HX := Lib.hid (HB2.out 0 hu2 (by omega))
            go_wp2_with fail
            go_ret2
            exact ⟨parse_no HX.out, rfl⟩
          · have hu0' : ¬ (u : Int) < 1 := by omega
            by_cases hev : u % 2 = 0
            · have HX := Lib.hid (HB2.out u hu2 hev)
              have o1 : ((u : Int) % 2 == 0) = true := by simp; omega
              go_wp2_with fail
              go_ret2
              exact ⟨parse_no HX.out, rfl⟩
            · have o1 : ((u : Int) % 2 == 0) = false := by simp; omega
              have HOD := Lib.hid (show u % 2 = 1 by omega)
              by_cases hc1 : i + 1 < T.size
              · have hc1' : (i : Int) + 1 < (T.size : Int) := by omega
                have hc2' : ¬ (T.size : Int) - 1 ≤ (i : Int) := by omega
                by_cases h45 : T[i + 1]'hc1 = 45
                · have hd : (((T[i + 1]'hc1).toNat : Int) == 45) = true := by rw [h45]; rfl
                  have h1R : (1 : Int) ≤ (R.size : Int) := by have := HRS.out hc1; omega
                  go_wp2_with fail
                  refine (number_any R2 2000 (by omega) wr).mono ?_
                  rintro e w1 ⟨⟨k, hk1, hk2, rfl⟩ | ⟨hk, rfl⟩, rfl⟩
                  · by_cases hk0 : k = 0
                    · subst hk0
                      have HX := Lib.hid (HB5.out hc1 h45 hk2)
                      go_wp2_with fail
                      go_ret2
                      exact ⟨parse_no HX.out, rfl⟩
                    · have hk0' : ((k : Int) == 0) = false := by simp; omega
                      have HKL := Lib.hid (show -2000 ≤ -(k : Int) ∧ -(k : Int) ≤ 2000 by omega)
                      go_wp2_with fail
                      have HG := Lib.hid (HG1.out u k hu2 hc1 h45 hk2 (by omega))
                      have HUL := Lib.hid (show u < 9007199254740992 by omega)
                      have HU0 := Lib.hid (show 0 < u by omega)
                      clear HNP HYP HB1 HB2 HB3 HB4 HB5 HB6 HG1 HG2 h45 hd hu2 hu1
                      go_loopw [7, 10, 91, 92, 93, 94, 95, 96, 97, 98, 99, 100] (fun v7 v10 _ _ _ _ _ _ _ _ _ _ wr2 => ∃ m j : Nat, v7 = .int .i64 (m : Int) ∧ v10 = .int .i64 (-(k : Int) - (j : Int)) ∧ wr2 = wr ∧ Hid (Scaled u (-(k : Int)) m j)) (fun v7 _ _ _ _ _ _ _ _ _ _ _ _ => (9007199254740992 - intOf v7).toNat)
                      case atStart => exact ⟨u, 0, rfl, by simp, rfl, Lib.hid (scaled_zero HUL.out)⟩
                      case round =>
                        obtain ⟨m, j, rfl, rfl, rfl, HI⟩ := hrel
                        have HJ := Lib.hid HI.out.le
                        have HML := Lib.hid HI.out.lim
                        have HMP := Lib.hid (scaled_pos HI.out HU0.out)
                        have hw5 : wrap64 (-(k : Int) - (j : Int) + 1075) = -(k : Int) - (j : Int) + 1075 := by have := HJ.out; have := HKL.out; unfold wrap64; omega
                        by_cases hm52 : (m : Int) < 4503599627370496
                        · by_cases hk : -1074 < -(k : Int) - (j : Int)
                          · have HST := Lib.hid (scaled_step HI.out HU0.out (by omega) hk)
                            go_wp2_with fail
                            have h1 := HST.out.2
                            have h2 := HMP.out
                            refine ⟨⟨m * 2, j + 1, by congr 1, by congr 1; omega, trivial, Lib.hid HST.out.1⟩, ?_⟩
                            simp only [intOf]; omega
                          · by_cases hlow : -(k : Int) - (j : Int) < -1074
                            · have HX := Lib.hid (fin_low HI.out HUL.out HU0.out HKL.out HG.out hlow)
                              go_wp2_with fail
                              go_ret2
                              exact ⟨parse_no HX.out, rfl⟩
                            · have heq : -(k : Int) - (j : Int) = -1074 := by omega
                              have HX := Lib.hid (fin_sub HI.out HUL.out HU0.out HOD.out HKL.out HG.out heq (by omega))
                              have hmk := mask52 m (by have := HML.out; omega)
                              have hy := run_f64from
                              clear hk hlow hw5
                              have hwm : IntKind.u64.wrap (m : Int) = (m : Int) := by have := HML.out; rw [IntKind.wrap_u64]; omega
                              have HE := Lib.hid (show m % 4503599627370496 = (if false then 9223372036854775808 else 0) + m by rw [Nat.mod_eq_of_lt (by omega)]; simp)
                              go_wp2_with fail
                              go_ret2
                              exact ⟨pe_eq HX.out HE.out, rfl⟩
                        · by_cases hlow : -(k : Int) - (j : Int) < -1074
                          · have HX := Lib.hid (fin_low HI.out HUL.out HU0.out HKL.out HG.out hlow)
                            go_wp2_with fail
                            go_ret2
                            exact ⟨parse_no HX.out, rfl⟩
                          · by_cases hhi : 971 < -(k : Int) - (j : Int)
                            · have HX := Lib.hid (fin_high HI.out HUL.out HU0.out HKL.out HG.out hhi (by omega))
                              go_wp2_with fail
                              go_ret2
                              exact ⟨parse_no HX.out, rfl⟩
                            · obtain ⟨F, hF⟩ : ∃ F : Nat, -(k : Int) - (j : Int) + 1075 = (F : Int) := ⟨(-(k : Int) - (j : Int) + 1075).toNat, by omega⟩
                              have HFL := Lib.hid (show 1 ≤ F ∧ F ≤ 2046 by omega)
                              have HX := Lib.hid (fin_norm HI.out HUL.out HU0.out HOD.out HKL.out HG.out hF HFL.out (by omega))
                              have hmk := mask52 m (by have := HML.out; omega)
                              have hy := run_f64from
                              have hwm : IntKind.u64.wrap (m : Int) = (m : Int) := by have := HML.out; rw [IntKind.wrap_u64]; omega
                              have HE := Lib.hid (norm_false F m (by omega) (by have := HML.out; omega))
                              go_wp2_with fail
                              go_ret2
                              exact ⟨pe_eq HX.out HE.out, rfl⟩
                  · have HX := Lib.hid (HB4.out hc1 h45 hk)
                    go_wp2_with fail
                    go_ret2
                    exact ⟨parse_no HX.out, rfl⟩
                · have hd : (((T[i + 1]'hc1).toNat : Int) == 45) = false := by
                    rw [beq_eq_false_iff_ne]
                    intro x
                    apply h45
                    apply UInt8.toNat_inj.1
                    show _ = 45
                    omega
                  go_wp2_with fail
                  refine (number_any R 2000 (by omega) wr).mono ?_
                  rintro e w1 ⟨⟨k, hk1, hk2, rfl⟩ | ⟨hk, rfl⟩, rfl⟩
                  · have HKL := Lib.hid (show -2000 ≤ (k : Int) ∧ (k : Int) ≤ 2000 by omega)
                    go_wp2_with fail
                    have HG := Lib.hid (HG2.out u k hu2 hc1 h45 hk2)
                    have HUL := Lib.hid (show u < 9007199254740992 by omega)
                    have HU0 := Lib.hid (show 0 < u by omega)
                    clear HNP HYP HB1 HB2 HB3 HB4 HB5 HB6 HG1 HG2 h45 hd hu2 hu1
                    go_loopw [7, 10, 91, 92, 93, 94, 95, 96, 97, 98, 99, 100] (fun v7 v10 _ _ _ _ _ _ _ _ _ _ wr2 => ∃ m j : Nat, v7 = .int .i64 (m : Int) ∧ v10 = .int .i64 ((k : Int) - (j : Int)) ∧ wr2 = wr ∧ Hid (Scaled u ((k : Int)) m j)) (fun v7 _ _ _ _ _ _ _ _ _ _ _ _ => (9007199254740992 - intOf v7).toNat)
                    case atStart => exact ⟨u, 0, rfl, by simp, rfl, Lib.hid (scaled_zero HUL.out)⟩
                    case round =>
                      obtain ⟨m, j, rfl, rfl, rfl, HI⟩ := hrel
                      have HJ := Lib.hid HI.out.le
                      have HML := Lib.hid HI.out.lim
                      have HMP := Lib.hid (scaled_pos HI.out HU0.out)
                      have hw5 : wrap64 ((k : Int) - (j : Int) + 1075) = (k : Int) - (j : Int) + 1075 := by have := HJ.out; have := HKL.out; unfold wrap64; omega
                      by_cases hm52 : (m : Int) < 4503599627370496
                      · by_cases hk : -1074 < (k : Int) - (j : Int)
                        · have HST := Lib.hid (scaled_step HI.out HU0.out (by omega) hk)
                          go_wp2_with fail
                          have h1 := HST.out.2
                          have h2 := HMP.out
                          refine ⟨⟨m * 2, j + 1, by congr 1, by congr 1; omega, trivial, Lib.hid HST.out.1⟩, ?_⟩
                          simp only [intOf]; omega
                        · by_cases hlow : (k : Int) - (j : Int) < -1074
                          · have HX := Lib.hid (fin_low HI.out HUL.out HU0.out HKL.out HG.out hlow)
                            go_wp2_with fail
                            go_ret2
                            exact ⟨parse_no HX.out, rfl⟩
                          · have heq : (k : Int) - (j : Int) = -1074 := by omega
                            have HX := Lib.hid (fin_sub HI.out HUL.out HU0.out HOD.out HKL.out HG.out heq (by omega))
                            have hmk := mask52 m (by have := HML.out; omega)
                            have hy := run_f64from
                            clear hk hlow hw5
                            have hwm : IntKind.u64.wrap (m : Int) = (m : Int) := by have := HML.out; rw [IntKind.wrap_u64]; omega
                            have HE := Lib.hid (show m % 4503599627370496 = (if false then 9223372036854775808 else 0) + m by rw [Nat.mod_eq_of_lt (by omega)]; simp)
                            go_wp2_with fail
                            go_ret2
                            exact ⟨pe_eq HX.out HE.out, rfl⟩
                      · by_cases hlow : (k : Int) - (j : Int) < -1074
                        · have HX := Lib.hid (fin_low HI.out HUL.out HU0.out HKL.out HG.out hlow)
                          go_wp2_with fail
                          go_ret2
                          exact ⟨parse_no HX.out, rfl⟩
                        · by_cases hhi : 971 < (k : Int) - (j : Int)
                          · have HX := Lib.hid (fin_high HI.out HUL.out HU0.out HKL.out HG.out hhi (by omega))
                            go_wp2_with fail
                            go_ret2
                            exact ⟨parse_no HX.out, rfl⟩
                          · obtain ⟨F, hF⟩ : ∃ F : Nat, (k : Int) - (j : Int) + 1075 = (F : Int) := ⟨((k : Int) - (j : Int) + 1075).toNat, by omega⟩
                            have HFL := Lib.hid (show 1 ≤ F ∧ F ≤ 2046 by omega)
                            have HX := Lib.hid (fin_norm HI.out HUL.out HU0.out HOD.out HKL.out HG.out hF HFL.out (by omega))
                            have hmk := mask52 m (by have := HML.out; omega)
                            have hy := run_f64from
                            have hwm : IntKind.u64.wrap (m : Int) = (m : Int) := by have := HML.out; rw [IntKind.wrap_u64]; omega
                            have HE := Lib.hid (norm_false F m (by omega) (by have := HML.out; omega))
                            go_wp2_with fail
                            go_ret2
                            exact ⟨pe_eq HX.out HE.out, rfl⟩
                  · have HX := Lib.hid (HB6.out hc1 h45 hk)
                    go_wp2_with fail
                    go_ret2
                    exact ⟨parse_no HX.out, rfl⟩
              · have hc2' : (T.size : Int) - 1 ≤ (i : Int) := by omega
                have HX := Lib.hid (HB3.out (by omega))
                go_wp2_with fail
                go_ret2
                exact ⟨parse_no HX.out, rfl⟩
        · have HX := Lib.hid (HB1.out hu)
          go_wp2_with fail
          go_ret2
          exact ⟨parse_no HX.out, rfl⟩
      · have hl1 : ¬ (i : Int) < (T.size : Int) := by omega
        have hi9 : wrap64 ((T.size : Int) - 1) = (T.size : Int) - 1 := by unfold wrap64; omega
        have hc2' : (T.size : Int) - 1 ≤ (i : Int) := by omega
        have HX := Lib.hid (HB3.out (by omega))
        go_wp2_with fail
        refine (number_any M 9007199254740991 (by omega) wr).mono ?_
        rintro e w1 ⟨⟨u, hu1, hu2, rfl⟩ | ⟨hu, rfl⟩, rfl⟩
        · by_cases hu0 : u = 0
          · subst hu0
            go_wp2_with fail
            go_ret2
            exact ⟨parse_no HX.out, rfl⟩
          · have hu0' : ¬ (u : Int) < 1 := by omega
            by_cases hev : u % 2 = 0
            · have o1 : ((u : Int) % 2 == 0) = true := by simp; omega
              go_wp2_with fail
              go_ret2
              exact ⟨parse_no HX.out, rfl⟩
            · have o1 : ((u : Int) % 2 == 0) = false := by simp; omega
              go_wp2_with fail
              go_ret2
              exact ⟨parse_no HX.out, rfl⟩
        · skip
          go_wp2_with fail
          go_ret2
          exact ⟨parse_no HX.out, rfl⟩
end Go.Proofs.YtnbpioinhjijcaaDoor


