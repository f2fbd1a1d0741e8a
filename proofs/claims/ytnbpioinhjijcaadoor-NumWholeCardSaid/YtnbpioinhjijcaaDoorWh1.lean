import Derived.Test.YtnbpioinhjijcaaDoorRT1
/-! NumWhole. -/
namespace Go.Proofs.YtnbpioinhjijcaaDoor
open Go.RowKit Bk
theorem add_val (a b r : Nat) (ha : a < 18446744073709551616) (hb : b < 18446744073709551616) (fa : a % 9223372036854775808 < 9218868437227405312) (fb : b % 9223372036854775808 < 9218868437227405312)
    (hr : r < 9218868437227405312) (h : (sval a + sval b).natAbs = rv r) : ∃ c, F64.add a b = some c ∧ sval c = sval a + sval b ∧ c % 9223372036854775808 = r ∧ c < 18446744073709551616 := by
  unfold Ieee.Format.add
  rw [sval_of a ha, sval_of b hb] at *
  rw [read_num a fa, read_num b fb]
  clear fa fb ha hb
  generalize a % 9223372036854775808 = ra at *
  generalize b % 9223372036854775808 = rb at *
  generalize (a / 9223372036854775808 % 2 == 1) = s at *
  generalize (b / 9223372036854775808 % 2 == 1) = t at *
  simp only [Ieee.Datum.sum, Option.map_some]
  obtain ⟨k, hk⟩ : ∃ k, k = min (expR ra) (expR rb) := ⟨_, rfl⟩
  have hk1 : k ≤ expR ra := by omega
  have hk2 : k ≤ expR rb := by omega
  have e0 : min (((expR ra : Nat) : Int) - 1074) (((expR rb : Nat) : Int) - 1074) = (k : Int) - 1074 := by omega
  have e1 : (((expR ra : Nat) : Int) - 1074 - ((k : Int) - 1074)).toNat = expR ra - k := by omega
  have e2 : (((expR rb : Nat) : Int) - 1074 - ((k : Int) - 1074)).toNat = expR rb - k := by omega
  rw [e0, e1, e2]
  have g1 := signed_rv s ra k hk1
  have g2 := signed_rv t rb k hk2
  rw [← g1, ← g2, ← Int.add_mul] at h ⊢
  generalize Ieee.signed s (sigR ra) (expR ra - k) + Ieee.signed t (sigR rb) (expR rb - k) = tot at *
  refine ⟨F64.word (if tot = 0 then s && t else decide (tot < 0)) r, ?_, ?_, (word_mod _ r (by omega)).1, (word_mod _ r (by omega)).2.2⟩
  · show some (F64.nearest _ tot.natAbs ((k : Int) - 1074)) = _
    rw [nearest_val _ _ _ r (by omega) (.inl ⟨k, rfl, by rw [← h, Int.natAbs_mul]; rfl⟩)]
  · rw [sval_word _ r (by omega)]
    have hp : (0 : Int) < ((2 ^ k : Nat) : Int) := by have := Nat.two_pow_pos k; omega
    generalize ((2 ^ k : Nat) : Int) = p at *
    by_cases h0 : tot = 0
    · subst h0
      rw [Int.zero_mul] at h ⊢
      have : rv r = 0 := by rw [← h]; rfl
      rw [this]
      simp
    · rw [if_neg h0]
      by_cases hn : tot < 0
      · have : tot * p < 0 := Int.mul_neg_of_neg_of_pos hn hp
        rw [if_pos (by simpa using hn)]
        omega
      · have : 0 < tot * p := Int.mul_pos (by omega) hp
        rw [if_neg (by simpa using hn)]
        omega

theorem rung_whole (N : Nat) (h : N ≤ 9007199254740992) : ∃ r, rv r = N * unit ∧ r < 9218868437227405312 := by
  rcases Nat.lt_or_ge N 9007199254740992 with h1 | h1
  · exact ⟨wi N, wi_rung N h1⟩
  · obtain rfl : N = 9007199254740992 := by omega
    refine ⟨4845873199050653696, ?_, by omega⟩
    obtain ⟨j, hj, hu⟩ := unit_j
    unfold rv
    rw [hu, show sigR 4845873199050653696 = 2 ^ 52 by decide, show expR 4845873199050653696 = 1 + j by rw [hj]; decide, show (9007199254740992 : Nat) = 2 ^ 52 * 2 ^ 1 by decide, Nat.pow_add, Nat.mul_assoc]

/-- A whole number as a float. -/
theorem fi_spec (x : Int) (h : x.natAbs < 9007199254740992) : ∃ F, floatOfInt .f64 x = F ∧ F < 18446744073709551616 ∧ F % 9223372036854775808 < 9218868437227405312 ∧ rv (F % 9223372036854775808) = x.natAbs * unit ∧ sval F = x * unit ∧ (F % 9223372036854775808 = 0 → F = 0) := by
  obtain ⟨w1, w2⟩ := wi_rung x.natAbs h
  obtain ⟨m1, m2, m3⟩ := word_mod (decide (x < 0)) (wi x.natAbs) (by omega)
  refine ⟨F64.word (decide (x < 0)) (wi x.natAbs), ?_, m3, by rw [m1]; exact w2, by rw [m1]; exact w1, ?_, ?_⟩
  · show F64.nearest (decide (x < 0)) x.natAbs 0 = _
    obtain ⟨j, hj, hu⟩ := unit_j
    rw [nearest_val _ _ _ (wi x.natAbs) (by omega) (.inl ⟨j, by omega, by rw [w1, hu]⟩)]
  · rw [sval_word _ _ (by omega), w1, Int.natCast_mul]
    by_cases hx : x < 0
    · rw [if_pos (by simpa using hx), ← Int.neg_mul]
      congr 1; omega
    · rw [if_neg (by simpa using hx)]
      congr 1; omega
  · rw [m1]
    intro e
    have h0 : x.natAbs = 0 := by
      rw [e, rv_zero] at w1
      rcases Nat.mul_eq_zero.1 w1.symm with h | h
      · exact h
      · have := unit_pos; omega
    have : decide (x < 0) = false := by simp; omega
    rw [this, word_eq, if_neg (by decide)]
    exact e

theorem ex_whole {r N : Nat} (h0 : 0 < r) (h1 : r < 9218868437227405312) (h : rv r = N * unit) : ∃ k : Nat, exB r = (k : Int) := by
  obtain ⟨m1, m2, m3, a, m4, m5, m6⟩ := mag_spec r h0 h1
  obtain ⟨j, hj, hu⟩ := unit_j
  rcases Nat.lt_or_ge a j with hl | hl
  · exfalso
    obtain ⟨d, rfl⟩ : ∃ d, j = a + 1 + d := ⟨j - a - 1, by omega⟩
    rw [h, hu, Nat.pow_add, Nat.pow_succ, Nat.mul_assoc, Nat.mul_comm (2 ^ a) (2 * 2 ^ d), ← Nat.mul_assoc] at m5
    have := Nat.eq_of_mul_eq_mul_right (Nat.two_pow_pos a) m5
    clear m5 h hu hj
    rw [Nat.mul_comm N, Nat.mul_assoc] at this
    generalize 2 ^ d * N = q at this
    omega
  · exact ⟨a - j, by omega⟩

theorem no45_body {r N : Nat} (h1 : r < 9218868437227405312) (h : rv r = N * unit) : ∀ c ∈ bodyB r, c ≠ 45 := by
  by_cases h0 : r = 0
  · subst h0; rw [body_zero]; decide
  · rw [body_num (by omega) h1]
    obtain ⟨k, hk⟩ := ex_whole (by omega) h1 h
    rw [hk, itoa_pos]
    have hd : ∀ u, ∀ c ∈ Lib.decDigits u, c ≠ 45 := by
      intro u c hc e
      have := dec_digits u c hc
      subst e
      revert this
      decide
    intro c hc
    simp only [List.mem_append, List.mem_cons, List.not_mem_nil, or_false] at hc
    rcases hc with (hc | rfl) | hc
    · exact hd _ c hc
    · decide
    · exact hd _ c hc
theorem no_pm (F N : Nat) (hn : nanB F = false) (h1 : F % 9223372036854775808 < 9218868437227405312) (h : rv (F % 9223372036854775808) = N * unit) (i : Nat) : (!({ data := (textB F).toArray : ByteArray }.extract i (i + 2)).toList == [112, 45]) = true := by
  have hb := no45_body h1 h
  have ht : (textB F)[i + 1]? ≠ some 45 := by
    unfold textB
    rw [hn, if_neg (by decide)]
    split
    · intro e
      rw [List.cons_append, List.nil_append, List.getElem?_cons_succ] at e
      exact hb 45 (List.mem_of_getElem? e) rfl
    · intro e
      rw [List.nil_append] at e
      exact hb 45 (List.mem_of_getElem? e) rfl
  generalize textB F = T at *
  rw [ByteArray.toList_eq, Bool.not_eq_true', beq_eq_false_iff_ne]
  intro e
  apply ht
  have h2 : (({ data := T.toArray : ByteArray }.extract i (i + 2)).data.toList)[1]? = some 45 := by rw [e]; rfl
  rw [ByteArray.data_extract] at h2
  simp at h2
  exact h2

set_option maxRecDepth 100000 in
theorem whole_walk (n x : Int) (F G : Nat) (T : List UInt8) (h0 : n.tmod 9007199254740992 = x) (hF : floatOfInt .f64 x = F) (hG : F64.add F 4607182418800017408 = some G) 
   (ha : ∀ w, Calls Tryd.prog 26 #[.int .i64 x, .float .f64 F] w fun e w' => e = .returned (.tuple #[.int .i64 0, .bool true]) ∧ w = w')
   (hg : ∀ w, Calls Tryd.prog 26 #[.int .i64 x, .float .f64 G] w fun e w' => e = .returned (.tuple #[.int .i64 (-1), .bool true]) ∧ w = w')
   (ht : ∀ w, Vars w → Calls Tryd.prog 23 #[.float .f64 F] w fun e w' => e = .returned (.string ⟨T.toArray⟩) ∧ Below w.heap.size w w')
   (hp : ∀ w, Vars w → Calls Tryd.prog 21 #[.string ⟨T.toArray⟩] w fun e w' => e = .returned (.tuple #[.float .f64 F, .int .i64 0]) ∧ Below w.heap.size w w')
   (hpm : ∀ i : Nat, (!({ data := T.toArray : ByteArray }.extract i (i + 2)).toList == [112, 45]) = true) (hfn : nanB F = false) (hfl : F < 18446744073709551616)
   (hr : ∀ w, Calls Tryd.prog 24 #[.float .f64 F] w fun e w' => e = .returned (.string ⟨T.toArray⟩) ∧ Below w.heap.size w w')
   (hL : T.length ≤ 100) (w : World) (hv : Vars w) :
    Calls Tryd.prog 8 #[.int .i64 n] w fun e w' => e = .returned (.bool true) ∧ Below w.heap.size w w' := by
  have HS := Lib.hid (shown_any w hv)
  have HV := Lib.hid hv
  clear hv
  have hm : ∀ t w, (binOp .add t (.float .f64 F) (.float .f64 4607182418800017408)).run Tryd.prog w = .ok (.float .f64 G) w := fun t w => run_float_arith w .add t .f64 _ _ _ hG
  have hord : (FloatKind.f64.format.order F F == some .eq) = true := by rw [ord_eq hfl hfl (nan_of hfn) (nan_of hfn)]; simp
  clear hfn hfl
  go_enter Tryd.func8, Tryd.ntmps8
  go_wp2_with fail
  refine HS.out.mono ?_
  rintro e w1 ⟨rfl, hb1⟩
  have HV1 := Lib.hid (HV.out.below hb1)
  have HB1 := Lib.hid hb1
  clear hb1
  go_wp2_with fail
  refine (ha w1).mono ?_
  rintro e w2 ⟨rfl, rfl⟩
  go_wp2_with fail
  refine (hg w1).mono ?_
  rintro e w2 ⟨rfl, rfl⟩
  go_wp2_with fail
  refine (ht w1 HV1.out).mono ?_
  rintro e w2 ⟨rfl, hb2⟩
  have HV2 := Lib.hid (HV1.out.below hb2)
  have HB2 := Lib.hid (HB1.out.trans (hb2.mono HB1.out.size))
  clear hb2
  go_wp2_with fail
  refine (hp w2 HV2.out).mono ?_
  rintro e w3 ⟨rfl, hb3⟩
  have HB3 := Lib.hid (HB2.out.trans (hb3.mono HB2.out.size))
  clear hb3
  go_wp2_with fail
  go_loopw [12, 13, 39, 40, 41, 42, 43, 44, 45, 46, 47, 48, 49, 50, 51, 52, 53, 54] (fun v12 v13 _ _ _ _ _ _ _ _ _ _ _ _ _ _ _ _ wr => v12 = .bool true ∧ ∃ i : Nat, v13 = .int .i64 (i : Int) ∧ wr = w3 ∧ i ≤ T.length) (fun _ v13 _ _ _ _ _ _ _ _ _ _ _ _ _ _ _ _ _ => (200 - intOf v13).toNat)
  case atStart =>
    exact ⟨rfl, 0, rfl, rfl, by omega⟩
  case round =>
    obtain ⟨rfl, i, rfl, rfl, hi⟩ := hrel
    have hw1 : wrap64 ((i : Int) + 1) = (i : Int) + 1 := by unfold wrap64; omega
    have hw2 : wrap64 ((i : Int) + 2) = (i : Int) + 2 := by unfold wrap64; omega
    by_cases hl : i + 1 < T.length
    · have hl1 : (i : Int) + 1 < (T.length : Int) := by omega
      have hpi := Lib.hid (hpm i)
      clear hpm
      go_wp2_with fail
      refine ⟨⟨by rw [hpi.out], i + 1, by rfl, trivial, by omega⟩, ?_⟩
      simp only [intOf]; omega
    · have hl1 : ¬ (i : Int) + 1 < (T.length : Int) := by omega
      clear hpm
      go_wp2_with fail
      refine (hr wr).mono ?_
      rintro e w4 ⟨rfl, hb4⟩
      have HB4 := Lib.hid (HB3.out.trans (hb4.mono HB3.out.size))
      clear hb4
      go_wp2_with fail
      go_ret
      exact ⟨rfl, HB4.out⟩

/-- NumWhole -/
theorem whole_any (n : Int) (w : World) (hv : Vars w) :
    Calls Tryd.prog 8 #[.int .i64 n] w fun e w' => e = .returned (.bool true) ∧ Below w.heap.size w w' := by
  obtain ⟨x, hx⟩ : ∃ x, n.tmod 9007199254740992 = x := ⟨_, rfl⟩
  have hxl : x.natAbs < 9007199254740992 := by
    have h1 := Int.natAbs_tmod n 9007199254740992
    rw [hx] at h1
    have h2 : n.natAbs % 9007199254740992 < 9007199254740992 := Nat.mod_lt _ (by omega)
    have h3 : (9007199254740992 : Int).natAbs = 9007199254740992 := rfl
    rw [h3] at h1
    omega
  obtain ⟨F, f1, f2, f3, f4, f5, _⟩ := fi_spec x hxl
  have hFn : nanB F = false := (nanB_false F).2 (by omega)
  obtain ⟨r, r1, r2⟩ := rung_whole (x + 1).natAbs (by omega)
  have hrone : rv 4607182418800017408 = unit := by
    obtain ⟨j, hj, hu⟩ := unit_j
    have hE : 52 + expR 4607182418800017408 = j := by rw [hj]; decide
    have hS : sigR 4607182418800017408 = 2 ^ 52 := by decide
    unfold rv
    generalize expR 4607182418800017408 = q at *
    rw [hu, hS, ← Nat.pow_add, hE]
  have hone : sval 4607182418800017408 = unit := by
    unfold sval
    rw [if_neg (by omega), hrone]
  have hsum : sval F + sval 4607182418800017408 = (x + 1) * unit := by rw [f5, hone, Int.add_mul, Int.one_mul]
  obtain ⟨G, g1, g2, g3, g4⟩ := add_val F 4607182418800017408 r f2 (by omega) f3 (by omega) r2 (by rw [hsum, Int.natAbs_mul, r1]; rfl)
  have hGn : nanB G = false := (nanB_false G).2 (by omega)
  rw [hsum] at g2
  refine whole_walk n x F G (textB F) hx f1 g1 (fun w => ?_) (fun w => ?_) (fun w hv => text_any F f2 w hv) (fun w hv => ?_) (no_pm F _ hFn f3 f4) hFn f2 (fun w => refText_any F f2 w) (text_len F) w hv
  · have := against_any x (by omega) (by omega) F f2 w
    rwa [agV_num hFn, cmpZ_eq f5.symm] at this
  · have := against_any x (by omega) (by omega) G g4 w
    have hl : x * (unit : Int) < (x + 1) * unit := Int.mul_lt_mul_of_pos_right (by omega) (by have := unit_pos; omega)
    rwa [agV_num hGn, g2, cmpZ_lt hl] at this
  · have := parse_text F f2 w hv
    rwa [canonB_num hFn] at this
end Go.Proofs.YtnbpioinhjijcaaDoor
