import Derived.Test.YtbcnokidnpnmhaaRd4
namespace Go.Proofs.Ytbcnokidnpnmhaa
open Go.RowKit

theorem neg_back (n : Nat) (h : n < 9223372036854775808) : wrap64 (bits .xor .u64 IntKind.u64.max (n : Int)) = -1 - (n : Int) := by
  rw [xor_max n (by omega)]; unfold wrap64; omega
theorem neg_back' (n : Nat) (h : ¬ n < 9223372036854775808) (h2 : n < 18446744073709551616) : 0 ≤ wrap64 (bits .xor .u64 IntKind.u64.max (n : Int)) := by
  rw [xor_max n h2]; unfold wrap64; omega
theorem big_neg (n : Nat) (h : ¬ n < 9223372036854775808) (h2 : n < 18446744073709551616) : wrap64 (n : Int) < 0 := by unfold wrap64; omega
theorem canon_ofKey {k : Nat} (h : keyB (ofKeyB k) = k) : canonB (ofKeyB k) = ofKeyB k := by
  have h1 := keyB_canonB (ofKeyB k)
  by_cases hn : nanB (ofKeyB k) = true
  · have h2 := keyB_nan' hn
    rw [h] at h2
    rw [canonB_nan hn, ofKeyB_max h2]
  · exact canonB_num (by simpa using hn)

set_option maxHeartbeats 400000 in
theorem value_0 (pb : Nat) (v : Value) (l : List UInt8) (pos : Nat) (w : World) (h : RdAt w pb v l pos) (hp : pos < l.length) (hc : (l[pos]).toNat = 0) (R : Ending → World → Prop)
    (hS : ∀ w', w.grownBy w' (some pb) → RdAt w' pb v l (pos + 1) → R (.returned (VAL 0 0 0 ⟨#[]⟩)) w') :
    Calls Try.prog 39 #[.pointer (some ⟨pb, 0, none⟩)] w R := by
  have HS := Lib.hid hS
  have HP := Lib.hid hp
  have HLE := Lib.hid h.le
  have HA := Lib.hid (h.below ((Below.refl w.heap.size w).alloc (Nat.le_refl _) (VOBJ 0 0 0 ⟨#[]⟩)))
  have HT := Lib.hid fun k v1 => after_take w pb v l pos k v1 h hp 0 hc
  clear hS h hc hp
  go_enter Try.func39, Try.ntmps39
  go_wp2_with fail
  refine (take_ok pb v l pos 1 _ HA.out (by have := HP.out; omega)).mono ?_
  rintro e w1 ⟨v1, rfl, ⟨k, rfl⟩, hr, ho⟩
  obtain ⟨w3, hw3, hg, hrd, hval, ⟨ad, cap, rfl, hcell⟩, hne, hne2⟩ := HT.out k v1 hr ho
  rw [hw3]
  have HM := Lib.hid (Mid.mk hg hrd hval hne hne2 (Nat.le_refl _))
  clear hr ho hw3 hg hrd hval hne hne2
  have c0 := HM.out.val.c0
  have c1 := HM.out.val.c1
  have c2 := HM.out.val.c2
  have c3 := HM.out.val.c3
  have fz := HM.out.val.fz

  go_wp2_with fail
  refine (right_any _ _ _ _ _).mono ?_
  rintro e w5 ⟨rfl, hb5⟩
  have H5 := Lib.hid (Mid.below (HM.out.set0 0) hb5)
  clear hb5
  have c05 := H5.out.val.c0
  have c15 := H5.out.val.c1
  have c25 := H5.out.val.c2
  have c35 := H5.out.val.c3
  have fz5 := H5.out.val.fz
  rw [show rightB 0 0 0 ⟨#[]⟩ = true from rightB_0]
  go_wp2_with fail
  refine bodyPost_ret (v := VAL (0) (0) (0) ⟨#[]⟩) ?_ rfl ?_
  · simp [results, Try.results39, go_sem, c05, c15, c25, c35]
  · exact HS.out _ ((((H5.out.set0 _).set1 _).set2 _).set3 _).gr ((((H5.out.set0 _).set1 _).set2 _).set3 _).rd

set_option maxHeartbeats 400000 in
theorem value_1 (pb : Nat) (v : Value) (l : List UInt8) (pos : Nat) (w : World) (h : RdAt w pb v l pos) (hp : pos < l.length) (hc : (l[pos]).toNat = 1) (R : Ending → World → Prop)
    (hL : getB (l.drop (pos + 1)) = none → ∀ w', w.grownBy w' (some pb) → R LACK w')
    (hN : ∀ n k, getB (l.drop (pos + 1)) = some (n, k) → ¬ n < 2 → ∀ w', w.grownBy w' (some pb) → R LACK w')
    (hS : ∀ (n k : Nat), getB (l.drop (pos + 1)) = some (n, k) → n < 2 → ∀ w', w.grownBy w' (some pb) → RdAt w' pb v l (pos + 1 + k) → R (.returned (VAL 1 (n) 0 ⟨#[]⟩)) w') :
    Calls Try.prog 39 #[.pointer (some ⟨pb, 0, none⟩)] w R := by
  have HS := Lib.hid hS
  have HN := Lib.hid hN
  have HL := Lib.hid hL
  have HP := Lib.hid hp
  have HLE := Lib.hid h.le
  have HA := Lib.hid (h.below ((Below.refl w.heap.size w).alloc (Nat.le_refl _) (VOBJ 0 0 0 ⟨#[]⟩)))
  have HT := Lib.hid fun k v1 => after_take w pb v l pos k v1 h hp 1 hc
  clear hS hN hL h hc hp
  go_enter Try.func39, Try.ntmps39
  go_wp2_with fail
  refine (take_ok pb v l pos 1 _ HA.out (by have := HP.out; omega)).mono ?_
  rintro e w1 ⟨v1, rfl, ⟨k, rfl⟩, hr, ho⟩
  obtain ⟨w3, hw3, hg, hrd, hval, ⟨ad, cap, rfl, hcell⟩, hne, hne2⟩ := HT.out k v1 hr ho
  rw [hw3]
  have HM := Lib.hid (Mid.mk hg hrd hval hne hne2 (Nat.le_refl _))
  clear hr ho hw3 hg hrd hval hne hne2
  have c0 := HM.out.val.c0
  have c1 := HM.out.val.c1
  have c2 := HM.out.val.c2
  have c3 := HM.out.val.c3
  have fz := HM.out.val.fz

  go_wp2_with fail
  have HM1 := Lib.hid (HM.out.set0 1)
  refine number_any pb v l (pos + 1) _ HM1.out.rd _ ?_ ?_
  · intro hn w4 hg4
    exact ⟨rfl, HL.out hn _ (HM1.out.lack hg4)⟩
  · intro n j hn w4 hg4 hr4
    have hb := (getB_some hn).1
    have HM2 := Lib.hid (HM1.out.turned hg4 hr4)
    have HG := Lib.hid hn
    have HB := Lib.hid hb
    clear hg4 hr4 hn c0 c1 c2 c3 fz hcell
    have c0 := HM2.out.val.c0
    have c1 := HM2.out.val.c1
    have c2 := HM2.out.val.c2
    have c3 := HM2.out.val.c3
    have fz := HM2.out.val.fz

    by_cases h63 : n < 9223372036854775808
    · go_wp2_with fail

      refine (right_any _ _ _ _ _).mono ?_
      rintro e w5 ⟨rfl, hb5⟩
      have H5 := Lib.hid (Mid.below (HM2.out.set1 n) hb5)
      clear hb5
      have c05 := H5.out.val.c0
      have c15 := H5.out.val.c1
      have c25 := H5.out.val.c2
      have c35 := H5.out.val.c3
      have fz5 := H5.out.val.fz
      by_cases h2 : n < 2
      · rw [show rightB 1 (n : Int) 0 ⟨#[]⟩ = true by rw [rightB_1]; simp; omega]
        go_wp2_with fail
        refine bodyPost_ret (v := VAL 1 n 0 ⟨#[]⟩) ?_ rfl ?_
        · simp [results, Try.results39, go_sem, c05, c15, c25, c35]
        · exact HS.out n j HG.out h2 _ ((((H5.out.set0 _).set1 _).set2 _).set3 _).gr ((((H5.out.set0 _).set1 _).set2 _).set3 _).rd
      · rw [show rightB 1 (n : Int) 0 ⟨#[]⟩ = false by rw [rightB_1]; simp; omega]
        go_wp2_with fail
        exact ⟨rfl, HN.out n j HG.out h2 _ H5.out.gr⟩

    · have cX : decide (wrap64 (n : Int) < 0) = true := by simpa using big_neg n h63 hb
      clear hb
      go_wp2_with fail
      exact ⟨rfl, HN.out n j HG.out (by omega) _ (HM2.out.set1 _).gr⟩

set_option maxHeartbeats 400000 in
theorem value_2 (pb : Nat) (v : Value) (l : List UInt8) (pos : Nat) (w : World) (h : RdAt w pb v l pos) (hp : pos < l.length) (hc : (l[pos]).toNat = 2) (R : Ending → World → Prop)
    (hL : getB (l.drop (pos + 1)) = none → ∀ w', w.grownBy w' (some pb) → R LACK w')
    (hN : ∀ n k, getB (l.drop (pos + 1)) = some (n, k) → ¬ n < 9223372036854775808 → ∀ w', w.grownBy w' (some pb) → R LACK w')
    (hS : ∀ (n k : Nat), getB (l.drop (pos + 1)) = some (n, k) → n < 9223372036854775808 → ∀ w', w.grownBy w' (some pb) → RdAt w' pb v l (pos + 1 + k) → R (.returned (VAL 2 (n) 0 ⟨#[]⟩)) w') :
    Calls Try.prog 39 #[.pointer (some ⟨pb, 0, none⟩)] w R := by
  have HS := Lib.hid hS
  have HN := Lib.hid hN
  have HL := Lib.hid hL
  have HP := Lib.hid hp
  have HLE := Lib.hid h.le
  have HA := Lib.hid (h.below ((Below.refl w.heap.size w).alloc (Nat.le_refl _) (VOBJ 0 0 0 ⟨#[]⟩)))
  have HT := Lib.hid fun k v1 => after_take w pb v l pos k v1 h hp 2 hc
  clear hS hN hL h hc hp
  go_enter Try.func39, Try.ntmps39
  go_wp2_with fail
  refine (take_ok pb v l pos 1 _ HA.out (by have := HP.out; omega)).mono ?_
  rintro e w1 ⟨v1, rfl, ⟨k, rfl⟩, hr, ho⟩
  obtain ⟨w3, hw3, hg, hrd, hval, ⟨ad, cap, rfl, hcell⟩, hne, hne2⟩ := HT.out k v1 hr ho
  rw [hw3]
  have HM := Lib.hid (Mid.mk hg hrd hval hne hne2 (Nat.le_refl _))
  clear hr ho hw3 hg hrd hval hne hne2
  have c0 := HM.out.val.c0
  have c1 := HM.out.val.c1
  have c2 := HM.out.val.c2
  have c3 := HM.out.val.c3
  have fz := HM.out.val.fz

  go_wp2_with fail
  have HM1 := Lib.hid (HM.out.set0 2)
  refine number_any pb v l (pos + 1) _ HM1.out.rd _ ?_ ?_
  · intro hn w4 hg4
    exact ⟨rfl, HL.out hn _ (HM1.out.lack hg4)⟩
  · intro n j hn w4 hg4 hr4
    have hb := (getB_some hn).1
    have HM2 := Lib.hid (HM1.out.turned hg4 hr4)
    have HG := Lib.hid hn
    have HB := Lib.hid hb
    clear hg4 hr4 hn c0 c1 c2 c3 fz hcell
    have c0 := HM2.out.val.c0
    have c1 := HM2.out.val.c1
    have c2 := HM2.out.val.c2
    have c3 := HM2.out.val.c3
    have fz := HM2.out.val.fz

    by_cases h63 : n < 9223372036854775808
    · go_wp2_with fail

      refine (right_any _ _ _ _ _).mono ?_
      rintro e w5 ⟨rfl, hb5⟩
      have H5 := Lib.hid (Mid.below (HM2.out.set1 n) hb5)
      clear hb5
      have c05 := H5.out.val.c0
      have c15 := H5.out.val.c1
      have c25 := H5.out.val.c2
      have c35 := H5.out.val.c3
      have fz5 := H5.out.val.fz
      rw [rightB_2]
      go_wp2_with fail
      refine bodyPost_ret (v := VAL (2) (n) (0) ⟨#[]⟩) ?_ rfl ?_
      · simp [results, Try.results39, go_sem, c05, c15, c25, c35]
      · exact HS.out n j HG.out (by omega) _ ((((H5.out.set0 _).set1 _).set2 _).set3 _).gr ((((H5.out.set0 _).set1 _).set2 _).set3 _).rd

    · have cX : decide (wrap64 (n : Int) < 0) = true := by simpa using big_neg n h63 hb
      clear hb
      go_wp2_with fail
      exact ⟨rfl, HN.out n j HG.out (by omega) _ (HM2.out.set1 _).gr⟩

set_option maxHeartbeats 400000 in
theorem value_18 (pb : Nat) (v : Value) (l : List UInt8) (pos : Nat) (w : World) (h : RdAt w pb v l pos) (hp : pos < l.length) (hc : (l[pos]).toNat = 18) (R : Ending → World → Prop)
    (hL : getB (l.drop (pos + 1)) = none → ∀ w', w.grownBy w' (some pb) → R LACK w')
    (hN : ∀ n k, getB (l.drop (pos + 1)) = some (n, k) → ¬ n < 9223372036854775808 → ∀ w', w.grownBy w' (some pb) → R LACK w')
    (hS : ∀ (n k : Nat), getB (l.drop (pos + 1)) = some (n, k) → n < 9223372036854775808 → ∀ w', w.grownBy w' (some pb) → RdAt w' pb v l (pos + 1 + k) → R (.returned (VAL 2 (-1 - (n : Int)) 0 ⟨#[]⟩)) w') :
    Calls Try.prog 39 #[.pointer (some ⟨pb, 0, none⟩)] w R := by
  have HS := Lib.hid hS
  have HN := Lib.hid hN
  have HL := Lib.hid hL
  have HP := Lib.hid hp
  have HLE := Lib.hid h.le
  have HA := Lib.hid (h.below ((Below.refl w.heap.size w).alloc (Nat.le_refl _) (VOBJ 0 0 0 ⟨#[]⟩)))
  have HT := Lib.hid fun k v1 => after_take w pb v l pos k v1 h hp 18 hc
  clear hS hN hL h hc hp
  go_enter Try.func39, Try.ntmps39
  go_wp2_with fail
  refine (take_ok pb v l pos 1 _ HA.out (by have := HP.out; omega)).mono ?_
  rintro e w1 ⟨v1, rfl, ⟨k, rfl⟩, hr, ho⟩
  obtain ⟨w3, hw3, hg, hrd, hval, ⟨ad, cap, rfl, hcell⟩, hne, hne2⟩ := HT.out k v1 hr ho
  rw [hw3]
  have HM := Lib.hid (Mid.mk hg hrd hval hne hne2 (Nat.le_refl _))
  clear hr ho hw3 hg hrd hval hne hne2
  have c0 := HM.out.val.c0
  have c1 := HM.out.val.c1
  have c2 := HM.out.val.c2
  have c3 := HM.out.val.c3
  have fz := HM.out.val.fz

  go_wp2_with fail
  have HM1 := Lib.hid (HM.out.set0 18)
  refine number_any pb v l (pos + 1) _ HM1.out.rd _ ?_ ?_
  · intro hn w4 hg4
    exact ⟨rfl, HL.out hn _ (HM1.out.lack hg4)⟩
  · intro n j hn w4 hg4 hr4
    have hb := (getB_some hn).1
    have HM2 := Lib.hid (HM1.out.turned hg4 hr4)
    have HG := Lib.hid hn
    have HB := Lib.hid hb
    clear hg4 hr4 hn c0 c1 c2 c3 fz hcell
    have c0 := HM2.out.val.c0
    have c1 := HM2.out.val.c1
    have c2 := HM2.out.val.c2
    have c3 := HM2.out.val.c3
    have fz := HM2.out.val.fz

    have hsg : IntKind.u64.signed = false := rfl
    by_cases h63 : n < 9223372036854775808
    · have HE := Lib.hid (neg_back n h63)
      have cX : decide (0 ≤ wrap64 (bits .xor .u64 IntKind.u64.max (n : Int))) = false := by rw [HE.out]; simp; omega
      have H63 := Lib.hid h63
      clear h63 hb
      go_wp2_with fail
      refine (right_any _ _ _ _ _).mono ?_
      rintro e w5 ⟨rfl, hb5⟩
      have H5 := Lib.hid (Mid.below (((HM2.out.set0 2).set1 _)) hb5)
      clear hb5
      have c05 := H5.out.val.c0
      have c15 := H5.out.val.c1
      have c25 := H5.out.val.c2
      have c35 := H5.out.val.c3
      have fz5 := H5.out.val.fz
      rw [rightB_2]
      go_wp2_with fail
      refine bodyPost_ret (v := VAL (2) (wrap64 (bits .xor .u64 IntKind.u64.max (n : Int))) (0) ⟨#[]⟩) ?_ rfl ?_
      · simp [results, Try.results39, go_sem, c05, c15, c25, c35]
      · exact (by rw [HE.out]; exact HS.out n j HG.out H63.out _ ((((H5.out.set0 _).set1 _).set2 _).set3 _).gr ((((H5.out.set0 _).set1 _).set2 _).set3 _).rd)
    · have cX : decide (0 ≤ wrap64 (bits .xor .u64 IntKind.u64.max (n : Int))) = true := by simpa using neg_back' n h63 hb
      have H63 := Lib.hid h63
      clear h63 hb
      go_wp2_with fail
      exact ⟨rfl, HN.out n j HG.out H63.out _ ((HM2.out.set0 2).set1 _).gr⟩

set_option maxHeartbeats 400000 in
theorem value_4 (pb : Nat) (v : Value) (l : List UInt8) (pos : Nat) (w : World) (h : RdAt w pb v l pos) (hp : pos < l.length) (hc : (l[pos]).toNat = 4) (R : Ending → World → Prop)
    (hL : textB (l.drop (pos + 1)) = none → ∀ w', w.grownBy w' (some pb) → R LACK w')
    (hS : ∀ s k, textB (l.drop (pos + 1)) = some (s, k) → ∀ w', w.grownBy w' (some pb) → RdAt w' pb v l (pos + 1 + k) → R (.returned (VAL 4 0 0 ⟨s.toArray⟩)) w') :
    Calls Try.prog 39 #[.pointer (some ⟨pb, 0, none⟩)] w R := by
  have HS := Lib.hid hS
  have HL := Lib.hid hL
  have HP := Lib.hid hp
  have HLE := Lib.hid h.le
  have HA := Lib.hid (h.below ((Below.refl w.heap.size w).alloc (Nat.le_refl _) (VOBJ 0 0 0 ⟨#[]⟩)))
  have HT := Lib.hid fun k v1 => after_take w pb v l pos k v1 h hp 4 hc
  clear hS hL h hc hp
  go_enter Try.func39, Try.ntmps39
  go_wp2_with fail
  refine (take_ok pb v l pos 1 _ HA.out (by have := HP.out; omega)).mono ?_
  rintro e w1 ⟨v1, rfl, ⟨k, rfl⟩, hr, ho⟩
  obtain ⟨w3, hw3, hg, hrd, hval, ⟨ad, cap, rfl, hcell⟩, hne, hne2⟩ := HT.out k v1 hr ho
  rw [hw3]
  have HM := Lib.hid (Mid.mk hg hrd hval hne hne2 (Nat.le_refl _))
  clear hr ho hw3 hg hrd hval hne hne2
  have c0 := HM.out.val.c0
  have c1 := HM.out.val.c1
  have c2 := HM.out.val.c2
  have c3 := HM.out.val.c3
  have fz := HM.out.val.fz

  go_wp2_with fail
  have HM1 := Lib.hid (HM.out.set0 4)
  refine text_any pb v l (pos + 1) _ HM1.out.rd _ ?_ ?_
  · intro hn w4 hg4
    exact ⟨rfl, HL.out hn _ (HM1.out.lack hg4)⟩
  · intro s j hn w4 hg4 hr4
    have HM2 := Lib.hid (HM1.out.turned hg4 hr4)
    have HG := Lib.hid hn
    clear hg4 hr4 hn c0 c1 c2 c3 fz hcell
    have c0 := HM2.out.val.c0
    have c1 := HM2.out.val.c1
    have c2 := HM2.out.val.c2
    have c3 := HM2.out.val.c3
    have fz := HM2.out.val.fz
    go_wp2_with fail
    refine (right_any _ _ _ _ _).mono ?_
    rintro e w5 ⟨rfl, hb5⟩
    have H5 := Lib.hid (Mid.below (HM2.out.set3 _) hb5)
    clear hb5
    have c05 := H5.out.val.c0
    have c15 := H5.out.val.c1
    have c25 := H5.out.val.c2
    have c35 := H5.out.val.c3
    have fz5 := H5.out.val.fz
    rw [rightB_4]
    go_wp2_with fail
    refine bodyPost_ret (v := VAL (4) (0) (0) ⟨s.toArray⟩) ?_ rfl ?_
    · simp [results, Try.results39, go_sem, c05, c15, c25, c35]
    · exact HS.out s j HG.out _ ((((H5.out.set0 _).set1 _).set2 _).set3 _).gr ((((H5.out.set0 _).set1 _).set2 _).set3 _).rd

set_option maxHeartbeats 400000 in
theorem value_3 (pb : Nat) (v : Value) (l : List UInt8) (pos : Nat) (w : World) (h : RdAt w pb v l pos) (hp : pos < l.length) (hc : (l[pos]).toNat = 3) (R : Ending → World → Prop)
    (hL : l.length - (pos + 1) < 8 → ∀ w', w.grownBy w' (some pb) → R LACK w')
    (hN : ∀ k, ¬ l.length - (pos + 1) < 8 → k = valB ((l.drop (pos + 1)).take 8) → ¬ keyB (ofKeyB k) = k → ∀ w', w.grownBy w' (some pb) → R LACK w')
    (hS : ∀ k, ¬ l.length - (pos + 1) < 8 → k = valB ((l.drop (pos + 1)).take 8) → keyB (ofKeyB k) = k → ∀ w', w.grownBy w' (some pb) → RdAt w' pb v l (pos + 1 + 8) → R (.returned (VAL 3 0 (ofKeyB k) ⟨#[]⟩)) w') :
    Calls Try.prog 39 #[.pointer (some ⟨pb, 0, none⟩)] w R := by
  have HS := Lib.hid hS
  have HN := Lib.hid hN
  have HL := Lib.hid hL
  have HP := Lib.hid hp
  have HLE := Lib.hid h.le
  have HA := Lib.hid (h.below ((Below.refl w.heap.size w).alloc (Nat.le_refl _) (VOBJ 0 0 0 ⟨#[]⟩)))
  have HT := Lib.hid fun k v1 => after_take w pb v l pos k v1 h hp 3 hc
  clear hS hN hL h hc hp
  go_enter Try.func39, Try.ntmps39
  go_wp2_with fail
  refine (take_ok pb v l pos 1 _ HA.out (by have := HP.out; omega)).mono ?_
  rintro e w1 ⟨v1, rfl, ⟨k, rfl⟩, hr, ho⟩
  obtain ⟨w3, hw3, hg, hrd, hval, ⟨ad, cap, rfl, hcell⟩, hne, hne2⟩ := HT.out k v1 hr ho
  rw [hw3]
  have HM := Lib.hid (Mid.mk hg hrd hval hne hne2 (Nat.le_refl _))
  clear hr ho hw3 hg hrd hval hne hne2
  have c0 := HM.out.val.c0
  have c1 := HM.out.val.c1
  have c2 := HM.out.val.c2
  have c3 := HM.out.val.c3
  have fz := HM.out.val.fz

  have HM1 := Lib.hid (HM.out.set0 3)
  by_cases h8 : l.length - (pos + 1) < 8
  · go_wp2_with fail
    refine (high_lack pb v l (pos + 1) 8 _ HM1.out.rd h8 (by omega)).mono ?_
    rintro e w4 ⟨rfl, k4, rfl⟩
    exact ⟨rfl, HL.out h8 _ (HM1.out.lack (grown_drewN _ _ _))⟩
  · go_wp2_with fail
    refine (high_ok pb v l (pos + 1) 8 _ HM1.out.rd (by omega) (by omega)).mono ?_
    rintro e w4 ⟨rfl, k4, hw4⟩
    obtain ⟨a, ha⟩ : ∃ a, a = valB ((l.drop (pos + 1)).take 8) := ⟨_, rfl⟩
    have hal : a < 18446744073709551616 := by rw [ha]; exact valB_lt8 _ (by simp; omega)
    have HAL := Lib.hid hal
    rw [← ha]
    have HEQ := Lib.hid ha
    have hM2 := HM1.out.turned (grown_set _ pb 1 (.int .i64 (((pos + 1 : Nat) : Int) + (8 : Nat))) k4) (HM1.out.rd.took (n := 8) (k := k4) (by omega))
    rw [← hw4] at hM2
    have HM2 := Lib.hid hM2
    have H8 := Lib.hid h8
    clear hM2 hw4 ha c0 c1 c2 c3 fz hcell hal
    have c0 := HM2.out.val.c0
    have c1 := HM2.out.val.c1
    have c2 := HM2.out.val.c2
    have c3 := HM2.out.val.c3
    have fz := HM2.out.val.fz
    by_cases hk : keyB (ofKeyB a) = a
    · have HV := Lib.hid (ofKeyV_yes hk)
      have HKK := Lib.hid hk
      have HCN := Lib.hid (canon_ofKey hk)
      clear hk
      go_wp2_with fail
      refine (ofKey_nat a HAL.out _).mono ?_
      rintro e w6 ⟨rfl, rfl⟩
      rw [HV.out]
      go_wp2_with fail
      refine (right_any _ _ _ _ _).mono ?_
      rintro e w5 ⟨rfl, hb5⟩
      have H5 := Lib.hid (Mid.below (HM2.out.set2 (ofKeyB a)) hb5)
      clear hb5
      have c05 := H5.out.val.c0
      have c15 := H5.out.val.c1
      have c25 := H5.out.val.c2
      have c35 := H5.out.val.c3
      have fz5 := H5.out.val.fz
      rw [rightB_3 _ HCN.out]
      go_wp2_with fail
      refine bodyPost_ret (v := VAL (3) (0) (ofKeyB a) ⟨#[]⟩) ?_ rfl ?_
      · simp [results, Try.results39, go_sem, c05, c15, c25, c35]
      · exact HS.out a H8.out HEQ.out HKK.out _ ((((H5.out.set0 _).set1 _).set2 _).set3 _).gr ((((H5.out.set0 _).set1 _).set2 _).set3 _).rd
    · have HV := Lib.hid (ofKeyV_no hk)
      have HKK := Lib.hid hk
      clear hk
      go_wp2_with fail
      refine (ofKey_nat a HAL.out _).mono ?_
      rintro e w6 ⟨rfl, rfl⟩
      rw [HV.out]
      go_wp2_with fail
      exact ⟨rfl, HN.out a H8.out HEQ.out HKK.out _ HM2.out.gr⟩

theorem value_other (pb : Nat) (v : Value) (l : List UInt8) (pos : Nat) (w : World) (h : RdAt w pb v l pos) (hp : pos < l.length) (c : Nat) (hc : (l[pos]).toNat = c)
    (h0 : ((c : Int) == 0) = false) (h1 : ((c : Int) == 1) = false) (h2 : ((c : Int) == 2) = false) (h18 : ((c : Int) == 18) = false) (h3 : ((c : Int) == 3) = false) (h4 : ((c : Int) == 4) = false) (R : Ending → World → Prop)
    (hL : ∀ w', w.grownBy w' (some pb) → R LACK w') :
    Calls Try.prog 39 #[.pointer (some ⟨pb, 0, none⟩)] w R := by
  have hc256 : c < 256 := by have := (l[pos]).toNat_lt; omega
  have HL := Lib.hid hL
  have HP := Lib.hid hp
  have HLE := Lib.hid h.le
  have HA := Lib.hid (h.below ((Below.refl w.heap.size w).alloc (Nat.le_refl _) (VOBJ 0 0 0 ⟨#[]⟩)))
  have HT := Lib.hid fun k v1 => after_take w pb v l pos k v1 h hp c hc
  clear hL h hc hp
  go_enter Try.func39, Try.ntmps39
  go_wp2_with fail
  refine (take_ok pb v l pos 1 _ HA.out (by have := HP.out; omega)).mono ?_
  rintro e w1 ⟨v1, rfl, ⟨k, rfl⟩, hr, ho⟩
  obtain ⟨w3, hw3, hg, hrd, hval, ⟨ad, cap, rfl, hcell⟩, hne, hne2⟩ := HT.out k v1 hr ho
  rw [hw3]
  have HM := Lib.hid (Mid.mk hg hrd hval hne hne2 (Nat.le_refl _))
  clear hr ho hw3 hg hrd hval hne hne2
  have c0 := HM.out.val.c0
  have c1 := HM.out.val.c1
  have c2 := HM.out.val.c2
  have c3 := HM.out.val.c3
  have fz := HM.out.val.fz

  go_wp2_with fail
  exact ⟨rfl, HL.out _ (HM.out.set0 c).gr⟩

end Go.Proofs.Ytbcnokidnpnmhaa
