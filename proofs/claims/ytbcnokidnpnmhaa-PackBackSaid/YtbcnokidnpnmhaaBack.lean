/- Proved: 'bridlewaylaw03.PackBack' returns true for any number, text, value and bytes, and leaves its input as it was. No condition. -/
import Derived.Test.YtbcnokidnpnmhaaHold
import Derived.Test.YtbcnokidnpnmhaaPl2
import Derived.Test.YtbcnokidnpnmhaaRef

import Derived.Laws.BitsLemmas
import Derived.ChangeMaps5
namespace Go.Proofs.Ytbcnokidnpnmhaa
open Go.ChangeShapes Go.WideShapes Go.ChangeAt Go.RowKit
attribute [local go_sem ↓] Go.wp_at_zero Go.wp_at_succ

theorem getT_back (z : ByteArray) (hz : z.size < 18446744073709551616) (more : List UInt8) : getT ([] ++ putTextB z.data.toList ++ more) = .tuple #[.string z, .int .i64 ((putTextB z.data.toList).length : Nat), .bool true] := by
  rw [List.nil_append]
  unfold getT
  rw [textB_put z.data.toList hz more]
theorem getT_cut (z : ByteArray) (hz : z.size < 18446744073709551616) (j : Nat) (hj : j < (putTextB z.data.toList).length) : getT ((putTextB z.data.toList).take j) = .tuple #[.string ⟨#[]⟩, .int .i64 0, .bool false] := by
  unfold getT
  rw [textB_cut z.data.toList hz j hj]
theorem getW_back (k x : Int) (f : Nat) (z : ByteArray) (hx : Fits ⟨k, x, f, z.data.toList⟩) (hz : z.size < 18446744073709551616) (more : List UInt8) :
    getW ([] ++ putValueB ⟨k, x, f, z.data.toList⟩ ++ more) = .tuple #[VAL k x f z, .int .i64 ((putValueB ⟨k, x, f, z.data.toList⟩).length : Nat), .bool true] := by
  rw [List.nil_append]
  unfold getW
  rw [valueB_put _ hx hz more]
theorem getW_cut (k x : Int) (f : Nat) (z : ByteArray) (hx : Fits ⟨k, x, f, z.data.toList⟩) (hz : z.size < 18446744073709551616) (j : Nat) (hj : j < (putValueB ⟨k, x, f, z.data.toList⟩).length) :
    getW ((putValueB ⟨k, x, f, z.data.toList⟩).take j) = .tuple #[VAL 0 0 0 ⟨#[]⟩, .int .i64 0, .bool false] := by
  unfold getW
  rw [valueB_cut _ hx hz j hj]

theorem putValueB_len {x : Vl} (hx : Fits x) (hs : x.s.length ≤ 100) : 0 < (putValueB x).length ∧ (putValueB x).length ≤ 200 := by
  have hp : ∀ n, n < 18446744073709551616 → (putB n).length ≤ 9 := putB_len
  rcases right_cases hx.right with e | (e | e) | e | ⟨e, _⟩ | e
  · rw [e]; simp [putValueB]
  · rw [e]; have := hp 0 (by omega); simp [putValueB]; omega
  · rw [e]; have := hp 1 (by omega); simp [putValueB]; omega
  · have h0 := hx.n0
    have h1 := hx.n1
    rw [e]
    by_cases hn : x.n < 0
    · have := hp (-1 - x.n).toNat (by omega); simp [putValueB, hn]; omega
    · have := hp x.n.toNat (by omega); simp [putValueB, hn]; omega
  · rw [e]; simp [putValueB, fixB_length]
  · rw [e]; have := hp x.s.length (by omega); simp [putValueB, putTextB]; omega

theorem cutB_says (s : ByteArray) (q : Int) (hq : 0 ≤ q) : ∃ m : Nat, (if q < (s.size : Int) then q else (s.size : Int)) = (m : Int) ∧ (0 : Int) ≤ (m : Int) ∧ (m : Int) ≤ (s.size : Int) ∧ (m : Int) ≤ q ∧ (s.extract 0 m).size = m := by
  split
  · exact ⟨q.toNat, by omega, by omega, by omega, by omega, by simp; omega⟩
  · exact ⟨s.size, rfl, by omega, by omega, by omega, by simp⟩

theorem getV_back (n : Nat) (hn : n < 18446744073709551616) (more : List UInt8) : getV ([] ++ putB n ++ more) = .tuple #[.int .u64 n, .int .i64 ((putB n).length : Nat), .bool true] := by
  rw [List.nil_append]
  unfold getV
  rw [getB_putB n hn more]
theorem getV_cut (n : Nat) (hn : n < 18446744073709551616) (j : Nat) (hj : j < (putB n).length) : getV ((putB n).take j) = .tuple #[.int .u64 0, .int .i64 0, .bool false] := by
  unfold getV
  rw [getB_cut n hn j hj]

theorem i64_and16 (n : Int) : bits .and .i64 n 65535 = n % 65536 := by
  have h127 : (BitVec.ofInt 64 65535).toNat = 2 ^ 16 - 1 := by decide
  have key : (BitVec.ofInt 64 n &&& BitVec.ofInt 64 65535).toNat = (n % ((2 ^ 64 : Nat) : Int)).toNat % 2 ^ 16 := by
    rw [BitVec.toNat_and, BitVec.toNat_ofInt, h127, Nat.and_two_pow_sub_one_eq_mod]
  show IntKind.i64.wrap ((BitVec.ofInt 64 n &&& BitVec.ofInt 64 65535).toNat : Nat) = n % 65536
  rw [key, IntKind.wrap_i64]
  omega
theorem and_rem (a : Int) (L c : Nat) (hL : 0 < L) (hc : L ≤ c) : ∃ j : Nat, (bits .and .i64 a 65535).tmod (L : Int) = (j : Int) ∧ (0 : Int) ≤ (j : Int) ∧ (j : Int) ≤ (c : Int) ∧ Hid (j < L) := by
  rw [i64_and16]
  have h1 : 0 ≤ a % 65536 := by omega
  obtain ⟨b, hb⟩ : ∃ b : Nat, a % 65536 = (b : Int) := ⟨(a % 65536).toNat, by omega⟩
  have h2 := Nat.mod_lt b hL
  refine ⟨b % L, ?_, by omega, by omega, Lib.hid h2⟩
  rw [hb, ← Int.ofNat_tmod]

theorem own_none (W : World) : OwnB (W.alloc (.cells #[] 5)) W.heap.size (.slice (some ⟨W.heap.size, 0, none⟩) 0 0) [] := own_lit W W.heap.size (Nat.le_refl _) [] (by simp)
theorem below_app {W w' : World} {v' : Value} (h : Wrote (W.alloc (.cells #[] 5)) (.slice (some ⟨W.heap.size, 0, none⟩) 0 0) w' v') : Below W.heap.size W w' :=
  wrote_below (below_alloc (Below.refl _ _) _) (by simp) (own_none W) h
theorem below_app2 {W w' w2 : World} {v' v2 : Value} {l : List UInt8} (hb : Below W.heap.size W w') (ho : OwnB w' W.heap.size v' l) (h : Wrote w' v' w2 v2) : Below W.heap.size W w2 := wrote_below hb hb.size ho h

set_option maxRecDepth 100000 in
theorem back_walk (n : Nat) (s : ByteArray) (k x : Int) (f : Nat) (vm : Value) (lm0 : List UInt8) (at_ : Int) (hn : n < 18446744073709551616) (hx : -9223372036854775808 ≤ x ∧ x ≤ 9223372036854775807) (hf : f < 18446744073709551616)
    (w : World) (hr : ReadsB w vm lm0) (hv : ∀ b, vm.ownBlock = some b → b < w.heap.size) :
    Calls Try.prog 7 #[.int .u64 n, .string s, .int .i64 k, .int .i64 x, .int .u64 f, vm, .int .i64 at_] w fun e w' => e = .returned (.bool true) ∧ Below w.heap.size w w' := by
  obtain ⟨m, hm, hm0, hms, hmq, hz⟩ := cutB_says s 100 (by omega)
  obtain ⟨A, c, rfl, hl⟩ := hr.form
  have hcap := hr.cap.2
  obtain ⟨m2, hm2, hm20, hm2l, hm2c, hm2q⟩ : ∃ m : Nat, (if (50 : Int) < (lm0.length : Int) then (50 : Int) else (lm0.length : Int)) = (m : Int) ∧ (0 : Int) ≤ (m : Int) ∧ m ≤ lm0.length ∧ (m : Int) ≤ (c : Int) ∧ m ≤ 50 := by
    split
    · exact ⟨50, rfl, by omega, by omega, by omega, by omega⟩
    · exact ⟨lm0.length, rfl, by omega, by omega, by omega, by omega⟩
  have HRM := Lib.hid (reads_take hr m2 hm2l)
  have HN := Lib.hid hn
  have HX := Lib.hid hx
  have HF := Lib.hid hf
  have HZ := Lib.hid hz
  have HL0 := Lib.hid hl
  clear hr hv hn hx hf hz hl hcap
  go_enter Try.func7, Try.ntmps7
  go_wp2_with fail
  refine (shown_any w).mono ?_
  rintro e w1 ⟨rfl, hb1⟩
  have hs1 := hb1.size
  have HRM1 := Lib.hid (HRM.out.below hb1)
  have HB1 := Lib.hid hb1
  clear hb1
  go_wp2_with fail
  generalize s.extract 0 m = z at *
  refine (put_any w.heap.size _ [] n HN.out w1 (OwnB.nil w1 _) hs1 (by simp)).mono ?_
  rintro e w2 ⟨v2, rfl, ho2, hw2⟩
  have hb2 : Below w.heap.size w w2 := wrote_below HB1.out hs1 (OwnB.nil w1 _) hw2
  have hs2 := hb2.size
  have HB2 := Lib.hid hb2
  have HRM2 := Lib.hid (HRM1.out.grown hw2.grown (Classical.em _))
  rw [List.nil_append] at ho2
  have HRB := Lib.hid ho2.reads
  obtain ⟨A2, c2, e2, hA2⟩ := ho2.reads.form
  subst e2
  have hc2 := ho2.reads.cap.2
  have HL := Lib.hid (putB_len n HN.out)
  have HL2 := Lib.hid (ReadsB.lt' ho2)
  have hlen : (((putB n).length : Int) == 0) = false := by rw [beq_eq_false_iff_ne]; unfold putB; simp; omega
  have HG1 := Lib.hid (getV_back n HN.out (lm0.take m2))
  have HML := Lib.hid (show (lm0.take m2).length ≤ 50 by simp; omega)
  clear ho2 hw2 hb2 HRM1 HB1
  go_wp2_with (at_builtin; first | (refine wpList_appB b5 rfl (.tmp 44) (.tmp 45) rfl (B := w2.heap.size) (v := .slice (some ⟨w2.heap.size, 0, none⟩) 0 0) (l := []) (m := putB n) rfl (own_none w2) rfl (HRB.out.below (below_alloc (Below.refl _ _) _)) ?_ ?_ ?_; (have := HL.out; simp; omega); (simp); intro v3 w3 ho3 hw3) | (refine wpList_appB b5 rfl (.tmp 46) (.tmp 47) rfl (B := w2.heap.size) (v := v3) (l := [] ++ putB n) (m := lm0.take m2) rfl ho3 rfl (HRM2.out.below (below_app hw3)) ?_ ?_ ?_; (have := HL.out; have := HML.out; simp at *; omega); (exact (below_app hw3).size); intro v4 w4 ho4 hw4))
  refine (get_any v4 _ w4 ho4.reads (ReadsB.lt' ho4)).mono ?_
  rintro e w5 ⟨rfl, hb⟩
  rw [HG1.out]
  have hb4 := below_app2 (below_app hw3) ho3 hw4
  have hb5 := hb4.trans (hb.mono hb4.size)
  have HRB5 := Lib.hid (HRB.out.below hb5)
  have HRM5 := Lib.hid (HRM2.out.below hb5)
  have HB5 := Lib.hid (HB2.out.trans (hb5.mono hs2))
  have HS5 := Lib.hid hb5.size
  clear hb hb4 hb5 ho4 hw4 ho3 hw3 HG1 HRB HRM2 HB2
  obtain ⟨j1, hj1, hj10, hj1c, HJ1⟩ := and_rem at_ (putB n).length c2 (by unfold putB; simp) hc2
  go_wp2_with fail
  have hrt := reads_take HRB5.out j1 (Nat.le_of_lt HJ1.out)
  refine (get_any _ ((putB n).take j1) w5 hrt (fun b hb => Nat.lt_of_lt_of_le (HL2.out b (by cases A2 with | none => exact hb | some a => exact hb)) HS5.out)).mono ?_
  rintro e w6 ⟨rfl, hb⟩
  rw [getV_cut n HN.out j1 HJ1.out]
  have HRM6 := Lib.hid (HRM5.out.below hb)
  have HB6 := Lib.hid (HB5.out.trans (hb.mono HB5.out.size))
  have hs6 := HB6.out.size
  clear hb HB5 HRM5 hrt HRB5 HJ1 hj1 hj10 hj1c HL2 HS5
  go_wp2_with fail
  have HZZ := Lib.hid (show z.size ≤ 100 by have := HZ.out; omega)
  clear HL
  refine (putText_any w6.heap.size _ [] z w6 (OwnB.nil w6 _) (Nat.le_refl _) (by have := HZZ.out; simp; omega)).mono ?_
  rintro e w7 ⟨v7, rfl, ho7, hw7⟩
  rw [List.nil_append] at ho7
  have hb7 : Below w6.heap.size w6 w7 := wrote_below (Below.refl _ _) (Nat.le_refl _) (OwnB.nil w6 _) hw7
  have HB7 := Lib.hid (HB6.out.trans (hb7.mono hs6))
  have hs7 := HB7.out.size
  have HRM7 := Lib.hid (HRM6.out.grown hw7.grown (Classical.em _))
  have HRB7 := Lib.hid ho7.reads
  obtain ⟨A7, c7, e7, hA7⟩ := ho7.reads.form
  subst e7
  have hc7 := ho7.reads.cap.2
  have HL7 := Lib.hid (show (putTextB z.data.toList).length ≤ 109 from by
    have h1 := putB_len z.data.toList.length (show z.size < _ by have := HZZ.out; omega)
    have h2 : z.data.toList.length ≤ 100 := HZZ.out
    unfold putTextB; rw [List.length_append]; omega)
  have HLB7 := Lib.hid (ReadsB.lt' ho7)
  have HG7 := Lib.hid (getT_back z (by have := HZZ.out; omega) (lm0.take m2))
  clear ho7 hw7 hb7 HRM6 HB6
  go_wp2_with (at_builtin; first | (refine wpList_appB b5 rfl (.tmp 84) (.tmp 85) rfl (B := w7.heap.size) (v := .slice (some ⟨w7.heap.size, 0, none⟩) 0 0) (l := []) (m := putTextB z.data.toList) rfl (own_none w7) rfl (HRB7.out.below (below_alloc (Below.refl _ _) _)) ?_ ?_ ?_; (have := HL7.out; simp; omega); (simp); intro v8 w8 ho8 hw8) | (refine wpList_appB b5 rfl (.tmp 86) (.tmp 87) rfl (B := w7.heap.size) (v := v8) (l := [] ++ putTextB z.data.toList) (m := lm0.take m2) rfl ho8 rfl (HRM7.out.below (below_app hw8)) ?_ ?_ ?_; (have := HL7.out; have := HML.out; simp at *; omega); (exact (below_app hw8).size); intro v9 w9 ho9 hw9))
  refine (textP_any v9 _ w9 ho9.reads (ReadsB.lt' ho9)).mono ?_
  rintro e w10 ⟨rfl, hb⟩
  rw [HG7.out]
  have hb9 := below_app2 (below_app hw8) ho8 hw9
  have hb10 := hb9.trans (hb.mono hb9.size)
  have HRB10 := Lib.hid (HRB7.out.below hb10)
  have HRM10 := Lib.hid (HRM7.out.below hb10)
  have HB10 := Lib.hid (HB7.out.trans (hb10.mono hs7))
  have HS10 := Lib.hid hb10.size
  clear hb hb9 hb10 ho9 hw9 ho8 hw8 HG7 HRB7 HRM7 HB7
  obtain ⟨j2, hj2, hj20, hj2c, HJ2⟩ := and_rem at_ (putTextB z.data.toList).length c7 (by unfold putTextB putB; simp) hc7
  have hlen7 : (((putTextB z.data.toList).length : Int) == 0) = false := by rw [beq_eq_false_iff_ne]; unfold putTextB putB; simp; omega
  go_wp2_with fail
  have hrt := reads_take HRB10.out j2 (Nat.le_of_lt HJ2.out)
  refine (textP_any _ ((putTextB z.data.toList).take j2) w10 hrt (fun b hb => Nat.lt_of_lt_of_le (HLB7.out b (by cases A7 with | none => exact hb | some a => exact hb)) HS10.out)).mono ?_
  rintro e w11 ⟨rfl, hb⟩
  rw [getT_cut z (by have := HZZ.out; omega) j2 HJ2.out]
  have HRM11 := Lib.hid (HRM10.out.below hb)
  have HB11 := Lib.hid (HB10.out.trans (hb.mono HB10.out.size))
  have hs11 := HB11.out.size
  clear hb HB10 HRM10 hrt HRB10 HJ2 hj2 hj20 hj2c HLB7 HS10 HL7
  go_wp2_with fail
  refine (value_any k x f z w11).mono ?_
  rintro e w12 ⟨rfl, rfl⟩
  go_wp2_with fail
  refine (putValue_any w11.heap.size _ [] k x f z _ (OwnB.nil _ _) (by simp; omega) (by simp) (by have := HZZ.out; simp; omega) HX.out.1 HX.out.2 HF.out).mono ?_
  rintro e w13 ⟨v13, rfl, ho13, hw13⟩
  obtain ⟨q1, hq1⟩ : ∃ q : Int, (if rightB k x f z = true then (0 : Int) else 1) = q := ⟨_, rfl⟩
  rw [hq1]
  rw [List.nil_append] at ho13
  have hb12 : Below w11.heap.size w11 ((w11.alloc (VOBJ k x f z)).alloc (VOBJ k x f z)) := below_alloc (below_alloc (Below.refl _ _) _) _
  have va : ValAt ((w11.alloc (VOBJ k x f z)).alloc (VOBJ k x f z)) (w11.heap.size + 1) k x f z := by
    unfold ValAt
    rw [show w11.heap.size + 1 = (w11.alloc (VOBJ k x f z)).heap.size by simp]; exact heap_alloc_new _ _
  have va13 := va.grown hw13.grown (by simp [Value.ownBlock])
  have hb13 := belowN hb12 hw13.grown
  have HB13 := Lib.hid (HB11.out.trans (hb13.mono hs11))
  have hs13 := HB13.out.size
  have HRM13 := Lib.hid (HRM11.out.below hb13)
  have VA13 := Lib.hid va13
  have HO13 := Lib.hid ho13
  have HQ1 := Lib.hid hq1
  clear hb12 va hw13 hb13 va13 ho13 hq1 HB11 HRM11
  cases hr1 : rightB k x f z with
  | false =>
    have ho := HO13.out
    rw [hr1] at ho
    simp only [Bool.false_eq_true, if_false] at ho
    obtain rfl : q1 = 1 := by have := HQ1.out; rw [hr1] at this; simpa using this.symm
    obtain ⟨A13, c13, e13, hA13⟩ := ho.reads.form
    subst e13
    clear hr1 HQ1 HO13 ho
    go_wp2_with fail
    go_ret
    exact ⟨rfl, HB13.out⟩
  | true =>
  obtain rfl : q1 = 0 := by have := HQ1.out; rw [hr1] at this; simpa using this.symm
  have ho := HO13.out
  rw [hr1] at ho
  simp only [if_true] at ho
  have hx1 : Fits ⟨k, x, f, z.data.toList⟩ := ⟨HX.out.1, HX.out.2, HF.out, hr1⟩
  have hzz : z.size < 18446744073709551616 := by have := HZZ.out; omega
  have HGW := Lib.hid (getW_back k x f z hx1 hzz (lm0.take m2))
  have HCW := Lib.hid (getW_cut k x f z hx1 hzz)
  have HSM := Lib.hid (show sameB k x f z k x f z = true from by unfold sameB; simp)
  have HLV := Lib.hid (show 0 < (putValueB ⟨k, x, f, z.data.toList⟩).length ∧ (putValueB ⟨k, x, f, z.data.toList⟩).length ≤ 200 from putValueB_len hx1 HZZ.out)
  obtain ⟨A13, c13, e13, hA13⟩ := ho.reads.form
  subst e13
  have hc13 := ho.reads.cap.2
  have HRB13 := Lib.hid ho.reads
  have HLB13 := Lib.hid (ReadsB.lt' ho)
  clear HO13 HQ1 ho hr1 hx1 hzz
  generalize putValueB ⟨k, x, f, z.data.toList⟩ = L at *
  have a0 := VA13.out.c0
  have a1 := VA13.out.c1
  have a2 := VA13.out.c2
  have a3 := VA13.out.c3
  have la : w11.heap.size + 1 < w13.heap.size := lt_of_block VA13.out
  go_wp2_with (at_builtin; first | (refine wpList_appB b5 rfl (.tmp 140) (.tmp 141) rfl (B := w13.heap.size) (v := .slice (some ⟨w13.heap.size, 0, none⟩) 0 0) (l := []) (m := L) rfl (own_none w13) rfl (HRB13.out.below (below_alloc (Below.refl _ _) _)) ?_ ?_ ?_; (have := HLV.out; simp; omega); (simp); intro v14 w14 ho14 hw14) | (refine wpList_appB b5 rfl (.tmp 142) (.tmp 143) rfl (B := w13.heap.size) (v := v14) (l := [] ++ L) (m := lm0.take m2) rfl ho14 rfl (HRM13.out.below (below_app hw14)) ?_ ?_ ?_; (have := HLV.out; have := HML.out; simp at *; omega); (exact (below_app hw14).size); intro v15 w15 ho15 hw15))
  refine (valueP_any v15 _ w15 ho15.reads (ReadsB.lt' ho15)).mono ?_
  rintro e w16 ⟨rfl, hb⟩
  rw [HGW.out]
  have hb15 := below_app2 (below_app hw14) ho14 hw15
  have hb16 := hb15.trans (hb.mono hb15.size)
  have HRB16 := Lib.hid (HRB13.out.below (hb16.alloc hb16.size (VOBJ k x f z)))
  have HB16 := Lib.hid ((HB13.out.trans (hb16.mono hs13)).alloc (Nat.le_trans hs13 hb16.size) (VOBJ k x f z))
  have HS16 := Lib.hid hb16.size
  have va16 := (VA13.out.below hb16).below ((Below.refl w16.heap.size w16).alloc (Nat.le_refl _) (VOBJ k x f z))
  have HVA16 := Lib.hid va16
  clear hb hb15 hb16 ho15 hw15 ho14 hw14 HGW HRB13 HRM13 HB13 VA13 a0 a1 a2 a3 la va16
  obtain ⟨j3, hj3, hj30, hj3c, HJ3⟩ := and_rem at_ L.length c13 HLV.out.1 hc13
  have hLne : ¬ L = [] := fun e => by have := HLV.out.1; rw [e] at this; simp at this
  have hlenL : ((L.length : Int) == 0) = false := by rw [beq_eq_false_iff_ne]; have := HLV.out.1; omega
  go_wp2_with fail
  have hrt := reads_take HRB16.out j3 (Nat.le_of_lt HJ3.out)
  refine (valueP_any _ (L.take j3) _ hrt (fun b hb => Nat.lt_of_lt_of_le (HLB13.out b (by cases A13 with | none => exact hb | some a => exact hb)) (by have := HS16.out; simp; omega))).mono ?_
  rintro e w17 ⟨rfl, hb⟩
  rw [HCW.out j3 HJ3.out]
  have HB17 := Lib.hid (HB16.out.trans (hb.mono HB16.out.size))
  have va17 := HVA16.out.below hb
  have vb17 : ValAt w17 w16.heap.size k x f z := ValAt.below (w := w16.alloc (VOBJ k x f z)) (heap_alloc_new w16 _) hb
  have la : w11.heap.size + 1 < w17.heap.size := lt_of_block va17
  have lb : w16.heap.size < w17.heap.size := lt_of_block vb17
  have a0 := va17.c0
  have a1 := va17.c1
  have a2 := va17.c2
  have a3 := va17.c3
  have b0 := vb17.c0
  have b1 := vb17.c1
  have b2 := vb17.c2
  have b3 := vb17.c3
  clear hb HB16 HRB16 hrt HJ3 hj3 hj30 hj3c HLB13 HCW HS16 va17 vb17
  go_wp2_with fail
  refine (same_any k x f z k x f z w17 HF.out HF.out).mono ?_
  rintro e w18 ⟨rfl, hb⟩
  rw [HSM.out]
  have HB18 := Lib.hid (HB17.out.trans (hb.mono HB17.out.size))
  clear hb a0 a1 a2 a3 b0 b1 b2 b3 la lb HB17
  go_wp2_with fail
  go_ret
  exact ⟨rfl, HB18.out⟩

set_option maxRecDepth 100000 in
theorem back_lifted (os : Os) (started : os.Started) (H : Type) (enc : TypeId × Value → H) :
    ReturnsInHanded {} Try.checked os 7 .any (Rows.packBackSpec.pre6 enc Try.prog Try.f7 Rows.packBackRow.domain false) (Rows.packBackSpec.post enc Try.prog Try.f7 false true false false) := by
  refine returnsInHanded_of_change (C := Try.checked) own started (by kernel_rfl) Try.func7
    (ChangeSpec.witness6 (enc := enc) (C := Try.checked) false ⟨#[], #[.int .u64 0, .string ⟨#[]⟩, .int .i64 0, .int .i64 0, .int .u64 0, .slice none 0 0, .int .i64 0], []⟩ 8 (by kernel_rfl) (by kernel_rfl) (by kernel_rfl) (by kernel_rfl)) ?_
  intro W base args ds gs before hval0 hW hcnd _
  have hval : ∀ (j : Nat) t v, Try.f7.params[j]? = some t → args[j]? = some v → Value.okWide Try.prog W .any base t v := hval0
  have hW' := hW
  obtain ⟨p, q, hA0, hV, rfl, hfz, hnd⟩ := hW
  have hA : DataW.TrodAll enc Try.prog W 0 (fun _ => true) true Try.f7.params.toList args.toList ds p := hA0
  rw [Try.params7] at hA hval
  obtain ⟨rfl, rfl⟩ := trodVars_none hV
  have hlt : ∀ x ∈ p, x.block < W.heap.size := fun x hx => hW'.lt x (by simp [hx])
  have hrd2 : Try.prog.readableRec 2 = true ∧ 2 < Try.prog.types.size := ⟨by kernel_rfl, of_decide_eq_true (by kernel_rfl)⟩
  have hrd3 : Try.prog.readableRec 3 = true ∧ 3 < Try.prog.types.size := ⟨by kernel_rfl, of_decide_eq_true (by kernel_rfl)⟩
  have hrd9 : Try.prog.readableRec 9 = true ∧ 9 < Try.prog.types.size := ⟨by kernel_rfl, of_decide_eq_true (by kernel_rfl)⟩
  have hrd22 : Try.prog.readableRec 22 = true ∧ 22 < Try.prog.types.size := ⟨by kernel_rfl, of_decide_eq_true (by kernel_rfl)⟩
  have hrd23 : Try.prog.readableRec 23 = true ∧ 23 < Try.prog.types.size := ⟨by kernel_rfl, of_decide_eq_true (by kernel_rfl)⟩
  have hargs := fun (W' : World) (hb : Below W.heap.size W W') => trodAll_below laidOut hb (by simp only [List.mem_cons, List.not_mem_nil, or_false]; rintro t (rfl | rfl | rfl | rfl | rfl | rfl | rfl) <;> first | exact hrd2 | exact hrd3 | exact hrd9 | exact hrd22 | exact hrd23) hA hlt
  obtain ⟨v0, vs0, d0, ds0, p0, q0, hargs0, rfl, rfl, h0, r0⟩ := trodAll_cons hA
  obtain ⟨v1, vs1, d1, ds1, p1, q1, rfl, rfl, rfl, h1, r1⟩ := trodAll_cons r0
  obtain ⟨v2, vs2, d2, ds2, p2, q2, rfl, rfl, rfl, h2, r2⟩ := trodAll_cons r1
  obtain ⟨v3, vs3, d3, ds3, p3, q3, rfl, rfl, rfl, h3, r3⟩ := trodAll_cons r2
  obtain ⟨v4, vs4, d4, ds4, p4, q4, rfl, rfl, rfl, h4, r4⟩ := trodAll_cons r3
  obtain ⟨v5, vs5, d5, ds5, p5, q5, rfl, rfl, rfl, h5, r5⟩ := trodAll_cons r4
  obtain ⟨v6, vs6, d6, ds6, p6, q6, rfl, rfl, rfl, h6, r6⟩ := trodAll_cons r5
  obtain ⟨rfl, rfl, rfl⟩ := trodAll_nil r6
  obtain rfl : args = #[v0, v1, v2, v3, v4, v5, v6] := by cases args; simp_all
  obtain ⟨a0, rfl, rfl, rfl, w0⟩ := open_int Try.underlying23 (hval 0 23 v0 rfl rfl) h0
  obtain ⟨x0, rfl, hx0⟩ := u64_of_wf w0
  obtain ⟨s1, rfl, rfl, rfl, hs1⟩ := Go.ChangeMaps.open_string Try.underlying9 (hval 1 9 v1 rfl rfl) h1
  obtain ⟨a2, rfl, rfl, rfl, w2⟩ := open_int Try.underlying3 (hval 2 3 v2 rfl rfl) h2
  have hx2 := i64_of_wf w2
  obtain ⟨a3, rfl, rfl, rfl, w3⟩ := open_int Try.underlying2 (hval 3 2 v3 rfl rfl) h3
  have hx3 := i64_of_wf w3
  obtain ⟨a4, rfl, rfl, rfl, w4⟩ := open_int Try.underlying23 (hval 4 23 v4 rfl rfl) h4
  obtain ⟨x4, rfl, hx4⟩ := u64_of_wf w4
  obtain ⟨l5, hl5, hb5⟩ := open_bytes (hval 5 22 v5 rfl rfl) h5
  obtain ⟨a6, rfl, rfl, rfl, w6⟩ := open_int Try.underlying3 (hval 6 3 v6 rfl rfl) h6
  have hx6 := i64_of_wf w6
  clear hA0 hval0
  refine (back_walk x0 s1 a2 a3 x4 v5 l5 a6 hx0 hx3 hx4 W hl5 hb5).mono fun e W' ⟨he, hb⟩ => ?_
  subst he
  exact ⟨_, rfl, ⟨_, _, _, [], _, [], hW', trodAll_mk1 (shut_bool Try.underlying4 _), hargs W' hb, rfl, hb.frame _, fun h => by cases h⟩⟩

theorem back_over : Rows.packBackRow.holds Try.pinned (OpenSpec.ofChange Rows.packBackSpec) :=
  OpenClaim.holds_of_wide 7 Try.f7 rfl rfl rfl rfl rfl rfl rfl ⟨rfl, rfl, rfl, rfl, rfl⟩ rfl rfl rfl rfl rfl (by kernel_rfl) Try.func7 (by kernel_rfl)
    (of_decide_eq_true (by kernel_rfl)) (by unfold Func.isWrapper; first | (rw [if_pos (by decide +kernel)]; kernel_rfl) | (rw [if_neg (by decide +kernel)]; exact ⟨rfl, rfl⟩))
    (fun os started H enc _ => back_lifted os started H enc)

theorem back_proved : Rows.PackBackSaid := back_over
end Go.Proofs.Ytbcnokidnpnmhaa
