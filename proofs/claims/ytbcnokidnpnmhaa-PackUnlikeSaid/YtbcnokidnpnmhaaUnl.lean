/- Proved: 'bridlewaylaw03.PackUnlike' returns true for any two values, and leaves its input as it was. No condition. -/
import Derived.Test.YtbcnokidnpnmhaaRow2
import Derived.Test.YtbcnokidnpnmhaaPl2
import Derived.Test.YtbcnokidnpnmhaaRef
import Derived.Test.YtbcnokidnpnmhaaHold
import Derived.ChangeMaps5
namespace Go.Proofs.Ytbcnokidnpnmhaa
open Go.ChangeShapes Go.WideShapes Go.ChangeAt Go.RowKit
attribute [local go_sem ↓] Go.wp_at_zero Go.wp_at_succ

theorem fits_canon {x : Vl} (h : Fits x) : canonB x.f = x.f := by
  have h0 : canonB 0 = 0 := canonB_num ((nanB_false 0).2 (by omega))
  rcases right_cases h.right with e | (e | e) | e | ⟨e, hc⟩ | e
  · rw [e]; exact h0
  · rw [e]; exact h0
  · rw [e]; exact h0
  · rw [e]; exact h0
  · exact hc
  · rw [e]; exact h0

theorem same_iff {a b : Vl} (ha : Fits a) (hb : Fits b) : sameB a.k a.n a.f ⟨a.s.toArray⟩ b.k b.n b.f ⟨b.s.toArray⟩ = true ↔ a = b := by
  have h1 := fits_canon ha
  have h2 := fits_canon hb
  unfold sameB
  rw [arr_list, arr_list, h1, h2]
  obtain ⟨k, n, f, s⟩ := a
  obtain ⟨k', n', f', s'⟩ := b
  simp
  intro _ _
  exact ⟨fun h => ⟨by omega, h.1⟩, fun h => ⟨h.2, by omega⟩⟩

theorem put_inj {a b : Vl} (ha : Fits a) (hb : Fits b) (hsa : a.s.length < 18446744073709551616) (hsb : b.s.length < 18446744073709551616) (h : putValueB a = putValueB b) : a = b := by
  have h1 := valueB_put a ha hsa []
  have h2 := valueB_put b hb hsb []
  rw [h] at h1
  rw [h1] at h2
  injection h2 with h2
  injection h2

theorem put_prefix {a b : Vl} (ha : Fits a) (hb : Fits b) (hsa : a.s.length < 18446744073709551616) (hsb : b.s.length < 18446744073709551616) (hl : (putValueB a).length ≤ (putValueB b).length)
    (h : (putValueB a).take (putValueB a).length = (putValueB b).take (putValueB a).length) : a = b := by
  rw [List.take_length] at h
  by_cases he : (putValueB a).length = (putValueB b).length
  · rw [he, List.take_length] at h
    exact put_inj ha hb hsa hsb h
  · have h1 := valueB_put a ha hsa []
    have h2 := valueB_cut b hb hsb (putValueB a).length (by omega)
    rw [← h] at h2
    rw [List.append_nil, h2] at h1
    cases h1

theorem unlike_plain {a b : Vl} (ha : Fits a) (hb : Fits b) (hsa : a.s.length < 18446744073709551616) (hsb : b.s.length < 18446744073709551616) (k : Nat) (hk : k = min (putValueB a).length (putValueB b).length) :
    sameB a.k a.n a.f ⟨a.s.toArray⟩ b.k b.n b.f ⟨b.s.toArray⟩ = (putValueB a == putValueB b) ∧ sameB a.k a.n a.f ⟨a.s.toArray⟩ b.k b.n b.f ⟨b.s.toArray⟩ = ((putValueB a).take k == (putValueB b).take k) := by
  have h0 := same_iff ha hb
  constructor
  · rw [Bool.eq_iff_iff, h0]
    simp only [beq_iff_eq]
    exact ⟨fun h => by rw [h], fun h => put_inj ha hb hsa hsb h⟩
  · rw [Bool.eq_iff_iff, h0]
    simp only [beq_iff_eq]
    refine ⟨fun h => by rw [h], fun h => ?_⟩
    rcases Nat.le_total (putValueB a).length (putValueB b).length with hl | hl
    · rw [show k = (putValueB a).length by omega] at h
      exact put_prefix ha hb hsa hsb hl h
    · rw [show k = (putValueB b).length by omega] at h
      exact (put_prefix hb ha hsb hsa hl h.symm).symm

theorem cut_says (s : ByteArray) (q : Int) (hq : 0 ≤ q) : ∃ m : Nat, (if q < (s.size : Int) then q else (s.size : Int)) = (m : Int) ∧ (0 : Int) ≤ (m : Int) ∧ (m : Int) ≤ (s.size : Int) ∧ (m : Int) ≤ q ∧ (s.extract 0 m).size = m := by
  split
  · exact ⟨q.toNat, by omega, by omega, by omega, by omega, by simp; omega⟩
  · exact ⟨s.size, rfl, by omega, by omega, by omega, by simp⟩

theorem unlike_walk (k1 n1 : Int) (f1 : Nat) (s1 : ByteArray) (k2 n2 : Int) (f2 : Nat) (s2 : ByteArray) (hn1 : -9223372036854775808 ≤ n1 ∧ n1 ≤ 9223372036854775807) (hn2 : -9223372036854775808 ≤ n2 ∧ n2 ≤ 9223372036854775807)
    (hf1 : f1 < 18446744073709551616) (hf2 : f2 < 18446744073709551616) (w : World) :
    Calls Try.prog 5 #[.int .i64 k1, .int .i64 n1, .int .u64 f1, .string s1, .int .i64 k2, .int .i64 n2, .int .u64 f2, .string s2] w fun e w' => e = .returned (.bool true) ∧ Below w.heap.size w w' := by
  obtain ⟨m1, hm1, hm10, hm1s, hm1q, hz1⟩ := cut_says s1 100 (by omega)
  obtain ⟨m2, hm2, hm20, hm2s, hm2q, hz2⟩ := cut_says s2 100 (by omega)
  have HN1 := Lib.hid hn1
  have HN2 := Lib.hid hn2
  have HF1 := Lib.hid hf1
  have HF2 := Lib.hid hf2
  have HZ1 := Lib.hid hz1
  have HZ2 := Lib.hid hz2
  clear hn1 hn2 hf1 hf2 hz1 hz2
  go_enter Try.func5, Try.ntmps5
  go_wp2_with fail
  refine (shown_any w).mono ?_
  rintro e w1 ⟨rfl, hb1⟩
  have hs1 := hb1.size
  have HB1 := Lib.hid hb1
  clear hb1
  go_wp2_with fail
  generalize s1.extract 0 m1 = z1 at *
  refine (value_any k1 n1 f1 z1 w1).mono ?_
  rintro e w2 ⟨rfl, rfl⟩
  go_wp2_with fail
  generalize s2.extract 0 m2 = z2 at *
  refine (value_any k2 n2 f2 z2 _).mono ?_
  rintro e w3 ⟨rfl, rfl⟩
  go_wp2_with fail
  refine (putValue_any 0 _ [] k1 n1 f1 z1 _ (OwnB.nil _ _) (Nat.zero_le _) (by simp) (by have := HZ1.out; simp; omega) HN1.out.1 HN1.out.2 HF1.out).mono ?_
  rintro e w4 ⟨v4, rfl, ho4, hw4⟩
  obtain ⟨q1, hq1⟩ : ∃ q : Int, (if rightB k1 n1 f1 z1 = true then (0 : Int) else 1) = q := ⟨_, rfl⟩
  rw [hq1]
  have HQ1 := Lib.hid hq1
  clear hq1
  have hB3 : Below w.heap.size w ((((w1.alloc (VOBJ k1 n1 f1 z1)).alloc (VOBJ k1 n1 f1 z1)).alloc (VOBJ k2 n2 f2 z2)).alloc (VOBJ k2 n2 f2 z2)) :=
    below_alloc' (below_alloc' (below_alloc' (below_alloc' HB1.out _) _ (by simp; omega)) _ (by simp; omega)) _ (by simp; omega)
  have va : ValAt ((((w1.alloc (VOBJ k1 n1 f1 z1)).alloc (VOBJ k1 n1 f1 z1)).alloc (VOBJ k2 n2 f2 z2)).alloc (VOBJ k2 n2 f2 z2)) (w1.heap.size + 1) k1 n1 f1 z1 := by
    unfold ValAt
    rw [Below.heap_alloc _ _ _ (by simp), Below.heap_alloc _ _ _ (by simp), show w1.heap.size + 1 = (w1.alloc (VOBJ k1 n1 f1 z1)).heap.size by simp]; exact heap_alloc_new _ _
  have vb : ValAt ((((w1.alloc (VOBJ k1 n1 f1 z1)).alloc (VOBJ k1 n1 f1 z1)).alloc (VOBJ k2 n2 f2 z2)).alloc (VOBJ k2 n2 f2 z2)) (w1.heap.size + 1 + 1 + 1) k2 n2 f2 z2 := by
    unfold ValAt
    rw [show w1.heap.size + 1 + 1 + 1 = (((w1.alloc (VOBJ k1 n1 f1 z1)).alloc (VOBJ k1 n1 f1 z1)).alloc (VOBJ k2 n2 f2 z2)).heap.size by simp]; exact heap_alloc_new _ _
  have hB4 := belowN hB3 hw4.grown
  have va4 := va.grown hw4.grown (by simp [Value.ownBlock])
  have vb4 := vb.grown hw4.grown (by simp [Value.ownBlock])
  have lb4 : w1.heap.size + 1 + 1 + 1 < w4.heap.size := lt_of_block vb4
  have hs4 := hB4.size
  have b0 := vb4.c0
  have b1 := vb4.c1
  have b2 := vb4.c2
  have b3 := vb4.c3
  have VA4 := Lib.hid va4
  have VB4 := Lib.hid vb4
  have HB4 := Lib.hid hB4
  have HO4 := Lib.hid ho4
  clear hB3 va vb hw4 va4 vb4 hB4 ho4 HB1
  go_wp2_with fail
  refine (putValue_any 0 _ [] k2 n2 f2 z2 _ (OwnB.nil _ _) (Nat.zero_le _) (by simp) (by have := HZ2.out; simp; omega) HN2.out.1 HN2.out.2 HF2.out).mono ?_
  rintro e w5 ⟨v5, rfl, ho5, hw5⟩
  obtain ⟨q2, hq2⟩ : ∃ q : Int, (if rightB k2 n2 f2 z2 = true then (0 : Int) else 1) = q := ⟨_, rfl⟩
  rw [hq2]
  have HQ2 := Lib.hid hq2
  clear hq2
  have hB5 := belowN HB4.out hw5.grown
  have va5 := VA4.out.grown hw5.grown (by simp [Value.ownBlock])
  have vb5 := VB4.out.grown hw5.grown (by simp [Value.ownBlock])
  have ho45 := HO4.out.kept hw5.grown (Classical.em _)
  have HB5 := Lib.hid hB5
  have HO5 := Lib.hid ho5
  have HO45 := Lib.hid ho45
  have VA5 := Lib.hid va5
  have VB5 := Lib.hid vb5
  clear b0 b1 b2 b3 VA4 VB4 HB4 HO4 hB5 ho5 ho45 va5 vb5 hw5
  cases hr1 : rightB k1 n1 f1 z1 with
  | false =>
    obtain rfl : q1 = 1 := by have := HQ1.out; rw [hr1] at this; simpa using this.symm
    clear hr1 HQ1 HQ2 HO45 HO5
    go_wp2_with fail
    go_ret
    exact ⟨rfl, HB5.out⟩
  | true =>
  obtain rfl : q1 = 0 := by have := HQ1.out; rw [hr1] at this; simpa using this.symm
  cases hr2 : rightB k2 n2 f2 z2 with
  | false =>
    obtain rfl : q2 = 1 := by have := HQ2.out; rw [hr2] at this; simpa using this.symm
    clear hr1 hr2 HQ1 HQ2 HO45 HO5
    go_wp2_with fail
    go_ret
    exact ⟨rfl, HB5.out⟩
  | true =>
  obtain rfl : q2 = 0 := by have := HQ2.out; rw [hr2] at this; simpa using this.symm
  clear HQ1 HQ2
  have ho1 := HO45.out
  have ho2 := HO5.out
  rw [hr1] at ho1
  rw [hr2] at ho2
  simp only [if_true, List.nil_append] at ho1 ho2
  have hx1 : Fits ⟨k1, n1, f1, z1.data.toList⟩ := ⟨HN1.out.1, HN1.out.2, HF1.out, hr1⟩
  have hx2 : Fits ⟨k2, n2, f2, z2.data.toList⟩ := ⟨HN2.out.1, HN2.out.2, HF2.out, hr2⟩
  have hl1 : z1.data.toList.length < 18446744073709551616 := by have := HZ1.out; show z1.size < _; omega
  have hl2 : z2.data.toList.length < 18446744073709551616 := by have := HZ2.out; show z2.size < _; omega
  obtain ⟨A1, c1, e1, hA1⟩ := ho1.reads.form
  obtain ⟨A2, c2, e2, hA2⟩ := ho2.reads.form
  subst e1
  subst e2
  have hc1 := ho1.reads.cap.2
  have hc2 := ho2.reads.cap.2
  obtain ⟨k, hk, hk1, hk2, hkm⟩ : ∃ k : Nat, (if (putValueB ⟨k2, n2, f2, z2.data.toList⟩).length < (putValueB ⟨k1, n1, f1, z1.data.toList⟩).length then ((putValueB ⟨k2, n2, f2, z2.data.toList⟩).length : Int) else ((putValueB ⟨k1, n1, f1, z1.data.toList⟩).length : Int)) = (k : Int) ∧
      (k : Int) ≤ ((putValueB ⟨k1, n1, f1, z1.data.toList⟩).length : Int) ∧ (k : Int) ≤ ((putValueB ⟨k2, n2, f2, z2.data.toList⟩).length : Int) ∧ k = min (putValueB ⟨k1, n1, f1, z1.data.toList⟩).length (putValueB ⟨k2, n2, f2, z2.data.toList⟩).length := by
    split
    · exact ⟨_, rfl, by omega, by omega, by omega⟩
    · exact ⟨_, rfl, by omega, by omega, by omega⟩
  obtain ⟨hu1, hu2⟩ := unlike_plain hx1 hx2 hl1 hl2 k hkm
  clear hx1 hx2 hl1 hl2 hr1 hr2 hkm
  generalize putValueB ⟨k1, n1, f1, z1.data.toList⟩ = L1 at *
  generalize putValueB ⟨k2, n2, f2, z2.data.toList⟩ = L2 at *
  have HO1 := Lib.hid ho1.reads
  have HO2 := Lib.hid ho2.reads
  have HT1 := Lib.hid (reads_take ho1.reads k (by omega))
  have HT2 := Lib.hid (reads_take ho2.reads k (by omega))
  have hsame : sameB k1 n1 f1 ⟨z1.data.toList.toArray⟩ k2 n2 f2 ⟨z2.data.toList.toArray⟩ = sameB k1 n1 f1 z1 k2 n2 f2 z2 := rfl
  have HU1 := Lib.hid (hsame.symm.trans hu1)
  have HU2 := Lib.hid (hsame.symm.trans hu2)
  clear ho1 ho2 hu1 hu2 hsame HO45 HO5
  have va5 := VA5.out
  have vb5 := VB5.out
  have la5 : w1.heap.size + 1 < w5.heap.size := lt_of_block va5
  have lb5 : w1.heap.size + 1 + 1 + 1 < w5.heap.size := lt_of_block vb5
  have a0 := va5.c0
  have a1 := va5.c1
  have a2 := va5.c2
  have a3 := va5.c3
  have b0 := vb5.c0
  have b1 := vb5.c1
  have b2 := vb5.c2
  have b3 := vb5.c3
  clear va5 vb5 VA5 VB5
  go_wp2_with fail
  refine (same_any k1 n1 f1 z1 k2 n2 f2 z2 w5 HF1.out HF2.out).mono ?_
  rintro e w6 ⟨rfl, hb⟩
  have HB6 := Lib.hid (HB5.out.trans (hb.mono HB5.out.size))
  obtain ⟨h1, h2⟩ := holds_of (HO1.out.below hb)
  obtain ⟨h3, h4⟩ := holds_of (HO2.out.below hb)
  obtain ⟨h5, h6⟩ := holds_of (HT1.out.below hb)
  obtain ⟨h7, h8⟩ := holds_of (HT2.out.below hb)
  have hkc1 : (k : Int) ≤ (c1 : Int) := by omega
  have hkc2 : (k : Int) ≤ (c2 : Int) := by omega
  have hk0 : (0 : Int) ≤ (k : Int) := by omega
  have hu1 := HU1.out
  have hu2 := HU2.out
  generalize sameB k1 n1 f1 z1 k2 n2 f2 z2 = B at *
  clear a0 a1 a2 a3 b0 b1 b2 b3 la5 lb5 hb HB5 HU1 HU2
  have ht1 : (B == (L1 == L2)) = true := by rw [hu1]; simp
  have ht2 : (B == (L1.take k == L2.take k)) = true := by rw [hu2]; simp
  clear hu1 hu2
  go_wp2_with fail
  go_region_held (fun w' => ((ReadsB w' (.slice A1 L1.length c1) L1 ∧ (convert 22 9 (.slice A1 L1.length c1)).run Try.prog w' = .ok (.string ⟨L1.toArray⟩) w') ∧ (ReadsB w' (.slice A2 L2.length c2) L2 ∧ (convert 22 9 (.slice A2 L2.length c2)).run Try.prog w' = .ok (.string ⟨L2.toArray⟩) w')) ∧ ((ReadsB w' (.slice A1 k c1) (L1.take k) ∧ (convert 22 9 (.slice A1 k c1)).run Try.prog w' = .ok (.string ⟨(L1.take k).toArray⟩) w') ∧ (ReadsB w' (.slice A2 k c2) (L2.take k) ∧ (convert 22 9 (.slice A2 k c2)).run Try.prog w' = .ok (.string ⟨(L2.take k).toArray⟩) w'))) (first | (go_split_ands; refine ⟨⟨⟨?_, ?_⟩, ⟨?_, ?_⟩⟩, ⟨⟨?_, ?_⟩, ⟨?_, ?_⟩⟩⟩ <;> assumption) | (refine ⟨⟨holds_drew ?_, holds_drew ?_⟩, ⟨holds_drew ?_, holds_drew ?_⟩⟩ <;> assumption)) (fail)
  go_wp2
  go_ret
  exact ⟨rfl, HB6.out.drew⟩

set_option maxRecDepth 100000 in
theorem unlike_lifted (os : Os) (started : os.Started) (H : Type) (enc : TypeId × Value → H) :
    ReturnsInHanded {} Try.checked os 5 .any (Rows.packUnlikeSpec.pre6 enc Try.prog Try.f5 Rows.packUnlikeRow.domain false) (Rows.packUnlikeSpec.post enc Try.prog Try.f5 false true false false) := by
  refine returnsInHanded_of_change (C := Try.checked) own started (by kernel_rfl) Try.func5
    (ChangeSpec.witness6 (enc := enc) (C := Try.checked) false ⟨#[], #[.int .i64 0, .int .i64 0, .int .u64 0, .string ⟨#[]⟩, .int .i64 0, .int .i64 0, .int .u64 0, .string ⟨#[]⟩], []⟩ 8 (by kernel_rfl) (by kernel_rfl) (by kernel_rfl) (by kernel_rfl)) ?_
  intro W base args ds gs before hval0 hW hcnd _
  have hval : ∀ (j : Nat) t v, Try.f5.params[j]? = some t → args[j]? = some v → Value.okWide Try.prog W .any base t v := hval0
  have hW' := hW
  obtain ⟨p, q, hA0, hV, rfl, hfz, hnd⟩ := hW
  have hA : DataW.TrodAll enc Try.prog W 0 (fun _ => true) true Try.f5.params.toList args.toList ds p := hA0
  rw [Try.params5] at hA hval
  obtain ⟨rfl, rfl⟩ := trodVars_none hV
  have hlt : ∀ x ∈ p, x.block < W.heap.size := fun x hx => hW'.lt x (by simp [hx])
  have hrd2 : Try.prog.readableRec 2 = true ∧ 2 < Try.prog.types.size := ⟨by kernel_rfl, of_decide_eq_true (by kernel_rfl)⟩
  have hrd3 : Try.prog.readableRec 3 = true ∧ 3 < Try.prog.types.size := ⟨by kernel_rfl, of_decide_eq_true (by kernel_rfl)⟩
  have hrd9 : Try.prog.readableRec 9 = true ∧ 9 < Try.prog.types.size := ⟨by kernel_rfl, of_decide_eq_true (by kernel_rfl)⟩
  have hrd23 : Try.prog.readableRec 23 = true ∧ 23 < Try.prog.types.size := ⟨by kernel_rfl, of_decide_eq_true (by kernel_rfl)⟩
  have hargs := fun (W' : World) (hb : Below W.heap.size W W') => trodAll_below laidOut hb (by simp only [List.mem_cons, List.not_mem_nil, or_false]; rintro t (rfl | rfl | rfl | rfl | rfl | rfl | rfl | rfl) <;> first | exact hrd2 | exact hrd3 | exact hrd9 | exact hrd23) hA hlt
  obtain ⟨v0, vs0, d0, ds0, p0, q0, hargs0, rfl, rfl, h0, r0⟩ := trodAll_cons hA
  obtain ⟨v1, vs1, d1, ds1, p1, q1, rfl, rfl, rfl, h1, r1⟩ := trodAll_cons r0
  obtain ⟨v2, vs2, d2, ds2, p2, q2, rfl, rfl, rfl, h2, r2⟩ := trodAll_cons r1
  obtain ⟨v3, vs3, d3, ds3, p3, q3, rfl, rfl, rfl, h3, r3⟩ := trodAll_cons r2
  obtain ⟨v4, vs4, d4, ds4, p4, q4, rfl, rfl, rfl, h4, r4⟩ := trodAll_cons r3
  obtain ⟨v5, vs5, d5, ds5, p5, q5, rfl, rfl, rfl, h5, r5⟩ := trodAll_cons r4
  obtain ⟨v6, vs6, d6, ds6, p6, q6, rfl, rfl, rfl, h6, r6⟩ := trodAll_cons r5
  obtain ⟨v7, vs7, d7, ds7, p7, q7, rfl, rfl, rfl, h7, r7⟩ := trodAll_cons r6
  obtain ⟨rfl, rfl, rfl⟩ := trodAll_nil r7
  obtain rfl : args = #[v0, v1, v2, v3, v4, v5, v6, v7] := by cases args; simp_all
  obtain ⟨a0, rfl, rfl, rfl, w0⟩ := open_int Try.underlying3 (hval 0 3 v0 rfl rfl) h0
  have hx0 := i64_of_wf w0
  obtain ⟨a1, rfl, rfl, rfl, w1⟩ := open_int Try.underlying2 (hval 1 2 v1 rfl rfl) h1
  have hx1 := i64_of_wf w1
  obtain ⟨a2, rfl, rfl, rfl, w2⟩ := open_int Try.underlying23 (hval 2 23 v2 rfl rfl) h2
  obtain ⟨x2, rfl, hx2⟩ := u64_of_wf w2
  obtain ⟨s3, rfl, rfl, rfl, hs3⟩ := Go.ChangeMaps.open_string Try.underlying9 (hval 3 9 v3 rfl rfl) h3
  obtain ⟨a4, rfl, rfl, rfl, w4⟩ := open_int Try.underlying3 (hval 4 3 v4 rfl rfl) h4
  have hx4 := i64_of_wf w4
  obtain ⟨a5, rfl, rfl, rfl, w5⟩ := open_int Try.underlying2 (hval 5 2 v5 rfl rfl) h5
  have hx5 := i64_of_wf w5
  obtain ⟨a6, rfl, rfl, rfl, w6⟩ := open_int Try.underlying23 (hval 6 23 v6 rfl rfl) h6
  obtain ⟨x6, rfl, hx6⟩ := u64_of_wf w6
  obtain ⟨s7, rfl, rfl, rfl, hs7⟩ := Go.ChangeMaps.open_string Try.underlying9 (hval 7 9 v7 rfl rfl) h7
  clear hA0 hval0
  refine (unlike_walk a0 a1 x2 s3 a4 a5 x6 s7 hx1 hx5 hx2 hx6 W).mono fun e W' ⟨he, hb⟩ => ?_
  subst he
  exact ⟨_, rfl, ⟨_, _, _, [], _, [], hW', trodAll_mk1 (shut_bool Try.underlying4 _), hargs W' hb, rfl, hb.frame _, fun h => by cases h⟩⟩

theorem unlike_over : Rows.packUnlikeRow.holds Try.pinned (OpenSpec.ofChange Rows.packUnlikeSpec) :=
  OpenClaim.holds_of_wide 5 Try.f5 rfl rfl rfl rfl rfl rfl rfl ⟨rfl, rfl, rfl, rfl, rfl⟩ rfl rfl rfl rfl rfl (by kernel_rfl) Try.func5 (by kernel_rfl)
    (of_decide_eq_true (by kernel_rfl)) (by unfold Func.isWrapper; first | (rw [if_pos (by decide +kernel)]; kernel_rfl) | (rw [if_neg (by decide +kernel)]; exact ⟨rfl, rfl⟩))
    (fun os started H enc _ => unlike_lifted os started H enc)

theorem unlike_proved : Rows.PackUnlikeSaid := unlike_over
end Go.Proofs.Ytbcnokidnpnmhaa
