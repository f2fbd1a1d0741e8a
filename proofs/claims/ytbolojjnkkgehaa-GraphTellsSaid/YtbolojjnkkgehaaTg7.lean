import Derived.Test.YtbolojjnkkgehaaTg6
import Derived.Test.YtbolojjnkkgehaaLmp
/-! The reference's Right. -/
namespace Go.Proofs.Ytbolojjnkkgehaa
open Go.RowKit

theorem right_not {xs : List NX} {es : List EX} (hb : ¬ (1000 < xs.length ∨ 1000 < es.length)) (h : okE xs es es.length = false) : rightN xs es = 1 := by
  unfold rightN
  rw [if_neg hb, h]
  rfl
theorem right_noN {xs : List NX} {es : List EX} (hb : ¬ (1000 < xs.length ∨ 1000 < es.length)) {i : Nat} (hi : i < xs.length) (h : nodeB (ndAt xs i).d = false) : rightN xs es = 1 := by
  refine right_not hb ?_
  unfold okE okN
  have : (List.range xs.length).all (fun j => nodeB (ndAt xs j).d) = false := by
    rw [List.all_eq_false]
    exact ⟨i, by simpa using hi, by simp [h]⟩
  simp [this]
theorem right_noE {xs : List NX} {es : List EX} (hb : ¬ (1000 < xs.length ∨ 1000 < es.length)) {i : Nat} (hi : i < es.length) (h : edgeB xs.length (edAt es i).d = false) : rightN xs es = 1 := by
  refine right_not hb ?_
  unfold okE
  have : (List.range es.length).all (fun j => edgeB xs.length (edAt es j).d) = false := by
    rw [List.all_eq_false]
    exact ⟨i, by simpa using hi, by simp [h]⟩
  simp [this]
theorem bl_ne {a b : ByteArray} (h : ¬ a = b) : (a.toList == b.toList) = false := by
  rw [beq_eq_false_iff_ne]
  exact fun e => h (toList_inj e)
/-- Names that are all unlike are each found in their place. -/
theorem fst_dist {l : List ByteArray} (h : distB l = true) {i : Nat} (hi : i < l.length) : fstI l (strAt l i) = (i : Int) := by
  rw [distB_iff] at h
  exact fst_at hi (fun j hj => bl_ne (h j i hj hi)) (by simp)
theorem dist_fst {l : List ByteArray} (h : ∀ i, i < l.length → fstI l (strAt l i) = (i : Int)) : distB l = true := by
  rw [distB_iff]
  intro i j hij hj he
  have h1 := h i (by omega)
  have h2 := h j hj
  rw [he, h2] at h1
  omega
theorem right_dupN {xs : List NX} {es : List EX} (hb : ¬ (1000 < xs.length ∨ 1000 < es.length)) {i : Nat} (hi : i < xs.length) (h : ¬ fstI (xs.map (·.d.nm)) (ndAt xs i).d.nm = (i : Int)) : rightN xs es = 1 := by
  refine right_not hb ?_
  have : distB (xs.map (·.d.nm)) = false := by
    cases hd : distB (xs.map (·.d.nm)) with
    | false => rfl
    | true => exact absurd (by rw [← nm_atN hi]; exact fst_dist hd (by simpa using hi)) h
  simp [okE, okN, startB, this]
theorem right_dupE {xs : List NX} {es : List EX} (hb : ¬ (1000 < xs.length ∨ 1000 < es.length)) {i : Nat} (hi : i < es.length) (h : ¬ fstI (es.map (·.d.nm)) (edAt es i).d.nm = (i : Int)) : rightN xs es = 1 := by
  refine right_not hb ?_
  have : distB (es.map (·.d.nm)) = false := by
    cases hd : distB (es.map (·.d.nm)) with
    | false => rfl
    | true => exact absurd (by rw [← nm_atE hi]; exact fst_dist hd (by simpa using hi)) h
  simp [okE, okN, startB, this]
/-- What the first loop has seen. -/
def seenN (xs : List NX) (i : Nat) : Prop := nodeB (ndAt xs i).d = true ∧ fstI (xs.map (·.d.nm)) (ndAt xs i).d.nm = (i : Int)
def seenE (n : Nat) (es : List EX) (i : Nat) : Prop := edgeB n (edAt es i).d = true ∧ fstI (es.map (·.d.nm)) (edAt es i).d.nm = (i : Int)
theorem right_yes {xs : List NX} {es : List EX} (hb : ¬ (1000 < xs.length ∨ 1000 < es.length)) (hn : ∀ i, i < xs.length → seenN xs i) (he : ∀ i, i < es.length → seenE xs.length es i) : rightN xs es = 0 := by
  have h : okE xs es es.length = true := by
    unfold okE okN startB
    have d1 : distB (xs.map (·.d.nm)) = true := dist_fst fun i hi => by
      have hi' : i < xs.length := by simpa using hi
      rw [nm_atN hi']; exact (hn i hi').2
    have d2 : distB (es.map (·.d.nm)) = true := dist_fst fun i hi => by
      have hi' : i < es.length := by simpa using hi
      rw [nm_atE hi']; exact (he i hi').2
    rw [d1, d2]
    simp only [Bool.and_self, Bool.true_and, Bool.and_eq_true, List.all_eq_true, List.mem_range]
    exact ⟨fun i hi => (hn i hi).1, fun i hi => (he i hi).1⟩
  unfold rightN
  rw [if_neg hb, h]
  rfl

set_option maxRecDepth 20000 in
set_option maxHeartbeats 4000000 in
/-- ref07.Right -/
theorem refGRight_any (nv : Value) (xs : List NX) (ev : Value) (zs : List EX) (w : World) (hn : Nodes w nv xs) (he : Edges w ev zs) :
    Calls Try.prog 19 #[GR nv ev] w fun e w' => e = .returned (.int .i64 (rightN xs zs)) ∧ Below w.heap.size w w' := by
  obtain ⟨A3, c3, rfl, hlc3, hcm3, -, hrn⟩ := hn.sl.form
  obtain ⟨A4, c4, rfl, hlc4, hcm4, -, hre⟩ := he.sl.form
  have hxl := hn.len
  have hzl := he.len
  have HN := Lib.hid hn
  have HE := Lib.hid he
  have HRN := Lib.hid hrn
  have HRE := Lib.hid hre
  clear hn he hrn hre
  have hb0 := (Below.refl w.heap.size w).alloc (Nat.le_refl _) (.cells #[.slice A3 xs.length c3, .slice A4 zs.length c4] 25)
  have HB0 := Lib.hid hb0
  have HT := Lib.hid (show TwoAt (w.alloc (.cells #[.slice A3 xs.length c3, .slice A4 zs.length c4] 25)) w.heap.size (.slice A3 xs.length c3) (.slice A4 zs.length c4) from ⟨by simp [go_sem], by simp [go_sem]⟩)
  clear hb0
  by_cases hbx : 1000 < xs.length
  · have hbx' : (1000 : Int) < (xs.length : Int) := by omega
    have HR := Lib.hid (lim_big xs zs (.inl hbx))
    go_enter Try.func19, Try.ntmps19
    go_wp2_with fail
    go_ret
    exact ⟨ret_int HR.out.symm, HB0.out⟩
  · by_cases hbz : 1000 < zs.length
    · have hbz' : (1000 : Int) < (zs.length : Int) := by omega
      have hbx' : (xs.length : Int) ≤ 1000 := by omega
      have HR := Lib.hid (lim_big xs zs (.inr hbz))
      go_enter Try.func19, Try.ntmps19
      go_wp2_with fail
      go_ret
      exact ⟨ret_int HR.out.symm, HB0.out⟩
    · have hbx' : (xs.length : Int) ≤ 1000 := by omega
      have hbz' : (zs.length : Int) ≤ 1000 := by omega
      have HBIG := Lib.hid (show ¬ (1000 < xs.length ∨ 1000 < zs.length) by omega)
      go_enter Try.func19, Try.ntmps19
      go_wp2_with fail
      generalize w.alloc (.cells #[.slice A3 xs.length c3, .slice A4 zs.length c4] 25) = w0 at *
      have hlt0 : w.heap.size < w0.heap.size := World.block_lt_of_cell? w0 _ HT.out.c0
      go_loopw [3] (fun v3 wr => ∃ i : Nat, v3 = .int .i64 i ∧ i ≤ xs.length ∧ Hid (Below w0.heap.size w0 wr ∧ ∀ j, j < i → seenN xs j)) (fun v3 _ => xs.length - (intOf v3).toNat)
      case atStart => exact ⟨0, rfl, by omega, Lib.hid ⟨Below.refl _ _, fun j hj => by omega⟩⟩
      case round =>
        obtain ⟨i, rfl, hi, HR⟩ := hrel
        have t0 := (HT.out.below HR.out.1 hlt0).c0
        have t1 := (HT.out.below HR.out.1 hlt0).c1
        have hltr : w.heap.size < wr.heap.size := World.block_lt_of_cell? wr _ t0
        by_cases hin : i < xs.length
        · have hin' : (i : Int) < (xs.length : Int) := by omega
          have hi0 : (0 : Int) ≤ (i : Int) := by omega
          have HWR := Lib.hid (HB0.out.trans (HR.out.1.mono HB0.out.size))
          obtain ⟨b', o', hA', hbl', e0', e1', e2'⟩ := HRN.out.nodeA i hin
          subst hA'
          have HL2 := Lib.hid (show Strs w (ndAt xs i).lv (ndAt xs i).d.ls by rw [ndAt_eq hin]; exact HN.out.ls _ (List.getElem_mem _))
          have HP2 := Lib.hid (show Props w (ndAt xs i).pv (ndAt xs i).d.ps by rw [ndAt_eq hin]; exact HN.out.ps _ (List.getElem_mem _))
          have HSZ := Lib.hid (show (ndAt xs i).d.nm.size ≤ maxLen by rw [ndAt_eq hin]; exact HN.out.nm _ (List.getElem_mem _))
          have hbw' := Nat.lt_of_lt_of_le hbl' HWR.out.size
          have s0 := cell_below HWR.out hbl' e0'
          have s1 := cell_below HWR.out hbl' e1'
          have s2 := cell_below HWR.out hbl' e2'
          have HNO := Lib.hid (fun h => right_noN HBIG.out hin h)
          have HDU := Lib.hid (fun h => right_dupN HBIG.out hin h)
          have HST := Lib.hid (fun h : seenN xs i => step_all (q := fun j => seenN xs j) HR.out.2 h)
          unfold seenN at HST
          clear e0' e1' e2'
          generalize ndAt xs i = x at *
          obtain ⟨⟨nm, ls, ps⟩, lv2, pv2⟩ := x
          dsimp only at s0 s1 s2 HL2 HP2 HSZ HNO HDU HST
          obtain ⟨B2, m2, hf2, -, -, -, -⟩ := HL2.out.sl.form
          subst hf2
          obtain ⟨B4, m4, hf4, -, -, -, -⟩ := HP2.out.sl.form
          subst hf4
          have HRB := Lib.hid (row_new wr [.string nm, .slice B2 ls.length m2, .slice B4 ps.length m4] 46)
          have HBA := Lib.hid ((Below.refl wr.heap.size wr).alloc (Nat.le_refl _) (.cells #[.string nm, .slice B2 ls.length m2, .slice B4 ps.length m4] 46))
          go_wp2_with fail
          generalize wr.alloc (.cells #[.string nm, .slice B2 ls.length m2, .slice B4 ps.length m4] 46) = wA at *
          have HWA := Lib.hid (HWR.out.trans (HBA.out.mono HWR.out.size))
          have HTA := Lib.hid ((HT.out.below HR.out.1 hlt0).below HBA.out hltr)
          have hltA := Nat.lt_of_lt_of_le hltr HBA.out.size
          have q1 := HRB.out 1 _ rfl
          clear s0 s1 s2 t0 t1
          refine (refWord_any nm HSZ.out _).mono ?_
          rintro e w5 ⟨rfl, rfl⟩
          go_wp2_with fail
          refine (refRising_any _ ls _ (HL2.out.below HWA.out (Nat.le_refl _))).mono ?_
          rintro e w6 ⟨rfl, hb6⟩
          have HRB6 := Lib.hid (HRB.out.below hb6)
          have HW6 := Lib.hid (HWA.out.trans (hb6.mono HWA.out.size))
          have HB6 := Lib.hid (below_trans' HBA.out hb6)
          have HT6 := Lib.hid (HTA.out.below hb6 hltA)
          have hlt6 := Nat.lt_of_lt_of_le hltA hb6.size
          have q2 := HRB6.out 2 _ rfl
          clear hb6 q1
          go_wp2_with fail
          refine (refProps_any _ ps _ (HP2.out.below HW6.out (Nat.le_refl _))).mono ?_
          rintro e w7 ⟨rfl, hb7⟩
          have HRB7 := Lib.hid (HRB6.out.below hb7)
          have HW7 := Lib.hid (HW6.out.trans (hb7.mono HW6.out.size))
          have HB7 := Lib.hid (below_trans' HB6.out hb7)
          have HT7 := Lib.hid (HT6.out.below hb7 hlt6)
          clear hb7 q2
          have q0 := HRB7.out 0 _ rfl
          have t0 := HT7.out.c0
          have t1 := HT7.out.c1
          generalize hx1 : wordB nm = x1 at *
          generalize hx2 : risingB ls = x2 at *
          generalize hx3 : (propsB ps && risingB (ps.map (·.nm))) = x3 at *
          have HNB := Lib.hid (show nodeB ⟨nm, ls, ps⟩ = (x1 && (x2 && x3)) by rw [← hx1, ← hx2, ← hx3]; unfold nodeB elemB; dsimp only; cases propsB ps <;> cases wordB nm <;> cases risingB ls <;> rfl)
          clear hx1 hx2 hx3
          cases x1 with
          | false =>
            have H1 := Lib.hid (HNO.out HNB.out)
            go_wp2_with fail
            go_ret
            exact ⟨ret_int H1.out.symm, HW7.out⟩
          | true =>
          cases x2 with
          | false =>
            have H1 := Lib.hid (HNO.out HNB.out)
            go_wp2_with fail
            go_ret
            exact ⟨ret_int H1.out.symm, HW7.out⟩
          | true =>
          cases x3 with
          | false =>
            have H1 := Lib.hid (HNO.out HNB.out)
            go_wp2_with fail
            go_ret
            exact ⟨ret_int H1.out.symm, HW7.out⟩
          | true =>
            go_wp2_with fail
            refine (refFind_any _ xs _ nm _ (HN.out.below HW7.out (Nat.le_refl _))).mono ?_
            rintro e w8 ⟨rfl, hb8⟩
            have HB8 := Lib.hid (below_trans' HB7.out hb8)
            have HW8 := Lib.hid (HW7.out.trans (hb8.mono HW7.out.size))
            clear hb8
            obtain ⟨f, hf⟩ : ∃ f, fstI (xs.map (·.d.nm)) nm = f := ⟨_, rfl⟩
            rw [hf] at HDU HST
            rw [hf]
            clear hf
            by_cases hfi : f = (i : Int)
            · subst hfi
              have H1 := Lib.hid (HST.out ⟨HNB.out, rfl⟩)
              go_wp2_with fail
              go_roundw
              case rel => exact ⟨i + 1, by go_num, by omega, Lib.hid ⟨below_trans' HR.out.1 HB8.out, H1.out⟩⟩
              case measure => simp [intOf]; omega
            · have H1 := Lib.hid (HDU.out hfi)
              have hf3 : (f == (i : Int)) = false := by simpa using hfi
              have hf4 : (f != (i : Int)) = true := by simpa using hfi
              clear hfi
              go_wp2_with fail
              go_ret
              exact ⟨ret_int H1.out.symm, HW8.out⟩
        · have hni : (xs.length : Int) ≤ (i : Int) := by omega
          have HSN := Lib.hid (fun j (hj : j < xs.length) => HR.out.2 j (by omega))
          have HRS := Lib.hid HR.out.1
          go_wp2_with fail
          clear t0 t1 HR hltr
          go_loopw [8] (fun v8 wq => ∃ j : Nat, v8 = .int .i64 j ∧ j ≤ zs.length ∧ Hid (Below w0.heap.size w0 wq ∧ ∀ k, k < j → seenE xs.length zs k)) (fun v8 _ => zs.length - (intOf v8).toNat)
          case atStart => exact ⟨0, rfl, by omega, Lib.hid ⟨HRS.out, fun j hj => by omega⟩⟩
          case round =>
            clear HRS
            obtain ⟨j, rfl, hj, HR⟩ := hrel
            have t0 := (HT.out.below HR.out.1 hlt0).c0
            have t1 := (HT.out.below HR.out.1 hlt0).c1
            have hltr : w.heap.size < wr.heap.size := World.block_lt_of_cell? wr _ t0
            have HWR := Lib.hid (HB0.out.trans (HR.out.1.mono HB0.out.size))
            by_cases hjn : j < zs.length
            · have hjn' : (j : Int) < (zs.length : Int) := by omega
              have hj0 : (0 : Int) ≤ (j : Int) := by omega
              obtain ⟨b', o', hA', hbl', e0', e1', e2', e3', e4', e5'⟩ := HRE.out.edgeA j hjn
              subst hA'
              have HL2 := Lib.hid (show Strs w (edAt zs j).lv (edAt zs j).d.ls by rw [edAt_eq hjn]; exact HE.out.ls _ (List.getElem_mem _))
              have HP2 := Lib.hid (show Props w (edAt zs j).pv (edAt zs j).d.ps by rw [edAt_eq hjn]; exact HE.out.ps _ (List.getElem_mem _))
              have HSZ := Lib.hid (show (edAt zs j).d.nm.size ≤ maxLen by rw [edAt_eq hjn]; exact HE.out.nm _ (List.getElem_mem _))
              have hbw' := Nat.lt_of_lt_of_le hbl' HWR.out.size
              have s0 := cell_below HWR.out hbl' e0'
              have s1 := cell_below HWR.out hbl' e1'
              have s2 := cell_below HWR.out hbl' e2'
              have s3 := cell_below HWR.out hbl' e3'
              have s4 := cell_below HWR.out hbl' e4'
              have s5 := cell_below HWR.out hbl' e5'
              have HNO := Lib.hid (fun h => right_noE (xs := xs) HBIG.out hjn h)
              have HDU := Lib.hid (fun h => right_dupE (xs := xs) HBIG.out hjn h)
              have HST := Lib.hid (fun h : seenE xs.length zs j => step_all (q := fun j => seenE xs.length zs j) HR.out.2 h)
              unfold seenE at HST
              clear e0' e1' e2' e3' e4' e5'
              generalize edAt zs j = x at *
              obtain ⟨⟨nm, es, et, dir, ls, ps⟩, lv2, pv2⟩ := x
              dsimp only at s0 s1 s2 s3 s4 s5 HL2 HP2 HSZ HNO HDU HST
              obtain ⟨B2, m2, hf2, -, -, -, -⟩ := HL2.out.sl.form
              subst hf2
              obtain ⟨B4, m4, hf4, -, -, -, -⟩ := HP2.out.sl.form
              subst hf4
              have HRB := Lib.hid (row_new wr [.string nm, .int .i64 es, .int .i64 et, .bool dir, .slice B2 ls.length m2, .slice B4 ps.length m4] 42)
              have HBA := Lib.hid ((Below.refl wr.heap.size wr).alloc (Nat.le_refl _) (.cells #[.string nm, .int .i64 es, .int .i64 et, .bool dir, .slice B2 ls.length m2, .slice B4 ps.length m4] 42))
              go_wp2_with fail
              generalize wr.alloc (.cells #[.string nm, .int .i64 es, .int .i64 et, .bool dir, .slice B2 ls.length m2, .slice B4 ps.length m4] 42) = wA at *
              have HWA := Lib.hid (HWR.out.trans (HBA.out.mono HWR.out.size))
              have HTA := Lib.hid ((HT.out.below HR.out.1 hlt0).below HBA.out hltr)
              have hltA := Nat.lt_of_lt_of_le hltr HBA.out.size
              have q1 := HRB.out 4 _ rfl
              clear s0 s1 s2 s3 s4 s5 t0 t1
              refine (refWord_any nm HSZ.out _).mono ?_
              rintro e w5 ⟨rfl, rfl⟩
              go_wp2_with fail
              refine (refRising_any _ ls _ (HL2.out.below HWA.out (Nat.le_refl _))).mono ?_
              rintro e w6 ⟨rfl, hb6⟩
              have HRB6 := Lib.hid (HRB.out.below hb6)
              have HW6 := Lib.hid (HWA.out.trans (hb6.mono HWA.out.size))
              have HB6 := Lib.hid (below_trans' HBA.out hb6)
              have HT6 := Lib.hid (HTA.out.below hb6 hltA)
              have hlt6 := Nat.lt_of_lt_of_le hltA hb6.size
              have q2 := HRB6.out 5 _ rfl
              clear hb6 q1
              go_wp2_with fail
              refine (refProps_any _ ps _ (HP2.out.below HW6.out (Nat.le_refl _))).mono ?_
              rintro e w7 ⟨rfl, hb7⟩
              have HRB7 := Lib.hid (HRB6.out.below hb7)
              have HW7 := Lib.hid (HW6.out.trans (hb7.mono HW6.out.size))
              have HB7 := Lib.hid (below_trans' HB6.out hb7)
              have HT7 := Lib.hid (HT6.out.below hb7 hlt6)
              clear hb7 q2
              have q0 := HRB7.out 0 _ rfl
              have q1 := HRB7.out 1 _ rfl
              have q2 := HRB7.out 2 _ rfl
              have t0 := HT7.out.c0
              have t1 := HT7.out.c1
              generalize hx1 : wordB nm = x1 at *
              generalize hx2 : risingB ls = x2 at *
              generalize hx3 : (propsB ps && risingB (ps.map (·.nm))) = x3 at *
              by_cases hle : et < es
              · by_cases h0 : 0 ≤ et
                · by_cases h1 : es < (xs.length : Int)
                  · have HNB := Lib.hid (show edgeB xs.length ⟨nm, es, et, dir, ls, ps⟩ = (x1 && (x2 && (x3 && true))) by
                      have h4 : (inB xs.length es && inB xs.length et) = true := by
                        unfold inB
                        simp only [Bool.and_eq_true, decide_eq_true_eq]
                        omega
                      rw [← hx1, ← hx2, ← hx3, ← h4]
                      unfold edgeB elemB
                      dsimp only
                      cases propsB ps <;> cases wordB nm <;> cases risingB ls <;> simp)
                    clear hx1 hx2 hx3

                    cases x1 with
                    | false =>
                      have H1 := Lib.hid (HNO.out HNB.out)
                      go_wp2_with fail
                      go_ret
                      exact ⟨ret_int H1.out.symm, HW7.out⟩
                    | true =>
                    cases x2 with
                    | false =>
                      have H1 := Lib.hid (HNO.out HNB.out)
                      go_wp2_with fail
                      go_ret
                      exact ⟨ret_int H1.out.symm, HW7.out⟩
                    | true =>
                    cases x3 with
                    | false =>
                      have H1 := Lib.hid (HNO.out HNB.out)
                      go_wp2_with fail
                      go_ret
                      exact ⟨ret_int H1.out.symm, HW7.out⟩
                    | true =>
                      go_wp2_with fail
                      refine (refFindE_any _ _ zs nm _ (HE.out.below HW7.out (Nat.le_refl _))).mono ?_
                      rintro e w8 ⟨rfl, hb8⟩
                      have HB8 := Lib.hid (below_trans' HB7.out hb8)
                      have HW8 := Lib.hid (HW7.out.trans (hb8.mono HW7.out.size))
                      clear hb8
                      obtain ⟨f, hf⟩ : ∃ f, fstI (zs.map (·.d.nm)) nm = f := ⟨_, rfl⟩
                      rw [hf] at HDU HST
                      rw [hf]
                      clear hf
                      by_cases hfi : f = (j : Int)
                      · subst hfi
                        have H1 := Lib.hid (HST.out ⟨HNB.out, rfl⟩)
                        go_wp2_with fail
                        go_roundw
                        case rel => exact ⟨j + 1, by go_num, by omega, Lib.hid ⟨below_trans' HR.out.1 HB8.out, H1.out⟩⟩
                        case measure => simp [intOf]; omega
                      · have H1 := Lib.hid (HDU.out hfi)
                        have hf3 : (f == (j : Int)) = false := by simpa using hfi
                        have hf4 : (f != (j : Int)) = true := by simpa using hfi
                        clear hfi
                        go_wp2_with fail
                        go_ret
                        exact ⟨ret_int H1.out.symm, HW8.out⟩
                  · have h2 : (xs.length : Int) ≤ es := by omega
                    have HNB := Lib.hid (show edgeB xs.length ⟨nm, es, et, dir, ls, ps⟩ = (x1 && (x2 && (x3 && false))) by
                      have h4 : (inB xs.length es && inB xs.length et) = false := by
                        unfold inB
                        rw [← Bool.not_eq_true]
                        simp only [Bool.and_eq_true, decide_eq_true_eq]
                        omega
                      rw [← hx1, ← hx2, ← hx3, ← h4]
                      unfold edgeB elemB
                      dsimp only
                      cases propsB ps <;> cases wordB nm <;> cases risingB ls <;> simp)
                    clear hx1 hx2 hx3

                    have H1 := Lib.hid (HNO.out (by rw [HNB.out]; simp))
                    clear HNB
                    cases x1 <;> cases x2 <;> cases x3 <;> (go_wp2_with fail; go_ret; exact ⟨ret_int H1.out.symm, HW7.out⟩)
                · have h2 : et < 0 := by omega
                  have HNB := Lib.hid (show edgeB xs.length ⟨nm, es, et, dir, ls, ps⟩ = (x1 && (x2 && (x3 && false))) by
                    have h4 : (inB xs.length es && inB xs.length et) = false := by
                      unfold inB
                      rw [← Bool.not_eq_true]
                      simp only [Bool.and_eq_true, decide_eq_true_eq]
                      omega
                    rw [← hx1, ← hx2, ← hx3, ← h4]
                    unfold edgeB elemB
                    dsimp only
                    cases propsB ps <;> cases wordB nm <;> cases risingB ls <;> simp)
                  clear hx1 hx2 hx3

                  have H1 := Lib.hid (HNO.out (by rw [HNB.out]; simp))
                  clear HNB
                  cases x1 <;> cases x2 <;> cases x3 <;> (go_wp2_with fail; go_ret; exact ⟨ret_int H1.out.symm, HW7.out⟩)
              · by_cases hle2 : es < et
                · by_cases h0 : 0 ≤ es
                  · by_cases h1 : et < (xs.length : Int)
                    · have HNB := Lib.hid (show edgeB xs.length ⟨nm, es, et, dir, ls, ps⟩ = (x1 && (x2 && (x3 && true))) by
                        have h4 : (inB xs.length es && inB xs.length et) = true := by
                          unfold inB
                          simp only [Bool.and_eq_true, decide_eq_true_eq]
                          omega
                        rw [← hx1, ← hx2, ← hx3, ← h4]
                        unfold edgeB elemB
                        dsimp only
                        cases propsB ps <;> cases wordB nm <;> cases risingB ls <;> simp)
                      clear hx1 hx2 hx3

                      cases x1 with
                      | false =>
                        have H1 := Lib.hid (HNO.out HNB.out)
                        go_wp2_with fail
                        go_ret
                        exact ⟨ret_int H1.out.symm, HW7.out⟩
                      | true =>
                      cases x2 with
                      | false =>
                        have H1 := Lib.hid (HNO.out HNB.out)
                        go_wp2_with fail
                        go_ret
                        exact ⟨ret_int H1.out.symm, HW7.out⟩
                      | true =>
                      cases x3 with
                      | false =>
                        have H1 := Lib.hid (HNO.out HNB.out)
                        go_wp2_with fail
                        go_ret
                        exact ⟨ret_int H1.out.symm, HW7.out⟩
                      | true =>
                        go_wp2_with fail
                        refine (refFindE_any _ _ zs nm _ (HE.out.below HW7.out (Nat.le_refl _))).mono ?_
                        rintro e w8 ⟨rfl, hb8⟩
                        have HB8 := Lib.hid (below_trans' HB7.out hb8)
                        have HW8 := Lib.hid (HW7.out.trans (hb8.mono HW7.out.size))
                        clear hb8
                        obtain ⟨f, hf⟩ : ∃ f, fstI (zs.map (·.d.nm)) nm = f := ⟨_, rfl⟩
                        rw [hf] at HDU HST
                        rw [hf]
                        clear hf
                        by_cases hfi : f = (j : Int)
                        · subst hfi
                          have H1 := Lib.hid (HST.out ⟨HNB.out, rfl⟩)
                          go_wp2_with fail
                          go_roundw
                          case rel => exact ⟨j + 1, by go_num, by omega, Lib.hid ⟨below_trans' HR.out.1 HB8.out, H1.out⟩⟩
                          case measure => simp [intOf]; omega
                        · have H1 := Lib.hid (HDU.out hfi)
                          have hf3 : (f == (j : Int)) = false := by simpa using hfi
                          have hf4 : (f != (j : Int)) = true := by simpa using hfi
                          clear hfi
                          go_wp2_with fail
                          go_ret
                          exact ⟨ret_int H1.out.symm, HW8.out⟩
                    · have h2 : (xs.length : Int) ≤ et := by omega
                      have HNB := Lib.hid (show edgeB xs.length ⟨nm, es, et, dir, ls, ps⟩ = (x1 && (x2 && (x3 && false))) by
                        have h4 : (inB xs.length es && inB xs.length et) = false := by
                          unfold inB
                          rw [← Bool.not_eq_true]
                          simp only [Bool.and_eq_true, decide_eq_true_eq]
                          omega
                        rw [← hx1, ← hx2, ← hx3, ← h4]
                        unfold edgeB elemB
                        dsimp only
                        cases propsB ps <;> cases wordB nm <;> cases risingB ls <;> simp)
                      clear hx1 hx2 hx3

                      have H1 := Lib.hid (HNO.out (by rw [HNB.out]; simp))
                      clear HNB
                      cases x1 <;> cases x2 <;> cases x3 <;> (go_wp2_with fail; go_ret; exact ⟨ret_int H1.out.symm, HW7.out⟩)
                  · have h2 : es < 0 := by omega
                    have HNB := Lib.hid (show edgeB xs.length ⟨nm, es, et, dir, ls, ps⟩ = (x1 && (x2 && (x3 && false))) by
                      have h4 : (inB xs.length es && inB xs.length et) = false := by
                        unfold inB
                        rw [← Bool.not_eq_true]
                        simp only [Bool.and_eq_true, decide_eq_true_eq]
                        omega
                      rw [← hx1, ← hx2, ← hx3, ← h4]
                      unfold edgeB elemB
                      dsimp only
                      cases propsB ps <;> cases wordB nm <;> cases risingB ls <;> simp)
                    clear hx1 hx2 hx3

                    have H1 := Lib.hid (HNO.out (by rw [HNB.out]; simp))
                    clear HNB
                    cases x1 <;> cases x2 <;> cases x3 <;> (go_wp2_with fail; go_ret; exact ⟨ret_int H1.out.symm, HW7.out⟩)
                · obtain rfl : es = et := by omega
                  by_cases h0 : 0 ≤ es
                  · by_cases h1 : es < (xs.length : Int)
                    · have HNB := Lib.hid (show edgeB xs.length ⟨nm, es, es, dir, ls, ps⟩ = (x1 && (x2 && (x3 && true))) by
                        have h4 : (inB xs.length es && inB xs.length es) = true := by
                          unfold inB
                          simp only [Bool.and_eq_true, decide_eq_true_eq]
                          omega
                        rw [← hx1, ← hx2, ← hx3, ← h4]
                        unfold edgeB elemB
                        dsimp only
                        cases propsB ps <;> cases wordB nm <;> cases risingB ls <;> simp)
                      clear hx1 hx2 hx3

                      cases x1 with
                      | false =>
                        have H1 := Lib.hid (HNO.out HNB.out)
                        go_wp2_with fail
                        go_ret
                        exact ⟨ret_int H1.out.symm, HW7.out⟩
                      | true =>
                      cases x2 with
                      | false =>
                        have H1 := Lib.hid (HNO.out HNB.out)
                        go_wp2_with fail
                        go_ret
                        exact ⟨ret_int H1.out.symm, HW7.out⟩
                      | true =>
                      cases x3 with
                      | false =>
                        have H1 := Lib.hid (HNO.out HNB.out)
                        go_wp2_with fail
                        go_ret
                        exact ⟨ret_int H1.out.symm, HW7.out⟩
                      | true =>
                        go_wp2_with fail
                        refine (refFindE_any _ _ zs nm _ (HE.out.below HW7.out (Nat.le_refl _))).mono ?_
                        rintro e w8 ⟨rfl, hb8⟩
                        have HB8 := Lib.hid (below_trans' HB7.out hb8)
                        have HW8 := Lib.hid (HW7.out.trans (hb8.mono HW7.out.size))
                        clear hb8
                        obtain ⟨f, hf⟩ : ∃ f, fstI (zs.map (·.d.nm)) nm = f := ⟨_, rfl⟩
                        rw [hf] at HDU HST
                        rw [hf]
                        clear hf
                        by_cases hfi : f = (j : Int)
                        · subst hfi
                          have H1 := Lib.hid (HST.out ⟨HNB.out, rfl⟩)
                          go_wp2_with fail
                          go_roundw
                          case rel => exact ⟨j + 1, by go_num, by omega, Lib.hid ⟨below_trans' HR.out.1 HB8.out, H1.out⟩⟩
                          case measure => simp [intOf]; omega
                        · have H1 := Lib.hid (HDU.out hfi)
                          have hf3 : (f == (j : Int)) = false := by simpa using hfi
                          have hf4 : (f != (j : Int)) = true := by simpa using hfi
                          clear hfi
                          go_wp2_with fail
                          go_ret
                          exact ⟨ret_int H1.out.symm, HW8.out⟩
                    · have h2 : (xs.length : Int) ≤ es := by omega
                      have HNB := Lib.hid (show edgeB xs.length ⟨nm, es, es, dir, ls, ps⟩ = (x1 && (x2 && (x3 && false))) by
                        have h4 : (inB xs.length es && inB xs.length es) = false := by
                          unfold inB
                          rw [← Bool.not_eq_true]
                          simp only [Bool.and_eq_true, decide_eq_true_eq]
                          omega
                        rw [← hx1, ← hx2, ← hx3, ← h4]
                        unfold edgeB elemB
                        dsimp only
                        cases propsB ps <;> cases wordB nm <;> cases risingB ls <;> simp)
                      clear hx1 hx2 hx3

                      have H1 := Lib.hid (HNO.out (by rw [HNB.out]; simp))
                      clear HNB
                      cases x1 <;> cases x2 <;> cases x3 <;> (go_wp2_with fail; go_ret; exact ⟨ret_int H1.out.symm, HW7.out⟩)
                  · have h2 : es < 0 := by omega
                    have HNB := Lib.hid (show edgeB xs.length ⟨nm, es, es, dir, ls, ps⟩ = (x1 && (x2 && (x3 && false))) by
                      have h4 : (inB xs.length es && inB xs.length es) = false := by
                        unfold inB
                        rw [← Bool.not_eq_true]
                        simp only [Bool.and_eq_true, decide_eq_true_eq]
                        omega
                      rw [← hx1, ← hx2, ← hx3, ← h4]
                      unfold edgeB elemB
                      dsimp only
                      cases propsB ps <;> cases wordB nm <;> cases risingB ls <;> simp)
                    clear hx1 hx2 hx3

                    have H1 := Lib.hid (HNO.out (by rw [HNB.out]; simp))
                    clear HNB
                    cases x1 <;> cases x2 <;> cases x3 <;> (go_wp2_with fail; go_ret; exact ⟨ret_int H1.out.symm, HW7.out⟩)
            · have hnj : (zs.length : Int) ≤ (j : Int) := by omega
              have H1 := Lib.hid (right_yes HBIG.out HSN.out (fun k hk => HR.out.2 k (by omega)))
              go_wp2_with fail
              go_ret
              exact ⟨ret_int H1.out.symm, HWR.out⟩
end Go.Proofs.Ytbolojjnkkgehaa
