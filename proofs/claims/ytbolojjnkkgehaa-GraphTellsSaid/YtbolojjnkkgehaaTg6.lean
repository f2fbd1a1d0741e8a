import Derived.Test.YtbolojjnkkgehaaTg4
import Derived.Test.YtbolojjnkkgehaaTg5
/-! The reference's Same, of two like graphs. -/
namespace Go.Proofs.Ytbolojjnkkgehaa
open Go.RowKit

theorem row_new (w : World) (vs : List Value) (e : TypeId) : RowAt (w.alloc (.cells vs.toArray e)) w.heap.size vs := fun k u hk => by
  have h1 := new_cells w vs e k u hk
  rw [Nat.zero_add] at h1
  exact h1
theorem likeN {ys xs : List NX} (h : ys.map (·.d) = xs.map (·.d)) {i : Nat} (hi : i < xs.length) : (ndAt ys i).d = (ndAt xs i).d := by
  have hl : ys.length = xs.length := by have := congrArg List.length h; simpa using this
  rw [← ndD_map (by omega), ← ndD_map hi, h]
theorem likeE {ys xs : List EX} (h : ys.map (·.d) = xs.map (·.d)) {i : Nat} (hi : i < xs.length) : (edAt ys i).d = (edAt xs i).d := by
  have hl : ys.length = xs.length := by have := congrArg List.length h; simpa using this
  rw [← edD_map (by omega), ← edD_map hi, h]

set_option maxRecDepth 20000 in
set_option maxHeartbeats 4000000 in
/-- ref07.Same, of two like graphs -/
theorem refSame_any (nv1 : Value) (ys : List NX) (ev1 : Value) (us : List EX) (nv : Value) (xs : List NX) (ev : Value) (zs : List EX) (w : World) (hn1 : Nodes w nv1 ys) (he1 : Edges w ev1 us) (hn : Nodes w nv xs) (he : Edges w ev zs)
    (hnd : ys.map (·.d) = xs.map (·.d)) (hed : us.map (·.d) = zs.map (·.d)) :
    Calls Try.prog 29 #[GR nv1 ev1, GR nv ev] w fun e w' => e = .returned (.bool true) ∧ Below w.heap.size w w' := by
  obtain ⟨A1, c1, rfl, hlc1, hcm1, -, hrn1⟩ := hn1.sl.form
  obtain ⟨A2, c2, rfl, hlc2, hcm2, -, hre1⟩ := he1.sl.form
  obtain ⟨A3, c3, rfl, hlc3, hcm3, -, hrn⟩ := hn.sl.form
  obtain ⟨A4, c4, rfl, hlc4, hcm4, -, hre⟩ := he.sl.form
  have hly : ys.length = xs.length := by have := congrArg List.length hnd; simpa using this
  have hlu : us.length = zs.length := by have := congrArg List.length hed; simpa using this
  rw [hly] at hlc1 hn1
  rw [hlu] at hlc2 he1
  rw [hly, hlu]
  have hxl := hn.len
  have hzl := he.len
  have HN1 := Lib.hid hn1
  have HE1 := Lib.hid he1
  have HN := Lib.hid hn
  have HE := Lib.hid he
  have HRN1 := Lib.hid hrn1
  have HRE1 := Lib.hid hre1
  have HRN := Lib.hid hrn
  have HRE := Lib.hid hre
  have HND := Lib.hid hnd
  have HED := Lib.hid hed
  clear hn1 he1 hn he hrn1 hre1 hrn hre hnd hed
  have hb0 := ((Below.refl w.heap.size w).alloc (Nat.le_refl _) (.cells #[.slice A1 xs.length c1, .slice A2 zs.length c2] 25)).alloc (by simp) (.cells #[.slice A3 xs.length c3, .slice A4 zs.length c4] 25)
  have HB0 := Lib.hid hb0
  have HT1 := Lib.hid (show TwoAt ((w.alloc (.cells #[.slice A1 xs.length c1, .slice A2 zs.length c2] 25)).alloc (.cells #[.slice A3 xs.length c3, .slice A4 zs.length c4] 25)) w.heap.size (.slice A1 xs.length c1) (.slice A2 zs.length c2) from ⟨by simp [go_sem], by simp [go_sem]⟩)
  have HT2 := Lib.hid (show TwoAt ((w.alloc (.cells #[.slice A1 xs.length c1, .slice A2 zs.length c2] 25)).alloc (.cells #[.slice A3 xs.length c3, .slice A4 zs.length c4] 25)) (w.heap.size + 1) (.slice A3 xs.length c3) (.slice A4 zs.length c4) from ⟨by simp [go_sem], by simp [go_sem]⟩)
  clear hb0
  go_enter Try.func29, Try.ntmps29
  go_wp2_with fail
  generalize (w.alloc (.cells #[.slice A1 xs.length c1, .slice A2 zs.length c2] 25)).alloc (.cells #[.slice A3 xs.length c3, .slice A4 zs.length c4] 25) = w0 at *
  have hlt0 : w.heap.size < w0.heap.size := World.block_lt_of_cell? w0 _ HT1.out.c0
  have hlt1 : w.heap.size + 1 < w0.heap.size := World.block_lt_of_cell? w0 _ HT2.out.c0
  go_loopw [5] (fun v5 wr => ∃ i : Nat, v5 = .int .i64 i ∧ i ≤ xs.length ∧ Hid (Below w0.heap.size w0 wr)) (fun v5 _ => xs.length - (intOf v5).toNat)
  case atStart => exact ⟨0, rfl, by omega, Lib.hid (Below.refl _ _)⟩
  case round =>
    obtain ⟨i, rfl, hi, HR⟩ := hrel
    have t0 := (HT1.out.below HR.out hlt0).c0
    have t1 := (HT2.out.below HR.out hlt1).c0
    by_cases hin : i < xs.length
    · have hin' : (i : Int) < (xs.length : Int) := by omega
      have hi0 : (0 : Int) ≤ (i : Int) := by omega
      have HWR := Lib.hid (HB0.out.trans (HR.out.mono HB0.out.size))
      obtain ⟨b, o, hA, hbl, e0, e1, e2⟩ := HRN1.out.nodeA i (by omega)
      subst hA
      obtain ⟨b', o', hA', hbl', e0', e1', e2'⟩ := HRN.out.nodeA i hin
      subst hA'
      have HL1 := Lib.hid (show Strs w (ndAt ys i).lv (ndAt ys i).d.ls by rw [ndAt_eq (by omega)]; exact HN1.out.ls _ (List.getElem_mem _))
      have HP1 := Lib.hid (show Props w (ndAt ys i).pv (ndAt ys i).d.ps by rw [ndAt_eq (by omega)]; exact HN1.out.ps _ (List.getElem_mem _))
      have HL2 := Lib.hid (show Strs w (ndAt xs i).lv (ndAt xs i).d.ls by rw [ndAt_eq hin]; exact HN.out.ls _ (List.getElem_mem _))
      have HP2 := Lib.hid (show Props w (ndAt xs i).pv (ndAt xs i).d.ps by rw [ndAt_eq hin]; exact HN.out.ps _ (List.getElem_mem _))
      have hlk := likeN HND.out hin
      rw [hlk] at e0 HL1 HP1
      clear hlk
      have r0 := cell_below HWR.out hbl e0
      have r1 := cell_below HWR.out hbl e1
      have r2 := cell_below HWR.out hbl e2
      have s0 := cell_below HWR.out hbl' e0'
      have s1 := cell_below HWR.out hbl' e1'
      have s2 := cell_below HWR.out hbl' e2'
      clear e0 e1 e2 e0' e1' e2'
      generalize (ndAt ys i).lv = lv1 at *
      generalize (ndAt ys i).pv = pv1 at *
      generalize ndAt xs i = x at *
      obtain ⟨⟨nm, ls, ps⟩, lv2, pv2⟩ := x
      dsimp only at r0 r1 r2 s0 s1 s2 HL1 HP1 HL2 HP2
      obtain ⟨B1, m1, hf1, -, -, -, -⟩ := HL1.out.sl.form
      subst hf1
      obtain ⟨B2, m2, hf2, -, -, -, -⟩ := HL2.out.sl.form
      subst hf2
      obtain ⟨B3, m3, hf3, -, -, -, -⟩ := HP1.out.sl.form
      subst hf3
      obtain ⟨B4, m4, hf4, -, -, -, -⟩ := HP2.out.sl.form
      subst hf4
      have HBD := Lib.hid ((Below.refl wr.heap.size wr).drew)
      have HWD := Lib.hid (HWR.out.trans (HBD.out.mono HWR.out.size))
      go_wp2_with fail
      go_region_held3 (fun w' => w'.cell? ⟨w.heap.size, 0, none⟩ = some (.slice (some ⟨b, o, none⟩) xs.length c1) ∧ w'.cell? ⟨w.heap.size + 1, 0, none⟩ = some (.slice (some ⟨b', o', none⟩) xs.length c3) ∧ w'.cell? ⟨b, o + i * 3 + 1, none⟩ = some (.slice B1 ls.length m1) ∧ w'.cell? ⟨b', o' + i * 3 + 1, none⟩ = some (.slice B2 ls.length m2)) (first | go_keep | (go_split_ands; refine ⟨?_, ?_, ?_, ?_⟩ <;> (refine cell_b hb8 ?_; assumption))) (first | (go_at_call 27; refine (sameTexts_any _ _ ls _ (HL1.out.below HWD.out (Nat.le_refl _)) (HL2.out.below HWD.out (Nat.le_refl _))).mono ?_; rintro e w8 ⟨rfl, hb8⟩))
      have HB8 := Lib.hid (below_trans' HBD.out hb8)
      have HW8 := Lib.hid (HWR.out.trans (HB8.out.mono HWR.out.size))
      have t0' := cell_b HB8.out t0
      have t1' := cell_b HB8.out t1
      have r0' := cell_b HB8.out r0
      have r2' := cell_b HB8.out r2
      have s0' := cell_b HB8.out s0
      have s2' := cell_b HB8.out s2
      clear hb8 t0 t1 r0 r1 r2 s0 s1 s2 HBD HWD
      have HBD := Lib.hid ((Below.refl w8.heap.size w8).drew)
      have HWD := Lib.hid (HW8.out.trans (HBD.out.mono HW8.out.size))
      go_wp2_with fail
      go_region_held3 (fun w' => w'.cell? ⟨w.heap.size, 0, none⟩ = some (.slice (some ⟨b, o, none⟩) xs.length c1) ∧ w'.cell? ⟨w.heap.size + 1, 0, none⟩ = some (.slice (some ⟨b', o', none⟩) xs.length c3) ∧ w'.cell? ⟨b, o + i * 3 + 2, none⟩ = some (.slice B3 ps.length m3) ∧ w'.cell? ⟨b', o' + i * 3 + 2, none⟩ = some (.slice B4 ps.length m4)) (first | go_keep | (go_split_ands; refine ⟨?_, ?_, ?_, ?_⟩ <;> (refine cell_b hb9 ?_; assumption))) (first | (go_at_call 47; refine (sameProps_any _ _ ps _ (HP1.out.below HWD.out (Nat.le_refl _)) (HP2.out.below HWD.out (Nat.le_refl _))).mono ?_; rintro e w9 ⟨rfl, hb9⟩))
      have HB9 := Lib.hid (below_trans' HBD.out hb9)
      have t0 := cell_b HB9.out t0'
      have t1 := cell_b HB9.out t1'
      have r0 := cell_b HB9.out r0'
      have s0 := cell_b HB9.out s0'
      clear hb9 t0' t1' r0' r2' s0' s2'
      go_wp2_with fail
      go_quiet (fail)
      go_wp2_with fail
      go_roundw
      case rel => exact ⟨i + 1, by go_num, by omega, Lib.hid (below_drewN (below_trans' HR.out (below_trans' HB8.out HB9.out)) _)⟩
      case measure => simp [intOf]; omega
    · have hni : (xs.length : Int) ≤ (i : Int) := by omega
      have HRS := Lib.hid HR.out
      go_wp2_with fail
      clear t0 t1 HR
      go_loopw [8] (fun v8 wq => ∃ j : Nat, v8 = .int .i64 j ∧ j ≤ zs.length ∧ Hid (Below w0.heap.size w0 wq)) (fun v8 _ => zs.length - (intOf v8).toNat)
      case atStart => exact ⟨0, rfl, by omega, HRS⟩
      case round =>
        obtain ⟨j, rfl, hj, HR⟩ := hrel
        clear HRS
        have t0 := (HT1.out.below HR.out hlt0).c1
        have t1 := (HT2.out.below HR.out hlt1).c1
        by_cases hjn : j < zs.length
        · have hjn' : (j : Int) < (zs.length : Int) := by omega
          have hj0 : (0 : Int) ≤ (j : Int) := by omega
          have HWR := Lib.hid (HB0.out.trans (HR.out.mono HB0.out.size))
          obtain ⟨b, o, hA, hbl, e0, e1, e2, e3, e4, e5⟩ := HRE1.out.edgeA j (by omega)
          subst hA
          obtain ⟨b', o', hA', hbl', e0', e1', e2', e3', e4', e5'⟩ := HRE.out.edgeA j hjn
          subst hA'
          have HL1 := Lib.hid (show Strs w (edAt us j).lv (edAt us j).d.ls by rw [edAt_eq (by omega)]; exact HE1.out.ls _ (List.getElem_mem _))
          have HP1 := Lib.hid (show Props w (edAt us j).pv (edAt us j).d.ps by rw [edAt_eq (by omega)]; exact HE1.out.ps _ (List.getElem_mem _))
          have HL2 := Lib.hid (show Strs w (edAt zs j).lv (edAt zs j).d.ls by rw [edAt_eq hjn]; exact HE.out.ls _ (List.getElem_mem _))
          have HP2 := Lib.hid (show Props w (edAt zs j).pv (edAt zs j).d.ps by rw [edAt_eq hjn]; exact HE.out.ps _ (List.getElem_mem _))
          have hlk := likeE HED.out hjn
          rw [hlk] at e0 e1 e2 e3 HL1 HP1
          clear hlk
          have hbw := Nat.lt_of_lt_of_le hbl HWR.out.size
          have hbw' := Nat.lt_of_lt_of_le hbl' HWR.out.size
          have r0 := cell_below HWR.out hbl e0
          have r1 := cell_below HWR.out hbl e1
          have r2 := cell_below HWR.out hbl e2
          have r3 := cell_below HWR.out hbl e3
          have r4 := cell_below HWR.out hbl e4
          have r5 := cell_below HWR.out hbl e5
          have s0 := cell_below HWR.out hbl' e0'
          have s1 := cell_below HWR.out hbl' e1'
          have s2 := cell_below HWR.out hbl' e2'
          have s3 := cell_below HWR.out hbl' e3'
          have s4 := cell_below HWR.out hbl' e4'
          have s5 := cell_below HWR.out hbl' e5'
          clear e0 e1 e2 e3 e4 e5 e0' e1' e2' e3' e4' e5'
          generalize (edAt us j).lv = lv1 at *
          generalize (edAt us j).pv = pv1 at *
          generalize edAt zs j = x at *
          obtain ⟨⟨nm, es, et, dir, ls, ps⟩, lv2, pv2⟩ := x
          dsimp only at r0 r1 r2 r3 r4 r5 s0 s1 s2 s3 s4 s5 HL1 HP1 HL2 HP2
          obtain ⟨B1, m1, hf1, -, -, -, -⟩ := HL1.out.sl.form
          subst hf1
          obtain ⟨B2, m2, hf2, -, -, -, -⟩ := HL2.out.sl.form
          subst hf2
          obtain ⟨B3, m3, hf3, -, -, -, -⟩ := HP1.out.sl.form
          subst hf3
          obtain ⟨B4, m4, hf4, -, -, -, -⟩ := HP2.out.sl.form
          subst hf4
          have hltr : w.heap.size < wr.heap.size := World.block_lt_of_cell? wr _ t0
          have hltr1 : w.heap.size + 1 < wr.heap.size := World.block_lt_of_cell? wr _ t1
          have hRA := (row_new wr [.string nm, .int .i64 es, .int .i64 et, .bool dir, .slice B1 ls.length m1, .slice B3 ps.length m3] 42).below ((Below.refl _ _).alloc (Nat.le_refl _) (.cells #[.string nm, .int .i64 es, .int .i64 et, .bool dir, .slice B2 ls.length m2, .slice B4 ps.length m4] 42))
          have hRB := row_new (wr.alloc (.cells #[.string nm, .int .i64 es, .int .i64 et, .bool dir, .slice B1 ls.length m1, .slice B3 ps.length m3] 42)) [.string nm, .int .i64 es, .int .i64 et, .bool dir, .slice B2 ls.length m2, .slice B4 ps.length m4] 42
          rw [World.size_alloc] at hRB
          have HRA := Lib.hid hRA
          have HRB := Lib.hid hRB
          have HBA := Lib.hid (((Below.refl wr.heap.size wr).alloc (Nat.le_refl _) (.cells #[.string nm, .int .i64 es, .int .i64 et, .bool dir, .slice B1 ls.length m1, .slice B3 ps.length m3] 42)).alloc (by simp) (.cells #[.string nm, .int .i64 es, .int .i64 et, .bool dir, .slice B2 ls.length m2, .slice B4 ps.length m4] 42))
          clear hRA hRB
          go_wp2_with fail
          generalize (wr.alloc (.cells #[.string nm, .int .i64 es, .int .i64 et, .bool dir, .slice B1 ls.length m1, .slice B3 ps.length m3] 42)).alloc (.cells #[.string nm, .int .i64 es, .int .i64 et, .bool dir, .slice B2 ls.length m2, .slice B4 ps.length m4] 42) = wA at *
          have HWA := Lib.hid (HWR.out.trans (HBA.out.mono HWR.out.size))
          clear r0 r1 r2 r3 r4 r5 s0 s1 s2 s3 s4 s5 t0 t1
          refine (sameTexts_any _ _ ls _ (HL1.out.below HWA.out (Nat.le_refl _)) (HL2.out.below HWA.out (Nat.le_refl _))).mono ?_
          rintro e w8 ⟨rfl, hb8⟩
          have HRA8 := Lib.hid (HRA.out.below hb8)
          have HRB8 := Lib.hid (HRB.out.below hb8)
          have HW8 := Lib.hid (HWA.out.trans (hb8.mono HWA.out.size))
          have HB8 := Lib.hid (below_trans' HBA.out hb8)
          have g5 := HRA8.out 5 _ rfl
          have h5 := HRB8.out 5 _ rfl
          clear hb8
          go_wp2_with fail
          refine (sameProps_any _ _ ps _ (HP1.out.below HW8.out (Nat.le_refl _)) (HP2.out.below HW8.out (Nat.le_refl _))).mono ?_
          rintro e w9 ⟨rfl, hb9⟩
          have HRA9 := Lib.hid (HRA8.out.below hb9)
          have HRB9 := Lib.hid (HRB8.out.below hb9)
          have HB9 := Lib.hid (below_trans' HB8.out hb9)
          clear hb9 g5 h5
          have g0 := HRA9.out 0 _ rfl
          have g1 := HRA9.out 1 _ rfl
          have g2 := HRA9.out 2 _ rfl
          have g3 := HRA9.out 3 _ rfl
          have h0 := HRB9.out 0 _ rfl
          have h1 := HRB9.out 1 _ rfl
          have h2 := HRB9.out 2 _ rfl
          have h3 := HRB9.out 3 _ rfl
          go_wp2_with fail
          go_roundw
          case rel => exact ⟨j + 1, by go_num, by omega, Lib.hid (below_trans' HR.out HB9.out)⟩
          case measure => simp [intOf]; omega
        · have hnj : (zs.length : Int) ≤ (j : Int) := by omega
          go_wp2_with fail
          go_ret
          exact ⟨rfl, HB0.out.trans (HR.out.mono HB0.out.size)⟩
end Go.Proofs.Ytbolojjnkkgehaa
