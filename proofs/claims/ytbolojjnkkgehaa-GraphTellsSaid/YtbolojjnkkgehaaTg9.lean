import Derived.Test.YtbolojjnkkgehaaTg8
/-! GraphTells: its walk. -/
namespace Go.Proofs.Ytbolojjnkkgehaa
open Go.RowKit

set_option maxRecDepth 20000 in
set_option maxHeartbeats 4000000 in
theorem tells_any (nv : Value) (xs : List NX) (ev : Value) (es : List EX) (node dir : Int) (nm : ByteArray) (edge : Bool) (x : Int) (w : World) (hn : Nodes w nv xs) (he : Edges w ev es) (hsz : nm.size ≤ maxLen) :
    Calls Try.prog 7 #[GR nv ev, .int .i64 node, .int .i64 dir, .string nm, ELEM edge x] w fun e w' => e = .returned (.bool true) ∧ Below w.heap.size w w' := by
  obtain ⟨A, c, rfl, hlc, hcm, -, -⟩ := hn.sl.form
  obtain ⟨A', c', rfl, hlc', hcm', -, -⟩ := he.sl.form
  have hb0 := ((Below.refl w.heap.size w).alloc (Nat.le_refl _) (.cells #[.slice A xs.length c, .slice A' es.length c'] 25)).alloc (by simp) (.cells #[.bool edge, .int .i64 x] 50)
  have HN := Lib.hid hn
  have HE := Lib.hid he
  have HNT := Lib.hid (hn.take 50)
  have HET := Lib.hid (he.take 50)
  have HSZ := Lib.hid hsz
  have HB0 := Lib.hid hb0
  clear hn he hb0 hsz
  have hlt : w.heap.size + 1 < ((w.alloc (.cells #[.slice A xs.length c, .slice A' es.length c'] 25)).alloc (.cells #[.bool edge, .int .i64 x] 50)).heap.size := by simp
  have k0 : ((w.alloc (.cells #[.slice A xs.length c, .slice A' es.length c'] 25)).alloc (.cells #[.bool edge, .int .i64 x] 50)).cell? ⟨w.heap.size, 0, none⟩ = some (.slice A xs.length c) := by simp [go_sem]
  have k1 : ((w.alloc (.cells #[.slice A xs.length c, .slice A' es.length c'] 25)).alloc (.cells #[.bool edge, .int .i64 x] 50)).cell? ⟨w.heap.size, 1, none⟩ = some (.slice A' es.length c') := by simp [go_sem]
  have f0 : ((w.alloc (.cells #[.slice A xs.length c, .slice A' es.length c'] 25)).alloc (.cells #[.bool edge, .int .i64 x] 50)).frozen? ⟨w.heap.size, 0, none⟩ = false := by simp [go_sem]
  have f1 : ((w.alloc (.cells #[.slice A xs.length c, .slice A' es.length c'] 25)).alloc (.cells #[.bool edge, .int .i64 x] 50)).frozen? ⟨w.heap.size, 1, none⟩ = false := by simp [go_sem]
  have HEL := Lib.hid (show TwoAt ((w.alloc (.cells #[.slice A xs.length c, .slice A' es.length c'] 25)).alloc (.cells #[.bool edge, .int .i64 x] 50)) (w.heap.size + 1) (.bool edge) (.int .i64 x) from ⟨by simp [go_sem], by simp [go_sem]⟩)
  go_enter Try.func7, Try.ntmps7
  go_wp2_with fail
  generalize (w.alloc (.cells #[.slice A xs.length c, .slice A' es.length c'] 25)).alloc (.cells #[.bool edge, .int .i64 x] 50) = w0 at *
  refine (shown_any _).mono ?_
  rintro e w1 ⟨rfl, hb1⟩
  have HB1 := Lib.hid (HB0.out.trans (hb1.mono HB0.out.size))
  have m0 := cell_below hb1 (show w.heap.size < w0.heap.size by omega) k0
  have m1 := cell_below hb1 (show w.heap.size < w0.heap.size by omega) k1
  have g0 := (hb1.frozen (p := ⟨w.heap.size, 0, none⟩) (show w.heap.size < w0.heap.size by omega)).trans f0
  have g1 := (hb1.frozen (p := ⟨w.heap.size, 1, none⟩) (show w.heap.size < w0.heap.size by omega)).trans f1
  have HEL1 := Lib.hid (HEL.out.below hb1 hlt)
  have hlt1 := Nat.lt_of_lt_of_le hlt hb1.size
  clear k0 k1 f0 f1 hb1 HEL
  go_wp2_with fail
  refine (few_any A c xs A' c' es 50 _ (HN.out.below HB1.out (Nat.le_refl _)) (HE.out.below HB1.out (Nat.le_refl _))).mono ?_
  rintro e w2 ⟨rfl, hb2⟩
  have HB2 := Lib.hid (HB1.out.trans (hb2.mono HB1.out.size))
  have k0 := cell_below hb2 (show w.heap.size < w1.heap.size by omega) m0
  have k1 := cell_below hb2 (show w.heap.size < w1.heap.size by omega) m1
  have f0 := (hb2.frozen (p := ⟨w.heap.size, 0, none⟩) (show w.heap.size < w1.heap.size by omega)).trans g0
  have f1 := (hb2.frozen (p := ⟨w.heap.size, 1, none⟩) (show w.heap.size < w1.heap.size by omega)).trans g1
  have HEL2 := Lib.hid (HEL1.out.below hb2 hlt1)
  clear m0 m1 g0 g1 hb2 HEL1
  have hys : (xs.take 50).length ≤ 50 := by simp; omega
  have hzs : (es.take 50).length ≤ 50 := by simp; omega
  generalize xs.take 50 = ys at *
  generalize es.take 50 = zs at *
  go_wp2_with fail
  have hT := two_set (.slice A ys.length c) (.slice A' zs.length c') k0 k1
  have HEL3 := Lib.hid (show TwoAt ((w2.setCell ⟨w.heap.size, 0, none⟩ (.slice A ys.length c)).setCell ⟨w.heap.size, 1, none⟩ (.slice A' zs.length c')) (w.heap.size + 1) (.bool edge) (.int .i64 x) from
    ⟨(World.cell?_setCell_far _ ⟨w.heap.size, 1, none⟩ ⟨w.heap.size + 1, 0, none⟩ _ (by simp)).trans ((World.cell?_setCell_far w2 ⟨w.heap.size, 0, none⟩ ⟨w.heap.size + 1, 0, none⟩ _ (by simp)).trans HEL2.out.c0), (World.cell?_setCell_far _ ⟨w.heap.size, 1, none⟩ ⟨w.heap.size + 1, 1, none⟩ _ (by simp)).trans ((World.cell?_setCell_far w2 ⟨w.heap.size, 0, none⟩ ⟨w.heap.size + 1, 1, none⟩ _ (by simp)).trans HEL2.out.c1)⟩)
  have hB3 : Below w.heap.size w ((w2.setCell ⟨w.heap.size, 0, none⟩ (.slice A ys.length c)).setCell ⟨w.heap.size, 1, none⟩ (.slice A' zs.length c')) := (HB2.out.setCell (p := ⟨w.heap.size, 0, none⟩) (Nat.le_refl _) _).setCell (p := ⟨w.heap.size, 1, none⟩) (Nat.le_refl _) _
  generalize (w2.setCell ⟨w.heap.size, 0, none⟩ (.slice A ys.length c)).setCell ⟨w.heap.size, 1, none⟩ (.slice A' zs.length c') = w3 at *
  have HB3 := Lib.hid hB3
  clear hB3 k0 k1 f0 f1 HEL2
  refine (refGRight_any _ ys _ zs _ (HNT.out.below HB3.out (Nat.le_refl _)) (HET.out.below HB3.out (Nat.le_refl _))).mono ?_
  rintro e w4 ⟨rfl, hb4⟩
  have HB4 := Lib.hid (HB3.out.trans (hb4.mono HB3.out.size))
  have hl3 : w.heap.size + 1 < w3.heap.size := World.block_lt_of_cell? w3 _ HEL3.out.c0
  have hT4 := hT.below hb4 (show w.heap.size < w3.heap.size by omega)
  have HEL4 := Lib.hid (HEL3.out.below hb4 hl3)
  have k0 := hT4.c0
  have k1 := hT4.c1
  clear hb4 hT HEL3
  go_wp2_with fail
  refine (new_any _ ys _ zs _ (HNT.out.below HB4.out (Nat.le_refl _)) (HET.out.below HB4.out (Nat.le_refl _))).mono ?_
  rintro e w5 ⟨hb5, h5⟩
  have HB5 := Lib.hid (HB4.out.trans (hb5.mono HB4.out.size))
  have hl4 : w.heap.size + 1 < w4.heap.size := World.block_lt_of_cell? w4 _ HEL4.out.c0
  have hT5 := hT4.below hb5 (show w.heap.size < w4.heap.size by omega)
  have HEL5 := Lib.hid (HEL4.out.below hb5 hl4)
  clear k0 k1 hb5 hT4 HEL4
  have k0 := hT5.c0
  have k1 := hT5.c1
  have HRG := Lib.hid (graphRight_any _ ys _ zs _ (HNT.out.below HB5.out (Nat.le_refl _)) (HET.out.below HB5.out (Nat.le_refl _)))
  rcases h5 with ⟨hr, rfl⟩ | ⟨hr, p, rfl, hx⟩
  · have hr1 : (rightN ys zs != 0) = true := by simpa using hr
    clear hr
    generalize rightN ys zs = r at *
    go_wp2_with fail
    refine HRG.out.mono ?_
    rintro e w6 ⟨rfl, hb6⟩
    have HB6 := Lib.hid (HB5.out.trans (hb6.mono HB5.out.size))
    clear hb6 k0 k1
    go_wp2_with fail
    go_ret
    exact ⟨rfl, HB6.out⟩
  · have HR := Lib.hid hr
    have HX := Lib.hid hx
    clear hx
    rw [hr] at HRG ⊢
    clear hr
    go_wp2_with fail
    refine HRG.out.mono ?_
    rintro e w6 ⟨rfl, hb6⟩
    have HB6 := Lib.hid (HB5.out.trans (hb6.mono HB5.out.size))
    have hl5 : w.heap.size + 1 < w5.heap.size := World.block_lt_of_cell? w5 _ HEL5.out.c0
    have HG6 := Lib.hid (⟨⟨HB6.out, hT5.below hb6 (show w.heap.size < w5.heap.size by omega), HX.out.below hb6⟩, HEL5.out.below hb6 hl5⟩ : GT w w6 w.heap.size p (.slice A ys.length c) (.slice A' zs.length c') (ys.map (·.d)) (zs.map (·.d)) edge x)
    have hlB : w.heap.size + 1 < w6.heap.size := Nat.lt_of_lt_of_le hl5 hb6.size
    clear hb6 k0 k1 HRG HX HEL5 hT5 HB0 HB1 HB2 HB3 HB4 HB5 hlt hlt1 hl3 hl4 hl5 hlc hlc' hcm hcm' HN HE
    go_wp2_with fail
    have HNL := Lib.hid (show (ys.map (·.d)).length = ys.length by simp)
    have HIN := Lib.hid (right_in HR.out)
    have HDI := Lib.hid (right_dist HR.out)
    have hys2 : ys.length ≤ 1000 := by omega
    have hzs2 : zs.length ≤ 1000 := by omega
    go_loopw [15] (fun v15 wr => ∃ a : Int, v15 = .int .i64 a ∧ -1 ≤ a ∧ a ≤ (ys.length : Int) + 1 ∧ Hid (GT w wr w.heap.size p (.slice A ys.length c) (.slice A' zs.length c') (ys.map (·.d)) (zs.map (·.d)) edge x)) (fun v15 _ => ((ys.length : Int) + 1 - intOf v15).toNat)
    case atStart => exact ⟨-1, rfl, by omega, by omega, HG6⟩
    case round =>
      obtain ⟨a, rfl, ha0, ha1, HG⟩ := hrel
      clear HG6
      have t0 := HG.out.gs.two.c0
      have t1 := HG.out.gs.two.c1
      by_cases han : a ≤ (ys.length : Int)
      · go_wp2_with fail
        clear t0 t1
        go_loopw [16] (fun v16 wq => ∃ d : Nat, v16 = .int .i64 d ∧ d ≤ 8 ∧ Hid (GT w wq w.heap.size p (.slice A ys.length c) (.slice A' zs.length c') (ys.map (·.d)) (zs.map (·.d)) edge x)) (fun v16 _ => 8 - (intOf v16).toNat)
        case atStart => exact ⟨0, rfl, by omega, HG⟩
        case round =>
          clear HG
          obtain ⟨d, rfl, hd, HG⟩ := hrel
          by_cases hd8 : d < 8
          · have hd8' : (d : Int) < 8 := by omega
            have t0 := HG.out.gs.two.c0
            have t1 := HG.out.gs.two.c1
            have HBD := Lib.hid ((Below.refl wr.heap.size wr).drew)
            have HWD := Lib.hid (HG.out.gs.below.trans (HBD.out.mono HG.out.gs.below.size))
            go_wp2_with fail
            go_region_held3 (fun w' => w'.cell? ⟨w.heap.size, 0, none⟩ = some (.slice A ys.length c) ∧ w'.cell? ⟨w.heap.size, 1, none⟩ = some (.slice A' zs.length c')) (first | go_keep | (go_split_ands; refine ⟨?_, ?_⟩ <;> (refine cell_b hb7 ?_; assumption)) | (go_split_ands; refine ⟨?_, ?_⟩ <;> (refine cell_b hb8 ?_; assumption)) | (go_split_ands; refine ⟨?_, ?_⟩ <;> (refine cell_b hb9 ?_; assumption))) (first | (go_at_call 12; refine (out_any p _ _ a (d : Int) _ (HG.out.gs.idx.below HBD.out)).mono ?_; rintro e w7 ⟨v7, rfl, hs7, hb7⟩; obtain ⟨B7, f7, rfl, -, -, -⟩ := hs7.form; rw [HNL.out] at hs7; have HS7 := Lib.hid hs7; have HB7 := Lib.hid hb7; clear hs7) | (go_at_call 21; refine (refOut_any _ ys _ zs a (d : Int) _ (HNT.out.below (HWD.out.trans (HB7.out.mono HWD.out.size)) (Nat.le_refl _)) (HET.out.below (HWD.out.trans (HB7.out.mono HWD.out.size)) (Nat.le_refl _)) hys2 hzs2 HIN.out).mono ?_; rintro e w8 ⟨v8, rfl, hs8, hb8⟩; obtain ⟨B8, f8, rfl, -, -, -⟩ := hs8.form; have HS8 := Lib.hid hs8; have HB8 := Lib.hid hb8; clear hs8) | (go_at_call 20; refine (sameSteps_any _ _ _ _ (Steps.below HS7.out HB8.out) HS8.out).mono ?_; rintro e w9 ⟨rfl, hb9⟩; have HB9 := Lib.hid hb9))
            have HN := Lib.hid ((((HG.out.next HBD.out).next HB7.out).next HB8.out).next HB9.out)
            clear HS7 HS8 HB7 HB8 HB9 hb7 hb8 hb9 t0 t1 HBD HWD
            go_wp2_with fail
            go_roundw
            case rel => exact ⟨d + 1, by go_num, by omega, HN⟩
            case measure => simp [intOf]; omega
          · have hd9 : (8 : Int) ≤ (d : Int) := by omega
            go_wp2_with fail
            go_roundw
            case rel => exact ⟨a + 1, by go_num, by omega, by omega, HG⟩
            case measure => simp [intOf]; omega
      · have han2 : (ys.length : Int) < a := by omega
        clear han ha0 ha1
        have HOL := Lib.hid (own_lit1 wr nm wr.heap.size (Nat.le_refl _))
        have hbB : w.heap.size + 1 < wr.heap.size := World.block_lt_of_cell? wr _ HG.out.el.c0
        have hone : ∀ u ∈ [Value.string ⟨#[]⟩], u.oneCell' = true := by simp [Value.oneCell']
        go_wp2_with (at_builtin; refine wpList_app tyS rfl (.tmp 80) (.tmp 81) rfl (v := .slice (some ⟨wr.heap.size, 0, none⟩) 1 1) rfl (World.ownsRow.alloc HOL.out _) ⟨wr.heap.size + 1, 0, none⟩ 1 1 [.string ⟨#[]⟩] rfl rfl rfl (new_cells2 (wr.alloc (.cells #[.string nm] 9)) [.string ⟨#[]⟩] 9 _ (World.size_alloc _ _)) hone ?_ ?_ ?_ ?_; (simp); (simp); (simp; omega); intro v2 w2 ho2 hg2 hn2)
        obtain ⟨wb, hwb⟩ : ∃ wb, wb = wr := ⟨wr, rfl⟩
        have HST := Lib.hid (show Below wr.heap.size wr w2 ∧ OwnS w2 wr.heap.size v2 ([nm, ⟨#[]⟩] ++ (ys.map (·.d.nm)).take 0) from ⟨(((Below.refl wr.heap.size wr).alloc (Nat.le_refl _) (.cells #[.string nm] 9)).alloc (by simp) (.cells #[.string ⟨#[]⟩] 9)).grown hg2 (by simp; omega) (fun k hk => (own_lt HOL.out k hk).1), OwnS.snoc ho2⟩)
        have HGB := HG
        clear ho2 hg2 hn2 hone HOL HG t0 t1 han2
        rw [← hwb] at HST HGB hbB
        clear hwb
        go_loopw [17, 18] (fun v17 v18 wr => ∃ i : Nat, v18 = .int .i64 i ∧ i ≤ ys.length ∧ Hid (Below wb.heap.size wb wr ∧ OwnS wr wb.heap.size v17 ([nm, ⟨#[]⟩] ++ (ys.map (·.d.nm)).take i))) (fun _ v18 _ => ys.length - (intOf v18).toNat)
        case atStart => exact ⟨0, rfl, by omega, HST⟩
        case round =>
          obtain ⟨i, rfl, hi, HR3⟩ := hrel
          clear HST
          have HGR := Lib.hid (HGB.out.next HR3.out.1)
          have t0 := HGR.out.gs.two.c0
          by_cases hin : i < ys.length
          · have hin' : (i : Int) < (ys.length : Int) := by omega
            have hi0 : (0 : Int) ≤ (i : Int) := by omega
            obtain ⟨_, _, hye, -, -, -, hrn⟩ := HNT.out.sl.form
            cases hye
            obtain ⟨b, q, hA, hbl, e0, -, -⟩ := hrn.nodeA i hin
            subst hA
            have r0 := cell_below HGR.out.gs.below hbl e0
            have hbw := Nat.lt_of_lt_of_le hbl HGR.out.gs.below.size
            have HTK := Lib.hid (show (ys.map (·.d.nm)).take (i + 1) = (ys.map (·.d.nm)).take i ++ [(ndAt ys i).d.nm] by rw [List.take_succ_eq_append_getElem (by simpa using hin), ndAt_eq hin]; simp)
            have HLN := Lib.hid (show ([nm, ⟨#[]⟩] ++ (ys.map (·.d.nm)).take i).length ≤ 60 by simp; omega)
            clear hrn e0
            generalize (ndAt ys i).d.nm = s at *
            have hone : ∀ u ∈ [Value.string s], u.oneCell' = true := by simp [Value.oneCell']
            have hs1 := HR3.out.1.size
            go_wp2_with (at_builtin; refine wpList_app tyS rfl (.tmp 90) (.tmp 97) rfl (v := u17) rfl (World.ownsRow.alloc HR3.out.2 _) ⟨wr.heap.size, 0, none⟩ 1 1 [.string s] rfl rfl rfl (new_cells wr [.string s] 9) hone ?_ ?_ ?_ ?_; (have := HLN.out; omega); (have := HLN.out; omega); (simp; omega); intro v2 w2 ho2 hg2 hn2)
            have HB2 := Lib.hid ((HR3.out.1.alloc hs1 (.cells #[.string s] 9)).grown hg2 (by simp; omega) (fun k hk => (own_lt HR3.out.2 k hk).1))
            go_roundw
            case rel => exact ⟨i + 1, by go_num, by omega, Lib.hid ⟨HB2.out, by rw [HTK.out, ← List.append_assoc]; exact OwnS.snoc ho2⟩⟩
            case measure => simp [intOf]; omega
          · have hni : (ys.length : Int) ≤ (i : Int) := by omega
            have HST := Lib.hid (show Below wb.heap.size wb wr ∧ OwnS wr wb.heap.size u17 ([nm, ⟨#[]⟩] ++ ys.map (·.d.nm) ++ (zs.map (·.d.nm)).take 0) from ⟨HR3.out.1, by have h := HR3.out.2; rw [List.take_of_length_le (by simp; omega)] at h; rw [List.take_zero, List.append_nil]; exact h⟩)
            go_wp2_with fail
            clear HR3 HGR t0
            go_loopw [17, 19] (fun v17 v19 wr => ∃ j : Nat, v19 = .int .i64 j ∧ j ≤ zs.length ∧ Hid (Below wb.heap.size wb wr ∧ OwnS wr wb.heap.size v17 ([nm, ⟨#[]⟩] ++ ys.map (·.d.nm) ++ (zs.map (·.d.nm)).take j))) (fun _ v19 _ => zs.length - (intOf v19).toNat)
            case atStart => exact ⟨0, rfl, by omega, HST⟩
            case round =>
              obtain ⟨j, rfl, hj, HR3⟩ := hrel
              clear HST
              have HGR := Lib.hid (HGB.out.next HR3.out.1)
              have t0 := HGR.out.gs.two.c1
              by_cases hjn : j < zs.length
              · have hjn' : (j : Int) < (zs.length : Int) := by omega
                have hj0 : (0 : Int) ≤ (j : Int) := by omega
                obtain ⟨_, _, hye, -, -, -, hrn⟩ := HET.out.sl.form
                cases hye
                obtain ⟨b, q, hA, hbl, e0, -, -, -, -, -⟩ := hrn.edgeA j hjn
                subst hA
                have r0 := cell_below HGR.out.gs.below hbl e0
                have hbw := Nat.lt_of_lt_of_le hbl HGR.out.gs.below.size
                have HTK := Lib.hid (show (zs.map (·.d.nm)).take (j + 1) = (zs.map (·.d.nm)).take j ++ [(edAt zs j).d.nm] by rw [List.take_succ_eq_append_getElem (by simpa using hjn), edAt_eq hjn]; simp)
                have HLN := Lib.hid (show ([nm, ⟨#[]⟩] ++ ys.map (·.d.nm) ++ (zs.map (·.d.nm)).take j).length ≤ 120 by simp; omega)
                clear hrn e0
                generalize (edAt zs j).d.nm = s at *
                have hone : ∀ u ∈ [Value.string s], u.oneCell' = true := by simp [Value.oneCell']
                have hs1 := HR3.out.1.size
                go_wp2_with (at_builtin; refine wpList_app tyS rfl (.tmp 106) (.tmp 113) rfl (v := u17) rfl (World.ownsRow.alloc HR3.out.2 _) ⟨wr.heap.size, 0, none⟩ 1 1 [.string s] rfl rfl rfl (new_cells wr [.string s] 9) hone ?_ ?_ ?_ ?_; (have := HLN.out; omega); (have := HLN.out; omega); (simp; omega); intro v2 w2 ho2 hg2 hn2)
                have HB2 := Lib.hid ((HR3.out.1.alloc hs1 (.cells #[.string s] 9)).grown hg2 (by simp; omega) (fun k hk => (own_lt HR3.out.2 k hk).1))
                go_roundw
                case rel => exact ⟨j + 1, by go_num, by omega, Lib.hid ⟨HB2.out, by rw [HTK.out, ← List.append_assoc]; exact OwnS.snoc ho2⟩⟩
                case measure => simp [intOf]; omega
              · have hnj : (zs.length : Int) ≤ (j : Int) := by omega
                have HL := Lib.hid (show ∀ s ∈ [nm, ⟨#[]⟩] ++ ys.map (·.d.nm) ++ zs.map (·.d.nm), s.size ≤ maxLen by
                  intro s hs
                  simp only [List.mem_append, List.mem_cons, List.not_mem_nil, or_false, List.mem_map] at hs
                  rcases hs with ((rfl | rfl) | ⟨y, hy, rfl⟩) | ⟨y, hy, rfl⟩
                  · exact HSZ.out
                  · exact sz0
                  · exact HNT.out.nm y hy
                  · exact HET.out.nm y hy)
                have hS := HR3.out.2
                rw [List.take_of_length_le (by simp; omega)] at hS
                have HLL := Lib.hid (show ([nm, ⟨#[]⟩] ++ ys.map (·.d.nm) ++ zs.map (·.d.nm)).length ≤ 102 by simp; omega)
                generalize [nm, ⟨#[]⟩] ++ ys.map (·.d.nm) ++ zs.map (·.d.nm) = L at *
                obtain ⟨AL, cL, hvL, hlL, hcL, -, hrL⟩ := (own_reads hS).form
                subst hvL
                have HRL := Lib.hid hrL
                have hL102 := HLL.out
                go_wp2_with fail
                clear hS hrL HR3 t0 HGB HLL
                obtain ⟨wc, hwc⟩ : ∃ wc, wc = wr := ⟨wr, rfl⟩
                rw [← hwc] at HRL HGR
                have HST := Lib.hid (show Below wc.heap.size wc wr from hwc ▸ Below.refl _ _)
                clear hwc
                have HDN := Lib.hid (fun s => (show findI ((ys.map (·.d)).map (·.nm)) s (ys.map (·.d)).length = fstI (ys.map (·.d.nm)) s by have h := findI_fst HDI.out.1 s; simpa [Function.comp_def] using h))
                have HDE := Lib.hid (fun s => (show findI ((zs.map (·.d)).map (·.nm)) s (zs.map (·.d)).length = fstI (zs.map (·.d.nm)) s by have h := findI_fst HDI.out.2 s; simpa [Function.comp_def] using h))
                go_loopw [20] (fun v20 wr => ∃ i : Nat, v20 = .int .i64 i ∧ i ≤ L.length ∧ Hid (Below wc.heap.size wc wr)) (fun v20 _ => L.length - (intOf v20).toNat)
                case atStart => exact ⟨0, rfl, by omega, HST⟩
                case round =>
                  obtain ⟨i, rfl, hi, HI⟩ := hrel
                  clear HST
                  have HGI := Lib.hid (HGR.out.next HI.out)
                  have t0 := HGI.out.gs.two.c0
                  have t1 := HGI.out.gs.two.c1
                  by_cases hin : i < L.length
                  · have hin' : (i : Int) < (L.length : Int) := by omega
                    have hi0 : (0 : Int) ≤ (i : Int) := by omega
                    obtain ⟨b, o, hA, hbl, e0⟩ := HRL.out.strA i hin
                    subst hA
                    have c0 := cell_below HI.out hbl e0
                    have HSS := Lib.hid (show (strAt L i).size ≤ maxLen by rw [strAt_eq hin]; exact HL.out _ (List.getElem_mem hin))
                    clear e0
                    generalize strAt L i = s at *
                    have hDN := HDN.out s
                    have hDE := HDE.out s
                    rcases fst_range (ys.map (·.d.nm)) s with hf | ⟨kf, -, hf⟩
                    · rcases fst_range (zs.map (·.d.nm)) s with hg | ⟨kg, -, hg⟩
                      · have HFN := Lib.hid (show FOUND (findI ((ys.map (·.d)).map (·.nm)) s (ys.map (·.d)).length) = .tuple #[.int .i64 0, .bool false] by rw [hDN, hf, FOUND_neg])
                        have HFE := Lib.hid (show FOUND (findI ((zs.map (·.d)).map (·.nm)) s (zs.map (·.d)).length) = .tuple #[.int .i64 0, .bool false] by rw [hDE, hg, FOUND_neg])
                        have HF1 := Lib.hid hf
                        have HF2 := Lib.hid hg
                        clear hf hg hDN hDE
                        go_wp2_with fail
                        refine (find_any p _ _ s HSS.out _ HGI.out.gs.idx).mono ?_
                        rintro e w5 ⟨rfl, rfl⟩
                        rw [HFN.out]
                        go_wp2_with fail
                        refine (findEdge_any p _ _ s HSS.out _ HGI.out.gs.idx).mono ?_
                        rintro e w6 ⟨rfl, rfl⟩
                        rw [HFE.out]
                        have HBD := Lib.hid ((Below.refl w6.heap.size w6).drew)
                        have HWD := Lib.hid (HGI.out.gs.below.trans (HBD.out.mono HGI.out.gs.below.size))
                        go_wp2_with fail
                        go_region_held3 (fun w' => w'.cell? ⟨w.heap.size, 0, none⟩ = some (.slice A ys.length c) ∧ w'.cell? ⟨w.heap.size, 1, none⟩ = some (.slice A' zs.length c') ∧ w'.cell? ⟨b, o + i, none⟩ = some (.string s)) (first | go_keep | (go_split_ands; refine ⟨?_, ?_, ?_⟩ <;> (refine cell_b hb7 ?_; assumption))) (first | (go_at_call 24; refine (refFind_any _ ys _ s _ (HNT.out.below HWD.out (Nat.le_refl _))).mono ?_; rintro e w7 ⟨rfl, hb7⟩; rw [HF1.out]))
                        have HB7 := Lib.hid (below_trans' HBD.out hb7)
                        have t0' := cell_b HB7.out t0
                        have t1' := cell_b HB7.out t1
                        have c0' := cell_b HB7.out c0
                        clear hb7 t0 t1 c0 HBD HWD
                        have HBD := Lib.hid (HB7.out.trans (((Below.refl w7.heap.size w7).drew).mono HB7.out.size))
                        have HWD := Lib.hid (HGI.out.gs.below.trans (HBD.out.mono HGI.out.gs.below.size))
                        go_wp2_with fail
                        go_region_held3 (fun w' => w'.cell? ⟨w.heap.size, 0, none⟩ = some (.slice A ys.length c) ∧ w'.cell? ⟨w.heap.size, 1, none⟩ = some (.slice A' zs.length c') ∧ w'.cell? ⟨b, o + i, none⟩ = some (.string s)) (first | go_keep | (go_split_ands; refine ⟨?_, ?_, ?_⟩ <;> (refine cell_b hb8 ?_; assumption))) (first | (go_at_call 25; refine (refFindE_any _ _ zs s _ (HET.out.below HWD.out (Nat.le_refl _))).mono ?_; rintro e w8 ⟨rfl, hb8⟩; rw [HF2.out]))
                        have HB8 := Lib.hid (HBD.out.trans (hb8.mono HBD.out.size))
                        clear hb8 t0' t1' c0' HBD HWD
                        go_wp2_with fail
                        go_roundw
                        case rel => exact ⟨i + 1, by go_num, by omega, Lib.hid (below_trans' HI.out HB8.out)⟩
                        case measure => simp [intOf]; omega
                      · have HFN := Lib.hid (show FOUND (findI ((ys.map (·.d)).map (·.nm)) s (ys.map (·.d)).length) = .tuple #[.int .i64 0, .bool false] by rw [hDN, hf, FOUND_neg])
                        have HFE := Lib.hid (show FOUND (findI ((zs.map (·.d)).map (·.nm)) s (zs.map (·.d)).length) = .tuple #[.int .i64 (kg : Int), .bool true] by rw [hDE, hg, FOUND_nat])
                        have HF1 := Lib.hid hf
                        have HF2 := Lib.hid hg
                        have hg0 : (0 : Int) ≤ (kg : Int) := by omega
                        clear hf hg hDN hDE
                        go_wp2_with fail
                        refine (find_any p _ _ s HSS.out _ HGI.out.gs.idx).mono ?_
                        rintro e w5 ⟨rfl, rfl⟩
                        rw [HFN.out]
                        go_wp2_with fail
                        refine (findEdge_any p _ _ s HSS.out _ HGI.out.gs.idx).mono ?_
                        rintro e w6 ⟨rfl, rfl⟩
                        rw [HFE.out]
                        have HBD := Lib.hid ((Below.refl w6.heap.size w6).drew)
                        have HWD := Lib.hid (HGI.out.gs.below.trans (HBD.out.mono HGI.out.gs.below.size))
                        go_wp2_with fail
                        go_region_held3 (fun w' => w'.cell? ⟨w.heap.size, 0, none⟩ = some (.slice A ys.length c) ∧ w'.cell? ⟨w.heap.size, 1, none⟩ = some (.slice A' zs.length c') ∧ w'.cell? ⟨b, o + i, none⟩ = some (.string s)) (first | go_keep | (go_split_ands; refine ⟨?_, ?_, ?_⟩ <;> (refine cell_b hb7 ?_; assumption))) (first | (go_at_call 24; refine (refFind_any _ ys _ s _ (HNT.out.below HWD.out (Nat.le_refl _))).mono ?_; rintro e w7 ⟨rfl, hb7⟩; rw [HF1.out]))
                        have HB7 := Lib.hid (below_trans' HBD.out hb7)
                        have t0' := cell_b HB7.out t0
                        have t1' := cell_b HB7.out t1
                        have c0' := cell_b HB7.out c0
                        clear hb7 t0 t1 c0 HBD HWD
                        have HBD := Lib.hid (HB7.out.trans (((Below.refl w7.heap.size w7).drew).mono HB7.out.size))
                        have HWD := Lib.hid (HGI.out.gs.below.trans (HBD.out.mono HGI.out.gs.below.size))
                        go_wp2_with fail
                        go_region_held3 (fun w' => w'.cell? ⟨w.heap.size, 0, none⟩ = some (.slice A ys.length c) ∧ w'.cell? ⟨w.heap.size, 1, none⟩ = some (.slice A' zs.length c') ∧ w'.cell? ⟨b, o + i, none⟩ = some (.string s)) (first | go_keep | (go_split_ands; refine ⟨?_, ?_, ?_⟩ <;> (refine cell_b hb8 ?_; assumption))) (first | (go_at_call 25; refine (refFindE_any _ _ zs s _ (HET.out.below HWD.out (Nat.le_refl _))).mono ?_; rintro e w8 ⟨rfl, hb8⟩; rw [HF2.out]))
                        have HB8 := Lib.hid (HBD.out.trans (hb8.mono HBD.out.size))
                        clear hb8 t0' t1' c0' HBD HWD
                        go_wp2_with fail
                        go_roundw
                        case rel => exact ⟨i + 1, by go_num, by omega, Lib.hid (below_trans' HI.out HB8.out)⟩
                        case measure => simp [intOf]; omega
                    · have hf0 : (0 : Int) ≤ (kf : Int) := by omega
                      rcases fst_range (zs.map (·.d.nm)) s with hg | ⟨kg, -, hg⟩
                      · have HFN := Lib.hid (show FOUND (findI ((ys.map (·.d)).map (·.nm)) s (ys.map (·.d)).length) = .tuple #[.int .i64 (kf : Int), .bool true] by rw [hDN, hf, FOUND_nat])
                        have HFE := Lib.hid (show FOUND (findI ((zs.map (·.d)).map (·.nm)) s (zs.map (·.d)).length) = .tuple #[.int .i64 0, .bool false] by rw [hDE, hg, FOUND_neg])
                        have HF1 := Lib.hid hf
                        have HF2 := Lib.hid hg
                        clear hf hg hDN hDE
                        go_wp2_with fail
                        refine (find_any p _ _ s HSS.out _ HGI.out.gs.idx).mono ?_
                        rintro e w5 ⟨rfl, rfl⟩
                        rw [HFN.out]
                        go_wp2_with fail
                        refine (findEdge_any p _ _ s HSS.out _ HGI.out.gs.idx).mono ?_
                        rintro e w6 ⟨rfl, rfl⟩
                        rw [HFE.out]
                        have HBD := Lib.hid ((Below.refl w6.heap.size w6).drew)
                        have HWD := Lib.hid (HGI.out.gs.below.trans (HBD.out.mono HGI.out.gs.below.size))
                        go_wp2_with fail
                        go_region_held3 (fun w' => w'.cell? ⟨w.heap.size, 0, none⟩ = some (.slice A ys.length c) ∧ w'.cell? ⟨w.heap.size, 1, none⟩ = some (.slice A' zs.length c') ∧ w'.cell? ⟨b, o + i, none⟩ = some (.string s)) (first | go_keep | (go_split_ands; refine ⟨?_, ?_, ?_⟩ <;> (refine cell_b hb7 ?_; assumption))) (first | (go_at_call 24; refine (refFind_any _ ys _ s _ (HNT.out.below HWD.out (Nat.le_refl _))).mono ?_; rintro e w7 ⟨rfl, hb7⟩; rw [HF1.out]))
                        have HB7 := Lib.hid (below_trans' HBD.out hb7)
                        have t0' := cell_b HB7.out t0
                        have t1' := cell_b HB7.out t1
                        have c0' := cell_b HB7.out c0
                        clear hb7 t0 t1 c0 HBD HWD
                        have HBD := Lib.hid (HB7.out.trans (((Below.refl w7.heap.size w7).drew).mono HB7.out.size))
                        have HWD := Lib.hid (HGI.out.gs.below.trans (HBD.out.mono HGI.out.gs.below.size))
                        go_wp2_with fail
                        go_region_held3 (fun w' => w'.cell? ⟨w.heap.size, 0, none⟩ = some (.slice A ys.length c) ∧ w'.cell? ⟨w.heap.size, 1, none⟩ = some (.slice A' zs.length c') ∧ w'.cell? ⟨b, o + i, none⟩ = some (.string s)) (first | go_keep | (go_split_ands; refine ⟨?_, ?_, ?_⟩ <;> (refine cell_b hb8 ?_; assumption))) (first | (go_at_call 25; refine (refFindE_any _ _ zs s _ (HET.out.below HWD.out (Nat.le_refl _))).mono ?_; rintro e w8 ⟨rfl, hb8⟩; rw [HF2.out]))
                        have HB8 := Lib.hid (HBD.out.trans (hb8.mono HBD.out.size))
                        clear hb8 t0' t1' c0' HBD HWD
                        go_wp2_with fail
                        go_roundw
                        case rel => exact ⟨i + 1, by go_num, by omega, Lib.hid (below_trans' HI.out HB8.out)⟩
                        case measure => simp [intOf]; omega
                      · have HFN := Lib.hid (show FOUND (findI ((ys.map (·.d)).map (·.nm)) s (ys.map (·.d)).length) = .tuple #[.int .i64 (kf : Int), .bool true] by rw [hDN, hf, FOUND_nat])
                        have HFE := Lib.hid (show FOUND (findI ((zs.map (·.d)).map (·.nm)) s (zs.map (·.d)).length) = .tuple #[.int .i64 (kg : Int), .bool true] by rw [hDE, hg, FOUND_nat])
                        have HF1 := Lib.hid hf
                        have HF2 := Lib.hid hg
                        have hg0 : (0 : Int) ≤ (kg : Int) := by omega
                        clear hf hg hDN hDE
                        go_wp2_with fail
                        refine (find_any p _ _ s HSS.out _ HGI.out.gs.idx).mono ?_
                        rintro e w5 ⟨rfl, rfl⟩
                        rw [HFN.out]
                        go_wp2_with fail
                        refine (findEdge_any p _ _ s HSS.out _ HGI.out.gs.idx).mono ?_
                        rintro e w6 ⟨rfl, rfl⟩
                        rw [HFE.out]
                        have HBD := Lib.hid ((Below.refl w6.heap.size w6).drew)
                        have HWD := Lib.hid (HGI.out.gs.below.trans (HBD.out.mono HGI.out.gs.below.size))
                        go_wp2_with fail
                        go_region_held3 (fun w' => w'.cell? ⟨w.heap.size, 0, none⟩ = some (.slice A ys.length c) ∧ w'.cell? ⟨w.heap.size, 1, none⟩ = some (.slice A' zs.length c') ∧ w'.cell? ⟨b, o + i, none⟩ = some (.string s)) (first | go_keep | (go_split_ands; refine ⟨?_, ?_, ?_⟩ <;> (refine cell_b hb7 ?_; assumption))) (first | (go_at_call 24; refine (refFind_any _ ys _ s _ (HNT.out.below HWD.out (Nat.le_refl _))).mono ?_; rintro e w7 ⟨rfl, hb7⟩; rw [HF1.out]))
                        have HB7 := Lib.hid (below_trans' HBD.out hb7)
                        have t0' := cell_b HB7.out t0
                        have t1' := cell_b HB7.out t1
                        have c0' := cell_b HB7.out c0
                        clear hb7 t0 t1 c0 HBD HWD
                        have HBD := Lib.hid (HB7.out.trans (((Below.refl w7.heap.size w7).drew).mono HB7.out.size))
                        have HWD := Lib.hid (HGI.out.gs.below.trans (HBD.out.mono HGI.out.gs.below.size))
                        go_wp2_with fail
                        go_region_held3 (fun w' => w'.cell? ⟨w.heap.size, 0, none⟩ = some (.slice A ys.length c) ∧ w'.cell? ⟨w.heap.size, 1, none⟩ = some (.slice A' zs.length c') ∧ w'.cell? ⟨b, o + i, none⟩ = some (.string s)) (first | go_keep | (go_split_ands; refine ⟨?_, ?_, ?_⟩ <;> (refine cell_b hb8 ?_; assumption))) (first | (go_at_call 25; refine (refFindE_any _ _ zs s _ (HET.out.below HWD.out (Nat.le_refl _))).mono ?_; rintro e w8 ⟨rfl, hb8⟩; rw [HF2.out]))
                        have HB8 := Lib.hid (HBD.out.trans (hb8.mono HBD.out.size))
                        clear hb8 t0' t1' c0' HBD HWD
                        go_wp2_with fail
                        go_roundw
                        case rel => exact ⟨i + 1, by go_num, by omega, Lib.hid (below_trans' HI.out HB8.out)⟩
                        case measure => simp [intOf]; omega
                  · have hni : (L.length : Int) ≤ (i : Int) := by omega
                    have e0 := HGI.out.el.c0
                    have e1 := HGI.out.el.c1
                    have HRIS := Lib.hid (right_props HR.out edge x).ris
                    have HPF := Lib.hid (prGet_f (prpL_wf HNT.out HET.out edge x) nm)
                    obtain ⟨pq, hpq⟩ : ∃ pq, prGet (prpL (ys.map (·.d)) (zs.map (·.d)) edge x) nm = pq := ⟨_, rfl⟩
                    have HPQ := Lib.hid hpq
                    rw [hpq] at HPF
                    clear hpq HDN HDE HRL HL
                    have HBD := Lib.hid ((Below.refl wr.heap.size wr).drew)
                    have HWD := Lib.hid (HGI.out.gs.below.trans (HBD.out.mono HGI.out.gs.below.size))
                    go_wp2_with fail
                    go_region_held3 (fun w' => w'.cell? ⟨w.heap.size, 0, none⟩ = some (.slice A ys.length c) ∧ w'.cell? ⟨w.heap.size, 1, none⟩ = some (.slice A' zs.length c') ∧ w'.cell? ⟨w.heap.size + 1, 0, none⟩ = some (.bool edge) ∧ w'.cell? ⟨w.heap.size + 1, 1, none⟩ = some (.int .i64 x)) (first | go_keep | (go_split_ands; refine ⟨?_, ?_, ?_, ?_⟩ <;> (refine cell_b hb7 ?_; assumption)) | (go_split_ands; refine ⟨?_, ?_, ?_, ?_⟩ <;> (refine cell_b hb8 ?_; assumption)) | (go_split_ands; refine ⟨?_, ?_, ?_, ?_⟩ <;> (refine cell_b hb9 ?_; assumption))) (first | (go_at_call 17; refine (prop_any p _ _ edge x nm _ (HGI.out.gs.idx.below HBD.out) HRIS.out).mono ?_; rintro e w7 ⟨rfl, hb7⟩; rw [HPQ.out]; have HB7 := Lib.hid hb7) | (go_at_call 26; refine (refProp_any _ ys _ zs edge x nm _ (HNT.out.below (HWD.out.trans (HB7.out.mono HWD.out.size)) (Nat.le_refl _)) (HET.out.below (HWD.out.trans (HB7.out.mono HWD.out.size)) (Nat.le_refl _))).mono ?_; rintro e w8 ⟨rfl, hb8⟩; rw [HPQ.out]; have HB8 := Lib.hid hb8) | (go_at_call 16; refine (same_any pq.k pq.n pq.f pq.s pq.k pq.n pq.f pq.s _ HPF.out HPF.out).mono ?_; rintro e w9 ⟨rfl, hb9⟩; rw [same_self]; have HB9 := Lib.hid hb9))
                    have HJ := Lib.hid ((((HGI.out.next HBD.out).next HB7.out).next HB8.out).next HB9.out)
                    clear HB7 HB8 HB9 hb7 hb8 hb9 t0 t1 e0 e1 HBD HWD HGI HGR HI HRIS HPF HPQ
                    have t0 := HJ.out.gs.two.c0
                    have t1 := HJ.out.gs.two.c1
                    have e0 := HJ.out.el.c0
                    have e1 := HJ.out.el.c1
                    have HBD := Lib.hid ((Below.refl w9.heap.size w9).drew)
                    have HWD := Lib.hid (HJ.out.gs.below.trans (HBD.out.mono HJ.out.gs.below.size))
                    go_wp2_with fail
                    go_region_held3 (fun w' => w'.cell? ⟨w.heap.size, 0, none⟩ = some (.slice A ys.length c) ∧ w'.cell? ⟨w.heap.size, 1, none⟩ = some (.slice A' zs.length c') ∧ w'.cell? ⟨w.heap.size + 1, 0, none⟩ = some (.bool edge) ∧ w'.cell? ⟨w.heap.size + 1, 1, none⟩ = some (.int .i64 x)) (first | go_keep | (go_split_ands; refine ⟨?_, ?_, ?_, ?_⟩ <;> (refine cell_b hb10 ?_; assumption)) | (go_split_ands; refine ⟨?_, ?_, ?_, ?_⟩ <;> (refine cell_b hb11 ?_; assumption)) | (go_split_ands; refine ⟨?_, ?_, ?_, ?_⟩ <;> (refine cell_b hb12 ?_; assumption))) (first | (go_at_call 18; refine (labels_any p _ _ edge x _ (HJ.out.gs.idx.below HBD.out)).mono ?_; rintro e w10 ⟨v10, rfl, hs10, hb10⟩; obtain ⟨B10, f10, rfl, -, -, -, -⟩ := hs10.sl.form; have HS10 := Lib.hid hs10; have HB10 := Lib.hid hb10; clear hs10) | (go_at_call 28; refine (refLabels_any _ ys _ zs edge x _ (HNT.out.below (HWD.out.trans (HB10.out.mono HWD.out.size)) (Nat.le_refl _)) (HET.out.below (HWD.out.trans (HB10.out.mono HWD.out.size)) (Nat.le_refl _))).mono ?_; rintro e w11 ⟨v11, rfl, hs11, hb11⟩; obtain ⟨B11, f11, rfl, -, -, -, -⟩ := hs11.sl.form; have HS11 := Lib.hid hs11; have HB11 := Lib.hid hb11; clear hs11) | (go_at_call 27; refine (sameTexts_any _ _ _ _ (HS10.out.below HB11.out (Nat.le_refl _)) HS11.out).mono ?_; rintro e w12 ⟨rfl, hb12⟩; have HB12 := Lib.hid hb12))
                    have HJ2 := Lib.hid ((((HJ.out.next HBD.out).next HB10.out).next HB11.out).next HB12.out)
                    clear HB10 HB11 HB12 hb10 hb11 hb12 HS10 HS11 t0 t1 e0 e1 HBD HWD HJ
                    have t0 := HJ2.out.gs.two.c0
                    have t1 := HJ2.out.gs.two.c1
                    have HBD := Lib.hid ((Below.refl w12.heap.size w12).drew)
                    have HWD := Lib.hid (HJ2.out.gs.below.trans (HBD.out.mono HJ2.out.gs.below.size))
                    go_wp2_with fail
                    go_region_held3 (fun w' => w'.cell? ⟨w.heap.size, 0, none⟩ = some (.slice A ys.length c) ∧ w'.cell? ⟨w.heap.size, 1, none⟩ = some (.slice A' zs.length c')) (first | go_keep | (go_split_ands; refine ⟨?_, ?_⟩ <;> (refine cell_b hb13 ?_; assumption)) | (go_split_ands; refine ⟨?_, ?_⟩ <;> (refine cell_b hb14 ?_; assumption)) | (go_split_ands; refine ⟨?_, ?_⟩ <;> (refine cell_b hb15 ?_; assumption)) | (go_split_ands; refine ⟨?_, ?_⟩ <;> (refine cell_b hb16 ?_; assumption)) | (go_split_ands; refine ⟨?_, ?_⟩ <;> (refine cell_b hb17 ?_; assumption))) (first | (go_at_call 12; refine (out_any p _ _ node dir _ (HJ2.out.gs.idx.below HBD.out)).mono ?_; rintro e w13 ⟨v13, rfl, hs13, hb13⟩; obtain ⟨B13, f13, rfl, -, -, -⟩ := hs13.form; rw [HNL.out] at hs13; have HS13 := Lib.hid hs13; have HB13 := Lib.hid hb13; have HW13 := Lib.hid (HWD.out.trans (hb13.mono HWD.out.size)); clear hs13) | (go_at_call 21; refine (refOut_any _ ys _ zs node dir _ (HNT.out.below HW13.out (Nat.le_refl _)) (HET.out.below HW13.out (Nat.le_refl _)) hys2 hzs2 HIN.out).mono ?_; rintro e w14 ⟨v14, rfl, hs14, hb14⟩; obtain ⟨B14, f14, rfl, -, -, -⟩ := hs14.form; have HS14 := Lib.hid hs14; have HB14 := Lib.hid hb14; clear hs14) | (go_at_call 20; refine (sameSteps_any _ _ _ _ (Steps.below HS13.out HB14.out) HS14.out).mono ?_; rintro e w15 ⟨rfl, hb15⟩; have HB15 := Lib.hid hb15; have HJ5 := Lib.hid ((((HJ2.out.next HBD.out).next HB13.out).next HB14.out).next HB15.out)) | (go_at_call 30; refine (graph_any p _ _ _ HJ5.out.gs.idx).mono ?_; rintro e w16 ⟨nv6, xs6, ev6, zs6, rfl, hn6, he6, hd6, hf6, hb16⟩; obtain ⟨B16, f16, rfl, -, -, -, -⟩ := hn6.sl.form; obtain ⟨B17, f17, rfl, -, -, -, -⟩ := he6.sl.form; have HN6 := Lib.hid hn6; have HE6 := Lib.hid he6; have HD6 := Lib.hid hd6; have HF6 := Lib.hid hf6; have HB16 := Lib.hid hb16; have HW16 := Lib.hid (HJ5.out.next hb16).gs.below; clear hn6 he6 hd6 hf6) | (go_at_call 29; refine (refSame_any _ xs6 _ zs6 _ ys _ zs _ HN6.out HE6.out (HNT.out.below HW16.out (Nat.le_refl _)) (HET.out.below HW16.out (Nat.le_refl _)) HD6.out HF6.out).mono ?_; rintro e w17 ⟨rfl, hb17⟩; have HB17 := Lib.hid hb17))
                    have HE17 := Lib.hid ((HJ5.out.next HB16.out).next HB17.out).gs.below
                    go_wp2_with fail
                    go_ret
                    exact ⟨rfl, HE17.out⟩
end Go.Proofs.Ytbolojjnkkgehaa
