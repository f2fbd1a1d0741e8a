import Derived.Test.YtbolojjnkkgehaaPrq
import Derived.Deep.RegionHeld3
/-! GraphProps: its walk. -/
namespace Go.Proofs.Ytbolojjnkkgehaa
open Go.RowKit

set_option maxRecDepth 20000 in
set_option maxHeartbeats 4000000 in
theorem props_any (nv : Value) (xs : List NX) (ev : Value) (es : List EX) (nm : ByteArray) (w : World) (hn : Nodes w nv xs) (he : Edges w ev es) :
    Calls Try.prog 6 #[GR nv ev, .string nm] w fun e w' => e = .returned (.bool true) ∧ Below w.heap.size w w' := by
  obtain ⟨A, c, rfl, hlc, hcm, -, -⟩ := hn.sl.form
  obtain ⟨A', c', rfl, hlc', hcm', -, -⟩ := he.sl.form
  have hb0 := (Below.refl w.heap.size w).alloc (Nat.le_refl _) (.cells #[.slice A xs.length c, .slice A' es.length c'] 25)
  have HN := Lib.hid hn
  have HE := Lib.hid he
  have HNT := Lib.hid (hn.take 50)
  have HET := Lib.hid (he.take 50)
  have HB0 := Lib.hid hb0
  clear hn he hb0
  have hlt : w.heap.size < (w.alloc (.cells #[.slice A xs.length c, .slice A' es.length c'] 25)).heap.size := by simp
  have k0 : (w.alloc (.cells #[.slice A xs.length c, .slice A' es.length c'] 25)).cell? ⟨w.heap.size, 0, none⟩ = some (.slice A xs.length c) := by simp [go_sem]
  have k1 : (w.alloc (.cells #[.slice A xs.length c, .slice A' es.length c'] 25)).cell? ⟨w.heap.size, 1, none⟩ = some (.slice A' es.length c') := by simp [go_sem]
  have f0 : (w.alloc (.cells #[.slice A xs.length c, .slice A' es.length c'] 25)).frozen? ⟨w.heap.size, 0, none⟩ = false := by simp [go_sem]
  have f1 : (w.alloc (.cells #[.slice A xs.length c, .slice A' es.length c'] 25)).frozen? ⟨w.heap.size, 1, none⟩ = false := by simp [go_sem]
  go_enter Try.func6, Try.ntmps6
  go_wp2_with fail
  generalize w.alloc (.cells #[.slice A xs.length c, .slice A' es.length c'] 25) = w0 at *
  refine (shown_any _).mono ?_
  rintro e w1 ⟨rfl, hb1⟩
  have HB1 := Lib.hid (HB0.out.trans (hb1.mono HB0.out.size))
  have m0 := cell_below hb1 hlt k0
  have m1 := cell_below hb1 hlt k1
  have g0 := (hb1.frozen (p := ⟨w.heap.size, 0, none⟩) hlt).trans f0
  have g1 := (hb1.frozen (p := ⟨w.heap.size, 1, none⟩) hlt).trans f1
  have hlt1 := Nat.lt_of_lt_of_le hlt hb1.size
  clear k0 k1 f0 f1 hb1
  go_wp2_with fail
  refine (few_any A c xs A' c' es 50 _ (HN.out.below HB1.out (Nat.le_refl _)) (HE.out.below HB1.out (Nat.le_refl _))).mono ?_
  rintro e w2 ⟨rfl, hb2⟩
  have HB2 := Lib.hid (HB1.out.trans (hb2.mono HB1.out.size))
  have k0 := cell_below hb2 hlt1 m0
  have k1 := cell_below hb2 hlt1 m1
  have f0 := (hb2.frozen (p := ⟨w.heap.size, 0, none⟩) hlt1).trans g0
  have f1 := (hb2.frozen (p := ⟨w.heap.size, 1, none⟩) hlt1).trans g1
  have hlt2 := Nat.lt_of_lt_of_le hlt1 hb2.size
  clear m0 m1 g0 g1 hb2
  have hys : (xs.take 50).length ≤ 50 := by simp; omega
  have hzs : (es.take 50).length ≤ 50 := by simp; omega
  generalize xs.take 50 = ys at *
  generalize es.take 50 = zs at *
  go_wp2_with fail
  have hT := two_set (.slice A ys.length c) (.slice A' zs.length c') k0 k1
  have hB3 : Below w.heap.size w ((w2.setCell ⟨w.heap.size, 0, none⟩ (.slice A ys.length c)).setCell ⟨w.heap.size, 1, none⟩ (.slice A' zs.length c')) := (HB2.out.setCell (p := ⟨w.heap.size, 0, none⟩) (Nat.le_refl _) _).setCell (p := ⟨w.heap.size, 1, none⟩) (Nat.le_refl _) _
  generalize (w2.setCell ⟨w.heap.size, 0, none⟩ (.slice A ys.length c)).setCell ⟨w.heap.size, 1, none⟩ (.slice A' zs.length c') = w3 at *
  have HN3 := Lib.hid (HNT.out.below hB3 (Nat.le_refl _))
  have HE3 := Lib.hid (HET.out.below hB3 (Nat.le_refl _))
  have HB3 := Lib.hid hB3
  clear hB3 k0 k1 f0 f1
  refine (new_any _ ys _ zs _ HN3.out HE3.out).mono ?_
  rintro e w4 ⟨hb4, h4⟩
  have HB4 := Lib.hid (HB3.out.trans (hb4.mono HB3.out.size))
  have hltw : w.heap.size < w3.heap.size := World.block_lt_of_cell? w3 _ hT.c0
  have hT4 := hT.below hb4 hltw
  have k0 := hT4.c0
  have k1 := hT4.c1
  have HN4 := Lib.hid (HN3.out.below hb4 (Nat.le_refl _))
  have HE4 := Lib.hid (HE3.out.below hb4 (Nat.le_refl _))
  clear hb4 hT hltw HN HE HN3 HE3
  rcases h4 with ⟨hr, rfl⟩ | ⟨hr, p, rfl, hx⟩
  · have hr1 : (rightN ys zs != 0) = true := by simpa using hr
    clear hr
    generalize rightN ys zs = r at *
    go_wp2_with fail
    go_ret
    exact ⟨rfl, HB4.out⟩
  · have HR := Lib.hid hr
    have HX := Lib.hid hx
    clear hr hx
    obtain ⟨_, _, hze, -, -, -, hre⟩ := HET.out.sl.form
    cases hze
    have HRE := Lib.hid hre
    obtain ⟨_, _, hye, -, -, -, hrn⟩ := HNT.out.sl.form
    cases hye
    have HRN := Lib.hid hrn
    have HPK := Lib.hid (fun edge x => right_props HR.out edge x)
    clear hre hrn
    have HGS := Lib.hid (⟨HB4.out, hT4, HX.out⟩ : GS w w4 w.heap.size p (.slice A ys.length c) (.slice A' zs.length c') (ys.map (·.d)) (zs.map (·.d)))
    clear HB0 HB1 HB2 HB3 hcm hcm' hlc hlc' hlt1 hlt2 hT4 HX
    go_wp2_with fail
    go_loopw [8] (fun v8 wr => ∃ i : Nat, v8 = .int .i64 i ∧ i ≤ ys.length + zs.length ∧ Hid (GS w wr w.heap.size p (.slice A ys.length c) (.slice A' zs.length c') (ys.map (·.d)) (zs.map (·.d)))) (fun v8 _ => ys.length + zs.length - (intOf v8).toNat)
    case atStart => exact ⟨0, rfl, by omega, HGS⟩
    case round =>
      obtain ⟨i, rfl, hi, HS⟩ := hrel
      clear HGS
      have q0 := HS.out.two.c0
      have q1 := HS.out.two.c1
      have hBw : w.heap.size < wr.heap.size := World.block_lt_of_cell? wr _ q0
      by_cases hin : i < ys.length
      · have hin' : (i : Int) < (ys.length : Int) := by omega
        have hin2 : (i : Int) < (ys.length : Int) + (zs.length : Int) := by omega
        have hi0 : (0 : Int) ≤ (i : Int) := by omega
        obtain ⟨b, q, hA, hbl, e0, e1, e2⟩ := HRN.out.nodeA i hin
        subst hA
        have r2 := cell_below HS.out.below hbl e2
        have HPR := Lib.hid (show Props wr (ndAt ys i).pv (ndAt ys i).d.ps from (by rw [ndAt_eq hin]; exact (HNT.out.ps _ (List.getElem_mem hin)).below HS.out.below (Nat.le_refl _)))
        have HPL := Lib.hid (prpL_node (es := zs.map (·.d)) hin)
        have HOK := Lib.hid (HPK.out false (i : Int))
        rw [HPL.out] at HOK
        clear e0 e1 e2
        generalize (ndAt ys i).d.ps = l at *
        generalize (ndAt ys i).pv = pv at *
        obtain ⟨A2, c2, hpv, hlc2, hcm2, -, -⟩ := HPR.out.sl.form
        subst hpv
        have hbw : b < wr.heap.size := World.block_lt_of_cell? wr _ r2
        have hb0 := ((Below.refl wr.heap.size wr).alloc (Nat.le_refl _) (.cells #[.bool false, .int .i64 i] 50)).alloc (by simp) (.cells #[] 55)
        have HS0 := Lib.hid (HS.out.next hb0)
        have HT0 := Lib.hid (show TwoAt ((wr.alloc (.cells #[.bool false, .int .i64 i] 50)).alloc (.cells #[] 55)) wr.heap.size (.bool false) (.int .i64 i) from ⟨by simp [go_sem], by simp [go_sem]⟩)
        have HP0 := Lib.hid (HPR.out.below hb0 (Nat.le_refl _))
        clear hb0
        go_wp2_with fail
        generalize (wr.alloc (.cells #[.bool false, .int .i64 i] 50)).alloc (.cells #[] 55) = W0 at *
        generalize hbt : wr.heap.size = bt at *
        clear hbt
        have hl56 := HP0.out.len
        obtain ⟨_, _, hpe, -, -, -, hrd2⟩ := HP0.out.sl.form
        cases hpe
        have HRD := Lib.hid hrd2
        clear hrd2
        have hcl2 : l.length ≤ 2513169434916 := by omega
        have hlt0 : bt < W0.heap.size := World.block_lt_of_cell? W0 _ HT0.out.c0
        have HPW := Lib.hid HP0.out.wf
        clear HP0 hl56
        go_loopw [11, 12] (fun v11 v12 wq => ∃ k : Nat, v11 = .bool (hasN l k nm) ∧ v12 = .int .i64 k ∧ k ≤ l.length ∧ Hid (Below W0.heap.size W0 wq)) (fun v11 v12 _ => l.length - (intOf v12).toNat)
        case atStart => exact ⟨0, by rw [hasN_zero], rfl, by omega, Lib.hid (Below.refl _ _)⟩
        case round =>
          obtain ⟨k, rfl, rfl, hk, HK⟩ := hrel
          have hT := HT0.out.below HK.out hlt0
          have t0 := hT.c0
          have t1 := hT.c1
          have HIX := Lib.hid ((HS0.out.next HK.out).idx)
          clear hT
          by_cases hkn : k < l.length
          · have hkn' : (k : Int) < (l.length : Int) := by omega
            have hk0 : (0 : Int) ≤ (k : Int) := by omega
            obtain ⟨g, o, hA2, hgl, c0, c1, c2, c3, c4⟩ := HRD.out.propA k hkn
            subst hA2
            have m0 := cell_below HK.out hgl c0
            have m1 := cell_below HK.out hgl c1
            have m2 := cell_below HK.out hgl c2
            have m3 := cell_below HK.out hgl c3
            have m4 := cell_below HK.out hgl c4
            have HF := Lib.hid (show (prAt l k).f < 18446744073709551616 by rw [prAt_eq hkn]; exact (HPW.out _ (List.getElem_mem hkn)).f)
            have HPG := Lib.hid (show prGet (prpL (ys.map (·.d)) (zs.map (·.d)) false (i : Int)) (prAt l k).nm = prAt l k by rw [HPL.out]; exact prGet_self HOK.out hkn)
            have HHS := Lib.hid (hasN_succ hkn nm)
            clear c0 c1 c2 c3 c4 hgl
            generalize prAt l k = pq at *
            generalize hasN l k nm = h0 at *
            obtain ⟨t, ht⟩ : ∃ t, (pq.nm.toList == nm.toList) = t := ⟨_, rfl⟩
            rw [ht] at HHS
            cases h0 with
            | true =>
              clear ht
              go_wp2_with fail
              have HBD := Lib.hid ((Below.refl wr.heap.size wr).drew)
              have HRIS := Lib.hid (show risingB ((prpL (ys.map (·.d)) (zs.map (·.d)) false (i : Int)).map (·.nm)) = true by rw [HPL.out]; exact HOK.out.ris)
              go_region_held3 (fun w' => w'.cell? ⟨g, o + k * 5, none⟩ = some (.string pq.nm) ∧ w'.cell? ⟨g, o + k * 5 + 1, none⟩ = some (.int .i64 pq.k) ∧ w'.cell? ⟨g, o + k * 5 + 2, none⟩ = some (.int .i64 pq.n) ∧ w'.cell? ⟨g, o + k * 5 + 3, none⟩ = some (.float .f64 pq.f) ∧ w'.cell? ⟨g, o + k * 5 + 4, none⟩ = some (.string pq.s) ∧ w'.cell? ⟨bt, 0, none⟩ = some (.bool false) ∧ w'.cell? ⟨bt, 1, none⟩ = some (.int .i64 (i : Int))) (first | go_keep | (go_split_ands; refine ⟨?_, ?_, ?_, ?_, ?_, ?_, ?_⟩ <;> (refine cell_b hb7 ?_; assumption)) | (go_split_ands; refine ⟨?_, ?_, ?_, ?_, ?_, ?_, ?_⟩ <;> (refine cell_b hb8 ?_; assumption))) (first | (go_at_call 17; refine (prop_any p _ _ false (i : Int) pq.nm _ (HIX.out.below HBD.out) HRIS.out).mono ?_; rintro e w7 ⟨rfl, hb7⟩; rw [HPG.out]) | (go_at_call 16; refine (same_any pq.k pq.n pq.f pq.s pq.k pq.n pq.f pq.s _ HF.out HF.out).mono ?_; rintro e w8 ⟨rfl, hb8⟩; rw [same_self]))
              have HB8 := Lib.hid (below_trans' HK.out (below_trans' HBD.out (below_trans' hb7 hb8)))
              clear hb7 hb8
              go_wp2_with fail
              go_roundw
              case rel => exact ⟨k + 1, by rw [HHS.out]; rfl, by go_num, by omega, HB8⟩
              case measure => simp [intOf]; omega
            | false =>
              go_wp2_with fail
              have HBD := Lib.hid ((Below.refl wr.heap.size wr).drew)
              have HRIS := Lib.hid (show risingB ((prpL (ys.map (·.d)) (zs.map (·.d)) false (i : Int)).map (·.nm)) = true by rw [HPL.out]; exact HOK.out.ris)
              go_region_held3 (fun w' => w'.cell? ⟨g, o + k * 5, none⟩ = some (.string pq.nm) ∧ w'.cell? ⟨g, o + k * 5 + 1, none⟩ = some (.int .i64 pq.k) ∧ w'.cell? ⟨g, o + k * 5 + 2, none⟩ = some (.int .i64 pq.n) ∧ w'.cell? ⟨g, o + k * 5 + 3, none⟩ = some (.float .f64 pq.f) ∧ w'.cell? ⟨g, o + k * 5 + 4, none⟩ = some (.string pq.s) ∧ w'.cell? ⟨bt, 0, none⟩ = some (.bool false) ∧ w'.cell? ⟨bt, 1, none⟩ = some (.int .i64 (i : Int))) (first | go_keep | (go_split_ands; refine ⟨?_, ?_, ?_, ?_, ?_, ?_, ?_⟩ <;> (refine cell_b hb7 ?_; assumption)) | (go_split_ands; refine ⟨?_, ?_, ?_, ?_, ?_, ?_, ?_⟩ <;> (refine cell_b hb8 ?_; assumption))) (first | (go_at_call 17; refine (prop_any p _ _ false (i : Int) pq.nm _ (HIX.out.below HBD.out) HRIS.out).mono ?_; rintro e w7 ⟨rfl, hb7⟩; rw [HPG.out]) | (go_at_call 16; refine (same_any pq.k pq.n pq.f pq.s pq.k pq.n pq.f pq.s _ HF.out HF.out).mono ?_; rintro e w8 ⟨rfl, hb8⟩; rw [same_self]))
              have HB8 := Lib.hid (below_trans' HK.out (below_trans' HBD.out (below_trans' hb7 hb8)))
              clear hb7 hb8
              go_wp2_with fail
              go_roundw
              case rel => exact ⟨k + 1, by rw [HHS.out]; rfl, by go_num, by omega, HB8⟩
              case measure => simp [intOf]; omega
          · have hkni : (l.length : Int) ≤ (k : Int) := by omega
            obtain rfl : k = l.length := by omega
            obtain ⟨r, hr⟩ : ∃ r, prGet (prpL (ys.map (·.d)) (zs.map (·.d)) false (i : Int)) nm = r := ⟨_, rfl⟩
            have hhas := prGet_has HOK.out nm
            rw [← HPL.out, hr] at hhas
            have HR2 := Lib.hid hr
            have HRIS := Lib.hid (show risingB ((prpL (ys.map (·.d)) (zs.map (·.d)) false (i : Int)).map (·.nm)) = true by rw [HPL.out]; exact HOK.out.ris)
            rw [HPL.out] at hhas
            generalize hasN l l.length nm = h0 at *
            clear hr
            go_wp2_with fail
            refine (prop_any p _ _ false (i : Int) nm _ HIX.out HRIS.out).mono ?_
            rintro e w9 ⟨rfl, hb9⟩
            rw [HR2.out]
            have HB9 := Lib.hid (below_trans' HK.out hb9)
            clear hb9
            have hfd := field53 r.k r.n r.f r.s w9
            cases h0 with
            | true =>
              go_wp2_with fail
              go_roundw
              case rel => exact ⟨i + 1, by go_num, by omega, Lib.hid (HS0.out.next HB9.out)⟩
              case measure => simp [intOf]; omega
            | false =>
              go_wp2_with fail
              go_roundw
              case rel => exact ⟨i + 1, by go_num, by omega, Lib.hid (HS0.out.next HB9.out)⟩
              case measure => simp [intOf]; omega
      · by_cases hiz : i < ys.length + zs.length
        · have hin' : (ys.length : Int) ≤ (i : Int) := by omega
          have hin2 : (i : Int) < (ys.length : Int) + (zs.length : Int) := by omega
          obtain ⟨j, hj, hij⟩ : ∃ j, j < zs.length ∧ (i : Int) - (ys.length : Int) = (j : Int) := ⟨i - ys.length, by omega, by omega⟩
          have hj' : (j : Int) < (zs.length : Int) := by omega
          have hj0 : (0 : Int) ≤ (j : Int) := by omega
          obtain ⟨b, q, hA, hbl, e0, e1, e2, e3, e4, e5⟩ := HRE.out.edgeA j hj
          subst hA
          have r5 := cell_below HS.out.below hbl e5
          have HPR := Lib.hid (show Props wr (edAt zs j).pv (edAt zs j).d.ps from (by rw [edAt_eq hj]; exact (HET.out.ps _ (List.getElem_mem hj)).below HS.out.below (Nat.le_refl _)))
          have HPL := Lib.hid (prpL_edge (xs := ys.map (·.d)) hj)
          have HOK := Lib.hid (HPK.out true (j : Int))
          rw [HPL.out] at HOK
          clear e0 e1 e2 e3 e4 e5
          generalize (edAt zs j).d.ps = l at *
          generalize (edAt zs j).pv = pv at *
          obtain ⟨A2, c2, hpv, hlc2, hcm2, -, -⟩ := HPR.out.sl.form
          subst hpv
          have hbw : b < wr.heap.size := World.block_lt_of_cell? wr _ r5
          have hb0 := ((Below.refl wr.heap.size wr).alloc (Nat.le_refl _) (.cells #[.bool true, .int .i64 j] 50)).alloc (by simp) (.cells #[] 55)
          have HS0 := Lib.hid (HS.out.next hb0)
          have HT0 := Lib.hid (show TwoAt ((wr.alloc (.cells #[.bool true, .int .i64 j] 50)).alloc (.cells #[] 55)) wr.heap.size (.bool true) (.int .i64 j) from ⟨by simp [go_sem], by simp [go_sem]⟩)
          have HP0 := Lib.hid (HPR.out.below hb0 (Nat.le_refl _))
          clear hb0
          go_wp2_with fail
          generalize (wr.alloc (.cells #[.bool true, .int .i64 j] 50)).alloc (.cells #[] 55) = W0 at *
          generalize hbt : wr.heap.size = bt at *
          clear hbt
          have hl56 := HP0.out.len
          obtain ⟨_, _, hpe, -, -, -, hrd2⟩ := HP0.out.sl.form
          cases hpe
          have HRD := Lib.hid hrd2
          clear hrd2
          have hcl2 : l.length ≤ 2513169434916 := by omega
          have hlt0 : bt < W0.heap.size := World.block_lt_of_cell? W0 _ HT0.out.c0
          have HPW := Lib.hid HP0.out.wf
          clear HP0 hl56
          go_loopw [11, 12] (fun v11 v12 wq => ∃ k : Nat, v11 = .bool (hasN l k nm) ∧ v12 = .int .i64 k ∧ k ≤ l.length ∧ Hid (Below W0.heap.size W0 wq)) (fun v11 v12 _ => l.length - (intOf v12).toNat)
          case atStart => exact ⟨0, by rw [hasN_zero], rfl, by omega, Lib.hid (Below.refl _ _)⟩
          case round =>
            obtain ⟨k, rfl, rfl, hk, HK⟩ := hrel
            have hT := HT0.out.below HK.out hlt0
            have t0 := hT.c0
            have t1 := hT.c1
            have HIX := Lib.hid ((HS0.out.next HK.out).idx)
            clear hT
            by_cases hkn : k < l.length
            · have hkn' : (k : Int) < (l.length : Int) := by omega
              have hk0 : (0 : Int) ≤ (k : Int) := by omega
              obtain ⟨g, o, hA2, hgl, c0, c1, c2, c3, c4⟩ := HRD.out.propA k hkn
              subst hA2
              have m0 := cell_below HK.out hgl c0
              have m1 := cell_below HK.out hgl c1
              have m2 := cell_below HK.out hgl c2
              have m3 := cell_below HK.out hgl c3
              have m4 := cell_below HK.out hgl c4
              have HF := Lib.hid (show (prAt l k).f < 18446744073709551616 by rw [prAt_eq hkn]; exact (HPW.out _ (List.getElem_mem hkn)).f)
              have HPG := Lib.hid (show prGet (prpL (ys.map (·.d)) (zs.map (·.d)) true (j : Int)) (prAt l k).nm = prAt l k by rw [HPL.out]; exact prGet_self HOK.out hkn)
              have HHS := Lib.hid (hasN_succ hkn nm)
              clear c0 c1 c2 c3 c4 hgl
              generalize prAt l k = pq at *
              generalize hasN l k nm = h0 at *
              obtain ⟨t, ht⟩ : ∃ t, (pq.nm.toList == nm.toList) = t := ⟨_, rfl⟩
              rw [ht] at HHS
              cases h0 with
              | true =>
                clear ht
                go_wp2_with fail
                have HBD := Lib.hid ((Below.refl wr.heap.size wr).drew)
                have HRIS := Lib.hid (show risingB ((prpL (ys.map (·.d)) (zs.map (·.d)) true (j : Int)).map (·.nm)) = true by rw [HPL.out]; exact HOK.out.ris)
                go_region_held3 (fun w' => w'.cell? ⟨g, o + k * 5, none⟩ = some (.string pq.nm) ∧ w'.cell? ⟨g, o + k * 5 + 1, none⟩ = some (.int .i64 pq.k) ∧ w'.cell? ⟨g, o + k * 5 + 2, none⟩ = some (.int .i64 pq.n) ∧ w'.cell? ⟨g, o + k * 5 + 3, none⟩ = some (.float .f64 pq.f) ∧ w'.cell? ⟨g, o + k * 5 + 4, none⟩ = some (.string pq.s) ∧ w'.cell? ⟨bt, 0, none⟩ = some (.bool true) ∧ w'.cell? ⟨bt, 1, none⟩ = some (.int .i64 (j : Int))) (first | go_keep | (go_split_ands; refine ⟨?_, ?_, ?_, ?_, ?_, ?_, ?_⟩ <;> (refine cell_b hb7 ?_; assumption)) | (go_split_ands; refine ⟨?_, ?_, ?_, ?_, ?_, ?_, ?_⟩ <;> (refine cell_b hb8 ?_; assumption))) (first | (go_at_call 17; refine (prop_any p _ _ true (j : Int) pq.nm _ (HIX.out.below HBD.out) HRIS.out).mono ?_; rintro e w7 ⟨rfl, hb7⟩; rw [HPG.out]) | (go_at_call 16; refine (same_any pq.k pq.n pq.f pq.s pq.k pq.n pq.f pq.s _ HF.out HF.out).mono ?_; rintro e w8 ⟨rfl, hb8⟩; rw [same_self]))
                have HB8 := Lib.hid (below_trans' HK.out (below_trans' HBD.out (below_trans' hb7 hb8)))
                clear hb7 hb8
                go_wp2_with fail
                go_roundw
                case rel => exact ⟨k + 1, by rw [HHS.out]; rfl, by go_num, by omega, HB8⟩
                case measure => simp [intOf]; omega
              | false =>
                go_wp2_with fail
                have HBD := Lib.hid ((Below.refl wr.heap.size wr).drew)
                have HRIS := Lib.hid (show risingB ((prpL (ys.map (·.d)) (zs.map (·.d)) true (j : Int)).map (·.nm)) = true by rw [HPL.out]; exact HOK.out.ris)
                go_region_held3 (fun w' => w'.cell? ⟨g, o + k * 5, none⟩ = some (.string pq.nm) ∧ w'.cell? ⟨g, o + k * 5 + 1, none⟩ = some (.int .i64 pq.k) ∧ w'.cell? ⟨g, o + k * 5 + 2, none⟩ = some (.int .i64 pq.n) ∧ w'.cell? ⟨g, o + k * 5 + 3, none⟩ = some (.float .f64 pq.f) ∧ w'.cell? ⟨g, o + k * 5 + 4, none⟩ = some (.string pq.s) ∧ w'.cell? ⟨bt, 0, none⟩ = some (.bool true) ∧ w'.cell? ⟨bt, 1, none⟩ = some (.int .i64 (j : Int))) (first | go_keep | (go_split_ands; refine ⟨?_, ?_, ?_, ?_, ?_, ?_, ?_⟩ <;> (refine cell_b hb7 ?_; assumption)) | (go_split_ands; refine ⟨?_, ?_, ?_, ?_, ?_, ?_, ?_⟩ <;> (refine cell_b hb8 ?_; assumption))) (first | (go_at_call 17; refine (prop_any p _ _ true (j : Int) pq.nm _ (HIX.out.below HBD.out) HRIS.out).mono ?_; rintro e w7 ⟨rfl, hb7⟩; rw [HPG.out]) | (go_at_call 16; refine (same_any pq.k pq.n pq.f pq.s pq.k pq.n pq.f pq.s _ HF.out HF.out).mono ?_; rintro e w8 ⟨rfl, hb8⟩; rw [same_self]))
                have HB8 := Lib.hid (below_trans' HK.out (below_trans' HBD.out (below_trans' hb7 hb8)))
                clear hb7 hb8
                go_wp2_with fail
                go_roundw
                case rel => exact ⟨k + 1, by rw [HHS.out]; rfl, by go_num, by omega, HB8⟩
                case measure => simp [intOf]; omega
            · have hkni : (l.length : Int) ≤ (k : Int) := by omega
              obtain rfl : k = l.length := by omega
              obtain ⟨r, hr⟩ : ∃ r, prGet (prpL (ys.map (·.d)) (zs.map (·.d)) true (j : Int)) nm = r := ⟨_, rfl⟩
              have hhas := prGet_has HOK.out nm
              rw [← HPL.out, hr] at hhas
              have HR2 := Lib.hid hr
              have HRIS := Lib.hid (show risingB ((prpL (ys.map (·.d)) (zs.map (·.d)) true (j : Int)).map (·.nm)) = true by rw [HPL.out]; exact HOK.out.ris)
              rw [HPL.out] at hhas
              generalize hasN l l.length nm = h0 at *
              clear hr
              go_wp2_with fail
              refine (prop_any p _ _ true (j : Int) nm _ HIX.out HRIS.out).mono ?_
              rintro e w9 ⟨rfl, hb9⟩
              rw [HR2.out]
              have HB9 := Lib.hid (below_trans' HK.out hb9)
              clear hb9
              have hfd := field53 r.k r.n r.f r.s w9
              cases h0 with
              | true =>
                go_wp2_with fail
                go_roundw
                case rel => exact ⟨i + 1, by go_num, by omega, Lib.hid (HS0.out.next HB9.out)⟩
                case measure => simp [intOf]; omega
              | false =>
                go_wp2_with fail
                go_roundw
                case rel => exact ⟨i + 1, by go_num, by omega, Lib.hid (HS0.out.next HB9.out)⟩
                case measure => simp [intOf]; omega
        · have hin' : (ys.length : Int) ≤ (i : Int) := by omega
          have hni : (ys.length : Int) + (zs.length : Int) ≤ (i : Int) := by omega
          have hbo := ((Below.refl wr.heap.size wr).alloc (Nat.le_refl _) (.cells #[.bool false, .int .i64 ys.length] 50)).alloc (by simp) (.cells #[.bool true, .int .i64 zs.length] 50)
          have HSo := Lib.hid (HS.out.next hbo)
          have HT0 := Lib.hid (show TwoAt ((wr.alloc (.cells #[.bool false, .int .i64 ys.length] 50)).alloc (.cells #[.bool true, .int .i64 zs.length] 50)) wr.heap.size (.bool false) (.int .i64 ys.length) from ⟨by simp [go_sem], by simp [go_sem]⟩)
          have HT1 := Lib.hid (show TwoAt ((wr.alloc (.cells #[.bool false, .int .i64 ys.length] 50)).alloc (.cells #[.bool true, .int .i64 zs.length] 50)) (wr.heap.size + 1) (.bool true) (.int .i64 zs.length) from ⟨by simp [go_sem], by simp [go_sem]⟩)
          have HN0 := Lib.hid (prpL_out (n := ys.length) (ns := ys.map (·.d)) (es := zs.map (·.d)) (by simp))
          have HN1 := Lib.hid (prpL_outE (n := zs.length) (ns := ys.map (·.d)) (es := zs.map (·.d)) (by simp))
          have HL0 := Lib.hid (lblL_out (n := ys.length) (ns := ys.map (·.d)) (es := zs.map (·.d)) (by simp))
          have HL1 := Lib.hid (lblL_outE (n := zs.length) (ns := ys.map (·.d)) (es := zs.map (·.d)) (by simp))
          clear hbo
          go_wp2_with fail
          generalize (wr.alloc (.cells #[.bool false, .int .i64 ys.length] 50)).alloc (.cells #[.bool true, .int .i64 zs.length] 50) = W2 at *
          have t0 := HT0.out.c0
          have t1 := HT0.out.c1
          have hlt0 : wr.heap.size < W2.heap.size := World.block_lt_of_cell? W2 _ t0
          have hlt1 : wr.heap.size + 1 < W2.heap.size := World.block_lt_of_cell? W2 _ HT1.out.c0
          go_wp2_with fail
          refine (prop_any p _ _ false (ys.length : Int) nm _ HSo.out.idx (by rw [HN0.out]; rfl)).mono ?_
          rintro e w5 ⟨rfl, hb5⟩
          rw [HN0.out, prGet_nil, show prNull.k = 0 from rfl, show prNull.n = 0 from rfl, show prNull.f = 0 from rfl, show prNull.s = ⟨#[]⟩ from rfl]
          have hfd5 := field53 0 0 0 ⟨#[]⟩ w5
          have HB5 := Lib.hid hb5
          have s0 := (HT1.out.below hb5 hlt1).c0
          have s1 := (HT1.out.below hb5 hlt1).c1
          clear hb5 t0 t1
          go_wp2_with fail
          refine (prop_any p _ _ true (zs.length : Int) nm _ (HSo.out.idx.below HB5.out) (by rw [HN1.out]; rfl)).mono ?_
          rintro e w6 ⟨rfl, hb6⟩
          rw [HN1.out, prGet_nil, show prNull.k = 0 from rfl, show prNull.n = 0 from rfl, show prNull.f = 0 from rfl, show prNull.s = ⟨#[]⟩ from rfl]
          have hfd6 := field53 0 0 0 ⟨#[]⟩ w6
          have HB6 := Lib.hid (below_trans' HB5.out hb6)
          have t0 := (HT0.out.below HB6.out hlt0).c0
          have t1 := (HT0.out.below HB6.out hlt0).c1
          clear hb6 s0 s1 hfd5
          go_wp2_with fail
          refine (labels_any p _ _ false (ys.length : Int) _ (HSo.out.idx.below HB6.out)).mono ?_
          rintro e w7 ⟨v7, rfl, hl7, hb7⟩
          rw [HL0.out] at hl7
          obtain ⟨A7, c7, rfl, -, -, -, -⟩ := hl7.sl.form
          have HB7 := Lib.hid (below_trans' HB6.out hb7)
          have s0 := (HT1.out.below HB7.out hlt1).c0
          have s1 := (HT1.out.below HB7.out hlt1).c1
          clear hb7 t0 t1 hl7 hfd6
          go_wp2_with fail
          refine (labels_any p _ _ true (zs.length : Int) _ (HSo.out.idx.below HB7.out)).mono ?_
          rintro e w8 ⟨v8, rfl, hl8, hb8⟩
          rw [HL1.out] at hl8
          obtain ⟨A8, c8, rfl, -, -, -, -⟩ := hl8.sl.form
          have HB8 := Lib.hid (below_trans' HB7.out hb8)
          clear hb8 s0 s1 hl8
          go_wp2_with fail
          go_ret
          exact ⟨rfl, (HSo.out.next HB8.out).below⟩
end Go.Proofs.Ytbolojjnkkgehaa
