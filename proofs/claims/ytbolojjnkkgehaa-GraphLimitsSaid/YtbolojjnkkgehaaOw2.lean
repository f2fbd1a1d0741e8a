import Derived.Test.YtbolojjnkkgehaaOw1
import Derived.Deep.RegionHeld3
import Derived.Deep.DrawnRows
import Derived.Deep.CutBlock
namespace Go.Proofs.Ytbolojjnkkgehaa
open Go.RowKit
attribute [local go_sem ↓] Go.wp_at_zero Go.wp_at_succ

theorem oneCellN {w : World} {v : Value} {l : List NX} (h : Nodes w v l) : ∀ u ∈ cellsN l, u.oneCell' = true := by
  intro u hu
  simp only [cellsN, List.mem_flatMap, List.mem_cons, List.not_mem_nil, or_false] at hu
  obtain ⟨x, hx, hu⟩ := hu
  obtain ⟨A1, c1, e1, _⟩ := (h.ls _ hx).sl
  obtain ⟨A2, c2, e2, _⟩ := (h.ps _ hx).sl
  rw [e1, e2] at hu
  rcases hu with rfl | rfl | rfl <;> rfl
theorem oneCellE {w : World} {v : Value} {l : List EX} (h : Edges w v l) : ∀ u ∈ cellsE l, u.oneCell' = true := by
  intro u hu
  simp only [cellsE, List.mem_flatMap, List.mem_cons, List.not_mem_nil, or_false] at hu
  obtain ⟨x, hx, hu⟩ := hu
  obtain ⟨A1, c1, e1, _⟩ := (h.ls _ hx).sl
  obtain ⟨A2, c2, e2, _⟩ := (h.ps _ hx).sl
  rw [e1, e2] at hu
  rcases hu with rfl | rfl | rfl | rfl | rfl | rfl <;> rfl

/-- The rows are cloned. -/
theorem own_start {w w0 w1 w2 : World} {nv ev v1 v2 x0 x1 : Value} {xs : List NX} {es : List EX} (hn : Nodes w nv xs) (he : Edges w ev es) (h0 : Below w.heap.size w w0) (hs : w0.heap.size = w.heap.size + 2) (hb1 : Below w0.heap.size w0 w1) (ho1 : w1.ownsRow w0.heap.size 46 3 v1 xs.length (cellsN xs))
    (hb2 : Below w1.heap.size w1 w2) (ho2 : w2.ownsRow w1.heap.size 42 6 v2 es.length (cellsE es)) (f0 : w2.cell? ⟨w.heap.size, 0, none⟩ = some x0) (f1 : w2.cell? ⟨w.heap.size, 1, none⟩ = some x1)
    (hr : TwoAt w0 (w.heap.size + 1) (.slice none 0 0) (.slice none 0 0)) (hz : ∀ j, w0.frozen? ⟨w.heap.size + 1, j, none⟩ = false) :
    OwnR w ((w2.setCell ⟨w.heap.size, 0, none⟩ v1).setCell ⟨w.heap.size, 1, none⟩ v2) v1 v2 xs es xs es := by
  have hb02 := h0.trans ((hb1.trans (hb2.mono hb1.size)).mono h0.size)
  have g1 : w2.grownBy (w2.setCell ⟨w.heap.size, 0, none⟩ v1) (some w.heap.size) := ⟨rfl, rfl, rfl, by simp, fun k _ hk => Below.heap_setCell w2 _ _ k (fun e => hk (by rw [e]))⟩
  have g2 : (w2.setCell ⟨w.heap.size, 0, none⟩ v1).grownBy ((w2.setCell ⟨w.heap.size, 0, none⟩ v1).setCell ⟨w.heap.size, 1, none⟩ v2) (some w.heap.size) := ⟨rfl, rfl, rfl, by simp, fun k _ hk => Below.heap_setCell _ _ _ k (fun e => hk (by rw [e]))⟩
  have gg := World.grownBy.trans g1 g2
  have hl1 := own_lt ho1
  have hl2 := own_lt ho2
  have hs1 := hb1.size
  have hs2 := hb2.size
  have hH : ∀ k, HH v1 v2 w.heap.size k → w.heap.size ≤ k := fun k hk => by
    rcases hk with (hk | hk) | hk
    · have := (hl1 k hk).1; omega
    · have := (hl2 k hk).1; omega
    · omega
  have ho1' : w2.ownsRow w0.heap.size 46 3 v1 xs.length (cellsN xs) := own_below ho1 hb2 (Nat.le_refl _)
  have hT : TwoAt w2 (w.heap.size + 1) (.slice none 0 0) (.slice none 0 0) := (hr.below hb1 (by omega)).below hb2 (by omega)
  refine ⟨⟨?_, Nat.le_refl _, ?_, ?_, ?_, ?_, rfl, rfl, ?_, ?_⟩, hT.grown gg (by simp), fun j => ?_⟩
  · exact hb02.grown gg hb02.size (fun k hk => by cases hk; exact Nat.le_refl _)
  · refine ⟨?_, ?_⟩
    · exact (World.cell?_setCell_other _ _ _ _ (by simp)).trans (World.cell?_setCell_same _ _ _ f0)
    · exact World.cell?_setCell_same _ _ _ ((World.cell?_setCell_other _ _ _ _ (by simp)).trans f1)
  · refine World.ownsRow.kept (own_base ho1' (by omega)) gg ?_
    cases hv : v1.ownBlock with
    | none => exact .inl rfl
    | some k => exact .inr fun e => by cases e; have := (hl1 _ hv).1; omega
  · refine World.ownsRow.kept (own_base ho2 (by omega)) gg ?_
    cases hv : v2.ownBlock with
    | none => exact .inl rfl
    | some k => exact .inr fun e => by cases e; have := (hl2 _ hv).1; omega
  · intro k h1 h2
    have := (hl1 k h1).2
    have := (hl2 k h2).1
    omega
  · have hold : FieldsN w2 (HH v1 v2 w.heap.size) xs :=
      ⟨fun x hx => ⟨(hn.ls x hx).below hb02 (Nat.le_refl _), off_old (hn.ls x hx).sl (by rw [cellsS_length]; exact id) (fun k hk => by have := hH k hk; omega)⟩,
       fun x hx => ⟨(hn.ps x hx).below hb02 (Nat.le_refl _), off_old (hn.ps x hx).sl (by rw [cellsP_length]; omega) (fun k hk => by have := hH k hk; omega)⟩⟩
    have hG : FieldsN w2 (fun k => HH v1 v2 w.heap.size k ∨ k = w.heap.size) xs :=
      ⟨fun x hx => ⟨(hold.ls x hx).1, off_old (hn.ls x hx).sl (by rw [cellsS_length]; exact id) (fun k hk => by rcases hk with hk | hk; (have := hH k hk; omega); omega)⟩,
       fun x hx => ⟨(hold.ps x hx).1, off_old (hn.ps x hx).sl (by rw [cellsP_length]; omega) (fun k hk => by rcases hk with hk | hk; (have := hH k hk; omega); omega)⟩⟩
    have := hG.grown gg (fun k hk => by cases hk; exact .inr rfl)
    exact ⟨fun x hx => ⟨(this.ls x hx).1, (hold.ls x hx).2⟩, fun x hx => ⟨(this.ps x hx).1, (hold.ps x hx).2⟩⟩
  · have hold : FieldsE w2 (HH v1 v2 w.heap.size) es :=
      ⟨fun x hx => ⟨(he.ls x hx).below hb02 (Nat.le_refl _), off_old (he.ls x hx).sl (by rw [cellsS_length]; exact id) (fun k hk => by have := hH k hk; omega)⟩,
       fun x hx => ⟨(he.ps x hx).below hb02 (Nat.le_refl _), off_old (he.ps x hx).sl (by rw [cellsP_length]; omega) (fun k hk => by have := hH k hk; omega)⟩⟩
    have hG : FieldsE w2 (fun k => HH v1 v2 w.heap.size k ∨ k = w.heap.size) es :=
      ⟨fun x hx => ⟨(hold.ls x hx).1, off_old (he.ls x hx).sl (by rw [cellsS_length]; exact id) (fun k hk => by rcases hk with hk | hk; (have := hH k hk; omega); omega)⟩,
       fun x hx => ⟨(hold.ps x hx).1, off_old (he.ps x hx).sl (by rw [cellsP_length]; omega) (fun k hk => by rcases hk with hk | hk; (have := hH k hk; omega); omega)⟩⟩
    have := hG.grown gg (fun k hk => by cases hk; exact .inr rfl)
    exact ⟨fun x hx => ⟨(this.ls x hx).1, (hold.ls x hx).2⟩, fun x hx => ⟨(this.ps x hx).1, (hold.ps x hx).2⟩⟩
  · simp only [World.frozen?_setCell]
    exact (hb2.frozen (p := ⟨w.heap.size + 1, j, none⟩) (by simp; omega)).trans ((hb1.frozen (p := ⟨w.heap.size + 1, j, none⟩) (by simp; omega)).trans (hz j))

set_option maxHeartbeats 2000000 in
/-- graph.own -/
theorem own_any (nv : Value) (xs : List NX) (ev : Value) (es : List EX) (w : World) (hn : Nodes w nv xs) (he : Edges w ev es) :
    Calls Try.prog 32 #[GR nv ev] w fun e w' => ∃ nv' ys ev' zs, e = .returned (GR nv' ev') ∧ Nodes w' nv' ys ∧ Edges w' ev' zs ∧ ys.map (·.d) = xs.map (·.d) ∧ zs.map (·.d) = es.map (·.d) ∧ Below w.heap.size w w' := by
  have HN := Lib.hid hn
  have HE := Lib.hid he
  obtain ⟨A, c, rfl, hlc, hcm, -, hrd⟩ := hn.sl.form
  obtain ⟨A', c', rfl, hlc', hcm', -, hrd'⟩ := he.sl.form
  clear hrd hrd' hn he
  go_enter Try.func32, Try.ntmps32
  go_wp2_with fail
  have hb0 : Below w.heap.size w (((w.alloc (Obj.cells #[Value.slice A xs.length c, Value.slice A' es.length c'] 25)).alloc (Obj.cells #[Value.slice none 0 0, Value.slice none 0 0] 25)).drew) := (((Below.refl w.heap.size w).alloc (Nat.le_refl _) _).alloc (by simp) _).drew
  have HB0 := Lib.hid hb0
  clear hb0
  go_cut [7] from 8 to 14 (fun _ wx => Hid (∃ nv' ev', OwnR w wx nv' ev' xs es xs es))
  case first =>
    go_region_with (first
      | (go_at_call 48; refine (cloneN_any _ xs.length (cellsN xs) _ (HN.out.sl.below HB0.out (Nat.le_refl _)) (cellsN_length xs) (oneCellN HN.out) HN.out.len).mono ?_; rintro e w1 ⟨v1, rfl, ho1, hb1⟩; obtain ⟨A1, c1, rfl, _, _, _, _⟩ := (own_reads ho1).form; have HO1 := Lib.hid ho1; clear ho1; have f11 := (hb1.cell (p := ⟨w.heap.size, 1, none⟩) (by simp; omega)).trans (show _ = some (Value.slice A' es.length c') by simp [go_sem]))
      | (go_at_call 49; refine (cloneE_any _ es.length (cellsE es) _ (HE.out.sl.below (HB0.out.trans (hb1.mono HB0.out.size)) (Nat.le_refl _)) (cellsE_length es) (oneCellE HE.out) HE.out.len).mono ?_; rintro e w2 ⟨v2, rfl, ho2, hb2⟩; obtain ⟨A2, c2, rfl, _, _, _, _⟩ := (own_reads ho2).form; have HO2 := Lib.hid ho2; clear ho2; have f20 := (hb2.cell (p := ⟨w.heap.size, 0, none⟩) (Nat.lt_of_lt_of_le (by simp; omega) hb1.size)).trans ((hb1.cell (p := ⟨w.heap.size, 0, none⟩) (by simp; omega)).trans (show _ = some (Value.slice A xs.length c) by simp [go_sem])); have f21 := (hb2.cell (p := ⟨w.heap.size, 1, none⟩) (Nat.lt_of_lt_of_le (by simp; omega) hb1.size)).trans f11; have z20 := (hb2.frozen (p := ⟨w.heap.size, 0, none⟩) (Nat.lt_of_lt_of_le (by simp; omega) hb1.size)).trans ((hb1.frozen (p := ⟨w.heap.size, 0, none⟩) (by simp; omega)).trans (show _ = false by simp [go_sem])); have z21 := (hb2.frozen (p := ⟨w.heap.size, 1, none⟩) (Nat.lt_of_lt_of_le (by simp; omega) hb1.size)).trans ((hb1.frozen (p := ⟨w.heap.size, 1, none⟩) (by simp; omega)).trans (show _ = false by simp [go_sem]))))
    all_goals
      have HK := Lib.hid (own_start (w0 := ((w.alloc (Obj.cells #[Value.slice A xs.length c, Value.slice A' es.length c'] 25)).alloc (Obj.cells #[Value.slice none 0 0, Value.slice none 0 0] 25)).drew) HN.out HE.out HB0.out (by simp) hb1 HO1.out hb2 HO2.out f20 f21 ⟨by simp [go_sem], by simp [go_sem]⟩ (fun j => by simp [go_sem]))
      clear f11 f20 f21 z20 z21 hb1 hb2
      go_wp2_with fail
      go_meet
      exact ⟨_, _, HK.out⟩
  case rest =>
    obtain ⟨nv', ev', H⟩ := hcut.out
    obtain ⟨A1, c1, e1, hn1, hm1, -, -⟩ := (own_reads H.st.nrow).form
    obtain ⟨A2, c2, e2, hn2, hm2, -, -⟩ := (own_reads H.st.erow).form
    cases e1
    cases e2
    have ht0 := H.st.two.c0
    have H0 := Lib.hid H
    clear H hcut HB0
    go_wp2_with fail
    go_loopw [18] (fun v18 wr => ∃ i : Nat, v18 = .int .i64 i ∧ i ≤ xs.length ∧ Hid (∃ ys, OwnR w wr (.slice A1 xs.length c1) (.slice A2 es.length c2) xs es ys es)) (fun v18 _ => xs.length - (intOf v18).toNat)
    case atStart => exact ⟨0, rfl, by omega, Lib.hid ⟨xs, H0.out⟩⟩
    case round =>
      obtain ⟨i, rfl, hi, HR⟩ := hrel
      obtain ⟨ys, HS0⟩ := HR.out
      have HS := Lib.hid HS0
      clear HR H0 ht0 HS0
      by_cases hin : i < xs.length
      · have hin' : (i : Int) < (xs.length : Int) := by omega
        have hi0 : (0 : Int) ≤ (i : Int) := by omega
        have hyl := HS.out.st.nlen
        have hiy : i < ys.length := by omega
        obtain ⟨A3, c3, e3, -, -, -, hrd⟩ := (own_reads HS.out.st.nrow).form
        injection e3 with e3 e4 e5
        subst e3
        obtain ⟨g, o, hA, hgl, h0, h1, h2⟩ := hrd.node i hiy
        subst hA
        have ho0 : o = 0 := by
          rcases HS.out.st.nrow.2 with ⟨hx, _⟩ | ⟨g', cap', cur', hx, _⟩
          · cases hx
          · injection hx with hx; injection hx with hx; injection hx
        subst ho0
        obtain ⟨B1, m1, d1, B2, m2, d2, el, ep⟩ := HS.out.st.fn.slices hiy
        rw [el] at h1
        rw [ep] at h2
        simp only [Nat.zero_add] at h0 h1 h2
        have hls := (HS.out.st.fn.ls _ (List.getElem_mem hiy)).1
        have hps := (HS.out.st.fn.ps _ (List.getElem_mem hiy)).1
        rw [el] at hls
        rw [ep] at hps
        have HLS := Lib.hid hls
        have HPS := Lib.hid hps
        have hbx := HS.out.st.two.c0
        have hgb := (own_lt HS.out.st.nrow g rfl)
        have hbl : w.heap.size < wr.heap.size := HS.out.st.blt
        clear hrd hls hps el ep e4 e5
        generalize hnm : ys[i].d.nm = nm at *
        go_wp2_with fail
        have HBA := Lib.hid (((Below.refl wr.heap.size wr).alloc (Nat.le_refl _) (.cells #[.string nm, .slice B1 m1 d1, .slice B2 m2 d2] 46)).drew)
        have hcl1 : (cellsS ys[i].d.ls).length = ys[i].d.ls.length * 1 := by rw [cellsS_length, Nat.mul_one]
        have HCL1 := Lib.hid hcl1
        clear hcl1
        have hq1 : (0 : Int) ≤ (i : Int) := hi0
        have hgn1 : ¬ g = w.heap.size := by omega
        have hgn2 : ¬ w.heap.size = g := by omega
        have hgn3 : ¬ g = wr.heap.size := by omega
        have hgn4 : ¬ wr.heap.size = g := by omega
        go_region_held3 (fun w' => w'.cell? ⟨w.heap.size, 0, none⟩ = some (.slice (some ⟨g, 0, none⟩) xs.length c1) ∧ w'.cell? ⟨wr.heap.size, 1, none⟩ = some (.slice B1 m1 d1) ∧ w'.cell? ⟨wr.heap.size, 2, none⟩ = some (.slice B2 m2 d2)) (first | go_keep | (go_split_ands; refine ⟨?_, ?_, ?_⟩ <;> (refine cell_b hb1 ?_; assumption)) | (go_split_ands; refine ⟨?_, ?_, ?_⟩ <;> (refine cell_b hb2 ?_; assumption))) (first | (go_at_call 41; refine (cloneS_any _ ys[i].d.ls.length (cellsS ys[i].d.ls) _ (HLS.out.sl.below HBA.out (Nat.le_refl _)) HCL1.out (oneCellS _) HLS.out.len).mono ?_; rintro e w1 ⟨v1, rfl, ho1, hb1⟩; obtain ⟨D1, k1, rfl, _, _, _, _⟩ := (own_reads ho1).form; have HO1 := Lib.hid ho1; clear ho1) | (go_at_call 50; refine (cloneP_any _ ys[i].d.ps.length (cellsP ys[i].d.ps) _ (HPS.out.sl.below (HBA.out.trans (hb1.mono HBA.out.size)) (Nat.le_refl _)) (cellsP_length _) (oneCellP _) HPS.out.len).mono ?_; rintro e w2 ⟨v2, rfl, ho2, hb2⟩; obtain ⟨D2, k2, rfl, _, _, _, _⟩ := (own_reads ho2).form; have HO2 := Lib.hid ho2; clear ho2; have HBB := Lib.hid (HBA.out.trans ((hb1.trans (hb2.mono hb1.size)).mono HBA.out.size)); have HR2 := Lib.hid (HS.out.next HBB.out); have k1 := cell_below HBB.out hgb.2 h1; have k2 := cell_below HBB.out hgb.2 h2; have z1 := HR2.out.frozenN hyl.symm (i * 3 + 1); have z2 := HR2.out.frozenN hyl.symm (i * 3 + 2)))
        have hsz1 : ∀ k, HH (.slice (some ⟨g, 0, none⟩) xs.length c1) (.slice A2 es.length c2) w.heap.size k → k < (wr.alloc (.cells #[.string nm, .slice B1 m1 d1, .slice B2 m2 d2] 46)).drew.heap.size := fun k hk => Nat.lt_of_lt_of_le (HS.out.blocks k hk) HBA.out.size
        have HK := Lib.hid (HR2.out.storeN hyl.symm hiy ⟨own_reads (own_below HO1.out hb2 (Nat.le_refl _)), HLS.out.len, HLS.out.wf⟩ (off_own HO1.out hsz1) ⟨own_reads HO2.out, HPS.out.len, HPS.out.wf⟩ (off_own HO2.out (fun k hk => Nat.lt_of_lt_of_le (hsz1 k hk) hb1.size)))
        clear hsz1 k1 k2 z1 z2 hb1 hb2 h0 h1 h2 hbx
        go_wp2_with fail
        go_roundw
        case rel => exact ⟨i + 1, by go_num, by omega, Lib.hid ⟨_, HK.out⟩⟩
        case measure => simp [intOf]; omega
      · have hni : (xs.length : Int) ≤ (i : Int) := by omega
        have ht1 := HS.out.st.two.c1
        go_wp2_with fail
        go_loopw [43] (fun v43 wr2 => ∃ i : Nat, v43 = .int .i64 i ∧ i ≤ es.length ∧ Hid (∃ zs, OwnR w wr2 (.slice A1 xs.length c1) (.slice A2 es.length c2) xs es ys zs)) (fun v43 _ => es.length - (intOf v43).toNat)
        case atStart => exact ⟨0, rfl, by omega, Lib.hid ⟨es, HS.out⟩⟩
        case round =>
          obtain ⟨i, rfl, hi, HR⟩ := hrel
          obtain ⟨zs, HS0⟩ := HR.out
          clear HS
          have HS := Lib.hid HS0
          clear HR HS0 ht1
          by_cases hin : i < es.length
          · have hin' : (i : Int) < (es.length : Int) := by omega
            have hi0 : (0 : Int) ≤ (i : Int) := by omega
            have hyl := HS.out.st.elen
            have hiy : i < zs.length := by omega
            obtain ⟨A3, c3, e3, -, -, -, hrd⟩ := (own_reads HS.out.st.erow).form
            injection e3 with e3 e4 e5
            subst e3
            obtain ⟨g, o, hA, hgl, h0, h1, h2, h3, h4, h5⟩ := hrd.edge i hiy
            subst hA
            have ho0 : o = 0 := by
              rcases HS.out.st.erow.2 with ⟨hx, _⟩ | ⟨g', cap', cur', hx, _⟩
              · cases hx
              · injection hx with hx; injection hx with hx; injection hx
            subst ho0
            obtain ⟨B1, m1, d1, B2, m2, d2, el, ep⟩ := HS.out.st.fe.slices hiy
            rw [el] at h4
            rw [ep] at h5
            simp only [Nat.zero_add] at h0 h1 h2 h3 h4 h5
            have hls := (HS.out.st.fe.ls _ (List.getElem_mem hiy)).1
            have hps := (HS.out.st.fe.ps _ (List.getElem_mem hiy)).1
            rw [el] at hls
            rw [ep] at hps
            have HLS := Lib.hid hls
            have HPS := Lib.hid hps
            have hbx := HS.out.st.two.c1
            have hgb := (own_lt HS.out.st.erow g rfl)
            have hbl : w.heap.size < wr.heap.size := HS.out.st.blt
            clear hrd hls hps el ep e4 e5
            generalize hnm : zs[i].d.nm = nm at *
            generalize hsr : zs[i].d.src = src at *
            generalize hds : zs[i].d.dst = dst at *
            generalize hdr : zs[i].d.dir = dir at *
            go_wp2_with fail
            have HBA := Lib.hid (((Below.refl wr.heap.size wr).alloc (Nat.le_refl _) (.cells #[.string nm, .int .i64 src, .int .i64 dst, .bool dir, .slice B1 m1 d1, .slice B2 m2 d2] 42)).drew)
            have hcl1 : (cellsS zs[i].d.ls).length = zs[i].d.ls.length * 1 := by rw [cellsS_length, Nat.mul_one]
            have HCL1 := Lib.hid hcl1
            clear hcl1
            have hgn1 : ¬ g = w.heap.size := by omega
            have hgn2 : ¬ w.heap.size = g := by omega
            have hgn3 : ¬ g = wr.heap.size := by omega
            have hgn4 : ¬ wr.heap.size = g := by omega
            go_region_held3 (fun w' => w'.cell? ⟨w.heap.size, 1, none⟩ = some (.slice (some ⟨g, 0, none⟩) es.length c2) ∧ w'.cell? ⟨wr.heap.size, 4, none⟩ = some (.slice B1 m1 d1) ∧ w'.cell? ⟨wr.heap.size, 5, none⟩ = some (.slice B2 m2 d2)) (first | go_keep | (go_split_ands; refine ⟨?_, ?_, ?_⟩ <;> (refine cell_b hb1 ?_; assumption)) | (go_split_ands; refine ⟨?_, ?_, ?_⟩ <;> (refine cell_b hb2 ?_; assumption))) (first | (go_at_call 41; refine (cloneS_any _ zs[i].d.ls.length (cellsS zs[i].d.ls) _ (HLS.out.sl.below HBA.out (Nat.le_refl _)) HCL1.out (oneCellS _) HLS.out.len).mono ?_; rintro e w1 ⟨v1, rfl, ho1, hb1⟩; obtain ⟨D1, k1, rfl, _, _, _, _⟩ := (own_reads ho1).form; have HO1 := Lib.hid ho1; clear ho1) | (go_at_call 50; refine (cloneP_any _ zs[i].d.ps.length (cellsP zs[i].d.ps) _ (HPS.out.sl.below (HBA.out.trans (hb1.mono HBA.out.size)) (Nat.le_refl _)) (cellsP_length _) (oneCellP _) HPS.out.len).mono ?_; rintro e w2 ⟨v2, rfl, ho2, hb2⟩; obtain ⟨D2, k2, rfl, _, _, _, _⟩ := (own_reads ho2).form; have HO2 := Lib.hid ho2; clear ho2; have HBB := Lib.hid (HBA.out.trans ((hb1.trans (hb2.mono hb1.size)).mono HBA.out.size)); have HR2 := Lib.hid (HS.out.next HBB.out); have k1 := cell_below HBB.out hgb.2 h4; have k2 := cell_below HBB.out hgb.2 h5; have z1 := HR2.out.frozenE hyl.symm (i * 6 + 4); have z2 := HR2.out.frozenE hyl.symm (i * 6 + 5)))
            have hsz1 : ∀ k, HH (.slice A1 xs.length c1) (.slice (some ⟨g, 0, none⟩) es.length c2) w.heap.size k → k < (wr.alloc (.cells #[.string nm, .int .i64 src, .int .i64 dst, .bool dir, .slice B1 m1 d1, .slice B2 m2 d2] 42)).drew.heap.size := fun k hk => Nat.lt_of_lt_of_le (HS.out.blocks k hk) HBA.out.size
            have HK := Lib.hid (HR2.out.storeE hyl.symm hiy ⟨own_reads (own_below HO1.out hb2 (Nat.le_refl _)), HLS.out.len, HLS.out.wf⟩ (off_own HO1.out hsz1) ⟨own_reads HO2.out, HPS.out.len, HPS.out.wf⟩ (off_own HO2.out (fun k hk => Nat.lt_of_lt_of_le (hsz1 k hk) hb1.size)))
            clear hsz1 k1 k2 z1 z2 hb1 hb2 h0 h1 h2 h3 h4 h5 hbx
            go_wp2_with fail
            go_roundw
            case rel => exact ⟨i + 1, by go_num, by omega, Lib.hid ⟨_, HK.out⟩⟩
            case measure => simp [intOf]; omega
          · have hni : (es.length : Int) ≤ (i : Int) := by omega
            have ht1 := HS.out.st.two.c0
            have ht2 := HS.out.st.two.c1
            have hr1 := HS.out.res.c0
            have hr2 := HS.out.res.c1
            have hf1 := HS.out.fz 0
            have hf2 := HS.out.fz 1
            go_wp2_with fail
            refine bodyPost_ret (v := GR (.slice A1 xs.length c1) (.slice A2 es.length c2)) ?_ rfl ?_
            · simp [results, Try.results32, go_sem, hr1, hr2]
            · obtain ⟨k1, k2, k3⟩ := HS.out.done HN.out HE.out
              exact ⟨_, ys, _, zs, rfl, k1, k2, HS.out.st.nd, HS.out.st.ed, k3⟩
end Go.Proofs.Ytbolojjnkkgehaa
