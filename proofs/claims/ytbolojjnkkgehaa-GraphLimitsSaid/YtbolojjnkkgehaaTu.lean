import Derived.Test.YtbolojjnkkgehaaPln
import Derived.Deep.RegionHeld3
/-! GraphTurns: its walk. -/
namespace Go.Proofs.Ytbolojjnkkgehaa
open Go.RowKit

theorem two_set {w : World} {b : Nat} {x y : Value} (u v : Value) (h5 : w.cell? ⟨b, 0, none⟩ = some x) (h6 : w.cell? ⟨b, 1, none⟩ = some y) : TwoAt ((w.setCell ⟨b, 0, none⟩ u).setCell ⟨b, 1, none⟩ v) b u v := by
  have h7 : (w.setCell ⟨b, 0, none⟩ u).cell? ⟨b, 1, none⟩ = some y := (World.cell?_setCell_other w ⟨b, 0, none⟩ ⟨b, 1, none⟩ u (by simp)).trans h6
  exact ⟨(World.cell?_setCell_other _ ⟨b, 1, none⟩ ⟨b, 0, none⟩ v (by simp)).trans (World.cell?_setCell_same w ⟨b, 0, none⟩ u h5), World.cell?_setCell_same _ ⟨b, 1, none⟩ v h7⟩

/-- What the laws' loops keep: the graph's own cells, the index. -/
structure GS (w wr : World) (B p : Nat) (nv ev : Value) (ns : List Nd) (es : List Ed) : Prop where
  below : Below w.heap.size w wr
  two : TwoAt wr B nv ev
  idx : Index wr p ns es
theorem GS.next {w wr wr' : World} {B p : Nat} {nv ev : Value} {ns : List Nd} {es : List Ed} (h : GS w wr B p nv ev ns es) (hb : Below wr.heap.size wr wr') : GS w wr' B p nv ev ns es :=
  ⟨below_trans' h.below hb, h.two.below hb (World.block_lt_of_cell? wr _ h.two.c0), h.idx.below hb⟩

theorem right_in {xs : List NX} {es : List EX} (h : rightN xs es = 0) : ∀ k, k < es.length → inB xs.length (edD (es.map (·.d)) k).src = true ∧ inB xs.length (edD (es.map (·.d)) k).dst = true := fun k hk => by
  obtain ⟨a, b, h1, h2⟩ := right_range h (rfl : es.map (·.d) = es.map (·.d)) k hk
  have e : edD (es.map (·.d)) k = es[k].d := by simp [edD, List.getD_eq_getElem?_getD, hk]
  rw [e, h1, h2]
  simp only [inB]
  have := a.isLt
  have := b.isLt
  simp
theorem pickN_len (q : Int) (es : List Ed) (m : Nat) (i : Int) : (pickN q es m i).length ≤ 2 * m :=
  Nat.le_trans (pickL_length _ _) (Nat.le_trans (lstZ_length _ _) (tokT_length es m))
/-- Where one goes there is a node. -/
theorem pick_end {q i : Int} {es : List Ed} {m : Nat} {x : Int × Int} (hx : x ∈ pickN q es m i) : (edD es x.1.toNat).src = i ∨ (edD es x.1.toNat).dst = i := by
  obtain ⟨k, h1, h2⟩ := pickN_mem.1 hx
  have h3 := pick1_mem h2
  have e : x.1.toNat = k := by omega
  rw [e]
  rcases h3.2 with h | h
  · exact .inl h.1
  · exact .inr h.1
theorem pick_node {q i : Int} {es : List Ed} {m n : Nat} (h : ∀ k, k < m → inB n (edD es k).src = true ∧ inB n (edD es k).dst = true) {x : Int × Int} (hx : x ∈ pickN q es m i) : inB n x.2 = true := by
  obtain ⟨k, h1, h2⟩ := pickN_mem.1 hx
  rcases (pick1_mem h2).2 with ⟨_, e⟩ | ⟨_, e⟩
  · rw [e]; exact (h k h1).2
  · rw [e]; exact (h k h1).1
/-- How many there are by the first d masks. -/
def cntD (es : List Ed) (m : Nat) (i : Int) : Nat → Nat
  | 0 => 0
  | 1 => (pickN 1 es m i).length
  | 2 => (pickN 1 es m i).length + (pickN 2 es m i).length
  | _ => (pickN 1 es m i).length + (pickN 2 es m i).length + (pickN 4 es m i).length

theorem cntD1 (es : List Ed) (m : Nat) (i : Int) : cntD es m i 1 = cntD es m i 0 + (pickN 1 es m i).length := by simp [cntD]
theorem cntD2 (es : List Ed) (m : Nat) (i : Int) : cntD es m i 2 = cntD es m i 1 + (pickN 2 es m i).length := by simp [cntD]
theorem cntD3 (es : List Ed) (m : Nat) (i : Int) : cntD es m i 3 = cntD es m i 2 + (pickN 4 es m i).length := by simp [cntD]
theorem cntD_le (es : List Ed) (m : Nat) (i : Int) (hm : m ≤ 50) : ∀ d, cntD es m i d ≤ 300
  | 0 => by simp [cntD]
  | 1 => by have := pickN_len 1 es m i; simp only [cntD]; omega
  | 2 => by have := pickN_len 1 es m i; have := pickN_len 2 es m i; simp only [cntD]; omega
  | _ + 3 => by have := pickN_len 1 es m i; have := pickN_len 2 es m i; have := pickN_len 4 es m i; simp only [cntD]; omega

theorem lp_sum (es : List Ed) : ∀ l : List (Int × Int), (l.map (lpN es)).sum ≤ 2 * l.length
  | [] => by simp
  | a :: l => by
    have := lp_sum es l
    have h : lpN es a ≤ 2 := by unfold lpN; split <;> omega
    simp only [List.map_cons, List.sum_cons, List.length_cons]
    omega
theorem dl_sum (es : List Ed) : ∀ l : List (Int × Int), (l.map (dlN es)).sum ≤ l.length
  | [] => by simp
  | a :: l => by
    have := dl_sum es l
    have h : dlN es a ≤ 1 := by unfold dlN; split <;> omega
    simp only [List.map_cons, List.sum_cons, List.length_cons]
    omega
theorem endS_le (es : List Ed) (m : Nat) (hm : m ≤ 50) : ∀ n, endS es m n ≤ 200 * n
  | 0 => by simp [endS]
  | n + 1 => by
    have h1 := endS_le es m hm n
    have h2 := lp_sum es (pickN 7 es m (n : Int))
    have h3 := pickN_len 7 es m (n : Int)
    rw [endS_succ]
    omega
theorem sum_take (f : Int × Int → Nat) {l : List (Int × Int)} {k : Nat} (h : k < l.length) : ((l.take (k + 1)).map f).sum = ((l.take k).map f).sum + f (stAt l k) := by
  rw [List.take_succ_eq_append_getElem h, stAt_eq h, List.map_append, List.sum_append]
  rfl
theorem sum_drop (f : Int × Int → Nat) {l : List (Int × Int)} {k : Nat} (h : k < l.length) : ((l.drop k).map f).sum = f (stAt l k) + ((l.drop (k + 1)).map f).sum := by
  rw [List.drop_eq_getElem_cons h, stAt_eq h]
  rfl
theorem rise_at {q : Int} {es : List Ed} {i : Int} {m : Nat} {k : Nat} (h0 : k ≠ 0) (hk : k < (pickN q es m i).length) : (stAt (pickN q es m i) (k - 1)).1 < (stAt (pickN q es m i) k).1 := by
  have h := List.pairwise_iff_getElem.1 (pickN_rise q es i m) (k - 1) k (by omega) hk (by omega)
  rw [stAt_eq hk, stAt_eq (by omega)]
  exact h

set_option maxRecDepth 20000 in
set_option maxHeartbeats 4000000 in
theorem turns_any (nv : Value) (xs : List NX) (ev : Value) (es : List EX) (w : World) (hn : Nodes w nv xs) (he : Edges w ev es) :
    Calls Try.prog 3 #[GR nv ev] w fun e w' => e = .returned (.bool true) ∧ Below w.heap.size w w' := by
  obtain ⟨A, c, rfl, hlc, hcm, -, -⟩ := hn.sl.form
  obtain ⟨A', c', rfl, hlc', hcm', -, -⟩ := he.sl.form
  have hb0 := (Below.refl w.heap.size w).alloc (Nat.le_refl _) (.cells #[.slice A xs.length c, .slice A' es.length c'] 25)
  have HN := Lib.hid hn
  have HE := Lib.hid he
  have HNT := Lib.hid (hn.take 50)
  have HET := Lib.hid (he.take 50)
  have HB0 := Lib.hid hb0
  clear hn he hb0
  have hlt : w.heap.size < (w.alloc (.cells #[.slice A xs.length c, .slice A' es.length c'] 25)).heap.size := by simp
  have k0 : (w.alloc (.cells #[.slice A xs.length c, .slice A' es.length c'] 25)).cell? ⟨w.heap.size, 0, none⟩ = some (.slice A xs.length c) := by simp [go_sem]
  have k1 : (w.alloc (.cells #[.slice A xs.length c, .slice A' es.length c'] 25)).cell? ⟨w.heap.size, 1, none⟩ = some (.slice A' es.length c') := by simp [go_sem]
  have f0 : (w.alloc (.cells #[.slice A xs.length c, .slice A' es.length c'] 25)).frozen? ⟨w.heap.size, 0, none⟩ = false := by simp [go_sem]
  have f1 : (w.alloc (.cells #[.slice A xs.length c, .slice A' es.length c'] 25)).frozen? ⟨w.heap.size, 1, none⟩ = false := by simp [go_sem]
  go_enter Try.func3, Try.ntmps3
  go_wp2_with fail
  generalize w.alloc (.cells #[.slice A xs.length c, .slice A' es.length c'] 25) = w0 at *
  refine (shown_any _).mono ?_
  rintro e w1 ⟨rfl, hb1⟩
  have HB1 := Lib.hid (HB0.out.trans (hb1.mono HB0.out.size))
  have m0 := cell_below hb1 hlt k0
  have m1 := cell_below hb1 hlt k1
  have g0 := (hb1.frozen (p := ⟨w.heap.size, 0, none⟩) hlt).trans f0
  have g1 := (hb1.frozen (p := ⟨w.heap.size, 1, none⟩) hlt).trans f1
  have hlt1 := Nat.lt_of_lt_of_le hlt hb1.size
  clear k0 k1 f0 f1 hb1
  go_wp2_with fail
  refine (few_any A c xs A' c' es 50 _ (HN.out.below HB1.out (Nat.le_refl _)) (HE.out.below HB1.out (Nat.le_refl _))).mono ?_
  rintro e w2 ⟨rfl, hb2⟩
  have HB2 := Lib.hid (HB1.out.trans (hb2.mono HB1.out.size))
  have k0 := cell_below hb2 hlt1 m0
  have k1 := cell_below hb2 hlt1 m1
  have f0 := (hb2.frozen (p := ⟨w.heap.size, 0, none⟩) hlt1).trans g0
  have f1 := (hb2.frozen (p := ⟨w.heap.size, 1, none⟩) hlt1).trans g1
  have hlt2 := Nat.lt_of_lt_of_le hlt1 hb2.size
  clear m0 m1 g0 g1 hb2
  have hys : (xs.take 50).length ≤ 50 := by simp; omega
  have hzs : (es.take 50).length ≤ 50 := by simp; omega
  generalize xs.take 50 = ys at *
  generalize es.take 50 = zs at *
  go_wp2_with fail
  have hT := two_set (.slice A ys.length c) (.slice A' zs.length c') k0 k1
  have hB3 : Below w.heap.size w ((w2.setCell ⟨w.heap.size, 0, none⟩ (.slice A ys.length c)).setCell ⟨w.heap.size, 1, none⟩ (.slice A' zs.length c')) := (HB2.out.setCell (p := ⟨w.heap.size, 0, none⟩) (Nat.le_refl _) _).setCell (p := ⟨w.heap.size, 1, none⟩) (Nat.le_refl _) _
  generalize (w2.setCell ⟨w.heap.size, 0, none⟩ (.slice A ys.length c)).setCell ⟨w.heap.size, 1, none⟩ (.slice A' zs.length c') = w3 at *
  have HN3 := Lib.hid (HNT.out.below hB3 (Nat.le_refl _))
  have HE3 := Lib.hid (HET.out.below hB3 (Nat.le_refl _))
  have HB3 := Lib.hid hB3
  clear hB3 k0 k1 f0 f1
  refine (new_any _ ys _ zs _ HN3.out HE3.out).mono ?_
  rintro e w4 ⟨hb4, h4⟩
  have HB4 := Lib.hid (HB3.out.trans (hb4.mono HB3.out.size))
  have hltw : w.heap.size < w3.heap.size := World.block_lt_of_cell? w3 _ hT.c0
  have hT4 := hT.below hb4 hltw
  have k0 := hT4.c0
  have k1 := hT4.c1
  have HN4 := Lib.hid (HN3.out.below hb4 (Nat.le_refl _))
  have HE4 := Lib.hid (HE3.out.below hb4 (Nat.le_refl _))
  clear hb4 hT hltw HNT HN HE HN3 HE3
  rcases h4 with ⟨hr, rfl⟩ | ⟨hr, p, rfl, hx⟩
  · have hr1 : (rightN ys zs != 0) = true := by simpa using hr
    have HR := Lib.hid (rfl : rightN ys zs = rightN ys zs)
    clear hr
    have hcall := graphRight_any (.slice A ys.length c) ys (.slice A' zs.length c') zs w4 HN4.out HE4.out
    generalize rightN ys zs = r at *
    go_wp2_with fail
    refine hcall.mono ?_
    rintro e w5 ⟨rfl, hb5⟩
    have HB5 := Lib.hid (HB4.out.trans (hb5.mono HB4.out.size))
    clear hb5 hcall
    go_wp2_with fail
    go_ret
    exact ⟨rfl, HB5.out⟩
  · have HR := Lib.hid hr
    have HX := Lib.hid hx
    clear hr hx
    have HIN := Lib.hid (right_in HR.out)
    have HGS := Lib.hid (⟨HB4.out, hT4, HX.out⟩ : GS w w4 w.heap.size p (.slice A ys.length c) (.slice A' zs.length c') (ys.map (·.d)) (zs.map (·.d)))
    have HNL := Lib.hid (show (ys.map (·.d)).length = ys.length by simp)
    have HZL := Lib.hid (show (zs.map (·.d)).length = zs.length by simp)
    clear HB4 hT4 HX HB0 HB1 HB2 HB3
    have HED := Lib.hid (show ∀ j, j < zs.length → edD (zs.map (·.d)) j = (edAt zs j).d from fun j hj => edD_map hj)
    obtain ⟨_, _, hze, -, -, -, hre⟩ := HET.out.sl.form
    cases hze
    have HRE := Lib.hid hre
    clear hre
    generalize ys.map (·.d) = ns at *
    generalize zs.map (·.d) = ds at *
    go_wp2_with fail
    clear k0 k1
    go_loopw [6, 7] (fun v6 v7 wr => ∃ i : Nat, v7 = .int .i64 i ∧ i ≤ ys.length ∧ v6 = .int .i64 (endS ds zs.length i : Nat) ∧ Hid (GS w wr w.heap.size p (.slice A ys.length c) (.slice A' zs.length c') ns ds)) (fun _ v7 _ => ys.length - (intOf v7).toNat)
    case atStart => exact ⟨0, rfl, by omega, rfl, HGS⟩
    case round =>
      obtain ⟨i, rfl, hi, rfl, HS⟩ := hrel
      clear HGS HN4 HE4
      have k0 := HS.out.two.c0
      by_cases hin : i < ys.length
      · have hin' : (i : Int) < (ys.length : Int) := by omega
        have hi0 : (0 : Int) ≤ (i : Int) := by omega
        have HII := Lib.hid (show inB ns.length (i : Int) = true by rw [HNL.out]; simp [inB]; omega)
        go_wp2_with fail
        refine (out_any p ns ds (i : Int) 7 _ HS.out.idx).mono ?_
        rintro e w5 ⟨v5, rfl, hs5, hb5⟩
        rw [outL_in HII.out, HZL.out] at hs5
        have HS5 := Lib.hid (HS.out.next hb5)
        obtain ⟨A5, c5, rfl, hlc5, hcm5, hrd5⟩ := hs5.form
        have HRD5 := Lib.hid hrd5
        clear hb5 hs5 hrd5 k0 HS
        go_wp2_with fail
        go_loopw [9, 10] (fun v9 v10 wr => ∃ d : Nat, v10 = .int .i64 d ∧ d ≤ 3 ∧ v9 = .int .i64 (cntD ds zs.length i d : Nat) ∧ Hid (GS w wr w.heap.size p (.slice A ys.length c) (.slice A' zs.length c') ns ds ∧ Below w5.heap.size w5 wr)) (fun _ v10 _ => 3 - (intOf v10).toNat)
        case atStart => exact ⟨0, rfl, by omega, rfl, Lib.hid ⟨HS5.out, Below.refl _ _⟩⟩
        case round =>
          obtain ⟨d, rfl, hd, rfl, HD⟩ := hrel
          clear HS5
          have hdd : d = 0 ∨ d = 1 ∨ d = 2 ∨ d = 3 := by omega
          rcases hdd with rfl | rfl | rfl | rfl
          · have hcl := cntD_le ds zs.length (i : Int) hzs 0
            have hpl := Nat.le_trans (pickN_len 1 ds zs.length (i : Int)) (Nat.mul_le_mul_left 2 hzs)
            have HCN := Lib.hid (cntD1 ds zs.length (i : Int))
            have HBK := Lib.hid (fun (x : Int × Int) (h : x ∈ pickN 1 ds zs.length (i : Int)) => pickN_back (q' := 4) (show backM 1 4 by unfold backM; omega) h)
            have HNI := Lib.hid (fun (x : Int × Int) (h : x ∈ pickN 1 ds zs.length (i : Int)) => (pick_node HIN.out h : inB ys.length x.2 = true))
            go_wp2_with fail
            refine (out_any p ns ds (i : Int) 1 _ HD.out.1.idx).mono ?_
            rintro e w6 ⟨v6, rfl, hs6, hb6⟩
            rw [outL_in HII.out, HZL.out] at hs6
            have HS6 := Lib.hid (HD.out.1.next hb6)
            have HB6 := Lib.hid (below_trans' HD.out.2 hb6)
            clear hb6 HD
            generalize pickN 1 ds zs.length (i : Int) = M at *
            generalize cntD ds zs.length (i : Int) 0 = n0 at *
            obtain ⟨A6, c6, rfl, hlc6, hcm6, hrd6⟩ := hs6.form
            have HRD6 := Lib.hid hrd6
            clear hs6 hrd6
            have hcl1 : (n0 : Int) ≤ 300 := by omega
            have hpl1 : (M.length : Int) ≤ 100 := by omega
            go_wp2_with fail
            clear hcm6 hlc6
            go_loopw [12] (fun v12 wr => ∃ k : Nat, v12 = .int .i64 k ∧ k ≤ M.length ∧ Hid (GS w wr w.heap.size p (.slice A ys.length c) (.slice A' zs.length c') ns ds ∧ Below w6.heap.size w6 wr)) (fun v12 _ => M.length - (intOf v12).toNat)
            case atStart => exact ⟨0, rfl, by omega, Lib.hid ⟨HS6.out, Below.refl _ _⟩⟩
            case round =>
              obtain ⟨k, rfl, hk, HK⟩ := hrel
              clear HS6
              by_cases hkn : k < M.length
              · have hkn' : (k : Int) < (M.length : Int) := by omega
                have hk0 : (0 : Int) ≤ (k : Int) := by omega
                obtain ⟨g, o, hA, hgl, c0, c1⟩ := HRD6.out.step k hkn
                subst hA
                have hmem : stAt M k ∈ M := by rw [stAt_eq hkn]; exact List.getElem_mem hkn
                have HB2 := Lib.hid (HBK.out _ hmem)
                have HNI2 := Lib.hid (HNI.out _ hmem)
                have m0 := cell_below HK.out.2 hgl c0
                have m1 := cell_below HK.out.2 hgl c1
                clear c0 c1 hmem hgl
                generalize stAt M k = x at *
                obtain ⟨x1, x2⟩ := x
                dsimp only at m0 m1 HB2 HNI2
                have HH := Lib.hid (show hasB (outL ns.length ds x2 4) x1 (i : Int) = true by rw [outL_in (by rw [HNL.out]; exact HNI2.out), HZL.out]; exact HB2.out)
                go_wp2_with fail
                have HBD := Lib.hid ((Below.refl wr.heap.size wr).drew)
                clear HRD6
                go_region_held3 (fun w' => w'.cell? ⟨g, o + k * 2, none⟩ = some (.int .i64 x1) ∧ w'.cell? ⟨g, o + k * 2 + 1, none⟩ = some (.int .i64 x2)) (first | go_keep | (go_split_ands; refine ⟨?_, ?_⟩ <;> (refine cell_b hb7 ?_; assumption)) | (go_split_ands; refine ⟨?_, ?_⟩ <;> (refine cell_b hb8 ?_; assumption))) (first | (go_at_call 12; refine (out_any p ns ds x2 4 _ (HK.out.1.idx.below HBD.out)).mono ?_; rintro e w7 ⟨v7, rfl, hs7, hb7⟩; obtain ⟨A7, c7, rfl, -, -, -⟩ := hs7.form; have HS7 := Lib.hid hs7; clear hs7) | (go_at_call 13; refine (has_any _ _ x1 (i : Int) _ HS7.out).mono ?_; rintro e w8 ⟨rfl, hb8⟩; rw [HH.out]))
                have HB8 := Lib.hid (below_trans' HBD.out (below_trans' hb7 hb8))
                clear hb7 hb8 HS7 m0 m1
                go_wp2_with fail
                go_roundw
                case rel => exact ⟨k + 1, by go_num, by omega, Lib.hid ⟨HK.out.1.next HB8.out, below_trans' HK.out.2 HB8.out⟩⟩
                case measure => simp [intOf]; omega
              · have hkni : (M.length : Int) ≤ (k : Int) := by omega
                go_wp2_with fail
                go_roundw
                case rel => exact ⟨1, rfl, by omega, by rw [HCN.out]; go_num, Lib.hid ⟨HK.out.1, below_trans' HB6.out HK.out.2⟩⟩
                case measure => simp [intOf]
          · have hcl := cntD_le ds zs.length (i : Int) hzs 1
            have hpl := Nat.le_trans (pickN_len 2 ds zs.length (i : Int)) (Nat.mul_le_mul_left 2 hzs)
            have HCN := Lib.hid (cntD2 ds zs.length (i : Int))
            have HBK := Lib.hid (fun (x : Int × Int) (h : x ∈ pickN 2 ds zs.length (i : Int)) => pickN_back (q' := 2) (show backM 2 2 by unfold backM; omega) h)
            have HNI := Lib.hid (fun (x : Int × Int) (h : x ∈ pickN 2 ds zs.length (i : Int)) => (pick_node HIN.out h : inB ys.length x.2 = true))
            go_wp2_with fail
            refine (out_any p ns ds (i : Int) 2 _ HD.out.1.idx).mono ?_
            rintro e w6 ⟨v6, rfl, hs6, hb6⟩
            rw [outL_in HII.out, HZL.out] at hs6
            have HS6 := Lib.hid (HD.out.1.next hb6)
            have HB6 := Lib.hid (below_trans' HD.out.2 hb6)
            clear hb6 HD
            generalize pickN 2 ds zs.length (i : Int) = M at *
            generalize cntD ds zs.length (i : Int) 1 = n0 at *
            obtain ⟨A6, c6, rfl, hlc6, hcm6, hrd6⟩ := hs6.form
            have HRD6 := Lib.hid hrd6
            clear hs6 hrd6
            have hcl1 : (n0 : Int) ≤ 300 := by omega
            have hpl1 : (M.length : Int) ≤ 100 := by omega
            go_wp2_with fail
            clear hcm6 hlc6
            go_loopw [12] (fun v12 wr => ∃ k : Nat, v12 = .int .i64 k ∧ k ≤ M.length ∧ Hid (GS w wr w.heap.size p (.slice A ys.length c) (.slice A' zs.length c') ns ds ∧ Below w6.heap.size w6 wr)) (fun v12 _ => M.length - (intOf v12).toNat)
            case atStart => exact ⟨0, rfl, by omega, Lib.hid ⟨HS6.out, Below.refl _ _⟩⟩
            case round =>
              obtain ⟨k, rfl, hk, HK⟩ := hrel
              clear HS6
              by_cases hkn : k < M.length
              · have hkn' : (k : Int) < (M.length : Int) := by omega
                have hk0 : (0 : Int) ≤ (k : Int) := by omega
                obtain ⟨g, o, hA, hgl, c0, c1⟩ := HRD6.out.step k hkn
                subst hA
                have hmem : stAt M k ∈ M := by rw [stAt_eq hkn]; exact List.getElem_mem hkn
                have HB2 := Lib.hid (HBK.out _ hmem)
                have HNI2 := Lib.hid (HNI.out _ hmem)
                have m0 := cell_below HK.out.2 hgl c0
                have m1 := cell_below HK.out.2 hgl c1
                clear c0 c1 hmem hgl
                generalize stAt M k = x at *
                obtain ⟨x1, x2⟩ := x
                dsimp only at m0 m1 HB2 HNI2
                have HH := Lib.hid (show hasB (outL ns.length ds x2 2) x1 (i : Int) = true by rw [outL_in (by rw [HNL.out]; exact HNI2.out), HZL.out]; exact HB2.out)
                go_wp2_with fail
                have HBD := Lib.hid ((Below.refl wr.heap.size wr).drew)
                clear HRD6
                go_region_held3 (fun w' => w'.cell? ⟨g, o + k * 2, none⟩ = some (.int .i64 x1) ∧ w'.cell? ⟨g, o + k * 2 + 1, none⟩ = some (.int .i64 x2)) (first | go_keep | (go_split_ands; refine ⟨?_, ?_⟩ <;> (refine cell_b hb7 ?_; assumption)) | (go_split_ands; refine ⟨?_, ?_⟩ <;> (refine cell_b hb8 ?_; assumption))) (first | (go_at_call 12; refine (out_any p ns ds x2 2 _ (HK.out.1.idx.below HBD.out)).mono ?_; rintro e w7 ⟨v7, rfl, hs7, hb7⟩; obtain ⟨A7, c7, rfl, -, -, -⟩ := hs7.form; have HS7 := Lib.hid hs7; clear hs7) | (go_at_call 13; refine (has_any _ _ x1 (i : Int) _ HS7.out).mono ?_; rintro e w8 ⟨rfl, hb8⟩; rw [HH.out]))
                have HB8 := Lib.hid (below_trans' HBD.out (below_trans' hb7 hb8))
                clear hb7 hb8 HS7 m0 m1
                go_wp2_with fail
                go_roundw
                case rel => exact ⟨k + 1, by go_num, by omega, Lib.hid ⟨HK.out.1.next HB8.out, below_trans' HK.out.2 HB8.out⟩⟩
                case measure => simp [intOf]; omega
              · have hkni : (M.length : Int) ≤ (k : Int) := by omega
                go_wp2_with fail
                go_roundw
                case rel => exact ⟨2, rfl, by omega, by rw [HCN.out]; go_num, Lib.hid ⟨HK.out.1, below_trans' HB6.out HK.out.2⟩⟩
                case measure => simp [intOf]
          · have hcl := cntD_le ds zs.length (i : Int) hzs 2
            have hpl := Nat.le_trans (pickN_len 4 ds zs.length (i : Int)) (Nat.mul_le_mul_left 2 hzs)
            have HCN := Lib.hid (cntD3 ds zs.length (i : Int))
            have HBK := Lib.hid (fun (x : Int × Int) (h : x ∈ pickN 4 ds zs.length (i : Int)) => pickN_back (q' := 1) (show backM 4 1 by unfold backM; omega) h)
            have HNI := Lib.hid (fun (x : Int × Int) (h : x ∈ pickN 4 ds zs.length (i : Int)) => (pick_node HIN.out h : inB ys.length x.2 = true))
            go_wp2_with fail
            refine (out_any p ns ds (i : Int) 4 _ HD.out.1.idx).mono ?_
            rintro e w6 ⟨v6, rfl, hs6, hb6⟩
            rw [outL_in HII.out, HZL.out] at hs6
            have HS6 := Lib.hid (HD.out.1.next hb6)
            have HB6 := Lib.hid (below_trans' HD.out.2 hb6)
            clear hb6 HD
            generalize pickN 4 ds zs.length (i : Int) = M at *
            generalize cntD ds zs.length (i : Int) 2 = n0 at *
            obtain ⟨A6, c6, rfl, hlc6, hcm6, hrd6⟩ := hs6.form
            have HRD6 := Lib.hid hrd6
            clear hs6 hrd6
            have hcl1 : (n0 : Int) ≤ 300 := by omega
            have hpl1 : (M.length : Int) ≤ 100 := by omega
            go_wp2_with fail
            clear hcm6 hlc6
            go_loopw [12] (fun v12 wr => ∃ k : Nat, v12 = .int .i64 k ∧ k ≤ M.length ∧ Hid (GS w wr w.heap.size p (.slice A ys.length c) (.slice A' zs.length c') ns ds ∧ Below w6.heap.size w6 wr)) (fun v12 _ => M.length - (intOf v12).toNat)
            case atStart => exact ⟨0, rfl, by omega, Lib.hid ⟨HS6.out, Below.refl _ _⟩⟩
            case round =>
              obtain ⟨k, rfl, hk, HK⟩ := hrel
              clear HS6
              by_cases hkn : k < M.length
              · have hkn' : (k : Int) < (M.length : Int) := by omega
                have hk0 : (0 : Int) ≤ (k : Int) := by omega
                obtain ⟨g, o, hA, hgl, c0, c1⟩ := HRD6.out.step k hkn
                subst hA
                have hmem : stAt M k ∈ M := by rw [stAt_eq hkn]; exact List.getElem_mem hkn
                have HB2 := Lib.hid (HBK.out _ hmem)
                have HNI2 := Lib.hid (HNI.out _ hmem)
                have m0 := cell_below HK.out.2 hgl c0
                have m1 := cell_below HK.out.2 hgl c1
                clear c0 c1 hmem hgl
                generalize stAt M k = x at *
                obtain ⟨x1, x2⟩ := x
                dsimp only at m0 m1 HB2 HNI2
                have HH := Lib.hid (show hasB (outL ns.length ds x2 1) x1 (i : Int) = true by rw [outL_in (by rw [HNL.out]; exact HNI2.out), HZL.out]; exact HB2.out)
                go_wp2_with fail
                have HBD := Lib.hid ((Below.refl wr.heap.size wr).drew)
                clear HRD6
                go_region_held3 (fun w' => w'.cell? ⟨g, o + k * 2, none⟩ = some (.int .i64 x1) ∧ w'.cell? ⟨g, o + k * 2 + 1, none⟩ = some (.int .i64 x2)) (first | go_keep | (go_split_ands; refine ⟨?_, ?_⟩ <;> (refine cell_b hb7 ?_; assumption)) | (go_split_ands; refine ⟨?_, ?_⟩ <;> (refine cell_b hb8 ?_; assumption))) (first | (go_at_call 12; refine (out_any p ns ds x2 1 _ (HK.out.1.idx.below HBD.out)).mono ?_; rintro e w7 ⟨v7, rfl, hs7, hb7⟩; obtain ⟨A7, c7, rfl, -, -, -⟩ := hs7.form; have HS7 := Lib.hid hs7; clear hs7) | (go_at_call 13; refine (has_any _ _ x1 (i : Int) _ HS7.out).mono ?_; rintro e w8 ⟨rfl, hb8⟩; rw [HH.out]))
                have HB8 := Lib.hid (below_trans' HBD.out (below_trans' hb7 hb8))
                clear hb7 hb8 HS7 m0 m1
                go_wp2_with fail
                go_roundw
                case rel => exact ⟨k + 1, by go_num, by omega, Lib.hid ⟨HK.out.1.next HB8.out, below_trans' HK.out.2 HB8.out⟩⟩
                case measure => simp [intOf]; omega
              · have hkni : (M.length : Int) ≤ (k : Int) := by omega
                go_wp2_with fail
                go_roundw
                case rel => exact ⟨3, rfl, by omega, by rw [HCN.out]; go_num, Lib.hid ⟨HK.out.1, below_trans' HB6.out HK.out.2⟩⟩
                case measure => simp [intOf]
          · clear HII HIN
            have HCT := Lib.hid (show cntD ds zs.length (i : Int) 3 = (pickN 7 ds zs.length (i : Int)).length + (((pickN 7 ds zs.length (i : Int)).drop 0).map (dlN ds)).sum by rw [List.drop_zero, ← pickN_count]; simp [cntD])
            have HES := Lib.hid (endS_succ ds zs.length i)
            have hel := endS_le ds zs.length hzs i
            have hpl := Nat.le_trans (pickN_len 7 ds zs.length (i : Int)) (Nat.mul_le_mul_left 2 hzs)
            have HRI := Lib.hid (fun (k : Nat) (h0 : k ≠ 0) (hk : k < (pickN 7 ds zs.length (i : Int)).length) => rise_at h0 hk)
            have HLT := Lib.hid (fun (x : Int × Int) (h : x ∈ pickN 7 ds zs.length (i : Int)) => pickN_lt h)
            have HEN := Lib.hid (fun (x : Int × Int) (h : x ∈ pickN 7 ds zs.length (i : Int)) => pick_end h)
            generalize pickN 7 ds zs.length (i : Int) = L at *
            generalize endS ds zs.length i = s0 at *
            rw [HCT.out]
            have HD5 := HD
            clear HCT HD
            go_wp2_with fail
            go_loopw [6, 9, 14] (fun v6 v9 v14 wr => ∃ k : Nat, v14 = .int .i64 k ∧ k ≤ L.length ∧ v6 = .int .i64 (s0 + ((L.take k).map (lpN ds)).sum : Nat) ∧ v9 = .int .i64 (L.length + ((L.drop k).map (dlN ds)).sum : Nat) ∧ Hid (GS w wr w.heap.size p (.slice A ys.length c) (.slice A' zs.length c') ns ds ∧ Below w5.heap.size w5 wr)) (fun _ _ v14 _ => L.length - (intOf v14).toNat)
            case atStart => exact ⟨0, rfl, by omega, by simp, rfl, HD5⟩
            case round =>
              obtain ⟨k, rfl, hk, rfl, rfl, HK⟩ := hrel
              clear HD5
              by_cases hkn : k < L.length
              · have hkn' : (k : Int) < (L.length : Int) := by omega
                have hk0 : (0 : Int) ≤ (k : Int) := by omega
                obtain ⟨g, o, hA, hgl, c0, c1⟩ := HRD5.out.step k hkn
                subst hA
                have hmem : stAt L k ∈ L := by rw [stAt_eq hkn]; exact List.getElem_mem hkn
                have hlt := HLT.out _ hmem
                have hen := HEN.out _ hmem
                have m0 := cell_below HK.out.2 hgl c0
                have HTK := Lib.hid (sum_take (lpN ds) hkn)
                have HDR := Lib.hid (sum_drop (dlN ds) hkn)
                have hb1 := lp_sum ds (L.take k)
                have hb2 := dl_sum ds (L.drop (k + 1))
                simp only [List.length_take, List.length_drop] at hb1 hb2
                have HRK := Lib.hid (fun h0 : k ≠ 0 => HRI.out k h0 hkn)
                clear c0 c1 hmem hgl
                generalize stAt L k = x at *
                obtain ⟨x1, x2⟩ := x
                dsimp only at m0 hlt hen HRK
                obtain ⟨j, rfl⟩ : ∃ j : Nat, x1 = (j : Int) := ⟨x1.toNat, by omega⟩
                have hjz : j < zs.length := by omega
                have hji : (j : Int) < (zs.length : Int) := by omega
                have hj0 : (0 : Int) ≤ (j : Int) := by omega
                obtain ⟨b, q, hA, hbl, e0, e1, e2, e3, e4, e5⟩ := HRE.out.edgeA j hjz
                subst hA
                have r0 := cell_below HK.out.1.below hbl e0
                have r1 := cell_below HK.out.1.below hbl e1
                have r2 := cell_below HK.out.1.below hbl e2
                have r3 := cell_below HK.out.1.below hbl e3
                have r4 := cell_below HK.out.1.below hbl e4
                have r5 := cell_below HK.out.1.below hbl e5
                obtain ⟨A1, n1, d1, A2, n2, d2, s4, s5⟩ := HET.out.slices hjz
                rw [s4] at r4
                rw [s5] at r5
                have HDL := Lib.hid (show dlN ds ((j : Int), x2) = if (edAt zs j).d.src = (edAt zs j).d.dst ∧ (edAt zs j).d.dir = true then 1 else 0 by rw [← HED.out j hjz]; rfl)
                have HLP := Lib.hid (show lpN ds ((j : Int), x2) = if (edAt zs j).d.src = (edAt zs j).d.dst then 2 else 1 by rw [← HED.out j hjz]; rfl)
                rw [show ((j : Int)).toNat = j from rfl, HED.out j hjz] at hen
                clear e0 e1 e2 e3 e4 e5 s4 s5 hbl
                generalize (edAt zs j).d = ed at *
                obtain ⟨nm, ea, eb, dir, els, eps⟩ := ed
                dsimp only at r0 r1 r2 r3 hen HDL HLP
                have k1 := HK.out.1.two.c1
                have hcs : (ea = (i : Int) ∧ eb = (i : Int)) ∨ (ea = (i : Int) ∧ eb ≠ (i : Int)) ∨ (ea ≠ (i : Int) ∧ eb = (i : Int)) := by
                  by_cases h1 : ea = (i : Int)
                  · by_cases h2 : eb = (i : Int)
                    · exact .inl ⟨h1, h2⟩
                    · exact .inr (.inl ⟨h1, h2⟩)
                  · rcases hen with h2 | h2
                    · exact absurd h2 h1
                    · exact .inr (.inr ⟨h1, h2⟩)
                have hb3 : ((L.take k).map (lpN ds)).sum ≤ 200 := by omega
                have hb4 : ((L.drop (k + 1)).map (dlN ds)).sum ≤ 100 := by omega
                have hgW : g < wr.heap.size := World.block_lt_of_cell? wr _ m0
                have hbW : b < wr.heap.size := World.block_lt_of_cell? wr _ r0
                have hBW : w.heap.size < wr.heap.size := World.block_lt_of_cell? wr _ k1
                clear hen hb1 hb2 HED HLT HEN hlt hcm hcm' hlc hlc' hcm5 hlc5
                generalize ((L.take k).map (lpN ds)).sum = T at *
                have hb5 : (T : Int) ≤ 200 := by omega
                have hb6 : (L.length : Int) ≤ 100 := by omega
                have hb7 : (s0 : Int) ≤ 10000 := by omega
                by_cases h0 : k = 0
                · clear HRK HRI
                  subst h0
                  simp only [Nat.zero_mul, Nat.add_zero] at m0
                  rcases hcs with ⟨rfl, rfl⟩ | ⟨rfl, h1⟩ | ⟨h1, rfl⟩
                  · have hlp : lpN ds ((j : Int), x2) = 2 := by rw [HLP.out, if_pos rfl]
                    cases dir with
                    | false =>
                      have hdl : dlN ds ((j : Int), x2) = 0 := by rw [HDL.out]; simp
                      rw [HDR.out, hdl]
                      clear HDR HDL HLP hdl
                      generalize hR : ((L.drop (0 + 1)).map (dlN ds)).sum = R at *
                      have HRR := Lib.hid hR
                      clear hR
                      go_wp2_with fail
                      go_region
                      go_wp2_with fail
                      go_quiet (fail)
                      go_wp2_with fail
                      go_roundw
                      case rel => exact ⟨0 + 1, by go_num, by omega, by rw [HTK.out, hlp]; go_num, by rw [HRR.out]; go_num, Lib.hid ⟨HK.out.1.next (below_drewN ((Below.refl wr.heap.size wr).alloc (Nat.le_refl _) _) _), below_trans' HK.out.2 (below_drewN ((Below.refl wr.heap.size wr).alloc (Nat.le_refl _) _) _)⟩⟩
                      case measure => simp [intOf]; omega
                    | true =>
                      have hdl : dlN ds ((j : Int), x2) = 1 := by rw [HDL.out]; simp
                      rw [HDR.out, hdl]
                      clear HDR HDL HLP hdl
                      generalize hR : ((L.drop (0 + 1)).map (dlN ds)).sum = R at *
                      have HRR := Lib.hid hR
                      clear hR
                      go_wp2_with fail
                      go_region
                      go_wp2_with fail
                      go_quiet (fail)
                      go_wp2_with fail
                      go_roundw
                      case rel => exact ⟨0 + 1, by go_num, by omega, by rw [HTK.out, hlp]; go_num, by rw [HRR.out]; go_num, Lib.hid ⟨HK.out.1.next (below_drewN ((Below.refl wr.heap.size wr).alloc (Nat.le_refl _) _) _), below_trans' HK.out.2 (below_drewN ((Below.refl wr.heap.size wr).alloc (Nat.le_refl _) _) _)⟩⟩
                      case measure => simp [intOf]; omega
                  · have hlp : lpN ds ((j : Int), x2) = 1 := by rw [HLP.out, if_neg (by omega)]
                    have hdl : dlN ds ((j : Int), x2) = 0 := by rw [HDL.out, if_neg (by omega)]
                    have t1 : ((i : Int) == eb) = false := by simp; omega
                    rw [HDR.out, hdl]
                    clear HDR HDL HLP hdl h1
                    generalize hR : ((L.drop (0 + 1)).map (dlN ds)).sum = R at *
                    have HRR := Lib.hid hR
                    clear hR
                    go_wp2_with fail
                    go_region
                    go_wp2_with fail
                    go_quiet (fail)
                    go_wp2_with fail
                    go_roundw
                    case rel => exact ⟨0 + 1, by go_num, by omega, by rw [HTK.out, hlp]; go_num, by rw [HRR.out]; go_num, Lib.hid ⟨HK.out.1.next (below_drewN ((Below.refl wr.heap.size wr).alloc (Nat.le_refl _) _) _), below_trans' HK.out.2 (below_drewN ((Below.refl wr.heap.size wr).alloc (Nat.le_refl _) _) _)⟩⟩
                    case measure => simp [intOf]; omega
                  · have hlp : lpN ds ((j : Int), x2) = 1 := by rw [HLP.out, if_neg (by omega)]
                    have hdl : dlN ds ((j : Int), x2) = 0 := by rw [HDL.out, if_neg (by omega)]
                    have t1 : (ea == (i : Int)) = false := by simp; omega
                    have t2 : (ea != (i : Int)) = true := by simp; omega
                    rw [HDR.out, hdl]
                    clear HDR HDL HLP hdl h1
                    generalize hR : ((L.drop (0 + 1)).map (dlN ds)).sum = R at *
                    have HRR := Lib.hid hR
                    clear hR
                    go_wp2_with fail
                    go_region
                    go_wp2_with fail
                    go_quiet (fail)
                    go_wp2_with fail
                    go_roundw
                    case rel => exact ⟨0 + 1, by go_num, by omega, by rw [HTK.out, hlp]; go_num, by rw [HRR.out]; go_num, Lib.hid ⟨HK.out.1.next (below_drewN ((Below.refl wr.heap.size wr).alloc (Nat.le_refl _) _) _), below_trans' HK.out.2 (below_drewN ((Below.refl wr.heap.size wr).alloc (Nat.le_refl _) _) _)⟩⟩
                    case measure => simp [intOf]; omega
                · have hprev := HRK.out h0
                  have hkp : (0 : Int) < (k : Int) := by omega
                  have hpn : decide (0 < k) = true := by simp; omega
                  have him : ((k - 1 : Nat) : Int) = (k : Int) - 1 := by omega
                  obtain ⟨g', o', hA', hgl', c0', c1'⟩ := HRD5.out.step (k - 1) (by omega)
                  cases hA'
                  have m0' := cell_below HK.out.2 hgl' c0'
                  clear c0' c1' hgl' HRK HRI h0
                  generalize stAt L (k - 1) = y at *
                  obtain ⟨y1, y2⟩ := y
                  dsimp only at m0' hprev
                  have hpj : decide ((j : Int) ≤ y1) = false := by simp; omega
                  rcases hcs with ⟨rfl, rfl⟩ | ⟨rfl, h1⟩ | ⟨h1, rfl⟩
                  · have hlp : lpN ds ((j : Int), x2) = 2 := by rw [HLP.out, if_pos rfl]
                    cases dir with
                    | false =>
                      have hdl : dlN ds ((j : Int), x2) = 0 := by rw [HDL.out]; simp
                      rw [HDR.out, hdl]
                      clear HDR HDL HLP hdl
                      generalize hR : ((L.drop (k + 1)).map (dlN ds)).sum = R at *
                      have HRR := Lib.hid hR
                      clear hR
                      go_wp2_with fail
                      go_region
                      go_wp2_with fail
                      go_quiet (fail)
                      go_wp2_with fail
                      go_roundw
                      case rel => exact ⟨k + 1, by go_num, by omega, by rw [HTK.out, hlp]; go_num, by rw [HRR.out]; go_num, Lib.hid ⟨HK.out.1.next (below_drewN ((Below.refl wr.heap.size wr).alloc (Nat.le_refl _) _) _), below_trans' HK.out.2 (below_drewN ((Below.refl wr.heap.size wr).alloc (Nat.le_refl _) _) _)⟩⟩
                      case measure => simp [intOf]; omega
                    | true =>
                      have hdl : dlN ds ((j : Int), x2) = 1 := by rw [HDL.out]; simp
                      rw [HDR.out, hdl]
                      clear HDR HDL HLP hdl
                      generalize hR : ((L.drop (k + 1)).map (dlN ds)).sum = R at *
                      have HRR := Lib.hid hR
                      clear hR
                      go_wp2_with fail
                      go_region
                      go_wp2_with fail
                      go_quiet (fail)
                      go_wp2_with fail
                      go_roundw
                      case rel => exact ⟨k + 1, by go_num, by omega, by rw [HTK.out, hlp]; go_num, by rw [HRR.out]; go_num, Lib.hid ⟨HK.out.1.next (below_drewN ((Below.refl wr.heap.size wr).alloc (Nat.le_refl _) _) _), below_trans' HK.out.2 (below_drewN ((Below.refl wr.heap.size wr).alloc (Nat.le_refl _) _) _)⟩⟩
                      case measure => simp [intOf]; omega
                  · have hlp : lpN ds ((j : Int), x2) = 1 := by rw [HLP.out, if_neg (by omega)]
                    have hdl : dlN ds ((j : Int), x2) = 0 := by rw [HDL.out, if_neg (by omega)]
                    have t1 : ((i : Int) == eb) = false := by simp; omega
                    rw [HDR.out, hdl]
                    clear HDR HDL HLP hdl h1
                    generalize hR : ((L.drop (k + 1)).map (dlN ds)).sum = R at *
                    have HRR := Lib.hid hR
                    clear hR
                    go_wp2_with fail
                    go_region
                    go_wp2_with fail
                    go_quiet (fail)
                    go_wp2_with fail
                    go_roundw
                    case rel => exact ⟨k + 1, by go_num, by omega, by rw [HTK.out, hlp]; go_num, by rw [HRR.out]; go_num, Lib.hid ⟨HK.out.1.next (below_drewN ((Below.refl wr.heap.size wr).alloc (Nat.le_refl _) _) _), below_trans' HK.out.2 (below_drewN ((Below.refl wr.heap.size wr).alloc (Nat.le_refl _) _) _)⟩⟩
                    case measure => simp [intOf]; omega
                  · have hlp : lpN ds ((j : Int), x2) = 1 := by rw [HLP.out, if_neg (by omega)]
                    have hdl : dlN ds ((j : Int), x2) = 0 := by rw [HDL.out, if_neg (by omega)]
                    have t1 : (ea == (i : Int)) = false := by simp; omega
                    have t2 : (ea != (i : Int)) = true := by simp; omega
                    rw [HDR.out, hdl]
                    clear HDR HDL HLP hdl h1
                    generalize hR : ((L.drop (k + 1)).map (dlN ds)).sum = R at *
                    have HRR := Lib.hid hR
                    clear hR
                    go_wp2_with fail
                    go_region
                    go_wp2_with fail
                    go_quiet (fail)
                    go_wp2_with fail
                    go_roundw
                    case rel => exact ⟨k + 1, by go_num, by omega, by rw [HTK.out, hlp]; go_num, by rw [HRR.out]; go_num, Lib.hid ⟨HK.out.1.next (below_drewN ((Below.refl wr.heap.size wr).alloc (Nat.le_refl _) _) _), below_trans' HK.out.2 (below_drewN ((Below.refl wr.heap.size wr).alloc (Nat.le_refl _) _) _)⟩⟩
                    case measure => simp [intOf]; omega
              · have hkni : (L.length : Int) ≤ (k : Int) := by omega
                obtain rfl : k = L.length := by omega
                rw [List.drop_length, List.take_length]
                have hb1 := lp_sum ds L
                simp only [List.map_nil, List.sum_nil, Nat.add_zero]
                clear HRI HLT HEN HRE HED HET hcm hcm' hlc hlc' hcm5 hlc5 hkn
                generalize (L.map (lpN ds)).sum = T at *
                have hb5 : (T : Int) ≤ 200 := by omega
                have hb6 : (L.length : Int) ≤ 100 := by omega
                have hb7 : (s0 : Int) ≤ 10000 := by omega
                go_wp2_with fail
                go_roundw
                case rel => exact ⟨i + 1, by go_num, by omega, by rw [HES.out], HK.out.1⟩
                case measure => simp [intOf]; omega
      · have hni : (ys.length : Int) ≤ (i : Int) := by omega
        obtain rfl : i = ys.length := by omega
        rw [endS_all ds ys.length zs.length HIN.out]
        have k1 := HS.out.two.c1
        have hb6 : (zs.length : Int) ≤ 50 := by omega
        clear HRE HED HET hcm hcm' hlc hlc' HIN
        go_wp2_with fail
        go_ret
        exact ⟨rfl, HS.out.below⟩
end Go.Proofs.Ytbolojjnkkgehaa
