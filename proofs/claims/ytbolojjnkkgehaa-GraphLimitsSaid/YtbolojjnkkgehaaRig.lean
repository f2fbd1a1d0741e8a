import Derived.Test.YtbolojjnkkgehaaIdx
import Derived.Deep.CutBlock
namespace Go.Proofs.Ytbolojjnkkgehaa
open Go.RowKit Go.WideMaps Go.Maps

def distB (ns : List ByteArray) : Bool := Maps.size (mapK ns ns.length) == ns.length
def nodeB (d : Nd) : Bool := elemB d.nm d.ls d.ps
def inB (n : Nat) (x : Int) : Bool := decide (0 ≤ x) && decide (x < (n : Int))
def edgeB (n : Nat) (d : Ed) : Bool := elemB d.nm d.ls d.ps && (inB n d.src && inB n d.dst)
def startB (xs : List NX) (es : List EX) : Bool := distB (xs.map (·.d.nm)) && distB (es.map (·.d.nm))
def okN (xs : List NX) (es : List EX) (i : Nat) : Bool := startB xs es && (List.range i).all fun j => nodeB (ndAt xs j).d
def okE (xs : List NX) (es : List EX) (i : Nat) : Bool := okN xs es xs.length && (List.range i).all fun j => edgeB xs.length (edAt es j).d
def rightN (xs : List NX) (es : List EX) : Int := if 1000 < xs.length ∨ 1000 < es.length then 6 else if okE xs es es.length then 0 else 1
theorem okN_succ (xs : List NX) (es : List EX) (i : Nat) : okN xs es (i + 1) = (okN xs es i && nodeB (ndAt xs i).d) := by simp [okN, List.range_succ, List.all_append, Bool.and_assoc]
theorem okE_succ (xs : List NX) (es : List EX) (i : Nat) : okE xs es (i + 1) = (okE xs es i && edgeB xs.length (edAt es i).d) := by simp [okE, List.range_succ, List.all_append, Bool.and_assoc]
theorem okN_zero (xs : List NX) (es : List EX) : okN xs es 0 = startB xs es := by simp [okN]
theorem okE_zero (xs : List NX) (es : List EX) : okE xs es 0 = okN xs es xs.length := by simp [okE]

theorem map_len {w : World} {b : Nat} {ns : List ByteArray} {k : Nat} (h : MapAt w b ns k) (n : Nat) (ty : TypeId) : (Builtin.len_ #[75] ty #[.map (some b)]).run Try.prog (w.drewN n) = .ok (.int .i64 (Maps.size (mapK ns k))) (w.drewN n) :=
  World.ownsMap.len (MapAt.below h (below_drewN (Below.refl w.heap.size w) n) h.lt) Try.underlying75 ty

/-- What Right's loops keep. -/
structure RSt (w w' : World) (p : Nat) (nv ev : Value) (mn me : Nat) : Prop where
  below : Below w.heap.size w w'
  two : TwoAt w' w.heap.size nv ev
  idx : IdxAt w' p nv ev mn me (.slice none 0 0)
theorem RSt.next {w w' w'' : World} {p : Nat} {nv ev : Value} {mn me : Nat} (h : RSt w w' p nv ev mn me) (hb : Below w'.heap.size w' w'') : RSt w w'' p nv ev mn me :=
  ⟨below_trans' h.below hb, h.two.below hb (World.block_lt_of_cell? w' _ h.two.c0), h.idx.below hb h.idx.lt⟩

set_option maxHeartbeats 2000000 in
/-- graph.Right -/
theorem graphRight_any (nv : Value) (xs : List NX) (ev : Value) (es : List EX) (w : World) (hn : Nodes w nv xs) (he : Edges w ev es) :
    Calls Try.prog 11 #[GR nv ev] w fun e w' => e = .returned (.int .i64 (rightN xs es)) ∧ Below w.heap.size w w' := by
  have HN := Lib.hid hn
  have HE := Lib.hid he
  obtain ⟨A, c, rfl, hlc, hcm, -, hrd⟩ := hn.sl.form
  obtain ⟨A', c', rfl, hlc', hcm', -, hrd'⟩ := he.sl.form
  have HRD := Lib.hid hrd
  have HRD' := Lib.hid hrd'
  clear hrd hrd' hn he
  by_cases hx : 1000 < xs.length
  · have HF := Lib.hid (show rightN xs es = 6 by simp [rightN, hx])
    have hx1 : (1000 : Int) < (xs.length : Int) := by omega
    clear hx
    go_enter Try.func11, Try.ntmps11
    go_wp2_with fail
    go_ret
    exact ⟨ret_int HF.out.symm, (Below.refl _ _).alloc (Nat.le_refl _) _⟩
  by_cases hy : 1000 < es.length
  · have HF := Lib.hid (show rightN xs es = 6 by simp [rightN, hy])
    have hx1 : (xs.length : Int) ≤ (1000 : Int) := by omega
    have hy1 : (1000 : Int) < (es.length : Int) := by omega
    clear hx hy
    go_enter Try.func11, Try.ntmps11
    go_wp2_with fail
    go_ret
    exact ⟨ret_int HF.out.symm, (Below.refl _ _).alloc (Nat.le_refl _) _⟩
  have HF := Lib.hid (show rightN xs es = if okE xs es es.length then 0 else 1 by simp [rightN, hx, hy])
  have hx1 : (xs.length : Int) ≤ (1000 : Int) := by omega
  have hy1 : (es.length : Int) ≤ (1000 : Int) := by omega
  have HST := Lib.hid (okN_zero xs es)
  have HS1 := Lib.hid (show startB xs es = (distB (xs.map (·.d.nm)) && distB (es.map (·.d.nm))) from rfl)
  clear hx hy
  have hb0 : Below w.heap.size w (w.alloc (.cells #[.slice A xs.length c, .slice A' es.length c'] 25)) := (Below.refl _ _).alloc (Nat.le_refl _) _
  have HB0 := Lib.hid hb0
  clear hb0
  go_enter Try.func11, Try.ntmps11
  go_wp2_with fail
  refine (indexed_any _ xs _ es _ (HN.out.below HB0.out (Nat.le_refl _)) (HE.out.below HB0.out (Nat.le_refl _))).mono ?_
  rintro e w1 ⟨p, mn, me, rfl, hix, hmn, hme, hp1, hm1, hm2, hb1⟩
  have hix1 := hix.c2
  have hix2 := hix.c3
  have hc0 := (hb1.cell (p := ⟨w.heap.size, 0, none⟩) (by simp)).trans (show _ = some (Value.slice A xs.length c) by simp [go_sem])
  have hc1 := (hb1.cell (p := ⟨w.heap.size, 1, none⟩) (by simp)).trans (show _ = some (Value.slice A' es.length c') by simp [go_sem])
  have HIX := Lib.hid hix
  have HB1 := Lib.hid (HB0.out.trans (hb1.mono HB0.out.size))
  have hl1 := map_len hmn
  have hl2 := map_len hme
  have HT1 := Lib.hid (show TwoAt w1 w.heap.size (.slice A xs.length c) (.slice A' es.length c') from ⟨hc0, hc1⟩)
  clear hix hb1 hp1 hm1 hm2 hmn hme
  have HD1 := Lib.hid (show (Maps.size (mapK (xs.map (·.d.nm)) xs.length) == xs.length) = distB (xs.map (·.d.nm)) by unfold distB; simp)
  have HD2 := Lib.hid (show (Maps.size (mapK (es.map (·.d.nm)) es.length) == es.length) = distB (es.map (·.d.nm)) by unfold distB; simp)
  generalize Maps.size (mapK (xs.map (·.d.nm)) xs.length) = s1 at *
  generalize Maps.size (mapK (es.map (·.d.nm)) es.length) = s2 at *
  go_wp2_with fail
  go_cut [4] from 21 to 40 (fun v4 wx => v4 = .bool (startB xs es) ∧ Hid (RSt w wx p (.slice A xs.length c) (.slice A' es.length c') mn me))
  case first =>
    have hst : ∀ n, RSt w (w1.drewN n) p (.slice A xs.length c) (.slice A' es.length c') mn me := fun n => RSt.next ⟨HB1.out, HT1.out, HIX.out⟩ (below_drewN (Below.refl w1.heap.size w1) n)
    have HSTT := Lib.hid hst
    clear hst
    cases hs : ((s1 : Int) == (xs.length : Int)) with
    | false =>
      have hd : distB (xs.map (·.d.nm)) = false := by rw [← HD1.out, beq_eq_false_iff_ne]; rw [beq_eq_false_iff_ne] at hs; omega
      have HV := Lib.hid (show startB xs es = false by rw [HS1.out, hd]; rfl)
      clear hd
      go_quiet (fail)
      go_wp2_with fail
      go_meet
      case rel => exact ⟨by rw [HV.out], Lib.hid (HSTT.out _)⟩
    | true =>
      have hd : distB (xs.map (·.d.nm)) = true := by rw [← HD1.out, beq_iff_eq]; rw [beq_iff_eq] at hs; omega
      have HV := Lib.hid (show startB xs es = ((s2 : Int) == (es.length : Int)) by
        rw [HS1.out, hd, ← HD2.out, Bool.true_and, Bool.eq_iff_iff]; simp; omega)
      clear hd
      go_quiet (fail)
      go_wp2_with fail
      go_meet
      case rel => exact ⟨by rw [HV.out], Lib.hid (HSTT.out _)⟩
  case rest =>
    obtain ⟨rfl, H⟩ := hcut
    rw [← HST.out]
    have H0 := Lib.hid H.out
    have ht0 := H.out.two.c0
    clear H HST HS1 HD1 HD2 hix1 hix2 hl1 hl2 hc0 hc1 HIX HB1 HT1
    go_wp2_with fail
    go_loopw [4, 44] (fun v4 v44 wr => ∃ i : Nat, v44 = .int .i64 i ∧ i ≤ xs.length ∧ v4 = .bool (okN xs es i) ∧ Hid (RSt w wr p (.slice A xs.length c) (.slice A' es.length c') mn me)) (fun _ v44 _ => xs.length - (intOf v44).toNat)
    case atStart => exact ⟨0, rfl, by omega, rfl, H0⟩
    case round =>
      obtain ⟨i, rfl, hi, rfl, HR⟩ := hrel
      clear H0 ht0
      by_cases hin : i < xs.length
      · have hin' : (i : Int) < (xs.length : Int) := by omega
        have hi0 : (0 : Int) ≤ (i : Int) := by omega
        obtain ⟨b, o, hA, hbl, hc0, hc1, hc2⟩ := HRD.out.nodeA i hin
        subst hA
        have h0 := cell_below HR.out.below hbl hc0
        have h1 := cell_below HR.out.below hbl hc1
        have h2 := cell_below HR.out.below hbl hc2
        have hmem : ndAt xs i ∈ xs := by rw [ndAt_eq hin]; exact List.getElem_mem hin
        have hls := HN.out.ls _ hmem
        have hps := HN.out.ps _ hmem
        obtain ⟨A1, n1, c1, A2, n2, c2, e1, e2⟩ := HN.out.slices hin
        rw [e1] at h1 hls
        rw [e2] at h2 hps
        clear hc0 hc1 hc2 e1 e2 hmem
        have HS := Lib.hid (okN_succ xs es i)
        generalize (ndAt xs i).d = nd at *
        obtain ⟨nm, ls, ps⟩ := nd
        have HLS := Lib.hid hls
        have HPS := Lib.hid hps
        clear hls hps
        dsimp only at h0 h1 h2
        have HBA := Lib.hid ((Below.refl wr.heap.size wr).alloc (Nat.le_refl _) (.cells #[.string nm, .slice A1 n1 c1, .slice A2 n2 c2] 46))
        cases hok : okN xs es i with
        | false =>
          have HV := Lib.hid (show okN xs es (i + 1) = false by rw [HS.out, hok]; rfl)
          clear hok
          go_wp2_with fail
          go_roundw
          case rel => exact ⟨i + 1, by go_num, by omega, by rw [HV.out], Lib.hid (HR.out.next HBA.out)⟩
          case measure => simp [intOf]; omega
        | true =>
          have HV := Lib.hid (show okN xs es (i + 1) = elemB nm ls ps by rw [HS.out, hok]; rfl)
          clear hok
          go_wp2_with fail
          have hba := below_trans' HR.out.below HBA.out
          refine (element_any nm _ ls _ ps _ (HLS.out.below hba (Nat.le_refl _)) (HPS.out.below hba (Nat.le_refl _))).mono ?_
          rintro e w2 ⟨rfl, hb2⟩
          have HK := Lib.hid (HR.out.next (below_trans' HBA.out hb2))
          clear hb2 hba
          go_wp2_with fail
          go_roundw
          case rel => exact ⟨i + 1, by go_num, by omega, by rw [HV.out], HK⟩
          case measure => simp [intOf]; omega
      · have hni : (xs.length : Int) ≤ (i : Int) := by omega
        obtain rfl : i = xs.length := by omega
        have ht1 := HR.out.two.c1
        rw [← okE_zero]
        go_wp2_with fail
        go_loopw [4, 62] (fun v4 v62 wr2 => ∃ i : Nat, v62 = .int .i64 i ∧ i ≤ es.length ∧ v4 = .bool (okE xs es i) ∧ Hid (RSt w wr2 p (.slice A xs.length c) (.slice A' es.length c') mn me)) (fun _ v62 _ => es.length - (intOf v62).toNat)
        case atStart => exact ⟨0, rfl, by omega, rfl, HR⟩
        case round =>
          obtain ⟨i, rfl, hi, rfl, HR2⟩ := hrel
          clear HR ht1
          have HR := HR2
          clear HR2
          by_cases hin : i < es.length
          · have hin' : (i : Int) < (es.length : Int) := by omega
            have hi0 : (0 : Int) ≤ (i : Int) := by omega
            obtain ⟨b, o, hA, hbl, hc0, hc1, hc2, hc3, hc4, hc5⟩ := HRD'.out.edgeA i hin
            subst hA
            have h0 := cell_below HR.out.below hbl hc0
            have h1 := cell_below HR.out.below hbl hc1
            have h2 := cell_below HR.out.below hbl hc2
            have h3 := cell_below HR.out.below hbl hc3
            have h4 := cell_below HR.out.below hbl hc4
            have h5 := cell_below HR.out.below hbl hc5
            have hmem : edAt es i ∈ es := by rw [edAt_eq hin]; exact List.getElem_mem hin
            have hls := HE.out.ls _ hmem
            have hps := HE.out.ps _ hmem
            obtain ⟨A1, n1, c1, A2, n2, c2, e1, e2⟩ := HE.out.slices hin
            rw [e1] at h4 hls
            rw [e2] at h5 hps
            clear hc0 hc1 hc2 hc3 hc4 hc5 e1 e2 hmem
            have HS := Lib.hid (okE_succ xs es i)
            generalize (edAt es i).d = nd at *
            obtain ⟨nm, src, dst, dir, ls, ps⟩ := nd
            have HLS := Lib.hid hls
            have HPS := Lib.hid hps
            clear hls hps
            dsimp only at h0 h1 h2 h3
            have HBA := Lib.hid ((Below.refl wr.heap.size wr).alloc (Nat.le_refl _) (.cells #[.string nm, .int .i64 src, .int .i64 dst, .bool dir, .slice A1 n1 c1, .slice A2 n2 c2] 42))
            have HED := Lib.hid (show edgeB xs.length ⟨nm, src, dst, dir, ls, ps⟩ = (elemB nm ls ps && (inB xs.length src && inB xs.length dst)) from rfl)
            cases hok : okE xs es i with
            | false =>
              have HV := Lib.hid (show okE xs es (i + 1) = false by rw [HS.out, hok]; rfl)
              clear hok
              go_wp2_with fail
              go_roundw
              case rel => exact ⟨i + 1, by go_num, by omega, by rw [HV.out], Lib.hid (HR.out.next HBA.out)⟩
              case measure => simp [intOf]; omega
            | true =>
              have HV0 := Lib.hid (show okE xs es (i + 1) = (elemB nm ls ps && (inB xs.length src && inB xs.length dst)) by rw [HS.out, hok, HED.out]; rfl)
              clear hok
              cases h6 : elemB nm ls ps with
              | false =>
                have HV := Lib.hid (show okE xs es (i + 1) = false by rw [HV0.out, h6]; rfl)
                have H6 := Lib.hid h6
                clear h6
                go_wp2_with fail
                have hba := below_trans' HR.out.below HBA.out
                refine (element_any nm _ ls _ ps _ (HLS.out.below hba (Nat.le_refl _)) (HPS.out.below hba (Nat.le_refl _))).mono ?_
                rintro e w2 ⟨rfl, hb2⟩
                rw [H6.out]
                have HK := Lib.hid (HR.out.next (below_trans' HBA.out hb2))
                clear hb2 hba
                go_wp2_with fail
                go_roundw
                case rel => exact ⟨i + 1, by go_num, by omega, by rw [HV.out], HK⟩
                case measure => simp [intOf]; omega
              | true =>
                have H6 := Lib.hid h6
                clear h6
                cases h7 : inB xs.length src with
                | false =>
                  have HV := Lib.hid (show okE xs es (i + 1) = false by rw [HV0.out, h7]; simp)
                  have H7 := Lib.hid (show (decide (0 ≤ src) && decide (src < (xs.length : Int))) = false from h7)
                  clear h7
                  go_wp2_with fail
                  have hba := below_trans' HR.out.below HBA.out
                  refine (element_any nm _ ls _ ps _ (HLS.out.below hba (Nat.le_refl _)) (HPS.out.below hba (Nat.le_refl _))).mono ?_
                  rintro e w2 ⟨rfl, hb2⟩
                  rw [H6.out]
                  have HK := Lib.hid (HR.out.next (below_trans' HBA.out hb2))
                  have hf1 := (hb2.cell (p := ⟨wr.heap.size, 1, none⟩) (by simp)).trans (show _ = some (Value.int .i64 src) by simp [go_sem])
                  have hip := HK.out.idx.c0
                  clear hb2 hba
                  go_wp2_with ((go_at_call_of 35 src; refine (is_any p _ xs.length c src _ hip).mono ?_; rintro e w3 ⟨rfl, rfl⟩; rw [H7.out]))
                  go_roundw
                  case rel => exact ⟨i + 1, by go_num, by omega, by rw [HV.out], HK⟩
                  case measure => simp [intOf]; omega
                | true =>
                  have HV := Lib.hid (show okE xs es (i + 1) = (decide (0 ≤ dst) && decide (dst < (xs.length : Int))) by rw [HV0.out, H6.out, h7]; rfl)
                  have H7 := Lib.hid (show (decide (0 ≤ src) && decide (src < (xs.length : Int))) = true from h7)
                  clear h7
                  go_wp2_with fail
                  have hba := below_trans' HR.out.below HBA.out
                  refine (element_any nm _ ls _ ps _ (HLS.out.below hba (Nat.le_refl _)) (HPS.out.below hba (Nat.le_refl _))).mono ?_
                  rintro e w2 ⟨rfl, hb2⟩
                  rw [H6.out]
                  have HK := Lib.hid (HR.out.next (below_trans' HBA.out hb2))
                  have hf1 := (hb2.cell (p := ⟨wr.heap.size, 1, none⟩) (by simp)).trans (show _ = some (Value.int .i64 src) by simp [go_sem])
                  have hf2 := (hb2.cell (p := ⟨wr.heap.size, 2, none⟩) (by simp)).trans (show _ = some (Value.int .i64 dst) by simp [go_sem])
                  have hip := HK.out.idx.c0
                  clear hb2 hba
                  go_wp2_with (first | (go_at_call_of 35 src; refine (is_any p _ xs.length c src _ hip).mono ?_; rintro e w3 ⟨rfl, rfl⟩; rw [H7.out]) | (go_at_call 35; refine (is_any p _ xs.length c dst _ hip).mono ?_; rintro e w3 ⟨rfl, rfl⟩))
                  rw [← HV.out]
                  go_wp2_with fail
                  go_roundw
                  case rel => exact ⟨i + 1, by go_num, by omega, rfl, HK⟩
                  case measure => simp [intOf]; omega
          · have hni : (es.length : Int) ≤ (i : Int) := by omega
            obtain rfl : i = es.length := by omega
            cases hz : okE xs es es.length with
            | false =>
              have HZ := Lib.hid (show rightN xs es = 1 by rw [HF.out, hz]; rfl)
              clear hz
              go_wp2_with fail
              go_ret
              exact ⟨ret_int HZ.out.symm, HR.out.below⟩
            | true =>
              have HZ := Lib.hid (show rightN xs es = 0 by rw [HF.out, hz]; rfl)
              clear hz
              go_wp2_with fail
              go_ret
              exact ⟨ret_int HZ.out.symm, HR.out.below⟩
end Go.Proofs.Ytbolojjnkkgehaa
