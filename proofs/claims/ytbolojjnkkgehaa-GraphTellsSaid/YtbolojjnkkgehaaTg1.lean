import Derived.Test.YtbolojjnkkgehaaPrq
import Derived.Deep.RegionHeld3
/-! The reference's small functions: props, Find, FindEdge; comparing like lists. -/
namespace Go.Proofs.Ytbolojjnkkgehaa
open Go.RowKit

/-- ref07.props -/
theorem refProps_any (pv : Value) (ps : List Pr) (w : World) (hp : Props w pv ps) :
    Calls Try.prog 44 #[pv] w fun e w' => e = .returned (.bool (propsB ps && risingB (ps.map (·.nm)))) ∧ Below w.heap.size w w' := by
  obtain ⟨A, c, rfl, hlc, hcm, -, hrd⟩ := hp.sl.form
  have HRD := Lib.hid hrd
  have HLEN := Lib.hid hp.len
  have HWF := Lib.hid hp.wf
  clear hrd hp
  have HO0 := Lib.hid (show OwnS (w.alloc (.cells #[] 9)) w.heap.size (.slice (some ⟨w.heap.size, 0, none⟩) 0 0) [] from World.ownsRow_made w #[] 0 (Nat.le_refl _) (by unfold maxLen; omega) rfl)
  have HB0 := Lib.hid ((Below.refl w.heap.size w).alloc (Nat.le_refl _) (.cells #[] 9))
  go_enter Try.func44, Try.ntmps44
  go_wp2_with fail
  generalize w.alloc (.cells #[] 9) = w0 at *
  go_loopw [3, 4] (fun v3 v4 wr => ∃ i : Nat, v4 = .int .i64 i ∧ i ≤ ps.length ∧ Hid (Below w.heap.size w wr ∧ OwnS wr w.heap.size v3 ((ps.map (·.nm)).take i) ∧ ∀ j, j < i → prOk (prAt ps j) = true)) (fun _ v4 _ => ps.length - (intOf v4).toNat)
  case atStart => exact ⟨0, rfl, by omega, Lib.hid ⟨HB0.out, HO0.out, fun j hj => by omega⟩⟩
  case round =>
    obtain ⟨i, rfl, hi, HR⟩ := hrel
    clear HO0 HB0
    by_cases hin : i < ps.length
    · have hin' : (i : Int) < (ps.length : Int) := by omega
      have hi0 : (0 : Int) ≤ (i : Int) := by omega
      obtain ⟨b, o, hA, hbl, hc0, hc1, hc2, hc3, hc4⟩ := HRD.out.propA i hin
      subst hA
      have h0 := cell_below HR.out.1 hbl hc0
      have h1 := cell_below HR.out.1 hbl hc1
      have h2 := cell_below HR.out.1 hbl hc2
      have h3 := cell_below HR.out.1 hbl hc3
      have h4 := cell_below HR.out.1 hbl hc4
      have HF := Lib.hid (show (prAt ps i).f < 18446744073709551616 by rw [prAt_eq hin]; exact (HWF.out _ (List.getElem_mem hin)).f)
      clear hc0 hc1 hc2 hc3 hc4
      have HTK := Lib.hid (take_names hin)
      have HNO := Lib.hid (fun h => props_no hin h)
      have HOK := Lib.hid (show prOk (prAt ps i) = ((prAt ps i).k != 0 && rightB (prAt ps i).k (prAt ps i).n (prAt ps i).f (prAt ps i).s) from rfl)
      have HST := Lib.hid (fun h : prOk (prAt ps i) = true => step_all (q := fun j => prOk (prAt ps j) = true) HR.out.2.2 h)
      generalize prAt ps i = p at *
      obtain ⟨pn, pk, pN, pf, pt⟩ := p
      dsimp only at h0 h1 h2 h3 h4 HF
      cases hr : rightB pk pN pf pt with
      | false =>
        have HN := Lib.hid (HNO.out (by rw [HOK.out]; simp [hr]))
        have H1 := Lib.hid hr
        clear hr
        go_wp2_with fail
        refine (refRight_any pk pN pf pt _ HF.out).mono ?_
        rintro e w1 ⟨rfl, hb1⟩
        rw [H1.out]
        have HB1 := Lib.hid (HR.out.1.trans (hb1.mono HR.out.1.size))
        clear hb1
        go_wp2_with fail
        go_ret
        exact ⟨ret_bool (by rw [HN.out]; rfl), HB1.out⟩
      | true =>
        have H1 := Lib.hid hr
        clear hr
        cases hk : (pk == 0) with
        | true =>
          have HN := Lib.hid (HNO.out (by rw [HOK.out]; simp [hk, bne]))
          go_wp2_with fail
          refine (refRight_any pk pN pf pt _ HF.out).mono ?_
          rintro e w1 ⟨rfl, hb1⟩
          rw [H1.out]
          have HB1 := Lib.hid (HR.out.1.trans (hb1.mono HR.out.1.size))
          have g1 := cell_b hb1 h1
          clear hb1 h0 h1 h2 h3 h4
          go_wp2_with fail
          go_ret
          exact ⟨ret_bool (by rw [HN.out]; rfl), HB1.out⟩
        | false =>
          have HT := Lib.hid (show prOk ⟨pn, pk, pN, pf, pt⟩ = true by rw [HOK.out]; simp [H1.out, hk, bne])
          go_wp2_with fail
          refine (refRight_any pk pN pf pt _ HF.out).mono ?_
          rintro e w1 ⟨rfl, hb1⟩
          rw [H1.out]
          have HB1 := Lib.hid (HR.out.1.trans (hb1.mono HR.out.1.size))
          have g0 := cell_b hb1 h0
          have g1 := cell_b hb1 h1
          have HO1 := Lib.hid (own_below HR.out.2.1 hb1 (Nat.le_refl _))
          have hs1 := HB1.out.size
          clear hb1 h0 h1 h2 h3 h4
          go_wp2_with (at_builtin; refine wpList_app tyS rfl (.tmp 30) (.tmp 36) rfl (v := u3) rfl (World.ownsRow.alloc HO1.out _) ⟨w1.heap.size, 0, none⟩ 1 1 [.string pn] rfl rfl rfl (new_cells w1 [.string pn] 9) (by simp [Value.oneCell']) ?_ ?_ ?_ ?_; (simp; omega); (have := HLEN.out; simp; omega); (simp; omega); intro v2 w2 ho2 hg2 hn2)
          have HB2 := Lib.hid ((HB1.out.alloc hs1 _).grown hg2 (by simp; omega) (fun k hk => (own_lt HO1.out k hk).1))
          go_roundw
          case rel => exact ⟨i + 1, by go_num, by omega, Lib.hid ⟨HB2.out, by rw [HTK.out]; exact OwnS.snoc ho2, HST.out HT.out⟩⟩
          case measure => simp [intOf]; omega
    · have hni : (ps.length : Int) ≤ (i : Int) := by omega
      have hie : i = ps.length := by omega
      have HO := HR.out.2.1
      rw [List.take_of_length_le (by simp; omega)] at HO
      have HS := Lib.hid (own_strs HO (by have := HLEN.out; simp; omega) (by
        intro s hs
        simp only [List.mem_map] at hs
        obtain ⟨p, hp, rfl⟩ := hs
        exact (HWF.out p hp).nm))
      have HP := Lib.hid (props_yes hin HR.out.2.2)
      have HB := Lib.hid HR.out.1
      clear HO HR
      go_wp2_with fail
      refine (refRising_any _ _ _ HS.out).mono ?_
      rintro e w1 ⟨rfl, hb1⟩
      go_wp2_with fail
      go_ret
      exact ⟨ret_bool (by rw [HP.out]; rfl), below_trans' HB.out hb1⟩

/-- The first place of a name; -1: there is none. -/
def fstI (l : List ByteArray) (nm : ByteArray) : Int := match l.findIdx? (fun s => s.toList == nm.toList) with | some i => (i : Int) | none => -1
theorem fst_at {l : List ByteArray} {nm : ByteArray} {i : Nat} (hi : i < l.length) (h : ∀ j, j < i → ((strAt l j).toList == nm.toList) = false) (h1 : ((strAt l i).toList == nm.toList) = true) : fstI l nm = (i : Int) := by
  unfold fstI
  have e : l.findIdx? (fun s => s.toList == nm.toList) = some i := by
    rw [List.findIdx?_eq_some_iff_getElem]
    refine ⟨hi, by rw [strAt_eq hi] at h1; exact h1, fun j hj => ?_⟩
    have := h j hj
    rw [strAt_eq (by omega)] at this
    simp only [this, Bool.false_eq_true, not_false_eq_true]
  rw [e]
theorem fst_none {l : List ByteArray} {nm : ByteArray} (h : ∀ j, j < l.length → ((strAt l j).toList == nm.toList) = false) : fstI l nm = -1 := by
  unfold fstI
  have e : l.findIdx? (fun s => s.toList == nm.toList) = none := by
    rw [List.findIdx?_eq_none_iff]
    intro x hx
    obtain ⟨j, hj, rfl⟩ := List.getElem_of_mem hx
    have := h j hj
    rw [strAt_eq hj] at this
    exact this
  rw [e]
theorem nm_atN {xs : List NX} {i : Nat} (h : i < xs.length) : strAt (xs.map (·.d.nm)) i = (ndAt xs i).d.nm := by rw [strAt_eq (by simpa using h), ndAt_eq h]; simp
theorem nm_atE {xs : List EX} {i : Nat} (h : i < xs.length) : strAt (xs.map (·.d.nm)) i = (edAt xs i).d.nm := by rw [strAt_eq (by simpa using h), edAt_eq h]; simp

set_option maxHeartbeats 1000000 in
/-- ref07.Find -/
theorem refFind_any (nv : Value) (xs : List NX) (ev : Value) (nm : ByteArray) (w : World) (hn : Nodes w nv xs) :
    Calls Try.prog 24 #[GR nv ev, .string nm] w fun e w' => e = .returned (.int .i64 (fstI (xs.map (·.d.nm)) nm)) ∧ Below w.heap.size w w' := by
  obtain ⟨A, c, rfl, hlc, hcm, -, hrd⟩ := hn.sl.form
  have HRD := Lib.hid hrd
  have hlen := hn.len
  have HB0 := Lib.hid ((Below.refl w.heap.size w).alloc (Nat.le_refl _) (.cells #[.slice A xs.length c, ev] 25))
  have k0 : (w.alloc (.cells #[.slice A xs.length c, ev] 25)).cell? ⟨w.heap.size, 0, none⟩ = some (.slice A xs.length c) := by simp [go_sem]
  have hlt : w.heap.size < (w.alloc (.cells #[.slice A xs.length c, ev] 25)).heap.size := by simp
  clear hrd hn
  go_enter Try.func24, Try.ntmps24
  go_wp2_with fail
  generalize w.alloc (.cells #[.slice A xs.length c, ev] 25) = w0 at *
  go_loopw [5] (fun v5 wr => ∃ i : Nat, v5 = .int .i64 i ∧ i ≤ xs.length ∧ Hid (Below w0.heap.size w0 wr ∧ ∀ j, j < i → ((strAt (xs.map (·.d.nm)) j).toList == nm.toList) = false)) (fun v5 _ => xs.length - (intOf v5).toNat)
  case atStart => exact ⟨0, rfl, by omega, Lib.hid ⟨Below.refl _ _, fun j hj => by omega⟩⟩
  case round =>
    obtain ⟨i, rfl, hi, HR⟩ := hrel
    have r0 := cell_below HR.out.1 hlt k0
    have hltr : w.heap.size < wr.heap.size := World.block_lt_of_cell? wr _ r0
    by_cases hin : i < xs.length
    · have hin' : (i : Int) < (xs.length : Int) := by omega
      have hi0 : (0 : Int) ≤ (i : Int) := by omega
      obtain ⟨b, o, hA, hbl, hc0, -, -⟩ := HRD.out.nodeA i hin
      subst hA
      have m0 := cell_below (HB0.out.trans (HR.out.1.mono HB0.out.size)) hbl hc0
      rw [← nm_atN hin] at m0
      have HAT := Lib.hid (fun h => fst_at (l := xs.map (·.d.nm)) (nm := nm) (by simpa using hin) HR.out.2 h)
      have HST := Lib.hid (fun h => step_all (q := fun j => ((strAt (xs.map (·.d.nm)) j).toList == nm.toList) = false) HR.out.2 h)
      clear hc0
      generalize strAt (xs.map (·.d.nm)) i = x at *
      cases ht : (x.toList == nm.toList) with
      | true =>
        go_wp2_with fail
        go_ret
        exact ⟨ret_int (HAT.out ht).symm, HB0.out.trans (HR.out.1.mono HB0.out.size)⟩
      | false =>
        go_wp2_with fail
        go_roundw
        case rel => exact ⟨i + 1, by go_num, by omega, Lib.hid ⟨HR.out.1, HST.out ht⟩⟩
        case measure => simp [intOf]; omega
    · have hni : (xs.length : Int) ≤ (i : Int) := by omega
      obtain rfl : i = xs.length := by omega
      have HN := Lib.hid (fst_none (l := xs.map (·.d.nm)) (nm := nm) (fun j hj => HR.out.2 j (by simpa using hj)))
      go_wp2_with fail
      go_ret
      exact ⟨ret_int HN.out.symm, HB0.out.trans (HR.out.1.mono HB0.out.size)⟩

set_option maxHeartbeats 1000000 in
/-- ref07.FindEdge -/
theorem refFindE_any (nv : Value) (ev : Value) (xs : List EX) (nm : ByteArray) (w : World) (hn : Edges w ev xs) :
    Calls Try.prog 25 #[GR nv ev, .string nm] w fun e w' => e = .returned (.int .i64 (fstI (xs.map (·.d.nm)) nm)) ∧ Below w.heap.size w w' := by
  obtain ⟨A, c, rfl, hlc, hcm, -, hrd⟩ := hn.sl.form
  have HRD := Lib.hid hrd
  have hlen := hn.len
  have HB0 := Lib.hid ((Below.refl w.heap.size w).alloc (Nat.le_refl _) (.cells #[nv, .slice A xs.length c] 25))
  have k0 : (w.alloc (.cells #[nv, .slice A xs.length c] 25)).cell? ⟨w.heap.size, 1, none⟩ = some (.slice A xs.length c) := by simp [go_sem]
  have hlt : w.heap.size < (w.alloc (.cells #[nv, .slice A xs.length c] 25)).heap.size := by simp
  clear hrd hn
  go_enter Try.func25, Try.ntmps25
  go_wp2_with fail
  generalize w.alloc (.cells #[nv, .slice A xs.length c] 25) = w0 at *
  go_loopw [5] (fun v5 wr => ∃ i : Nat, v5 = .int .i64 i ∧ i ≤ xs.length ∧ Hid (Below w0.heap.size w0 wr ∧ ∀ j, j < i → ((strAt (xs.map (·.d.nm)) j).toList == nm.toList) = false)) (fun v5 _ => xs.length - (intOf v5).toNat)
  case atStart => exact ⟨0, rfl, by omega, Lib.hid ⟨Below.refl _ _, fun j hj => by omega⟩⟩
  case round =>
    obtain ⟨i, rfl, hi, HR⟩ := hrel
    have r0 := cell_below HR.out.1 hlt k0
    have hltr : w.heap.size < wr.heap.size := World.block_lt_of_cell? wr _ r0
    by_cases hin : i < xs.length
    · have hin' : (i : Int) < (xs.length : Int) := by omega
      have hi0 : (0 : Int) ≤ (i : Int) := by omega
      obtain ⟨b, o, hA, hbl, hc0, -, -, -, -, -⟩ := HRD.out.edgeA i hin
      subst hA
      have m0 := cell_below (HB0.out.trans (HR.out.1.mono HB0.out.size)) hbl hc0
      rw [← nm_atE hin] at m0
      have HAT := Lib.hid (fun h => fst_at (l := xs.map (·.d.nm)) (nm := nm) (by simpa using hin) HR.out.2 h)
      have HST := Lib.hid (fun h => step_all (q := fun j => ((strAt (xs.map (·.d.nm)) j).toList == nm.toList) = false) HR.out.2 h)
      clear hc0
      generalize strAt (xs.map (·.d.nm)) i = x at *
      cases ht : (x.toList == nm.toList) with
      | true =>
        go_wp2_with fail
        go_ret
        exact ⟨ret_int (HAT.out ht).symm, HB0.out.trans (HR.out.1.mono HB0.out.size)⟩
      | false =>
        go_wp2_with fail
        go_roundw
        case rel => exact ⟨i + 1, by go_num, by omega, Lib.hid ⟨HR.out.1, HST.out ht⟩⟩
        case measure => simp [intOf]; omega
    · have hni : (xs.length : Int) ≤ (i : Int) := by omega
      obtain rfl : i = xs.length := by omega
      have HN := Lib.hid (fst_none (l := xs.map (·.d.nm)) (nm := nm) (fun j hj => HR.out.2 j (by simpa using hj)))
      go_wp2_with fail
      go_ret
      exact ⟨ret_int HN.out.symm, HB0.out.trans (HR.out.1.mono HB0.out.size)⟩


/-- law07.sameSteps, of two like lists -/
theorem sameSteps_any (v v' : Value) (l : List (Int × Int)) (w : World) (hv : Steps w v l) (hv' : Steps w v' l) :
    Calls Try.prog 20 #[v, v'] w fun e' w' => e' = .returned (.bool true) ∧ Below w.heap.size w w' := by
  obtain ⟨A, c, rfl, hlc, hcm, hrd⟩ := hv.form
  obtain ⟨A', c', rfl, hlc', hcm', hrd'⟩ := hv'.form
  have HRD := Lib.hid hrd
  have HRD' := Lib.hid hrd'
  clear hrd hv hrd' hv'
  go_enter Try.func20, Try.ntmps20
  go_wp2_with fail
  go_loopw [5] (fun v5 wr => ∃ i : Nat, v5 = .int .i64 i ∧ i ≤ l.length ∧ Hid (Below w.heap.size w wr)) (fun v5 _ => l.length - (intOf v5).toNat)
  case atStart => exact ⟨0, rfl, by omega, Lib.hid (Below.refl _ _)⟩
  case round =>
    obtain ⟨i, rfl, hi, HR⟩ := hrel
    by_cases hin : i < l.length
    · have hin' : (i : Int) < (l.length : Int) := by omega
      have hi0 : (0 : Int) ≤ (i : Int) := by omega
      obtain ⟨b, o, hA, hbl, hc0, hc1⟩ := HRD.out.step i hin
      subst hA
      obtain ⟨b', o', hA', hbl', hc0', hc1'⟩ := HRD'.out.step i hin
      subst hA'
      have m0 := cell_below HR.out hbl hc0
      have m1 := cell_below HR.out hbl hc1
      have m0' := cell_below HR.out hbl' hc0'
      have m1' := cell_below HR.out hbl' hc1'
      clear hc0 hc1 hc0' hc1'
      generalize stAt l i = x at *
      obtain ⟨x1, x2⟩ := x
      dsimp only at m0 m1 m0' m1'
      go_wp2_with fail
      go_quiet (fail)
      go_wp2_with fail
      go_roundw
      case rel => exact ⟨i + 1, by go_num, by omega, Lib.hid (below_drewN HR.out _)⟩
      case measure => simp [intOf]; omega
    · have hni : (l.length : Int) ≤ (i : Int) := by omega
      go_wp2_with fail
      go_ret
      exact ⟨rfl, HR.out⟩

/-- ref06.SameTexts, of two like lists -/
theorem sameTexts_any (v v' : Value) (l : List ByteArray) (w : World) (hv : Strs w v l) (hv' : Strs w v' l) :
    Calls Try.prog 27 #[v, v'] w fun e' w' => e' = .returned (.bool true) ∧ Below w.heap.size w w' := by
  obtain ⟨A, c, rfl, hlc, hcm, -, hrd⟩ := hv.sl.form
  obtain ⟨A', c', rfl, hlc', hcm', -, hrd'⟩ := hv'.sl.form
  have HRD := Lib.hid hrd
  have HRD' := Lib.hid hrd'
  clear hrd hv hrd' hv'
  go_enter Try.func27, Try.ntmps27
  go_wp2_with fail
  go_loopw [5] (fun v5 wr => ∃ i : Nat, v5 = .int .i64 i ∧ i ≤ l.length ∧ Hid (Below w.heap.size w wr)) (fun v5 _ => l.length - (intOf v5).toNat)
  case atStart => exact ⟨0, rfl, by omega, Lib.hid (Below.refl _ _)⟩
  case round =>
    obtain ⟨i, rfl, hi, HR⟩ := hrel
    by_cases hin : i < l.length
    · have hin' : (i : Int) < (l.length : Int) := by omega
      have hi0 : (0 : Int) ≤ (i : Int) := by omega
      obtain ⟨b, o, hA, hbl, hc0⟩ := HRD.out.strA i hin
      subst hA
      obtain ⟨b', o', hA', hbl', hc0'⟩ := HRD'.out.strA i hin
      subst hA'
      have m0 := cell_below HR.out hbl hc0
      have m0' := cell_below HR.out hbl' hc0'
      clear hc0 hc0'
      generalize strAt l i = x at *
      go_wp2_with fail
      go_quiet (fail)
      go_wp2_with fail
      go_roundw
      case rel => exact ⟨i + 1, by go_num, by omega, Lib.hid (below_drewN HR.out _)⟩
      case measure => simp [intOf]; omega
    · have hni : (l.length : Int) ≤ (i : Int) := by omega
      go_wp2_with fail
      go_ret
      exact ⟨rfl, HR.out⟩

set_option maxHeartbeats 1000000 in
/-- ref07.sameProps, of two like lists -/
theorem sameProps_any (v v' : Value) (l : List Pr) (w : World) (hv : Props w v l) (hv' : Props w v' l) :
    Calls Try.prog 47 #[v, v'] w fun e' w' => e' = .returned (.bool true) ∧ Below w.heap.size w w' := by
  obtain ⟨A, c, rfl, hlc, hcm, -, hrd⟩ := hv.sl.form
  obtain ⟨A', c', rfl, hlc', hcm', -, hrd'⟩ := hv'.sl.form
  have HRD := Lib.hid hrd
  have HRD' := Lib.hid hrd'
  have HWF := Lib.hid hv.wf
  clear hrd hv hrd' hv'
  go_enter Try.func47, Try.ntmps47
  go_wp2_with fail
  go_loopw [5] (fun v5 wr => ∃ i : Nat, v5 = .int .i64 i ∧ i ≤ l.length ∧ Hid (Below w.heap.size w wr)) (fun v5 _ => l.length - (intOf v5).toNat)
  case atStart => exact ⟨0, rfl, by omega, Lib.hid (Below.refl _ _)⟩
  case round =>
    obtain ⟨i, rfl, hi, HR⟩ := hrel
    by_cases hin : i < l.length
    · have hin' : (i : Int) < (l.length : Int) := by omega
      have hi0 : (0 : Int) ≤ (i : Int) := by omega
      obtain ⟨b, o, hA, hbl, hc0, hc1, hc2, hc3, hc4⟩ := HRD.out.propA i hin
      subst hA
      obtain ⟨b', o', hA', hbl', hc0', hc1', hc2', hc3', hc4'⟩ := HRD'.out.propA i hin
      subst hA'
      have HF := Lib.hid (show (prAt l i).f < 18446744073709551616 by rw [prAt_eq hin]; exact (HWF.out _ (List.getElem_mem hin)).f)
      have m0 := cell_below HR.out hbl hc0
      have m1 := cell_below HR.out hbl hc1
      have m2 := cell_below HR.out hbl hc2
      have m3 := cell_below HR.out hbl hc3
      have m4 := cell_below HR.out hbl hc4
      have n0 := cell_below HR.out hbl' hc0'
      have n1 := cell_below HR.out hbl' hc1'
      have n2 := cell_below HR.out hbl' hc2'
      have n3 := cell_below HR.out hbl' hc3'
      have n4 := cell_below HR.out hbl' hc4'
      clear hc0 hc1 hc2 hc3 hc4 hc0' hc1' hc2' hc3' hc4'
      generalize prAt l i = q at *
      obtain ⟨qn, qk, qN, qf, qs⟩ := q
      dsimp only at m0 m1 m2 m3 m4 n0 n1 n2 n3 n4 HF
      have HBD := Lib.hid ((Below.refl wr.heap.size wr).drew)
      go_wp2_with fail
      go_region_held3 (fun w' => w'.cell? ⟨b, o + i * 5 + 1, none⟩ = some (.int .i64 qk) ∧ w'.cell? ⟨b, o + i * 5 + 2, none⟩ = some (.int .i64 qN) ∧ w'.cell? ⟨b, o + i * 5 + 3, none⟩ = some (.float .f64 qf) ∧ w'.cell? ⟨b, o + i * 5 + 4, none⟩ = some (.string qs) ∧ w'.cell? ⟨b', o' + i * 5 + 1, none⟩ = some (.int .i64 qk) ∧ w'.cell? ⟨b', o' + i * 5 + 2, none⟩ = some (.int .i64 qN) ∧ w'.cell? ⟨b', o' + i * 5 + 3, none⟩ = some (.float .f64 qf) ∧ w'.cell? ⟨b', o' + i * 5 + 4, none⟩ = some (.string qs)) (first | go_keep | (go_split_ands; refine ⟨?_, ?_, ?_, ?_, ?_, ?_, ?_, ?_⟩ <;> (refine cell_b hb8 ?_; assumption))) (first | (go_at_call 16; refine (same_any qk qN qf qs qk qN qf qs _ HF.out HF.out).mono ?_; rintro e w8 ⟨rfl, hb8⟩; rw [same_self]))
      have HB8 := Lib.hid (below_trans' HR.out (below_trans' HBD.out hb8))
      have g0 := cell_b hb8 (cell_b HBD.out m0)
      have g0' := cell_b hb8 (cell_b HBD.out n0)
      clear hb8 m0 m1 m2 m3 m4 n0 n1 n2 n3 n4
      go_wp2_with fail
      go_quiet (fail)
      go_wp2_with fail
      go_roundw
      case rel => exact ⟨i + 1, by go_num, by omega, Lib.hid (below_drewN HB8.out _)⟩
      case measure => simp [intOf]; omega
    · have hni : (l.length : Int) ≤ (i : Int) := by omega
      go_wp2_with fail
      go_ret
      exact ⟨rfl, HR.out⟩
end Go.Proofs.Ytbolojjnkkgehaa
