import Derived.Test.YtbolojjnkkgehaaTg1
/-! The reference's Leads, has, Prop, Labels. -/
namespace Go.Proofs.Ytbolojjnkkgehaa
open Go.RowKit

/-- Does an edge lead from f to o? -/
def leadB (s t : Int) (dir : Bool) (f o q : Int) : Bool :=
  if dir then (s == f && t == o && bits .and .i64 q 4 != 0) || (t == f && s == o && bits .and .i64 q 1 != 0) else ((s == f && t == o) || (t == f && s == o)) && bits .and .i64 q 2 != 0

set_option maxHeartbeats 2000000 in
/-- ref07.Leads, from one end to the other -/
theorem refLeads_any (nm : ByteArray) (s t : Int) (dir : Bool) (lv pv : Value) (f o q : Int) (w : World) (h : (s = f ∧ o = t) ∨ (t = f ∧ o = s)) :
    Calls Try.prog 45 #[.agg #[.string nm, .int .i64 s, .int .i64 t, .bool dir, lv, pv], .int .i64 f, .int .i64 o, .int .i64 q] w fun e w' => e = .returned (.bool (leadB s t dir f o q)) ∧ Below w.heap.size w w' := by
  have HB := Lib.hid ((Below.refl w.heap.size w).alloc (Nat.le_refl _) (.cells #[.string nm, .int .i64 s, .int .i64 t, .bool dir, lv, pv] 42))
  by_cases hs : s = f
  · subst hs
    by_cases ht : t = s
    · subst ht
      obtain rfl : o = t := by rcases h with h | h <;> exact h.2
      clear h
      cases dir with
      | true =>
        cases h4 : (bits .and .i64 q 4 != 0) with
        | true =>
          have HL := Lib.hid (show leadB o o true o o q = true by simp [leadB, h4])
          go_enter Try.func45, Try.ntmps45
          go_wp2_with fail
          go_ret
          exact ⟨ret_bool HL.out.symm, HB.out⟩
        | false =>
          have HL := Lib.hid (show leadB o o true o o q = (bits .and .i64 q 1 != 0) by simp [leadB, h4])
          go_enter Try.func45, Try.ntmps45
          go_wp2_with fail
          go_ret
          exact ⟨ret_bool HL.out.symm, HB.out⟩
      | false =>
        have HL := Lib.hid (show leadB o o false o o q = (bits .and .i64 q 2 != 0) by simp [leadB])
        go_enter Try.func45, Try.ntmps45
        go_wp2_with fail
        go_ret
        exact ⟨ret_bool HL.out.symm, HB.out⟩
    · obtain rfl : o = t := by
        rcases h with h | h
        · exact h.2
        · exact absurd h.1 ht
      have ht1 : (o == s) = false := by simpa using ht
      clear h
      cases dir with
      | true =>
        have HL := Lib.hid (show leadB s o true s o q = (bits .and .i64 q 4 != 0) by simp [leadB, ht1])
        cases h4 : (bits .and .i64 q 4 != 0) with
        | true =>
          rw [h4] at HL
          go_enter Try.func45, Try.ntmps45
          go_wp2_with fail
          go_ret
          exact ⟨ret_bool HL.out.symm, HB.out⟩
        | false =>
          rw [h4] at HL
          go_enter Try.func45, Try.ntmps45
          go_wp2_with fail
          go_ret
          exact ⟨ret_bool HL.out.symm, HB.out⟩
      | false =>
        have HL := Lib.hid (show leadB s o false s o q = (bits .and .i64 q 2 != 0) by simp [leadB])
        go_enter Try.func45, Try.ntmps45
        go_wp2_with fail
        go_ret
        exact ⟨ret_bool HL.out.symm, HB.out⟩
  · obtain ⟨rfl, rfl⟩ : t = f ∧ o = s := by
      rcases h with h | h
      · exact absurd h.1 hs
      · exact h
    have hs1 : (o == t) = false := by simpa using hs
    clear h
    cases dir with
    | true =>
      have HL := Lib.hid (show leadB o t true t o q = (bits .and .i64 q 1 != 0) by simp [leadB, hs1])
      go_enter Try.func45, Try.ntmps45
      go_wp2_with fail
      go_ret
      exact ⟨ret_bool HL.out.symm, HB.out⟩
    | false =>
      have HL := Lib.hid (show leadB o t false t o q = (bits .and .i64 q 2 != 0) by simp [leadB])
      go_enter Try.func45, Try.ntmps45
      go_wp2_with fail
      go_ret
      exact ⟨ret_bool HL.out.symm, HB.out⟩

set_option maxHeartbeats 2000000 in
/-- ref07.has -/
theorem refHas_any (nv : Value) (xs : List NX) (ev : Value) (zs : List EX) (edge : Bool) (x : Int) (w : World) (hn : Nodes w nv xs) (he : Edges w ev zs) :
    Calls Try.prog 46 #[GR nv ev, ELEM edge x] w fun e w' => ∃ lv pv, e = .returned (.tuple #[lv, pv]) ∧ Strs w' lv (lblL (xs.map (·.d)) (zs.map (·.d)) edge x) ∧ Props w' pv (prpL (xs.map (·.d)) (zs.map (·.d)) edge x) ∧ Below w.heap.size w w' := by
  obtain ⟨A, c, rfl, hlc, hcm, -, hrd⟩ := hn.sl.form
  obtain ⟨A', c', rfl, hlc', hcm', -, hrd'⟩ := he.sl.form
  have HN := Lib.hid hn
  have HE := Lib.hid he
  have HRD := Lib.hid hrd
  have HRD' := Lib.hid hrd'
  clear hn he hrd hrd'
  have HB := Lib.hid (((Below.refl w.heap.size w).alloc (Nat.le_refl _) (.cells #[.slice A xs.length c, .slice A' zs.length c'] 25)).alloc (by simp) (.cells #[.bool edge, .int .i64 x] 50))
  by_cases hx0 : 0 ≤ x
  · cases edge with
    | false =>
      by_cases hx1 : x < (xs.length : Int)
      · have hin : inB xs.length x = true := by simp [inB, hx0, hx1]
        obtain ⟨i, rfl⟩ : ∃ j : Nat, x = (j : Int) := ⟨x.toNat, by omega⟩
        have hil : i < xs.length := by omega
        have HL := Lib.hid (show lblL (xs.map (·.d)) (zs.map (·.d)) false (i : Int) = (ndAt xs i).d.ls by simp [lblL, hin, ndD_map hil])
        have HP := Lib.hid (show prpL (xs.map (·.d)) (zs.map (·.d)) false (i : Int) = (ndAt xs i).d.ps by simp [prpL, hin, ndD_map hil])
        clear hin
        obtain ⟨b, o, hA, hbl, hc0, hc1, hc2⟩ := HRD.out.nodeA i hil
        subst hA
        have hmem : ndAt xs i ∈ xs := by rw [ndAt_eq hil]; exact List.getElem_mem hil
        have HLS := Lib.hid (HN.out.ls _ hmem)
        have HPS := Lib.hid (HN.out.ps _ hmem)
        obtain ⟨A1, n1, c1, A2, n2, c2, e1, e2⟩ := HN.out.slices hil
        rw [e1] at hc1 HLS
        rw [e2] at hc2 HPS
        clear e1 e2 hmem hc0
        go_enter Try.func46, Try.ntmps46
        go_wp2_with fail
        go_quiet (fail)
        go_wp2_with fail
        go_ret2
        exact ⟨_, _, rfl, by rw [HL.out]; exact HLS.out.below (below_drewN HB.out _) (Nat.le_refl _), by rw [HP.out]; exact HPS.out.below (below_drewN HB.out _) (Nat.le_refl _), below_drewN HB.out _⟩
      · have hin : inB xs.length x = false := by simp [inB, hx1]
        have hx2 : (xs.length : Int) ≤ x := by omega
        have HL := Lib.hid (show lblL (xs.map (·.d)) (zs.map (·.d)) false x = [] by simp [lblL, hin])
        have HP := Lib.hid (show prpL (xs.map (·.d)) (zs.map (·.d)) false x = [] by simp [prpL, hin])
        clear hin
        go_enter Try.func46, Try.ntmps46
        go_wp2_with fail
        go_ret2
        exact ⟨_, _, rfl, by rw [HL.out]; exact Strs.nil _, by rw [HP.out]; exact Props.nil _, HB.out⟩
    | true =>
      by_cases hx1 : x < (zs.length : Int)
      · have hin : inB zs.length x = true := by simp [inB, hx0, hx1]
        obtain ⟨i, rfl⟩ : ∃ j : Nat, x = (j : Int) := ⟨x.toNat, by omega⟩
        have hil : i < zs.length := by omega
        have HL := Lib.hid (show lblL (xs.map (·.d)) (zs.map (·.d)) true (i : Int) = (edAt zs i).d.ls by simp [lblL, hin, edD_map hil])
        have HP := Lib.hid (show prpL (xs.map (·.d)) (zs.map (·.d)) true (i : Int) = (edAt zs i).d.ps by simp [prpL, hin, edD_map hil])
        clear hin
        obtain ⟨b, o, hA, hbl, hc0, hc1, hc2, hc3, hc4, hc5⟩ := HRD'.out.edgeA i hil
        subst hA
        have hmem : edAt zs i ∈ zs := by rw [edAt_eq hil]; exact List.getElem_mem hil
        have HLS := Lib.hid (HE.out.ls _ hmem)
        have HPS := Lib.hid (HE.out.ps _ hmem)
        obtain ⟨A1, n1, c1, A2, n2, c2, e1, e2⟩ := HE.out.slices hil
        rw [e1] at hc4 HLS
        rw [e2] at hc5 HPS
        clear e1 e2 hmem hc0 hc1 hc2 hc3
        go_enter Try.func46, Try.ntmps46
        go_wp2_with fail
        go_quiet (fail)
        go_wp2_with fail
        go_ret2
        exact ⟨_, _, rfl, by rw [HL.out]; exact HLS.out.below (below_drewN HB.out _) (Nat.le_refl _), by rw [HP.out]; exact HPS.out.below (below_drewN HB.out _) (Nat.le_refl _), below_drewN HB.out _⟩
      · have hin : inB zs.length x = false := by simp [inB, hx1]
        have hx2 : (zs.length : Int) ≤ x := by omega
        have HL := Lib.hid (show lblL (xs.map (·.d)) (zs.map (·.d)) true x = [] by simp [lblL, hin])
        have HP := Lib.hid (show prpL (xs.map (·.d)) (zs.map (·.d)) true x = [] by simp [prpL, hin])
        clear hin
        go_enter Try.func46, Try.ntmps46
        go_wp2_with fail
        go_ret2
        exact ⟨_, _, rfl, by rw [HL.out]; exact Strs.nil _, by rw [HP.out]; exact Props.nil _, HB.out⟩
  · have hx1 : x < 0 := by omega
    have hin : ∀ n, inB n x = false := fun n => by simp [inB, hx0]
    have HL := Lib.hid (show lblL (xs.map (·.d)) (zs.map (·.d)) edge x = [] by cases edge <;> simp [lblL, hin])
    have HP := Lib.hid (show prpL (xs.map (·.d)) (zs.map (·.d)) edge x = [] by cases edge <;> simp [prpL, hin])
    clear hin
    cases edge with
    | false =>
      go_enter Try.func46, Try.ntmps46
      go_wp2_with fail
      go_ret2
      exact ⟨_, _, rfl, by rw [HL.out]; exact Strs.nil _, by rw [HP.out]; exact Props.nil _, HB.out⟩
    | true =>
      go_enter Try.func46, Try.ntmps46
      go_wp2_with fail
      go_ret2
      exact ⟨_, _, rfl, by rw [HL.out]; exact Strs.nil _, by rw [HP.out]; exact Props.nil _, HB.out⟩

/-- ref07.Labels -/
theorem refLabels_any (nv : Value) (xs : List NX) (ev : Value) (zs : List EX) (edge : Bool) (x : Int) (w : World) (hn : Nodes w nv xs) (he : Edges w ev zs) :
    Calls Try.prog 28 #[GR nv ev, ELEM edge x] w fun e w' => ∃ v, e = .returned v ∧ Strs w' v (lblL (xs.map (·.d)) (zs.map (·.d)) edge x) ∧ Below w.heap.size w w' := by
  have hb := ((Below.refl w.heap.size w).alloc (Nat.le_refl _) (.cells #[nv, ev] 25)).alloc (by simp) (.cells #[.bool edge, .int .i64 x] 50)
  have HN := Lib.hid (hn.below hb (Nat.le_refl _))
  have HE := Lib.hid (he.below hb (Nat.le_refl _))
  have HB := Lib.hid hb
  clear hn he hb
  go_enter Try.func28, Try.ntmps28
  go_wp2_with fail
  refine (refHas_any nv xs ev zs edge x _ HN.out HE.out).mono ?_
  rintro e w1 ⟨lv, pv, rfl, hl, hp, hb1⟩
  have HL := Lib.hid hl
  have HB1 := Lib.hid (below_trans' HB.out hb1)
  clear hl hp hb1
  go_wp2_with fail
  go_ret
  exact ⟨_, rfl, HL.out, HB1.out⟩

theorem get_at {l : List Pr} {nm : ByteArray} {i : Nat} (hi : i < l.length) (h : ∀ j, j < i → ((prAt l j).nm.toList == nm.toList) = false) (h1 : ((prAt l i).nm.toList == nm.toList) = true) : prGet l nm = prAt l i := by
  unfold prGet
  have hf : (l.find? fun q => decide (q.nm = nm)) = some l[i] := by
    rw [List.find?_eq_some_iff_getElem]
    refine ⟨?_, i, hi, rfl, fun j hj => ?_⟩
    · rw [prAt_eq hi] at h1
      simpa using toList_inj (beq_iff_eq.1 h1)
    · have h2 := h j hj
      rw [prAt_eq (by omega)] at h2
      have h7 : l[j].nm ≠ nm := fun e => by rw [e] at h2; simp at h2
      simpa using h7
  rw [hf, prAt_eq hi]
  rfl
theorem get_none {l : List Pr} {nm : ByteArray} (h : ∀ j, j < l.length → ((prAt l j).nm.toList == nm.toList) = false) : prGet l nm = prNull := by
  unfold prGet
  have hf : (l.find? fun q => decide (q.nm = nm)) = none := by
    rw [List.find?_eq_none]
    intro x hx
    obtain ⟨k, hk, rfl⟩ := List.getElem_of_mem hx
    have h2 := h k hk
    rw [prAt_eq hk] at h2
    have h7 : l[k].nm ≠ nm := fun e => by rw [e] at h2; simp at h2
    simpa using h7
  rw [hf]
  rfl

set_option maxHeartbeats 2000000 in
/-- ref07.Prop -/
theorem refProp_any (nv : Value) (xs : List NX) (ev : Value) (zs : List EX) (edge : Bool) (x : Int) (nm : ByteArray) (w : World) (hn : Nodes w nv xs) (he : Edges w ev zs) :
    Calls Try.prog 26 #[GR nv ev, ELEM edge x, .string nm] w fun e w' => e = .returned (.agg #[.int .i64 (prGet (prpL (xs.map (·.d)) (zs.map (·.d)) edge x) nm).k, .int .i64 (prGet (prpL (xs.map (·.d)) (zs.map (·.d)) edge x) nm).n, .float .f64 (prGet (prpL (xs.map (·.d)) (zs.map (·.d)) edge x) nm).f, .string (prGet (prpL (xs.map (·.d)) (zs.map (·.d)) edge x) nm).s]) ∧ Below w.heap.size w w' := by
  have hb := (((Below.refl w.heap.size w).alloc (Nat.le_refl _) (.cells #[nv, ev] 25)).alloc (by simp) (.cells #[.bool edge, .int .i64 x] 50)).alloc (by simp; omega) (.cells #[.int .i64 0, .int .i64 0, .float .f64 0, .string ⟨#[]⟩] 53)
  have HN := Lib.hid (hn.below hb (Nat.le_refl _))
  have HE := Lib.hid (he.below hb (Nat.le_refl _))
  have HB := Lib.hid hb
  have k0 : (((w.alloc (.cells #[nv, ev] 25)).alloc (.cells #[.bool edge, .int .i64 x] 50)).alloc (.cells #[.int .i64 0, .int .i64 0, .float .f64 0, .string ⟨#[]⟩] 53)).cell? ⟨w.heap.size + 1 + 1, 0, none⟩ = some (.int .i64 0) := by simp [go_sem]
  have k1 : (((w.alloc (.cells #[nv, ev] 25)).alloc (.cells #[.bool edge, .int .i64 x] 50)).alloc (.cells #[.int .i64 0, .int .i64 0, .float .f64 0, .string ⟨#[]⟩] 53)).cell? ⟨w.heap.size + 1 + 1, 1, none⟩ = some (.int .i64 0) := by simp [go_sem]
  have k2 : (((w.alloc (.cells #[nv, ev] 25)).alloc (.cells #[.bool edge, .int .i64 x] 50)).alloc (.cells #[.int .i64 0, .int .i64 0, .float .f64 0, .string ⟨#[]⟩] 53)).cell? ⟨w.heap.size + 1 + 1, 2, none⟩ = some (.float .f64 0) := by simp [go_sem]
  have k3 : (((w.alloc (.cells #[nv, ev] 25)).alloc (.cells #[.bool edge, .int .i64 x] 50)).alloc (.cells #[.int .i64 0, .int .i64 0, .float .f64 0, .string ⟨#[]⟩] 53)).cell? ⟨w.heap.size + 1 + 1, 3, none⟩ = some (.string ⟨#[]⟩) := by simp [go_sem]
  have z : ∀ o, (((w.alloc (.cells #[nv, ev] 25)).alloc (.cells #[.bool edge, .int .i64 x] 50)).alloc (.cells #[.int .i64 0, .int .i64 0, .float .f64 0, .string ⟨#[]⟩] 53)).frozen? ⟨w.heap.size + 1 + 1, o, none⟩ = false := fun o => by simp [go_sem]
  have hlt : w.heap.size + 1 + 1 < (((w.alloc (.cells #[nv, ev] 25)).alloc (.cells #[.bool edge, .int .i64 x] 50)).alloc (.cells #[.int .i64 0, .int .i64 0, .float .f64 0, .string ⟨#[]⟩] 53)).heap.size := by simp
  clear hn he hb
  go_enter Try.func26, Try.ntmps26
  go_wp2_with fail
  generalize ((w.alloc (.cells #[nv, ev] 25)).alloc (.cells #[.bool edge, .int .i64 x] 50)).alloc (.cells #[.int .i64 0, .int .i64 0, .float .f64 0, .string ⟨#[]⟩] 53) = w0 at *
  refine (refHas_any nv xs ev zs edge x _ HN.out HE.out).mono ?_
  rintro e w1 ⟨lv, pv, rfl, hl, hp, hb1⟩
  have HB1 := Lib.hid (below_trans' HB.out hb1)
  obtain ⟨A, c, rfl, hlc, hcm, -, hrd⟩ := hp.sl.form
  have HRD := Lib.hid hrd
  have hlen := hp.len
  generalize hL : prpL (xs.map (·.d)) (zs.map (·.d)) edge x = l at *
  have HL := Lib.hid hL
  have m0 := cell_below hb1 hlt k0
  have m1 := cell_below hb1 hlt k1
  have m2 := cell_below hb1 hlt k2
  have m3 := cell_below hb1 hlt k3
  have z1 : ∀ o, w1.frozen? ⟨w.heap.size + 1 + 1, o, none⟩ = false := fun o => (hb1.frozen (p := ⟨w.heap.size + 1 + 1, o, none⟩) hlt).trans (z o)
  have hlt1 : w.heap.size + 1 + 1 < w1.heap.size := Nat.lt_of_lt_of_le hlt hb1.size
  clear hl hp hb1 hrd k0 k1 k2 k3 z hlt HB hL HN HE w0
  go_wp2_with fail
  go_loopw [9] (fun v9 wr => ∃ i : Nat, v9 = .int .i64 i ∧ i ≤ l.length ∧ Hid (Below w1.heap.size w1 wr ∧ ∀ j, j < i → ((prAt l j).nm.toList == nm.toList) = false)) (fun v9 _ => l.length - (intOf v9).toNat)
  case atStart => exact ⟨0, rfl, by omega, Lib.hid ⟨Below.refl _ _, fun j hj => by omega⟩⟩
  case round =>
    obtain ⟨i, rfl, hi, HR⟩ := hrel
    have k0 := cell_below HR.out.1 hlt1 m0
    have k1 := cell_below HR.out.1 hlt1 m1
    have k2 := cell_below HR.out.1 hlt1 m2
    have k3 := cell_below HR.out.1 hlt1 m3
    have y0 := (HR.out.1.frozen (p := ⟨w.heap.size + 1 + 1, 0, none⟩) hlt1).trans (z1 0)
    have y1 := (HR.out.1.frozen (p := ⟨w.heap.size + 1 + 1, 1, none⟩) hlt1).trans (z1 1)
    have y2 := (HR.out.1.frozen (p := ⟨w.heap.size + 1 + 1, 2, none⟩) hlt1).trans (z1 2)
    have y3 := (HR.out.1.frozen (p := ⟨w.heap.size + 1 + 1, 3, none⟩) hlt1).trans (z1 3)
    have HB2 := Lib.hid (below_trans' HB1.out HR.out.1)
    by_cases hin : i < l.length
    · have hin' : (i : Int) < (l.length : Int) := by omega
      have hi0 : (0 : Int) ≤ (i : Int) := by omega
      obtain ⟨b, o, hA, hbl, hc0, hc1, hc2, hc3, hc4⟩ := HRD.out.propA i hin
      subst hA
      have d0 := cell_below HR.out.1 hbl hc0
      have d1 := cell_below HR.out.1 hbl hc1
      have d2 := cell_below HR.out.1 hbl hc2
      have d3 := cell_below HR.out.1 hbl hc3
      have d4 := cell_below HR.out.1 hbl hc4
      have HAT := Lib.hid (fun h => get_at hin HR.out.2 h)
      have HST := Lib.hid (fun h => step_all (q := fun j => ((prAt l j).nm.toList == nm.toList) = false) HR.out.2 h)
      clear hc0 hc1 hc2 hc3 hc4 m0 m1 m2 m3 z1
      generalize prAt l i = q at *
      cases ht : (q.nm.toList == nm.toList) with
      | true =>
        go_wp2_with fail
        obtain ⟨r0, r1, r2, r3⟩ := four_set (.int .i64 q.k) (.int .i64 q.n) (.float .f64 q.f) (.string q.s) k0 k1 k2 k3
        refine bodyPost_ret (v := .agg #[.int .i64 q.k, .int .i64 q.n, .float .f64 q.f, .string q.s]) ?_ rfl ?_
        · simp [results, Try.results26, go_sem, r0, r1, r2, r3]
        · refine ⟨by rw [HL.out, HAT.out ht], ?_⟩
          exact (((HB2.out.setCell (p := ⟨w.heap.size + 1 + 1, 0, none⟩) (by simp; omega) _).setCell (p := ⟨w.heap.size + 1 + 1, 1, none⟩) (by simp; omega) _).setCell (p := ⟨w.heap.size + 1 + 1, 2, none⟩) (by simp; omega) _).setCell (p := ⟨w.heap.size + 1 + 1, 3, none⟩) (by simp; omega) _
      | false =>
        go_wp2_with fail
        go_roundw
        case rel => exact ⟨i + 1, by go_num, by omega, Lib.hid ⟨HR.out.1, HST.out ht⟩⟩
        case measure => simp [intOf]; omega
    · have hni : (l.length : Int) ≤ (i : Int) := by omega
      obtain rfl : i = l.length := by omega
      have HG := Lib.hid (get_none HR.out.2)
      go_wp2_with fail
      obtain ⟨r0, r1, r2, r3⟩ := four_set (.int .i64 0) (.int .i64 0) (.float .f64 0) (.string ⟨#[]⟩) k0 k1 k2 k3
      refine bodyPost_ret (v := .agg #[.int .i64 0, .int .i64 0, .float .f64 0, .string ⟨#[]⟩]) ?_ rfl ?_
      · simp [results, Try.results26, go_sem, r0, r1, r2, r3]
      · refine ⟨by rw [HL.out, HG.out]; rfl, ?_⟩
        exact (((HB2.out.setCell (p := ⟨w.heap.size + 1 + 1, 0, none⟩) (by simp; omega) _).setCell (p := ⟨w.heap.size + 1 + 1, 1, none⟩) (by simp; omega) _).setCell (p := ⟨w.heap.size + 1 + 1, 2, none⟩) (by simp; omega) _).setCell (p := ⟨w.heap.size + 1 + 1, 3, none⟩) (by simp; omega) _
end Go.Proofs.Ytbolojjnkkgehaa
