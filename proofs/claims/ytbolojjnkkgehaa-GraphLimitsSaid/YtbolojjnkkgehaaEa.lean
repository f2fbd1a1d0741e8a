import Derived.Test.YtbolojjnkkgehaaMp
/-! An element of an index: its labels, its properties. -/
namespace Go.Proofs.Ytbolojjnkkgehaa
open Go.RowKit

def ndD (ns : List Nd) (i : Nat) : Nd := ns.getD i ⟨⟨#[]⟩, [], []⟩
/-- The labels of an element. -/
def lblL (ns : List Nd) (es : List Ed) (edge : Bool) (x : Int) : List ByteArray := if edge then (if inB es.length x then (edD es x.toNat).ls else []) else if inB ns.length x then (ndD ns x.toNat).ls else []
/-- The properties of an element. -/
def prpL (ns : List Nd) (es : List Ed) (edge : Bool) (x : Int) : List Pr := if edge then (if inB es.length x then (edD es x.toNat).ps else []) else if inB ns.length x then (ndD ns x.toNat).ps else []
theorem ndD_map {xs : List NX} {i : Nat} (hi : i < xs.length) : ndD (xs.map (·.d)) i = (ndAt xs i).d := by rw [ndAt_eq hi]; simp [ndD, List.getD_eq_getElem?_getD, hi]
theorem edD_map {xs : List EX} {i : Nat} (hi : i < xs.length) : edD (xs.map (·.d)) i = (edAt xs i).d := by rw [edAt_eq hi]; simp [edD, List.getD_eq_getElem?_getD, hi]
theorem Strs.nil (w : World) : Strs w (.slice none 0 0) [] := ⟨SliceR.nil _, by simp, by simp⟩
theorem Props.nil (w : World) : Props w (.slice none 0 0) [] := ⟨SliceR.nil _, by simp, by simp⟩
abbrev ELEM (edge : Bool) (x : Int) : Value := .agg #[.bool edge, .int .i64 x]

set_option maxHeartbeats 1000000 in
/-- (*Index).element -/
theorem elem_any (p : Nat) (ns : List Nd) (es : List Ed) (edge : Bool) (x : Int) (w : World) (hx : Index w p ns es) :
    Calls Try.prog 37 #[.pointer (some ⟨p, 0, none⟩), ELEM edge x] w fun e w' => ∃ lv pv, e = .returned (.tuple #[lv, pv]) ∧ Strs w' lv (lblL ns es edge x) ∧ Props w' pv (prpL ns es edge x) ∧ Below w.heap.size w w' := by
  obtain ⟨nv, ev, mn, me, ov, xs, zs, vs, rfl, rfl, hi⟩ := hx
  obtain ⟨A, c, e0, hlc, hcm, -, hrd⟩ := hi.ny.sl.form
  obtain ⟨A', c', e1, hlc', hcm', -, hrd'⟩ := hi.ez.sl.form
  have h0 := hi.ix.c0
  have h1 := hi.ix.c1
  rw [e0] at h0
  rw [e1] at h1
  have hp := hi.ix.lt
  have HN := Lib.hid hi.ny
  have HE := Lib.hid hi.ez
  have HRD := Lib.hid hrd
  have HRD' := Lib.hid hrd'
  clear hi e0 e1 hrd hrd'
  have HB := Lib.hid ((Below.refl w.heap.size w).alloc (Nat.le_refl _) (.cells #[.bool edge, .int .i64 x] 50))
  have h0a := (HB.out.cell (p := ⟨p, 0, none⟩) hp).trans h0
  cases edge with
  | false =>
    cases hin : inB xs.length x with
    | false =>
      have HL := Lib.hid (show lblL (xs.map (·.d)) (zs.map (·.d)) false x = [] by simp [lblL, hin])
      have HP := Lib.hid (show prpL (xs.map (·.d)) (zs.map (·.d)) false x = [] by simp [prpL, hin])
      have HI := Lib.hid (show (decide (0 ≤ x) && decide (x < (xs.length : Int))) = false from hin)
      clear hin
      go_enter Try.func37, Try.ntmps37
      go_wp2_with (go_at_call 35; refine (is_any p A xs.length c x _ h0a).mono ?_; rintro e w3 ⟨rfl, rfl⟩; rw [HI.out])
      go_quiet (fail)
      go_wp2_with fail
      go_ret2
      exact ⟨_, _, rfl, by rw [HL.out]; exact Strs.nil _, by rw [HP.out]; exact Props.nil _, below_drewN HB.out _⟩
    | true =>
      have hin2 : 0 ≤ x ∧ x < (xs.length : Int) := by simpa [inB] using hin
      obtain ⟨i, rfl⟩ : ∃ j : Nat, x = (j : Int) := ⟨x.toNat, by omega⟩
      have hin' : (i : Int) < (xs.length : Int) := by omega
      have hi0 : (0 : Int) ≤ (i : Int) := by omega
      have hil : i < xs.length := by omega
      have HL := Lib.hid (show lblL (xs.map (·.d)) (zs.map (·.d)) false (i : Int) = (ndAt xs i).d.ls by simp [lblL, hin, ndD_map hil])
      have HP := Lib.hid (show prpL (xs.map (·.d)) (zs.map (·.d)) false (i : Int) = (ndAt xs i).d.ps by simp [prpL, hin, ndD_map hil])
      have HI := Lib.hid (show (decide (0 ≤ (i : Int)) && decide ((i : Int) < (xs.length : Int))) = true from hin)
      clear hin hin2
      obtain ⟨b, o, hA, hbl, hc0, hc1, hc2⟩ := HRD.out.nodeA i hil
      subst hA
      have hmem : ndAt xs i ∈ xs := by rw [ndAt_eq hil]; exact List.getElem_mem hil
      have HLS := Lib.hid (HN.out.ls _ hmem)
      have HPS := Lib.hid (HN.out.ps _ hmem)
      obtain ⟨A1, n1, c1, A2, n2, c2, e1, e2⟩ := HN.out.slices hil
      rw [e1] at hc1 HLS
      rw [e2] at hc2 HPS
      clear e1 e2 hmem
      have hc1a := (HB.out.cell (p := ⟨b, o + i * 3 + 1, none⟩) hbl).trans hc1
      have hc2a := (HB.out.cell (p := ⟨b, o + i * 3 + 2, none⟩) hbl).trans hc2
      go_enter Try.func37, Try.ntmps37
      go_wp2_with (go_at_call 35; refine (is_any p _ xs.length c i _ h0a).mono ?_; rintro e w3 ⟨rfl, rfl⟩; rw [HI.out])
      go_quiet (fail)
      go_wp2_with fail
      go_ret2
      exact ⟨_, _, rfl, by rw [HL.out]; exact HLS.out.below (below_drewN HB.out _) (Nat.le_refl _), by rw [HP.out]; exact HPS.out.below (below_drewN HB.out _) (Nat.le_refl _), below_drewN HB.out _⟩
  | true =>
    by_cases hx0 : 0 ≤ x
    · cases hx1 : decide (x < (zs.length : Int)) with
      | false =>
        have hin : inB zs.length x = false := by simp only [inB, hx1, Bool.and_false]
        have HL := Lib.hid (show lblL (xs.map (·.d)) (zs.map (·.d)) true x = [] by simp [lblL, hin])
        have HP := Lib.hid (show prpL (xs.map (·.d)) (zs.map (·.d)) true x = [] by simp [prpL, hin])
        clear hin
        go_enter Try.func37, Try.ntmps37
        go_wp2_with fail
        go_quiet (fail)
        go_wp2_with fail
        go_ret2
        exact ⟨_, _, rfl, by rw [HL.out]; exact Strs.nil _, by rw [HP.out]; exact Props.nil _, below_drewN HB.out _⟩
      | true =>
        have hin : inB zs.length x = true := by simp only [inB, hx1, hx0, Bool.and_true]; rfl
        have hx2 : x < (zs.length : Int) := by simpa using hx1
        obtain ⟨i, rfl⟩ : ∃ j : Nat, x = (j : Int) := ⟨x.toNat, by omega⟩
        have hin' : (i : Int) < (zs.length : Int) := by omega
        have hi0 : (0 : Int) ≤ (i : Int) := by omega
        have hil : i < zs.length := by omega
        have HL := Lib.hid (show lblL (xs.map (·.d)) (zs.map (·.d)) true (i : Int) = (edAt zs i).d.ls by simp [lblL, hin, edD_map hil])
        have HP := Lib.hid (show prpL (xs.map (·.d)) (zs.map (·.d)) true (i : Int) = (edAt zs i).d.ps by simp [prpL, hin, edD_map hil])
        clear hin hx2 hx1
        obtain ⟨b, o, hA, hbl, hc0, hc1, hc2, hc3, hc4, hc5⟩ := HRD'.out.edgeA i hil
        subst hA
        have hmem : edAt zs i ∈ zs := by rw [edAt_eq hil]; exact List.getElem_mem hil
        have HLS := Lib.hid (HE.out.ls _ hmem)
        have HPS := Lib.hid (HE.out.ps _ hmem)
        obtain ⟨A1, n1, c1, A2, n2, c2, e1, e2⟩ := HE.out.slices hil
        rw [e1] at hc4 HLS
        rw [e2] at hc5 HPS
        clear e1 e2 hmem hc0 hc1 hc2 hc3
        go_enter Try.func37, Try.ntmps37
        go_wp2_with fail
        go_quiet (fail)
        go_wp2_with fail
        go_quiet (fail)
        go_wp2_with fail
        go_ret2
        exact ⟨_, _, rfl, by rw [HL.out]; exact HLS.out.below (below_drewN (below_drewN HB.out _) _) (Nat.le_refl _), by rw [HP.out]; exact HPS.out.below (below_drewN (below_drewN HB.out _) _) (Nat.le_refl _), below_drewN (below_drewN HB.out _) _⟩
    · have hin : inB zs.length x = false := by simp only [inB, hx0, decide_false, Bool.false_and]
      have hx4 : decide (0 ≤ x) = false := by simpa using hx0
      clear hx0
      have HL := Lib.hid (show lblL (xs.map (·.d)) (zs.map (·.d)) true x = [] by simp [lblL, hin])
      have HP := Lib.hid (show prpL (xs.map (·.d)) (zs.map (·.d)) true x = [] by simp [prpL, hin])
      clear hin
      go_enter Try.func37, Try.ntmps37
      go_wp2_with fail
      go_quiet (fail)
      go_wp2_with fail
      go_ret2
      exact ⟨_, _, rfl, by rw [HL.out]; exact Strs.nil _, by rw [HP.out]; exact Props.nil _, below_drewN HB.out _⟩
end Go.Proofs.Ytbolojjnkkgehaa
