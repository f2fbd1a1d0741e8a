import Derived.Test.YtbolojjnkkgehaaWd
namespace Go.Proofs.Ytbolojjnkkgehaa
open Go.RowKit

def strAt (l : List ByteArray) (i : Nat) : ByteArray := l.getD i ⟨#[]⟩
theorem strAt_eq {l : List ByteArray} {i : Nat} (h : i < l.length) : strAt l i = l[i] := by simp [strAt, List.getD_eq_getElem?_getD, List.getElem?_eq_getElem h]
def risAt (l : List ByteArray) (i : Nat) : Bool := wordB (strAt l i) && (i == 0 || Op.bytesLess (strAt l (i - 1)).toList (strAt l i).toList)
/-- Are these words, and rising? -/
def risingB (l : List ByteArray) : Bool := (List.range l.length).all (risAt l)
theorem rising_no {l : List ByteArray} {i : Nat} (hi : i < l.length) (h : risAt l i = false) : risingB l = false := by
  unfold risingB
  rw [List.all_eq_false]
  exact ⟨i, by simpa using hi, by simp [h]⟩
theorem rising_yes {l : List ByteArray} {i : Nat} (hi : ¬ i < l.length) (h : ∀ j, j < i → risAt l j = true) : risingB l = true := by
  unfold risingB
  rw [List.all_eq_true]
  intro j hj
  exact h j (by simp at hj; omega)
theorem rising_step {l : List ByteArray} {i : Nat} (h : ∀ j, j < i → risAt l j = true) (h1 : risAt l i = true) : ∀ j, j < i + 1 → risAt l j = true := fun j hj => by
  by_cases e : j = i
  · rw [e]; exact h1
  · exact h j (by omega)

/-- One text of a slice of texts. -/
theorem ReadsL.strA {w : World} {A : Option Addr} {l : List ByteArray} (h : ReadsL w A (cellsS l)) (i : Nat) (hi : i < l.length) :
    ∃ b o, A = some ⟨b, o, none⟩ ∧ b < w.heap.size ∧ w.cell? ⟨b, o + i, none⟩ = some (.string (strAt l i)) := by
  rw [strAt_eq hi]; exact h.str i hi

/-- graph.rising -/
theorem rising_any (v : Value) (l : List ByteArray) (w : World) (hv : Strs w v l) :
    Calls Try.prog 54 #[v] w fun e w' => e = .returned (.bool (risingB l)) ∧ Below w.heap.size w w' := by
  obtain ⟨A, c, rfl, hlc, hcm, -, hrd⟩ := hv.sl.form
  have HRD := Lib.hid hrd
  clear hrd hv
  go_enter Try.func54, Try.ntmps54
  go_wp2_with fail
  go_loopw [2, 3, 4, 7] (fun v2 _ _ v7 wr => ∃ i : Nat, v2 = .bool false ∧ v7 = .int .i64 i ∧ i ≤ l.length ∧ Hid (Below w.heap.size w wr ∧ ∀ j, j < i → risAt l j = true)) (fun _ _ _ v7 _ => l.length - (intOf v7).toNat)
  case atStart => exact ⟨0, rfl, rfl, by omega, Lib.hid ⟨Below.refl _ _, fun j hj => by omega⟩⟩
  case round =>
    obtain ⟨i, rfl, rfl, hi, HR⟩ := hrel
    by_cases hin : i < l.length
    · have hin' : (i : Int) < (l.length : Int) := by omega
      have hi0 : (0 : Int) ≤ (i : Int) := by omega
      obtain ⟨b, o, hA, hbl, hc⟩ := HRD.out.strA i hin
      subst hA
      have hcw := cell_below HR.out.1 hbl hc
      have HC := Lib.hid hc
      clear hc
      cases h1 : wordB (strAt l i) with
      | false =>
        have HF := Lib.hid (rising_no hin (show risAt l i = false by simp [risAt, h1]))
        have H1 := Lib.hid h1
        clear h1
        go_wp2_with (go_at_call 53; refine (word_any _ _).mono ?_; rintro e w1 ⟨rfl, hb1⟩; rw [H1.out])
        go_ret
        exact ⟨ret_bool HF.out.symm, HR.out.1.trans (hb1.mono HR.out.1.size)⟩
      | true =>
        by_cases h0 : i = 0
        · subst h0
          have HT := Lib.hid (show risAt l 0 = true by simp [risAt, h1])
          have H1 := Lib.hid h1
          clear h1
          simp only [Nat.add_zero] at hcw
          go_wp2_with (go_at_call 53; refine (word_any _ _).mono ?_; rintro e w1 ⟨rfl, hb1⟩; rw [H1.out])
          go_roundw
          case rel => exact ⟨1, rfl, by go_num, by omega, Lib.hid ⟨HR.out.1.trans (hb1.mono HR.out.1.size), rising_step HR.out.2 HT.out⟩⟩
          case measure => simp [intOf]; omega
        · have hpos : (0 : Int) < (i : Int) := by omega
          obtain ⟨b', o', hA', hbl', hc'⟩ := HRD.out.strA (i - 1) (by omega)
          cases hA'
          have H1 := Lib.hid h1
          have HC' := Lib.hid hc'
          have him : ((i - 1 : Nat) : Int) = (i : Int) - 1 := by omega
          clear h1 hc'
          cases h2 : Op.bytesLess (strAt l (i - 1)).toList (strAt l i).toList with
          | false =>
            have HF := Lib.hid (rising_no hin (show risAt l i = false by simp [risAt, h2, h0]))
            go_wp2_with (go_at_call 53; refine (word_any _ _).mono ?_; rintro e w1 ⟨rfl, hb1⟩; rw [H1.out]; have hx1 := cell_below (HR.out.1.trans (hb1.mono HR.out.1.size)) hbl HC.out; have hx2 := cell_below (HR.out.1.trans (hb1.mono HR.out.1.size)) hbl' HC'.out)
            go_ret
            exact ⟨ret_bool HF.out.symm, HR.out.1.trans (hb1.mono HR.out.1.size)⟩
          | true =>
            have HT := Lib.hid (show risAt l i = true by simp [risAt, h2, H1.out])
            go_wp2_with (go_at_call 53; refine (word_any _ _).mono ?_; rintro e w1 ⟨rfl, hb1⟩; rw [H1.out]; have hx1 := cell_below (HR.out.1.trans (hb1.mono HR.out.1.size)) hbl HC.out; have hx2 := cell_below (HR.out.1.trans (hb1.mono HR.out.1.size)) hbl' HC'.out)
            go_roundw
            case rel => exact ⟨i + 1, rfl, by go_num, by omega, Lib.hid ⟨HR.out.1.trans (hb1.mono HR.out.1.size), rising_step HR.out.2 HT.out⟩⟩
            case measure => simp [intOf]; omega
    · have hni : (l.length : Int) ≤ (i : Int) := by omega
      go_wp2_with fail
      go_ret
      exact ⟨ret_bool (rising_yes hin HR.out.2).symm, HR.out.1⟩

/-- ref07.rising -/
theorem refRising_any (v : Value) (l : List ByteArray) (w : World) (hv : Strs w v l) :
    Calls Try.prog 43 #[v] w fun e w' => e = .returned (.bool (risingB l)) ∧ Below w.heap.size w w' := by
  obtain ⟨A, c, rfl, hlc, hcm, -, hrd⟩ := hv.sl.form
  have HRD := Lib.hid hrd
  have HWF := Lib.hid hv.wf
  clear hrd hv
  go_enter Try.func43, Try.ntmps43
  go_wp2_with fail
  go_loopw [2, 3, 4] (fun v2 v3 _ wr => ∃ i : Nat, v2 = .bool false ∧ v3 = .int .i64 i ∧ i ≤ l.length ∧ Hid (Below w.heap.size w wr ∧ ∀ j, j < i → risAt l j = true)) (fun _ v3 _ _ => l.length - (intOf v3).toNat)
  case atStart => exact ⟨0, rfl, rfl, by omega, Lib.hid ⟨Below.refl _ _, fun j hj => by omega⟩⟩
  case round =>
    obtain ⟨i, rfl, rfl, hi, HR⟩ := hrel
    by_cases hin : i < l.length
    · have hin' : (i : Int) < (l.length : Int) := by omega
      have hi0 : (0 : Int) ≤ (i : Int) := by omega
      obtain ⟨b, o, hA, hbl, hc⟩ := HRD.out.strA i hin
      subst hA
      have HSZ := Lib.hid (show (strAt l i).size ≤ maxLen by rw [strAt_eq hin]; exact HWF.out _ (List.getElem_mem _))
      have hcw := cell_below HR.out.1 hbl hc
      have HC := Lib.hid hc
      clear hc
      cases h1 : wordB (strAt l i) with
      | false =>
        have HF := Lib.hid (rising_no hin (show risAt l i = false by simp [risAt, h1]))
        have H1 := Lib.hid h1
        clear h1
        go_wp2_with (go_at_call 42; refine (refWord_any _ HSZ.out _).mono ?_; rintro e w1 ⟨rfl, rfl⟩; rw [H1.out])
        go_quiet (fail)
        go_wp2_with fail
        go_ret
        exact ⟨ret_bool HF.out.symm, below_drewN HR.out.1 _⟩
      | true =>
        by_cases h0 : i = 0
        · subst h0
          have HT := Lib.hid (show risAt l 0 = true by simp [risAt, h1])
          have H1 := Lib.hid h1
          clear h1
          simp only [Nat.add_zero] at hcw
          go_wp2_with (go_at_call 42; refine (refWord_any _ HSZ.out _).mono ?_; rintro e w1 ⟨rfl, rfl⟩; rw [H1.out])
          go_quiet (fail)
          go_wp2_with fail
          go_roundw
          case rel => exact ⟨1, rfl, by go_num, by omega, Lib.hid ⟨below_drewN HR.out.1 _, rising_step HR.out.2 HT.out⟩⟩
          case measure => simp [intOf]; omega
        · have hpos : (0 : Int) < (i : Int) := by omega
          have hpn : decide (0 < i) = true := by simp; omega
          obtain ⟨b', o', hA', hbl', hc'⟩ := HRD.out.strA (i - 1) (by omega)
          cases hA'
          have H1 := Lib.hid h1
          have him : ((i - 1 : Nat) : Int) = (i : Int) - 1 := by omega
          have hcm1 := cell_below HR.out.1 hbl' hc'
          clear h1 hc'
          cases h2 : Op.bytesLess (strAt l (i - 1)).toList (strAt l i).toList with
          | false =>
            have HF := Lib.hid (rising_no hin (show risAt l i = false by simp [risAt, h2, h0]))
            go_wp2_with (go_at_call 42; refine (refWord_any _ HSZ.out _).mono ?_; rintro e w1 ⟨rfl, rfl⟩; rw [H1.out])
            go_quiet (fail)
            go_wp2_with fail
            go_ret
            exact ⟨ret_bool HF.out.symm, below_drewN HR.out.1 _⟩
          | true =>
            have HT := Lib.hid (show risAt l i = true by simp [risAt, h2, H1.out])
            go_wp2_with (go_at_call 42; refine (refWord_any _ HSZ.out _).mono ?_; rintro e w1 ⟨rfl, rfl⟩; rw [H1.out])
            go_quiet (fail)
            go_wp2_with fail
            go_roundw
            case rel => exact ⟨i + 1, rfl, by go_num, by omega, Lib.hid ⟨below_drewN HR.out.1 _, rising_step HR.out.2 HT.out⟩⟩
            case measure => simp [intOf]; omega
    · have hni : (l.length : Int) ≤ (i : Int) := by omega
      go_wp2_with fail
      go_ret
      exact ⟨ret_bool (rising_yes hin HR.out.2).symm, HR.out.1⟩

/-- The index at p: its five cells. -/
structure IdxAt (w : World) (p : Nat) (nv ev : Value) (mn me : Nat) (ov : Value) : Prop where
  c0 : w.cell? ⟨p, 0, none⟩ = some nv
  c1 : w.cell? ⟨p, 1, none⟩ = some ev
  c2 : w.cell? ⟨p, 2, none⟩ = some (.map (some mn))
  c3 : w.cell? ⟨p, 3, none⟩ = some (.map (some me))
  c4 : w.cell? ⟨p, 4, none⟩ = some ov
  fz : ∀ j, w.frozen? ⟨p, j, none⟩ = false
theorem IdxAt.lt {w : World} {p : Nat} {nv ev : Value} {mn me : Nat} {ov : Value} (h : IdxAt w p nv ev mn me ov) : p < w.heap.size := World.block_lt_of_cell? w _ h.c0
theorem IdxAt.below {w w' : World} {p : Nat} {nv ev : Value} {mn me : Nat} {ov : Value} {m : Nat} (h : IdxAt w p nv ev mn me ov) (hb : Below m w w') (hm : p < m) : IdxAt w' p nv ev mn me ov :=
  ⟨cell_below hb hm h.c0, cell_below hb hm h.c1, cell_below hb hm h.c2, cell_below hb hm h.c3, cell_below hb hm h.c4, fun j => (hb.frozen (p := ⟨p, j, none⟩) hm).trans (h.fz j)⟩

/-- (*Index).is -/
theorem is_any (p : Nat) (A : Option Addr) (n c : Nat) (x : Int) (w : World) (h0 : w.cell? ⟨p, 0, none⟩ = some (.slice A n c)) :
    Calls Try.prog 35 #[.pointer (some ⟨p, 0, none⟩), .int .i64 x] w fun e w' => e = .returned (.bool (decide (0 ≤ x) && decide (x < (n : Int)))) ∧ w' = w := by
  cases h1 : decide ((0 : Int) ≤ x) with
  | false =>
    go_enter Try.func35, Try.ntmps35
    go_wp2
    go_ret
    exact ⟨rfl, rfl⟩
  | true =>
    go_enter Try.func35, Try.ntmps35
    go_wp2
    go_ret
    exact ⟨rfl, rfl⟩
end Go.Proofs.Ytbolojjnkkgehaa
