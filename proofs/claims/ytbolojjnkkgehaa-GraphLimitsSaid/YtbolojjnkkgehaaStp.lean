import Derived.Test.YtbolojjnkkgehaaFew
import Derived.BigQuiet
/-! Lists of steps: has, sames. -/
namespace Go.Proofs.Ytbolojjnkkgehaa
open Go.RowKit

def stAt (l : List (Int × Int)) (i : Nat) : Int × Int := l.getD i (0, 0)
theorem stAt_eq {l : List (Int × Int)} {i : Nat} (h : i < l.length) : stAt l i = l[i] := by simp [stAt, List.getD_eq_getElem?_getD, List.getElem?_eq_getElem h]
theorem Steps.form {w : World} {v : Value} {l : List (Int × Int)} (h : Steps w v l) : ∃ A c, v = .slice A l.length c ∧ l.length ≤ c ∧ c ≤ 9223372036854775807 ∧ ReadsL w A (cellsT l) := by
  obtain ⟨A, c, e, h1, h2, -, h3⟩ := SliceR.form h
  exact ⟨A, c, e, h1, h2, h3⟩
theorem ReadsL.step {w : World} {A : Option Addr} {l : List (Int × Int)} (h : ReadsL w A (cellsT l)) (i : Nat) (hi : i < l.length) :
    ∃ b o, A = some ⟨b, o, none⟩ ∧ b < w.heap.size ∧ w.cell? ⟨b, o + i * 2, none⟩ = some (.int .i64 (stAt l i).1) ∧ w.cell? ⟨b, o + i * 2 + 1, none⟩ = some (.int .i64 (stAt l i).2) := by
  rw [stAt_eq hi]
  obtain ⟨b, o, e0, h0⟩ := h (i * 2 + 0) (.int .i64 l[i].1) (by rw [cellsT, flat_at 2 _ (fun _ => rfl) l i 0 hi (by omega)]; rfl)
  obtain ⟨b', o', e1, h1⟩ := h (i * 2 + 1) (.int .i64 l[i].2) (by rw [cellsT, flat_at 2 _ (fun _ => rfl) l i 1 hi (by omega)]; rfl)
  subst e0
  cases e1
  exact ⟨b, o, rfl, World.block_lt_of_cell? w _ h0, h0, h1⟩

def hasB (l : List (Int × Int)) (e t : Int) : Bool := l.any fun x => x.1 == e && x.2 == t
theorem hasB_take {l : List (Int × Int)} {e t : Int} {i : Nat} (hi : i < l.length) : hasB (l.take (i + 1)) e t = (hasB (l.take i) e t || ((stAt l i).1 == e && (stAt l i).2 == t)) := by
  rw [List.take_succ_eq_append_getElem hi, hasB, List.any_append, stAt_eq hi]
  simp [hasB]
theorem hasB_yes {l : List (Int × Int)} {e t : Int} {i : Nat} (hi : i < l.length) (h1 : ((stAt l i).1 == e) = true) (h2 : ((stAt l i).2 == t) = true) : hasB l e t = true := by
  unfold hasB
  rw [List.any_eq_true]
  rw [stAt_eq hi] at h1 h2
  exact ⟨l[i], List.getElem_mem _, by simp [h1, h2]⟩

/-- law07.has -/
theorem has_any (v : Value) (l : List (Int × Int)) (e t : Int) (w : World) (hv : Steps w v l) :
    Calls Try.prog 13 #[v, .int .i64 e, .int .i64 t] w fun e' w' => e' = .returned (.bool (hasB l e t)) ∧ Below w.heap.size w w' := by
  obtain ⟨A, c, rfl, hlc, hcm, hrd⟩ := hv.form
  have HRD := Lib.hid hrd
  clear hrd hv
  go_enter Try.func13, Try.ntmps13
  go_wp2_with fail
  go_loopw [6, 7] (fun v6 v7 wr => ∃ i : Nat, v6 = .bool false ∧ v7 = .int .i64 i ∧ i ≤ l.length ∧ Hid (wr = w ∧ hasB (l.take i) e t = false)) (fun _ v7 _ => l.length - (intOf v7).toNat)
  case atStart => exact ⟨0, rfl, rfl, by omega, Lib.hid ⟨rfl, rfl⟩⟩
  case round =>
    obtain ⟨i, rfl, rfl, hi, HR⟩ := hrel
    obtain rfl := HR.out.1
    by_cases hin : i < l.length
    · have hin' : (i : Int) < (l.length : Int) := by omega
      have hi0 : (0 : Int) ≤ (i : Int) := by omega
      obtain ⟨b, o, hA, hbl, hc0, hc1⟩ := HRD.out.step i hin
      subst hA
      have HT := Lib.hid (hasB_take (e := e) (t := t) hin)
      have HY := Lib.hid (fun h1 h2 => hasB_yes (e := e) (t := t) hin h1 h2)
      generalize stAt l i = x at *
      obtain ⟨x1, x2⟩ := x
      dsimp only at hc0 hc1
      cases h1 : (x1 == e) with
      | false =>
        have HF := Lib.hid (show hasB (l.take (i + 1)) e t = false by rw [HT.out, HR.out.2]; simp only [h1]; rfl)
        go_wp2_with fail
        go_roundw
        case rel => exact ⟨i + 1, rfl, by go_num, by omega, Lib.hid ⟨by trivial, HF.out⟩⟩
        case measure => simp [intOf]; omega
      | true =>
        cases h2 : (x2 == t) with
        | false =>
          have HF := Lib.hid (show hasB (l.take (i + 1)) e t = false by rw [HT.out, HR.out.2]; simp only [h1, h2]; rfl)
          go_wp2_with fail
          go_roundw
          case rel => exact ⟨i + 1, rfl, by go_num, by omega, Lib.hid ⟨by trivial, HF.out⟩⟩
          case measure => simp [intOf]; omega
        | true =>
          have HF := Lib.hid (HY.out h1 h2)
          go_wp2_with fail
          go_ret
          exact ⟨ret_bool HF.out.symm, Below.refl _ _⟩
    · have hni : (l.length : Int) ≤ (i : Int) := by omega
      have h := HR.out.2
      rw [List.take_of_length_le (by omega)] at h
      have HF := Lib.hid h
      clear h
      go_wp2_with fail
      go_ret
      exact ⟨ret_bool HF.out.symm, Below.refl _ _⟩

/-- law07.sames, of two like lists -/
theorem sames_any (v v' : Value) (l : List (Int × Int)) (w : World) (hv : Steps w v l) (hv' : Steps w v' l) :
    Calls Try.prog 15 #[v, v'] w fun e' w' => e' = .returned (.bool true) ∧ Below w.heap.size w w' := by
  obtain ⟨A, c, rfl, hlc, hcm, hrd⟩ := hv.form
  obtain ⟨A', c', rfl, hlc', hcm', hrd'⟩ := hv'.form
  have HRD := Lib.hid hrd
  have HRD' := Lib.hid hrd'
  clear hrd hv hrd' hv'
  go_enter Try.func15, Try.ntmps15
  go_wp2_with fail
  go_loopw [4, 5] (fun v4 v5 wr => ∃ i : Nat, v4 = .bool false ∧ v5 = .int .i64 i ∧ i ≤ l.length ∧ Hid (Below w.heap.size w wr)) (fun _ v5 _ => l.length - (intOf v5).toNat)
  case atStart => exact ⟨0, rfl, rfl, by omega, Lib.hid (Below.refl _ _)⟩
  case round =>
    obtain ⟨i, rfl, rfl, hi, HR⟩ := hrel
    by_cases hin : i < l.length
    · have hin' : (i : Int) < (l.length : Int) := by omega
      have hi0 : (0 : Int) ≤ (i : Int) := by omega
      obtain ⟨b, o, hA, hbl, hc0, hc1⟩ := HRD.out.step i hin
      subst hA
      obtain ⟨b', o', hA', hbl', hc0', hc1'⟩ := HRD'.out.step i hin
      subst hA'
      have m0 := cell_below HR.out hbl hc0
      have m1 := cell_below HR.out hbl hc1
      have m0' := cell_below HR.out hbl' hc0'
      have m1' := cell_below HR.out hbl' hc1'
      clear hc0 hc1 hc0' hc1'
      generalize stAt l i = x at *
      obtain ⟨x1, x2⟩ := x
      dsimp only at m0 m1 m0' m1'
      go_wp2_with fail
      go_quiet (fail)
      go_wp2_with fail
      go_roundw
      case rel => exact ⟨i + 1, rfl, by go_num, by omega, Lib.hid (below_drewN HR.out _)⟩
      case measure => simp [intOf]; omega
    · have hni : (l.length : Int) ≤ (i : Int) := by omega
      go_wp2_with fail
      go_ret
      exact ⟨rfl, HR.out⟩
end Go.Proofs.Ytbolojjnkkgehaa
