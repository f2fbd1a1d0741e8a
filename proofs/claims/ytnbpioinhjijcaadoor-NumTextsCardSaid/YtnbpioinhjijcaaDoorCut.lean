import Derived.Test.YtnbpioinhjijcaaDoorPl2
import Derived.Deep.RegionHeld3
import Derived.Deep.DrawnRows
/-! strings.Cut at a p. -/
namespace Go.Proofs.YtnbpioinhjijcaaDoor
open Go.RowKit

theorem index_cut : ∀ l : List UInt8, (Lib.indexByte l 112 = -1 ∧ cutM l = l ∧ cutE l = []) ∨ (∃ i : Nat, Lib.indexByte l 112 = i ∧ i < l.length ∧ cutM l = l.take i ∧ cutE l = l.drop (i + 1))
  | [] => .inl ⟨rfl, rfl, rfl⟩
  | c :: l => by
    by_cases h : c = 112
    · subst h
      exact .inr ⟨0, rfl, by simp, rfl, rfl⟩
    · have hb : (c == 112) = false := by simpa using h
      have hb2 : (c != 112) = true := by simpa using h
      have e1 : cutM (c :: l) = c :: cutM l := List.takeWhile_cons_of_pos (p := fun x => x != 112) hb2
      have e2 : cutE (c :: l) = cutE l := by unfold cutE; rw [List.dropWhile_cons_of_pos (p := fun x => x != 112) hb2]
      unfold Lib.indexByte
      rw [hb, if_neg (by decide), e1, e2]
      rcases index_cut l with ⟨a, b, d⟩ | ⟨i, a, b, d, e⟩
      · left
        rw [a, if_pos (by decide), b, d]
        exact ⟨rfl, rfl, rfl⟩
      · right
        refine ⟨i + 1, ?_, by simp; omega, by rw [d]; rfl, by rw [e]; rfl⟩
        rw [a, if_neg (by simp)]
        rfl
theorem extract_take (s : ByteArray) (i : Nat) : s.extract 0 i = ⟨(s.data.toList.take i).toArray⟩ := by
  apply ByteArray.ext
  apply Array.ext'
  simp
theorem extract_drop (s : ByteArray) (i : Nat) : s.extract i s.size = ⟨(s.data.toList.drop i).toArray⟩ := by
  apply ByteArray.ext
  apply Array.ext'
  have hl : s.size = s.data.toList.length := by simp
  rw [ByteArray.data_extract, Array.toList_extract, List.extract_eq_take_drop, hl]
  exact List.take_of_length_le (by rw [List.length_drop]; exact Nat.le_refl _)

theorem cutIn_any (s : ByteArray) (hs : s.size ≤ 9223372036854775806) (w : World) : Calls Tryd.prog 58 #[.string s, .string ⟨#[112]⟩] w fun e w' => (∃ b, e = .returned (.tuple #[.string ⟨(cutM s.data.toList).toArray⟩, .string ⟨(cutE s.data.toList).toArray⟩, .bool b])) ∧ Below w.heap.size w w' := by
  have HI := Lib.hid (Tryd.stringslite_Index_one s 112 w)
  rcases index_cut s.data.toList with ⟨a, b, d⟩ | ⟨i, a, b, d, e⟩
  · rw [a] at HI
    have HB := Lib.hid b
    have HD := Lib.hid d
    clear a b d
    go_enter Tryd.func58, Tryd.ntmps58
    go_wp2_with fail
    refine HI.out.mono ?_
    rintro e w1 ⟨rfl, rfl⟩
    go_wp2_with fail
    go_ret3
    exact ⟨⟨false, by rw [HB.out, HD.out]; rfl⟩, Below.refl _ _⟩
  · rw [a] at HI
    have hlen : s.size = s.data.toList.length := by simp
    have hi : (i : Int) + 1 ≤ (s.size : Int) := by omega
    have hi2 : (i : Int) ≤ (s.size : Int) := by omega
    have hi0 : (0 : Int) ≤ (i : Int) := by omega
    have hi3 : (0 : Int) ≤ (i : Int) + 1 := by omega
    have hwi : IntKind.i64.wrap ((i : Int) + 1) = (i : Int) + 1 := by rw [IntKind.wrap_i64]; omega
    have HD := Lib.hid (show s.extract 0 i = ⟨(cutM s.data.toList).toArray⟩ by rw [d]; exact extract_take s i)
    have HE := Lib.hid (show s.extract (i + 1) s.size = ⟨(cutE s.data.toList).toArray⟩ by rw [e]; exact extract_drop s (i + 1))
    clear a b d e hlen
    go_enter Tryd.func58, Tryd.ntmps58
    go_wp2_with fail
    refine HI.out.mono ?_
    rintro e w1 ⟨rfl, rfl⟩
    go_wp2_with fail
    go_region_held (fun _ => True) (first | exact trivial | go_keep) (fail)
    go_wp2
    go_ret3
    exact ⟨⟨true, by rw [← HD.out, ← HE.out]; rfl⟩, (Below.refl _ _).drew⟩
theorem cut_any (s : ByteArray) (hs : s.size ≤ 9223372036854775806) (w : World) : Calls Tryd.prog 39 #[.string s, .string ⟨#[112]⟩] w fun e w' => (∃ b, e = .returned (.tuple #[.string ⟨(cutM s.data.toList).toArray⟩, .string ⟨(cutE s.data.toList).toArray⟩, .bool b])) ∧ Below w.heap.size w w' := by
  have HI := Lib.hid (cutIn_any s hs w)
  clear hs
  go_enter Tryd.func39, Tryd.ntmps39
  go_wp2_with fail
  refine HI.out.mono ?_
  rintro e w1 ⟨⟨b, rfl⟩, hb⟩
  go_wp2_with fail
  go_ret3
  exact ⟨⟨b, rfl⟩, hb⟩
end Go.Proofs.YtnbpioinhjijcaaDoor
