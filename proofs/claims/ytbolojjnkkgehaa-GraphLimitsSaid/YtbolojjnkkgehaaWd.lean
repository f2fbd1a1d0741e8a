import Derived.Test.YtbolojjnkkgehaaGr
import Derived.Laws.RangeAny
import Derived.Deep.Light
namespace Go.Proofs.Ytbolojjnkkgehaa
open Go.RowKit

def ltrB (c : Nat) : Bool := (decide (65 ≤ c) && decide (c ≤ 90)) || (decide (97 ≤ c) && decide (c ≤ 122)) || c == 95
def dgtB (c : Nat) : Bool := decide (48 ≤ c) && decide (c ≤ 57)
def okAt (s : ByteArray) (j : Nat) : Bool := ltrB (s.data.toList.getD j 0).toNat || (j != 0 && dgtB (s.data.toList.getD j 0).toNat)
/-- Is a text a word? -/
def wordB (s : ByteArray) : Bool := (!s.toList.isEmpty && decide ((s.size : Int) ≤ 40)) && (List.range s.size).all (okAt s)

theorem word_no {s : ByteArray} {j : Nat} (hj : j < s.size) (h : okAt s j = false) : wordB s = false := by
  unfold wordB
  have : (List.range s.size).all (okAt s) = false := by
    rw [List.all_eq_false]
    exact ⟨j, by simpa using hj, by simp [h]⟩
  simp [this]
theorem word_end {s : ByteArray} (h : ∀ j, j < s.size → okAt s j = true) : wordB s = (!s.toList.isEmpty && decide ((s.size : Int) ≤ 40)) := by
  unfold wordB
  have : (List.range s.size).all (okAt s) = true := by
    rw [List.all_eq_true]
    intro j hj
    exact h j (by simpa using hj)
  simp [this]

theorem below_iter (w : World) (s : ByteArray) (p : Nat) : Below w.heap.size w (w.iter s p) := (Below.refl _ _).alloc (Nat.le_refl _) _

theorem byte_of {s : ByteArray} {pos : Nat} (h : pos < s.size) : (s[pos]'h).toNat = (s.data.toList.getD pos 0).toNat := by
  have h2 : pos < s.data.size := h
  rw [List.getD_eq_getElem?_getD, List.getElem?_eq_getElem (by simpa using h2)]
  simp [ByteArray.getElem_eq_getElem_data]
/-- What a letter that is read tells. -/
theorem step_ok {s : ByteArray} {pos r k : Nat} (h : pos < s.size) (hr : Utf8.decode s pos = (r, k)) (hc : (65 ≤ r ∧ r ≤ 90) ∨ (97 ≤ r ∧ r ≤ 122) ∨ r = 95 ∨ (pos ≠ 0 ∧ 48 ≤ r ∧ r ≤ 57)) : okAt s pos = true ∧ k = 1 := by
  by_cases ha : (s[pos]'h).toNat < 128
  · rw [decode_ascii s pos h ha] at hr
    injection hr with h1 h2
    refine ⟨?_, h2.symm⟩
    rw [byte_of h] at h1
    unfold okAt ltrB dgtB
    rw [h1]
    simp
    omega
  · have := (decode_high s pos h (by omega)).1
    rw [hr] at this
    simp only at this
    omega
theorem step_no {s : ByteArray} {pos r k : Nat} (h : pos < s.size) (hr : Utf8.decode s pos = (r, k)) (hc : ¬ ((65 ≤ r ∧ r ≤ 90) ∨ (97 ≤ r ∧ r ≤ 122) ∨ r = 95 ∨ (pos ≠ 0 ∧ 48 ≤ r ∧ r ≤ 57))) : wordB s = false := by
  refine word_no h ?_
  by_cases ha : (s[pos]'h).toNat < 128
  · rw [decode_ascii s pos h ha] at hr
    injection hr with h1 h2
    rw [byte_of h] at h1
    unfold okAt ltrB dgtB
    rw [h1]
    simp
    omega
  · have h3 : 128 ≤ (s.data.toList.getD pos 0).toNat := by rw [← byte_of h]; omega
    unfold okAt ltrB dgtB
    generalize (s.data.toList.getD pos 0).toNat = x at *
    simp
    omega
theorem round_ok {s : ByteArray} {pos r k : Nat} {w : World} (h : pos < s.size) (hr : Utf8.decode s pos = (r, k)) (hok : ∀ j, j < pos → okAt s j = true) (hc : (65 ≤ r ∧ r ≤ 90) ∨ (97 ≤ r ∧ r ≤ 122) ∨ r = 95 ∨ (pos ≠ 0 ∧ 48 ≤ r ∧ r ≤ 57)) :
    (∃ p, Value.bool false = Value.bool false ∧ w.iter s (pos + k) = w.iter s p ∧ p ≤ s.size ∧ ∀ j, j < p → okAt s j = true) ∧ s.size - (w.iter s (pos + k)).iterPos w.heap.size < s.size - (w.iter s pos).iterPos w.heap.size := by
  obtain ⟨h1, h2⟩ := step_ok h hr hc
  subst h2
  refine ⟨⟨pos + 1, rfl, rfl, h, fun j hj => ?_⟩, by simp; omega⟩
  by_cases e : j = pos
  · rw [e]; exact h1
  · exact hok j (by omega)

/-- label.Word -/
theorem word_any (s : ByteArray) (w : World) :
    Calls Try.prog 53 #[.string s] w fun e w' => e = .returned (.bool (wordB s)) ∧ Below w.heap.size w w' := by
  go_enter Try.func53, Try.ntmps53
  go_wp2
  go_loopw [2, 3] (fun v2 _ w' => ∃ (pos : Nat), v2 = .bool false ∧ w' = w.iter s pos ∧ pos ≤ s.size ∧ ∀ j, j < pos → okAt s j = true) (fun _ _ w' => s.size - w'.iterPos w.heap.size)
  case atStart => exact ⟨0, rfl, rfl, by omega, fun j hj => by omega⟩
  case round =>
    obtain ⟨pos, rfl, rfl, hp1, hok⟩ := hrel
    by_cases hp : pos < s.size
    · have hnx : ∀ ty, (Instr.next (.pointer (some ⟨w.heap.size, 0, none⟩)) true ty).run Try.prog (w.iter s pos) = _ := fun ty => run_next_any w s pos ty hp
      have HR := Lib.hid (show ∃ r k, Utf8.decode s pos = (r, k) from ⟨_, _, rfl⟩)
      generalize hr : Utf8.decode s pos = r at *
      obtain ⟨r, k⟩ := r
      have HOK := Lib.hid hok
      have HRR := Lib.hid hr
      clear hok hr HR
      go_wp2
      all_goals first
        | (refine round_ok hp HRR.out HOK.out ?_; go_light; clear hnx HOK HRR; simp at *; omega)
        | (go_ret; refine ⟨ret_bool (step_no hp HRR.out ?_).symm, below_iter _ _ _⟩; go_light; clear hnx HOK HRR; simp at *; omega)
        | (exfalso; go_light; clear hnx HOK HRR; simp at *; omega)
    · have hnx : ∀ ty, (Instr.next (.pointer (some ⟨w.heap.size, 0, none⟩)) true ty).run Try.prog (w.iter s pos) = _ := fun ty => run_next_end w s pos ty hp
      have HW := Lib.hid (word_end (s := s) fun j hj => hok j (by omega))
      clear hok
      by_cases hs : s.toList = []
      · go_wp2
        go_ret
        exact ⟨ret_bool (by rw [HW.out, hs]; rfl), below_iter _ _ _⟩
      · go_wp2
        go_ret
        exact ⟨ret_bool (by rw [HW.out]), below_iter _ _ _⟩

theorem size_pos {s : ByteArray} (h : ¬ s.toList = []) : 0 < s.size := by
  rcases Nat.eq_zero_or_pos s.size with h1 | h1
  · exact absurd (by rw [ByteArray.toList_eq]; exact List.eq_nil_of_length_eq_zero (by simpa using h1)) h
  · exact h1
theorem okAt_byte {s : ByteArray} {j : Nat} (h : j < s.size) : okAt s j = (ltrB (s[j]'h).toNat || (j != 0 && dgtB (s[j]'h).toNat)) := by rw [byte_of h]; rfl
theorem ok_iff {s : ByteArray} {j r : Nat} (h : j < s.size) (hr : r = (s[j]'h).toNat) : okAt s j = true ↔ ((65 ≤ r ∧ r ≤ 90) ∨ (97 ≤ r ∧ r ≤ 122) ∨ r = 95 ∨ (j ≠ 0 ∧ 48 ≤ r ∧ r ≤ 57)) := by
  rw [okAt_byte h, ← hr]
  unfold ltrB dgtB
  simp
  omega
theorem refWord_round {s : ByteArray} {i : Nat} (h : i < s.size) (h0 : 0 < s.size) (hd : ¬ (48 ≤ (s[0]'h0).toNat ∧ (s[0]'h0).toNat ≤ 57)) (hok : ∀ j, j < i → okAt s j = true)
    (hc : (65 ≤ (s[i]'h).toNat ∧ (s[i]'h).toNat ≤ 90) ∨ (97 ≤ (s[i]'h).toNat ∧ (s[i]'h).toNat ≤ 122) ∨ (s[i]'h).toNat = 95 ∨ (48 ≤ (s[i]'h).toNat ∧ (s[i]'h).toNat ≤ 57)) :
    (∃ p : Nat, Value.bool false = Value.bool false ∧ Value.int IntKind.i64 ((i : Int) + 1) = Value.int IntKind.i64 (p : Int) ∧ True ∧ p ≤ s.size ∧ Hid (∀ j, j < p → okAt s j = true)) ∧ s.size - (intOf (Value.int IntKind.i64 ((i : Int) + 1))).toNat < s.size - (intOf (Value.int IntKind.i64 (i : Int))).toNat := by
  refine ⟨⟨i + 1, rfl, by go_num, trivial, h, Lib.hid fun j hj => ?_⟩, by simp [intOf]; omega⟩
  by_cases e : j = i
  · subst e
    refine (ok_iff h rfl).2 ?_
    by_cases e0 : j = 0
    · subst e0; omega
    · omega
  · exact hok j (by omega)
theorem refWord_no {s : ByteArray} {i : Nat} (h : i < s.size) (hc : ¬ ((65 ≤ (s[i]'h).toNat ∧ (s[i]'h).toNat ≤ 90) ∨ (97 ≤ (s[i]'h).toNat ∧ (s[i]'h).toNat ≤ 122) ∨ (s[i]'h).toNat = 95 ∨ (48 ≤ (s[i]'h).toNat ∧ (s[i]'h).toNat ≤ 57))) : wordB s = false := by
  refine word_no h ?_
  cases hk : okAt s i
  · rfl
  · have := (ok_iff h rfl).1 hk
    omega
theorem refWord_end {s : ByteArray} {i : Nat} (h : wordB s = (List.range s.size).all (okAt s)) (hi : ¬ i < s.size) (hok : ∀ j, j < i → okAt s j = true) : wordB s = true := by
  rw [h, List.all_eq_true]
  intro j hj
  exact hok j (by simp at hj; omega)

set_option maxHeartbeats 4000000 in
/-- ref06.Word -/
theorem refWord_any (s : ByteArray) (hsz : s.size ≤ maxLen) (w : World) :
    Calls Try.prog 42 #[.string s] w fun e w' => e = .returned (.bool (wordB s)) ∧ w = w' := by
  have hsz2 : s.size ≤ 9223372036854775807 := by unfold maxLen at hsz; omega
  by_cases hs : s.toList = []
  · have HW := Lib.hid (show wordB s = false by unfold wordB; rw [hs]; rfl)
    go_enter Try.func42, Try.ntmps42
    go_wp2
    go_ret
    exact ⟨ret_bool HW.out.symm, rfl⟩
  have h0 := size_pos hs
  have HS := Lib.hid hs
  have hs1 : (s.toList == []) = false := by simpa using hs
  clear hs
  by_cases hl : (40 : Int) < (s.size : Int)
  · have HW := Lib.hid (show wordB s = false by unfold wordB; simp; omega)
    go_enter Try.func42, Try.ntmps42
    go_wp2
    go_ret
    exact ⟨ret_bool HW.out.symm, rfl⟩
  have HL := Lib.hid (show wordB s = (List.range s.size).all (okAt s) by
    unfold wordB
    have h1 : s.toList.isEmpty = false := by simpa using HS.out
    rw [h1]
    simp; omega)
  by_cases hd : 48 ≤ (s[0]'h0).toNat ∧ (s[0]'h0).toNat ≤ 57
  · have HW := Lib.hid (show wordB s = false from word_no h0 (by
      have := ok_iff h0 rfl
      cases h : okAt s 0
      · rfl
      · have := this.1 h; omega))
    have d1 : decide ((48 : Int) ≤ ((s[0]'h0).toNat : Int)) = true := by simp; omega
    have d2 : decide (((s[0]'h0).toNat : Int) ≤ (57 : Int)) = true := by simp; omega
    clear hd
    go_enter Try.func42, Try.ntmps42
    go_wp2
    go_ret
    exact ⟨ret_bool HW.out.symm, rfl⟩
  · have d1 : (decide ((48 : Int) ≤ ((s[0]'h0).toNat : Int)) && decide (((s[0]'h0).toNat : Int) ≤ (57 : Int))) = false := by simp; omega
    have HD := Lib.hid hd
    clear hd
    have hfin : Hid ((decide ((48 : Int) ≤ ((s[0]'h0).toNat : Int)) = true ∧ decide (((s[0]'h0).toNat : Int) ≤ (57 : Int)) = false) ∨ decide ((48 : Int) ≤ ((s[0]'h0).toNat : Int)) = false) := by
      cases h1 : decide ((48 : Int) ≤ ((s[0]'h0).toNat : Int))
      · exact .inr rfl
      · rw [h1] at d1; exact .inl ⟨rfl, by simpa using d1⟩
    clear d1
    have body : ∀ (d1 : (decide ((48 : Int) ≤ ((s[0]'h0).toNat : Int)) = true ∧ decide (((s[0]'h0).toNat : Int) ≤ (57 : Int)) = false) ∨ decide ((48 : Int) ≤ ((s[0]'h0).toNat : Int)) = false), Calls Try.prog 42 #[.string s] w fun e w' => e = .returned (.bool (wordB s)) ∧ w = w' := by
      intro d1
      clear hfin
      rcases d1 with ⟨d1, d2⟩ | d1
      all_goals
        go_enter Try.func42, Try.ntmps42
        go_wp2
        go_loopw [2, 3, 4] (fun v2 v3 _ w' => ∃ i : Nat, v2 = .bool false ∧ v3 = .int .i64 i ∧ w' = w ∧ i ≤ s.size ∧ Hid (∀ j, j < i → okAt s j = true)) (fun _ v3 _ _ => s.size - (intOf v3).toNat)
        case atStart => exact ⟨0, rfl, rfl, rfl, by omega, Lib.hid fun j hj => by omega⟩
        case round =>
          obtain ⟨i, rfl, rfl, rfl, hi, HOK⟩ := hrel
          by_cases hin : i < s.size
          · have hin' : (i : Int) < (s.size : Int) := by omega
            have hi0 : (0 : Int) ≤ (i : Int) := by omega
            go_wp2
            all_goals first
              | (refine refWord_round hin h0 HD.out HOK.out ?_; go_light; clear HOK HD HL HS d1; (try clear d2); simp at *; omega)
              | (go_ret; refine ⟨ret_bool (refWord_no hin ?_).symm, rfl⟩; go_light; clear HOK HD HL HS d1; (try clear d2); simp at *; omega)
              | (exfalso; go_light; clear HOK HD HL HS d1; (try clear d2); simp at *; omega)
          · have hni : (s.size : Int) ≤ (i : Int) := by omega
            go_wp2
            go_ret
            exact ⟨ret_bool (refWord_end HL.out hin HOK.out).symm, rfl⟩
    exact body hfin.out
end Go.Proofs.Ytbolojjnkkgehaa
