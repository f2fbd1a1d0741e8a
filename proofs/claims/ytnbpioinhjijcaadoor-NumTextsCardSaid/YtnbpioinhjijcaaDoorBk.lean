import Derived.Test.YtnbpioinhjijcaaDoorShn
/-! Texts and what Parse reads of them. -/
namespace Go.Proofs.YtnbpioinhjijcaaDoor.Bk
open Go.RowKit

theorem body_len (r : Nat) (hr : r ≤ 9218868437227405312) : (bodyB r).length ≤ 90 := by
  by_cases h1 : r = 9218868437227405312
  · rw [h1, body_inf]; decide
  · by_cases h0 : r = 0
    · rw [h0, body_zero]; decide
    · rw [body_num (by omega) (by omega)]
      obtain ⟨m1, m2, m3, x, m4, m5, m6⟩ := mag_spec r (by omega) (by omega)
      have l1 := nDigits_le (magB r) (by omega)
      have l2 := itoa_le (exB r) (by omega) (by omega)
      simp; omega
theorem text_len (b : Nat) : (textB b).length ≤ 100 := by
  unfold textB
  cases h : nanB b with
  | true => rw [if_pos rfl]; decide
  | false =>
    rw [if_neg (by decide)]
    have := body_len (b % 9223372036854775808) ((nanB_false b).1 h)
    split <;> simp <;> omega
theorem text_canon (f : Nat) : textB (canonB f) = textB f := by
  cases h : nanB f with
  | true => rw [canonB_nan h]; unfold textB; rw [if_pos nan_canon, if_pos h]
  | false => rw [canonB_num h]
theorem canon_canon (f : Nat) : canonB (canonB f) = canonB f := by
  cases h : nanB f with
  | true => rw [canonB_nan h, canonB_nan nan_canon]
  | false => rw [canonB_num h, canonB_num h]
theorem canon_lt (f : Nat) (h : f < 18446744073709551616) : canonB f < 18446744073709551616 := canonB_lt f h
theorem parse_text (a : Nat) (ha : a < 18446744073709551616) (w : World) (hv : Vars w) : Calls Tryd.prog 21 #[.string ⟨(textB a).toArray⟩] w fun e w' => e = .returned (.tuple #[.float .f64 (canonB a), .int .i64 0]) ∧ Below w.heap.size w w' := by
  have hl := text_len a
  refine (parse_any ⟨(textB a).toArray⟩ (by show (textB a).toArray.size ≤ _; simp; omega) w hv).mono ?_
  rintro e w' ⟨⟨f, hf, ht, rfl⟩ | ⟨hno, _⟩, hb⟩
  · have e : textB f = textB a := ht
    rw [text_inj hf ha e]
    exact ⟨rfl, hb⟩
  · exact absurd rfl (hno a ha)
theorem cut50 (s : ByteArray) : ∃ q : Nat, (if (50 : Int) < (s.size : Int) then (50 : Int) else (s.size : Int)) = (q : Int) ∧ (0 : Int) ≤ (q : Int) ∧ (q : Int) ≤ (s.size : Int) ∧ (s.extract 0 q).size ≤ 50 ∧ min (s.size : Int) 50 = (q : Int) := by
  split
  · exact ⟨50, rfl, by omega, by omega, by simp; omega, by omega⟩
  · exact ⟨s.size, rfl, by omega, by omega, by simp; omega, by omega⟩

end Go.Proofs.YtnbpioinhjijcaaDoor.Bk
