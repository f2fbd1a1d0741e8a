import Derived.Test.YtbcnokidnpnmhaaPv
import GoSem.Op.String
/-! Plain laws: what is written is read, and in the order of numbers. -/
namespace Go.Proofs.Ytbcnokidnpnmhaa
open Go.RowKit

theorem valB_cons (c : UInt8) (r : List UInt8) : valB (c :: r) = c.toNat * 256 ^ r.length + valB r := by
  have key : ∀ (r : List UInt8) (a : Nat), r.foldl (fun n c => n * 256 + c.toNat) a = a * 256 ^ r.length + valB r := by
    intro r
    induction r with
    | nil => intro a; simp [valB]
    | cons d r ih =>
      intro a
      have h1 := ih (a * 256 + d.toNat)
      have h2 := ih (0 * 256 + d.toNat)
      simp only [List.foldl_cons, valB, List.length_cons] at *
      rw [h1, h2, Nat.pow_succ]
      simp only [Nat.add_mul, Nat.zero_mul, Nat.zero_add, Nat.mul_assoc, Nat.mul_comm 256]
      omega
  have := key r c.toNat
  simpa [valB] using this

theorem valB_nb : ∀ n, valB (nb n) = n := by
  intro n
  induction n using Nat.strongRecOn with
  | ind n ih =>
    by_cases h : n = 0
    · subst h; rw [nb_zero]; rfl
    · rw [nb_pos h, valB_snoc, ih (n / 256) (by omega)]
      simp; omega
theorem nb_low : ∀ n, n ≠ 0 → 1 ≤ (nb n).length ∧ 256 ^ ((nb n).length - 1) ≤ n := by
  intro n
  induction n using Nat.strongRecOn with
  | ind n ih =>
    intro h
    rw [nb_pos h, List.length_append, List.length_singleton]
    refine ⟨by omega, ?_⟩
    by_cases h2 : n / 256 = 0
    · rw [h2, nb_zero]; simp; omega
    · obtain ⟨h3, h4⟩ := ih (n / 256) (by omega) h2
      rw [Nat.add_sub_cancel]
      obtain ⟨m, hm⟩ : ∃ m, (nb (n / 256)).length = m + 1 := ⟨(nb (n / 256)).length - 1, by omega⟩
      rw [hm] at h4 ⊢
      rw [Nat.add_sub_cancel] at h4
      rw [Nat.pow_succ]
      omega
theorem nb_hi (n : Nat) : n < 256 ^ (nb n).length := by
  have := valB_lt (nb n)
  rwa [valB_nb] at this
theorem nb_inj {a b : Nat} (h : nb a = nb b) : a = b := by rw [← valB_nb a, h, valB_nb]

/-- Lists of the same length and number are the same. -/
theorem valB_inj : ∀ (x y : List UInt8), x.length = y.length → valB x = valB y → x = y := by
  intro x
  induction x with
  | nil => intro y h _; exact (List.eq_nil_of_length_eq_zero h.symm).symm
  | cons c r ih =>
    intro y h hv
    cases y with
    | nil => cases h
    | cons d s =>
      have hl : r.length = s.length := by simpa using h
      rw [valB_cons, valB_cons, hl] at hv
      have h1 := valB_lt r
      have h2 := valB_lt s
      rw [hl] at h1
      have hcd : c.toNat = d.toNat := by
        rcases Nat.lt_trichotomy c.toNat d.toNat with h3 | h3 | h3
        · have := Nat.mul_le_mul_right (256 ^ s.length) (show c.toNat + 1 ≤ d.toNat from h3)
          rw [Nat.add_mul] at this; omega
        · exact h3
        · have := Nat.mul_le_mul_right (256 ^ s.length) (show d.toNat + 1 ≤ c.toNat from h3)
          rw [Nat.add_mul] at this; omega
      rw [hcd] at hv
      rw [UInt8.toNat_inj.1 hcd, ih s hl (by omega)]

theorem nb_valB (m : List UInt8) (h : m.length = 0 ∨ 256 ^ (m.length - 1) ≤ valB m) : nb (valB m) = m := by
  refine valB_inj _ _ ?_ (valB_nb _)
  rcases h with h | h
  · rw [List.eq_nil_of_length_eq_zero h]; simp [valB, nb_zero]
  · by_cases hl : m.length = 0
    · rw [List.eq_nil_of_length_eq_zero hl]; simp [valB, nb_zero]
    · have hp : 0 < 256 ^ (m.length - 1) := Nat.pow_pos (by omega)
      obtain ⟨h1, h2⟩ := nb_low (valB m) (by omega)
      have h3 := nb_hi (valB m)
      have h4 := valB_lt m
      have h5 : (nb (valB m)).length - 1 < m.length := (Nat.pow_lt_pow_iff_right (by omega : 1 < 256)).1 (by omega : 256 ^ ((nb (valB m)).length - 1) < 256 ^ m.length)
      have h6 : m.length - 1 < (nb (valB m)).length := (Nat.pow_lt_pow_iff_right (by omega : 1 < 256)).1 (by omega : 256 ^ (m.length - 1) < 256 ^ (nb (valB m)).length)
      omega

/-- Of the same length: the order of bytes is that of the numbers. -/
theorem less_same : ∀ (x y : List UInt8), x.length = y.length → Op.bytesLess x y = decide (valB x < valB y) := by
  intro x
  induction x with
  | nil =>
    intro y h
    rw [(List.eq_nil_of_length_eq_zero h.symm : y = [])]
    simp [Op.bytesLess, valB]
  | cons c r ih =>
    intro y h
    cases y with
    | nil => cases h
    | cons d s =>
      have hl : r.length = s.length := by simpa using h
      rw [Op.bytesLess, ih s hl, valB_cons, valB_cons, hl]
      have h1 := valB_lt r
      have h2 := valB_lt s
      rw [hl] at h1
      rcases Nat.lt_trichotomy c.toNat d.toNat with h3 | h3 | h3
      · have := Nat.mul_le_mul_right (256 ^ s.length) (show c.toNat + 1 ≤ d.toNat from h3)
        rw [Nat.add_mul] at this
        have h4 : c < d := UInt8.lt_iff_toNat_lt.2 h3
        simp [h4]; omega
      · have h4 : c = d := UInt8.toNat_inj.1 h3
        subst h4
        simp
      · have := Nat.mul_le_mul_right (256 ^ s.length) (show d.toNat + 1 ≤ c.toNat from h3)
        rw [Nat.add_mul] at this
        have h4 : ¬ c < d := fun h => by have := UInt8.lt_iff_toNat_lt.1 h; omega
        have h5 : ¬ c = d := fun h => by subst h; omega
        simp only [h4, decide_false, Bool.false_or, beq_eq_false_iff_ne.2 h5, Bool.false_and]
        exact (decide_eq_false (by omega)).symm

theorem len_byte {n : Nat} (h : n < 18446744073709551616) : (UInt8.ofNat (nb n).length).toNat = (nb n).length := by
  have := nb_len_le n h
  simp; omega

theorem putB_less (a b : Nat) (ha : a < 18446744073709551616) (hb : b < 18446744073709551616) : Op.bytesLess (putB a) (putB b) = decide (a < b) := by
  unfold putB
  rw [Op.bytesLess]
  have e1 := len_byte ha
  have e2 := len_byte hb
  rcases Nat.lt_trichotomy (nb a).length (nb b).length with h | h | h
  · have h4 : UInt8.ofNat (nb a).length < UInt8.ofNat (nb b).length := UInt8.lt_iff_toNat_lt.2 (by rw [e1, e2]; exact h)
    have hb0 : b ≠ 0 := fun e => by subst e; rw [nb_zero] at h; simp at h
    have h5 := (nb_low b hb0).2
    have h6 := nb_hi a
    have h7 : 256 ^ (nb a).length ≤ 256 ^ ((nb b).length - 1) := Nat.pow_le_pow_right (by omega) (by omega)
    simp only [h4, decide_true, Bool.true_or]
    exact (decide_eq_true (by omega)).symm
  · rw [h, less_same _ _ h, valB_nb, valB_nb]
    simp
  · have h4 : ¬ UInt8.ofNat (nb a).length < UInt8.ofNat (nb b).length := fun h' => by have := UInt8.lt_iff_toNat_lt.1 h'; rw [e1, e2] at this; omega
    have h5 : ¬ UInt8.ofNat (nb a).length = UInt8.ofNat (nb b).length := fun h' => by have := congrArg UInt8.toNat h'; rw [e1, e2] at this; omega
    have ha0 : a ≠ 0 := fun e => by subst e; rw [nb_zero] at h; simp at h
    have h8 := (nb_low a ha0).2
    have h6 := nb_hi b
    have h7 : 256 ^ (nb b).length ≤ 256 ^ ((nb a).length - 1) := Nat.pow_le_pow_right (by omega) (by omega)
    simp only [h4, decide_false, Bool.false_or, beq_eq_false_iff_ne.2 h5, Bool.false_and]
    exact (decide_eq_false (by omega)).symm

theorem putB_inj {a b : Nat} (h : putB a = putB b) : a = b := nb_inj (List.cons.inj h).2
theorem putB_eq (a b : Nat) : (putB a == putB b) = ((a : Int) == (b : Int)) := by
  rw [Bool.eq_iff_iff]
  simp only [beq_iff_eq]
  exact ⟨fun h => by rw [putB_inj h], fun h => by rw [show a = b by omega]⟩

/-! ### What is written is read -/
theorem getB_putB (n : Nat) (hn : n < 18446744073709551616) (more : List UInt8) : getB (putB n ++ more) = some (n, (putB n).length) := by
  have e1 := len_byte hn
  have e2 := nb_len_le n hn
  unfold putB
  rw [List.cons_append, getB]
  rw [e1]
  rw [if_neg (by omega), if_neg (by rw [List.length_append]; omega)]
  have ht : (nb n ++ more).take (nb n).length = nb n := List.take_left
  rw [ht, valB_nb]
  rw [if_neg, List.length_cons, Nat.add_comm]
  rintro ⟨h1, h2⟩
  have h0 : n ≠ 0 := fun e => by subst e; rw [nb_zero] at h1; simp at h1
  have h3 := (nb_low n h0).2
  have := Nat.div_pos h3 (Nat.pow_pos (by omega))
  omega
theorem getB_cut (n : Nat) (hn : n < 18446744073709551616) (j : Nat) (hj : j < (putB n).length) : getB ((putB n).take j) = none := by
  have e1 := len_byte hn
  have e2 := nb_len_le n hn
  cases j with
  | zero => rfl
  | succ j =>
    unfold putB at hj ⊢
    simp only [List.length_cons] at hj
    rw [List.take_succ_cons, getB, e1]
    rw [if_neg (by omega), if_pos (by rw [List.length_take]; omega)]
/-- What is read is what, written, stands there. -/
theorem getB_one {l : List UInt8} {n k : Nat} (h : getB l = some (n, k)) : l.take k = putB n ∧ k = (putB n).length := by
  cases l with
  | nil => simp [getB] at h
  | cons c r =>
    rw [getB] at h
    split at h
    · cases h
    · split at h
      · cases h
      · split at h
        · cases h
        · rename_i h1 h2 h3
          injection h with h
          injection h with h4 h5
          subst h4; subst h5
          have hl : (r.take c.toNat).length = c.toNat := by rw [List.length_take]; omega
          have hnb : nb (valB (r.take c.toNat)) = r.take c.toNat := by
            refine nb_valB _ ?_
            rw [hl]
            by_cases h0 : c.toNat = 0
            · exact .inl h0
            · refine .inr ?_
              have h6 : ¬ valB (r.take c.toNat) / 256 ^ (c.toNat - 1) = 0 := fun e => h3 ⟨by omega, e⟩
              have h7 : 0 < 256 ^ (c.toNat - 1) := Nat.pow_pos (by omega)
              rw [Nat.div_eq_zero_iff] at h6
              omega
          unfold putB
          rw [hnb, hl]
          refine ⟨?_, by rw [List.length_cons, hl]; omega⟩
          rw [Nat.add_comm, List.take_succ_cons]
          simp
theorem textB_put (s : List UInt8) (hs : s.length < 18446744073709551616) (more : List UInt8) : textB (putTextB s ++ more) = some (s, (putTextB s).length) := by
  unfold textB putTextB
  rw [List.append_assoc, getB_putB _ hs]
  simp only
  rw [if_neg (by simp)]
  rw [List.drop_left, List.take_left, List.length_append]
theorem textB_cut (s : List UInt8) (hs : s.length < 18446744073709551616) (j : Nat) (hj : j < (putTextB s).length) : textB ((putTextB s).take j) = none := by
  unfold textB putTextB
  unfold putTextB at hj
  rw [List.length_append] at hj
  by_cases h : j < (putB s.length).length
  · rw [List.take_append_of_le_length (by omega), getB_cut _ hs j h]
  · rw [List.take_append, List.take_of_length_le (by omega), getB_putB _ hs]
    simp only
    rw [if_pos (by rw [List.length_append, List.length_take]; omega)]
theorem textB_one {l s : List UInt8} {k : Nat} (h : textB l = some (s, k)) : l.take k = putTextB s ∧ k ≤ l.length ∧ k = (putTextB s).length := by
  unfold textB at h
  split at h
  · cases h
  · rename_i n j hg
    split at h
    · cases h
    · rename_i hlt
      injection h with h
      injection h with h1 h2
      subst h1; subst h2
      obtain ⟨h3, h4⟩ := getB_one hg
      have h5 := (getB_some hg).2.1
      have hl : ((l.drop j).take n).length = n := by rw [List.length_take, List.length_drop]; omega
      unfold putTextB
      rw [hl, ← h3]
      refine ⟨List.take_add, by omega, by rw [List.length_append, List.length_take, hl]; omega⟩
end Go.Proofs.Ytbcnokidnpnmhaa
