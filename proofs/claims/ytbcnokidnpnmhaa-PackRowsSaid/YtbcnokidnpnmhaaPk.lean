/-! Plain: numbers as bytes. -/
namespace Go.Proofs.Ytbcnokidnpnmhaa

/-- A number's digits to base 256, the highest first, none of 0. -/
def nb (n : Nat) : List UInt8 := if _h : n = 0 then [] else nb (n / 256) ++ [UInt8.ofNat n]
termination_by n
decreasing_by omega

theorem nb_zero : nb 0 = [] := by unfold nb; simp
theorem nb_pos {n : Nat} (h : ¬ n = 0) : nb n = nb (n / 256) ++ [UInt8.ofNat n] := by rw [nb.eq_def]; simp [h]
theorem nb_step (n i : Nat) (h : ¬ n / 256 ^ i = 0) : nb (n / 256 ^ (i + 1)) ++ [UInt8.ofNat (n / 256 ^ i)] = nb (n / 256 ^ i) := by
  rw [nb_pos h, Nat.pow_succ, ← Nat.div_div_eq_div_mul]
theorem nb_len : ∀ (k n : Nat), n / 256 ^ k = 0 → (∀ j, j < k → ¬ n / 256 ^ j = 0) → (nb n).length = k
  | 0, n, h, _ => by simp at h; subst h; simp [nb_zero]
  | k + 1, n, h, hj => by
    have h0 : ¬ n = 0 := by simpa using hj 0 (by omega)
    rw [nb_pos h0, List.length_append, nb_len k (n / 256)]
    · simp
    · rw [Nat.div_div_eq_div_mul, ← Nat.pow_succ']; exact h
    · intro j hk
      rw [Nat.div_div_eq_div_mul, ← Nat.pow_succ']
      exact hj (j + 1) (by omega)
theorem nb_len_le (n : Nat) (h : n < 18446744073709551616) : (nb n).length ≤ 8 := by
  have key : ∀ (k n : Nat), n < 256 ^ k → (nb n).length ≤ k := by
    intro k
    induction k with
    | zero => intro n hn; simp at hn; subst hn; simp [nb_zero]
    | succ k ih =>
      intro n hn
      by_cases h0 : n = 0
      · subst h0; simp [nb_zero]
      · rw [nb_pos h0, List.length_append]
        have := ih (n / 256) (by rw [Nat.pow_succ] at hn; omega)
        simp; omega
  exact key 8 n (by simpa using h)

theorem two_pow (k : Nat) : 2 ^ (8 * k) = 256 ^ k := by rw [Nat.pow_mul]
theorem div_256 (n k : Nat) : ((n : Int) / 2 ^ (8 * k)) = ((n / 256 ^ k : Nat) : Int) := by
  rw [Int.natCast_ediv, ← two_pow]; simp
theorem shr_zero {n k : Nat} (h : ((n : Int) / 2 ^ (8 * k) != 0) = false) : n / 256 ^ k = 0 := by
  rw [div_256] at h
  have h2 := bne_eq_false_iff_eq.1 h
  omega
theorem shr_pos {n k : Nat} (h : ((n : Int) / 2 ^ (8 * k) != 0) = true) : ¬ n / 256 ^ k = 0 := by
  rw [div_256] at h
  have h2 := bne_iff_ne.1 h
  omega
theorem byte_toNat (x : Nat) : ((UInt8.ofNat x).toNat : Int) = (x : Int) % 256 := by simp
/-- A number's bytes. -/
def putB (n : Nat) : List UInt8 := UInt8.ofNat (nb n).length :: nb n
def putTextB (s : List UInt8) : List UInt8 := putB s.length ++ s

/-- So many bytes of a number, the highest first. -/
def fixB : Nat → Nat → List UInt8
  | 0, _ => []
  | k + 1, n => fixB k (n / 256) ++ [UInt8.ofNat n]
theorem fixB_length : ∀ k n, (fixB k n).length = k
  | 0, _ => rfl
  | k + 1, n => by simp [fixB, fixB_length k]
theorem fixB_step (k n i : Nat) : fixB k (n / 256 ^ (i + 1)) ++ [UInt8.ofNat (n / 256 ^ i)] = fixB (k + 1) (n / 256 ^ i) := by
  rw [fixB, Nat.pow_succ, ← Nat.div_div_eq_div_mul]

/-- The number that bytes are, the highest first. -/
def valB (l : List UInt8) : Nat := l.foldl (fun n c => n * 256 + c.toNat) 0
theorem valB_snoc (l : List UInt8) (c : UInt8) : valB (l ++ [c]) = valB l * 256 + c.toNat := by simp [valB]
theorem valB_lt (l : List UInt8) : valB l < 256 ^ l.length := by
  have key : ∀ k (l : List UInt8), l.length = k → valB l < 256 ^ k := by
    intro k
    induction k with
    | zero => intro l h; simp at h; subst h; simp [valB]
    | succ k ih =>
      intro l h
      have hne : l ≠ [] := by intro e; subst e; simp at h
      rw [← List.dropLast_concat_getLast hne, valB_snoc, Nat.pow_succ]
      have h1 := ih l.dropLast (by simp [h])
      have h2 := (l.getLast hne).toNat_lt
      omega
  exact key _ l rfl

/-- The number at the beginning, and how many bytes it has. -/
def getB : List UInt8 → Option (Nat × Nat)
  | [] => none
  | c :: r => if 8 < c.toNat then none else if r.length < c.toNat then none
    else if 0 < c.toNat ∧ valB (r.take c.toNat) / 256 ^ (c.toNat - 1) = 0 then none else some (valB (r.take c.toNat), 1 + c.toNat)

/-- The text at the beginning, and how many bytes it has. -/
def textB (l : List UInt8) : Option (List UInt8 × Nat) :=
  match getB l with
  | none => none
  | some (n, k) => if l.length - k < n then none else some ((l.drop k).take n, k + n)

theorem valB_lt8 (l : List UInt8) (h : l.length ≤ 8) : valB l < 18446744073709551616 := by
  have h1 := valB_lt l
  have h2 : 256 ^ l.length ≤ 256 ^ 8 := Nat.pow_le_pow_right (by omega) h
  have h3 : (256 : Nat) ^ 8 = 18446744073709551616 := by decide
  omega
theorem getB_some {l : List UInt8} {n k : Nat} (h : getB l = some (n, k)) : n < 18446744073709551616 ∧ k ≤ l.length ∧ 1 ≤ k := by
  cases l with
  | nil => simp [getB] at h
  | cons c r =>
    simp only [getB] at h
    split at h
    · cases h
    · split at h
      · cases h
      · split at h
        · cases h
        · injection h with h
          injection h with h1 h2
          subst h1; subst h2
          refine ⟨valB_lt8 _ (by simp; omega), by simp; omega, by omega⟩

end Go.Proofs.Ytbcnokidnpnmhaa
