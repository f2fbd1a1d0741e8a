import Derived.Test.YtnbpioinhjijcaaDoorPd3
/-! ref01.number. -/
namespace Go.Proofs.YtnbpioinhjijcaaDoor
open Go.RowKit Bk

def dv (l : List UInt8) : Nat := l.foldl (fun a c => a * 10 + (c.toNat - 48)) 0
theorem dv_snoc (l : List UInt8) (c : UInt8) : dv (l ++ [c]) = dv l * 10 + (c.toNat - 48) := by
  unfold dv; rw [List.foldl_append]; rfl
def Digs (l : List UInt8) : Prop := ∀ c ∈ l, 48 ≤ c.toNat ∧ c.toNat ≤ 57

theorem snoc_cases (l : List UInt8) : l = [] ∨ ∃ a c, l = a ++ [c] := by
  rcases List.eq_nil_or_concat l with h | ⟨a, c, h⟩
  · exact .inl h
  · exact .inr ⟨a, c, by rw [h]; first | rfl | simp⟩
theorem dv_pos : ∀ (n : Nat) (l : List UInt8), l.length = n → l ≠ [] → Digs l → l.head? ≠ some 48 → 0 < dv l
  | n, l, hn, h0, hd, hh => by
    rcases snoc_cases l with rfl | ⟨a, c, rfl⟩
    · exact absurd rfl h0
    · rw [dv_snoc]
      have hc := hd c (by simp)
      by_cases ha : a = []
      · subst ha
        have : c ≠ 48 := fun e => hh (by rw [e]; rfl)
        have : c.toNat ≠ 48 := fun e => this (UInt8.toNat_inj.1 (by rw [e]; rfl))
        omega
      · have := dv_pos a.length a rfl ha (fun x hx => hd x (by simp [hx])) (by
          intro e; apply hh
          cases a with
          | nil => exact absurd rfl ha
          | cons y t => simpa using e)
        omega
termination_by n => n
decreasing_by subst hn; simp
theorem dig_of {c : UInt8} {d : Nat} (h : c.toNat = 48 + d) (hd : d < 10) : UInt8.ofNat (48 + d) = c := by
  apply UInt8.toNat_inj.1
  rw [dig_toNat hd, h]
theorem dec_dv : ∀ (n : Nat) (l : List UInt8), l.length = n → l ≠ [] → Digs l → (l.length = 1 ∨ l.head? ≠ some 48) → Lib.decDigits (dv l) = l
  | n, l, hn, h0, hd, hh => by
    rcases snoc_cases l with rfl | ⟨a, c, rfl⟩
    · exact absurd rfl h0
    · have hc := hd c (by simp)
      by_cases ha : a = []
      · subst ha
        rw [dv_snoc, show dv [] = 0 from rfl, dec_small (by omega)]
        rw [List.nil_append]
        congr 1
        exact dig_of (by omega) (by omega)
      · have hda : Digs a := fun x hx => hd x (by simp [hx])
        have hha : a.head? ≠ some 48 := by
          intro e
          rcases hh with h | h
          · apply ha
            apply List.eq_nil_of_length_eq_zero
            simp at h; simpa using h
          · apply h
            cases a with
            | nil => exact absurd rfl ha
            | cons y t => simpa using e
        have hp := dv_pos a.length a rfl ha hda hha
        have ih := dec_dv a.length a rfl ha hda (.inr hha)
        rw [dv_snoc, dec_big (by omega), show (dv a * 10 + (c.toNat - 48)) / 10 = dv a by omega, ih]
        congr 2
        exact dig_of (by omega) (by omega)
termination_by n => n
decreasing_by subst hn; simp
theorem dv_dec (u : Nat) : dv (Lib.decDigits u) = u := by
  induction u using Nat.strongRecOn with
  | ind u ih =>
    by_cases h : u < 10
    · rw [dec_small h, show [UInt8.ofNat (48 + u)] = [] ++ [UInt8.ofNat (48 + u)] from rfl, dv_snoc, dig_toNat h]
      show 0 * 10 + _ = _
      omega
    · rw [dec_big h, dv_snoc, ih (u / 10) (by omega), dig_toNat (by omega)]
      omega
theorem dec_head (u : Nat) : 0 < u → (Lib.decDigits u).head? ≠ some 48 := by
  induction u using Nat.strongRecOn with
  | ind u ih =>
    intro h0
    by_cases h : u < 10
    · rw [dec_small h]
      intro e
      have : UInt8.ofNat (48 + u) = 48 := by simpa using e
      have h2 := dig_toNat h
      rw [this] at h2
      have : (48 : UInt8).toNat = 48 := rfl
      omega
    · have := ih (u / 10) (by omega) (by omega)
      rw [dec_big h]
      obtain ⟨c, l, e⟩ := dec_cons (u / 10)
      rw [e] at this ⊢
      simpa using this
theorem dec_len : ∀ (k u : Nat), u < 10 ^ (k + 1) → (Lib.decDigits u).length ≤ k + 1
  | 0, u, h => by rw [dec_small (by simpa using h)]; simp
  | k + 1, u, h => by
    by_cases h1 : u < 10
    · rw [dec_small h1]; simp
    · rw [dec_big h1]
      have h2 : 10 ^ (k + 1 + 1) = 10 ^ (k + 1) * 10 := Nat.pow_succ ..
      have := dec_len k (u / 10) (by rw [h2] at h; generalize 10 ^ (k + 1) = p at *; omega)
      simp; omega
theorem dv_lt : ∀ (n : Nat) (l : List UInt8), l.length = n → Digs l → dv l < 10 ^ l.length
  | n, l, hn, hd => by
    rcases snoc_cases l with rfl | ⟨a, c, rfl⟩
    · decide
    · have hc := hd c (by simp)
      have ih := dv_lt a.length a rfl (fun x hx => hd x (by simp [hx]))
      rw [dv_snoc, List.length_append, show [c].length = 1 from rfl, Nat.pow_succ]
      generalize 10 ^ a.length = p at *
      omega
termination_by n => n
decreasing_by subst hn; simp

/-- What number returns. -/
def NumIs (l : List UInt8) (most : Nat) (e : Ending) : Prop :=
  (∃ u, u ≤ most ∧ Lib.decDigits u = l ∧ e = .returned (.int .i64 (u : Int))) ∨ ((∀ u, u ≤ most → Lib.decDigits u ≠ l) ∧ e = .returned (.int .i64 (-1)))

theorem num_no {l : List UInt8} {most : Nat} (hm : most < 10000000000000000) (h : l = [] ∨ (1 < l.length ∧ l.head? = some 48) ∨ 17 < l.length ∨ (∃ c ∈ l, ¬ (48 ≤ c.toNat ∧ c.toNat ≤ 57)) ∨ most < dv l) : ∀ u, u ≤ most → Lib.decDigits u ≠ l := by
  intro u hu e
  subst e
  rcases h with h | ⟨h1, h2⟩ | h | ⟨c, h1, h2⟩ | h
  · obtain ⟨c, l, e⟩ := dec_cons u
    rw [e] at h; cases h
  · have : 0 < u := by
      rcases Nat.eq_zero_or_pos u with e | e
      · subst e; rw [dec_small (by omega)] at h1; simp at h1
      · exact e
    exact dec_head u this h2
  · have := dec_len 16 u (by have : (10 : Nat) ^ (16 + 1) = 100000000000000000 := by decide
                             omega)
    omega
  · exact h2 (dec_digits u c h1)
  · rw [dv_dec] at h; omega
theorem num_yes {l : List UInt8} {most : Nat} (h0 : l ≠ []) (h1 : ¬ (1 < l.length ∧ l.head? = some 48)) (hd : Digs l) (hm : dv l ≤ most) : ∃ u, u ≤ most ∧ Lib.decDigits u = l ∧ dv l = u := by
  refine ⟨dv l, hm, dec_dv _ l rfl h0 hd ?_, rfl⟩
  have : l.length ≠ 0 := fun e => h0 (List.eq_nil_of_length_eq_zero e)
  by_cases h : l.length = 1
  · exact .inl h
  · exact .inr fun e => h1 ⟨by omega, e⟩
end Go.Proofs.YtnbpioinhjijcaaDoor
