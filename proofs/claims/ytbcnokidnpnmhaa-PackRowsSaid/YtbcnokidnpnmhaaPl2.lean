import Derived.Test.YtbcnokidnpnmhaaPl
import Derived.Test.YtbcnokidnpnmhaaRd5
/-! Plain laws: values. -/
namespace Go.Proofs.Ytbcnokidnpnmhaa
open Go.RowKit

theorem nil_list : (⟨#[]⟩ : ByteArray).toList = [] := by rw [ByteArray.toList_eq]
theorem arr_list (s : List UInt8) : (⟨s.toArray⟩ : ByteArray).toList = s := by rw [ByteArray.toList_eq]

theorem valB_fix : ∀ (k n : Nat), n < 256 ^ k → valB (fixB k n) = n := by
  intro k
  induction k with
  | zero => intro n h; simp at h; subst h; rfl
  | succ k ih =>
    intro n h
    rw [fixB, valB_snoc, ih (n / 256) (by rw [Nat.pow_succ] at h; omega)]
    simp; omega
theorem fix_valB (m : List UInt8) : fixB m.length (valB m) = m :=
  valB_inj _ _ (fixB_length _ _) (valB_fix _ _ (valB_lt m))
theorem pow8 : (256 : Nat) ^ 8 = 18446744073709551616 := by decide

/-- A value whose parts fit their kinds. -/
structure Fits (x : Vl) : Prop where
  n0 : -9223372036854775808 ≤ x.n
  n1 : x.n ≤ 9223372036854775807
  f : x.f < 18446744073709551616
  right : rightB x.k x.n x.f ⟨x.s.toArray⟩ = true

theorem valueB_one {l : List UInt8} {x : Vl} {k : Nat} (h : valueB l = some (x, k)) : Fits x ∧ l.take k = putValueB x ∧ k ≤ l.length := by
  cases l with
  | nil => simp [valueB] at h
  | cons c r =>
    have hc : ∀ n : Nat, c.toNat = n → n < 256 → c = UInt8.ofNat n := fun n e hn => UInt8.toNat_inj.1 (by rw [e]; simp; omega)
    rw [valueB] at h
    split at h
    · rename_i h0
      injection h with h; injection h with h1 h2
      subst h1; subst h2
      rw [hc 0 h0 (by omega)]
      exact ⟨⟨by simp, by simp, by simp, rightB_0⟩, by simp [putValueB], by simp⟩
    split at h
    · rename_i h0
      split at h
      · cases h
      · rename_i n j hg
        split at h
        · rename_i hn
          injection h with h; injection h with h1 h2
          subst h1; subst h2
          obtain ⟨e1, e2⟩ := getB_one hg
          have e3 := (getB_some hg).2.1
          rw [hc 1 h0 (by omega)]
          refine ⟨⟨by simp, by simp; omega, by simp, ?_⟩, ?_, by simp; omega⟩
          · show rightB 1 (n : Int) 0 ⟨#[]⟩ = true
            rw [rightB_1]
            simp
            omega
          · rw [Nat.add_comm, List.take_succ_cons, e1]
            have : ¬ (n : Int) < 0 := by omega
            simp [putValueB, this]
        · cases h
    split at h
    · rename_i h0
      split at h
      · cases h
      · rename_i n j hg
        split at h
        · rename_i hn
          injection h with h; injection h with h1 h2
          subst h1; subst h2
          obtain ⟨e1, e2⟩ := getB_one hg
          have e3 := (getB_some hg).2.1
          rw [hc 2 h0 (by omega)]
          refine ⟨⟨by simp, by simp; omega, by simp, rightB_2 _⟩, ?_, by simp; omega⟩
          rw [Nat.add_comm, List.take_succ_cons, e1]
          have : ¬ (n : Int) < 0 := by omega
          simp [putValueB, this]
        · cases h
    split at h
    · rename_i h0
      split at h
      · cases h
      · rename_i n j hg
        split at h
        · rename_i hn
          injection h with h; injection h with h1 h2
          subst h1; subst h2
          obtain ⟨e1, e2⟩ := getB_one hg
          have e3 := (getB_some hg).2.1
          rw [hc 18 h0 (by omega)]
          refine ⟨⟨by simp; omega, by simp; omega, by simp, rightB_2 _⟩, ?_, by simp; omega⟩
          rw [Nat.add_comm, List.take_succ_cons, e1]
          have h3 : (-1 - (n : Int)) < 0 := by omega
          have h4 : (-1 - (-1 - (n : Int))).toNat = n := by omega
          simp only [putValueB, h3, h4]
          simp
        · cases h
    split at h
    · rename_i h0
      split at h
      · cases h
      · rename_i hlen
        split at h
        · rename_i hk
          injection h with h; injection h with h1 h2
          subst h1; subst h2
          rw [hc 3 h0 (by omega)]
          have hl8 : (r.take 8).length = 8 := by rw [List.length_take]; omega
          have hv := valB_lt8 (r.take 8) (by omega)
          refine ⟨⟨by simp, by simp, ofKeyB_lt _ hv, rightB_3 _ (canon_ofKey hk)⟩, ?_, by simp; omega⟩
          have hfx := fix_valB (r.take 8)
          rw [hl8] at hfx
          simp only [putValueB, hk, hfx]
          simp
        · cases h
    split at h
    · rename_i h0
      split at h
      · cases h
      · rename_i s j hg
        injection h with h; injection h with h1 h2
        subst h1; subst h2
        obtain ⟨e1, e2, e3⟩ := textB_one hg
        rw [hc 4 h0 (by omega)]
        refine ⟨⟨by simp, by simp, by simp, rightB_4 _⟩, ?_, by simp; omega⟩
        rw [Nat.add_comm, List.take_succ_cons, e1]
        simp [putValueB]
    · cases h

/-- What a right value's parts are, by its kind. -/
theorem right_cases {x : Vl} (h : rightB x.k x.n x.f ⟨x.s.toArray⟩ = true) :
    (x = ⟨0, 0, 0, []⟩) ∨ (x = ⟨1, 0, 0, []⟩ ∨ x = ⟨1, 1, 0, []⟩) ∨ (x = ⟨2, x.n, 0, []⟩) ∨ (x = ⟨3, 0, x.f, []⟩ ∧ canonB x.f = x.f) ∨ (x = ⟨4, 0, 0, x.s⟩) := by
  obtain ⟨k, n, f, s⟩ := x
  simp only at h ⊢
  rw [rightB] at h
  rw [arr_list] at h
  split at h
  · rename_i e; subst e
    simp at h
    exact .inl (by simp [h])
  split at h
  · rename_i e; subst e
    simp at h
    refine .inr (.inl ?_)
    rcases h.1 with e | e
    · exact .inl (by simp [h, e])
    · exact .inr (by simp [h, e])
  split at h
  · rename_i e; subst e
    simp at h
    exact .inr (.inr (.inl (by simp [h])))
  split at h
  · rename_i e; subst e
    simp at h
    refine .inr (.inr (.inr (.inl ⟨by simp [h], by omega⟩)))
  split at h
  · rename_i e; subst e
    simp at h
    exact .inr (.inr (.inr (.inr (by simp [h]))))
  · cases h

theorem valueB_put (x : Vl) (hx : Fits x) (hs : x.s.length < 18446744073709551616) (more : List UInt8) : valueB (putValueB x ++ more) = some (x, (putValueB x).length) := by
  obtain ⟨h0, h1, hf, hr⟩ := hx
  rcases right_cases hr with e | (e | e) | e | ⟨e, hc⟩ | e
  · rw [e]; simp [putValueB, valueB]
  · rw [e]
    have hg := getB_putB 0 (by omega) more
    simp [putValueB, valueB, hg]; omega
  · rw [e]
    have hg := getB_putB 1 (by omega) more
    simp [putValueB, valueB, hg]; omega
  · rw [e]
    by_cases hn : x.n < 0
    · have hg := getB_putB (-1 - x.n).toNat (by omega) more
      have hlt : (-1 - x.n).toNat < 9223372036854775808 := by omega
      have hm : -1 - (((-1 - x.n).toNat : Nat) : Int) = x.n := by omega
      have hp : putValueB ⟨2, x.n, 0, []⟩ = 18 :: putB (-1 - x.n).toNat := by simp [putValueB, hn]
      rw [hp]
      simp only [List.cons_append, valueB, hg, List.length_cons]
      rw [if_neg (by decide), if_neg (by decide), if_neg (by decide), if_pos (by decide), if_pos hlt, hm, Nat.add_comm]
    · have hg := getB_putB x.n.toNat (by omega) more
      have hlt : x.n.toNat < 9223372036854775808 := by omega
      have hm : ((x.n.toNat : Nat) : Int) = x.n := by omega
      have hp : putValueB ⟨2, x.n, 0, []⟩ = 2 :: putB x.n.toNat := by simp [putValueB, hn]
      rw [hp]
      simp only [List.cons_append, valueB, hg, List.length_cons]
      rw [if_neg (by decide), if_neg (by decide), if_pos (by decide), if_pos hlt, hm, Nat.add_comm]
  · rw [e]
    have hl8 : (fixB 8 (keyB x.f)).length = 8 := fixB_length _ _
    have ht : (fixB 8 (keyB x.f) ++ more).take 8 = fixB 8 (keyB x.f) := by rw [← hl8]; exact List.take_left
    have hk := keyB_lt x.f hf
    have hv : valB (fixB 8 (keyB x.f)) = keyB x.f := valB_fix 8 _ (by rw [pow8]; exact hk)
    have hkk : keyB (ofKeyB (keyB x.f)) = keyB x.f := by rw [ofKeyB_keyB _ hf, keyB_canonB]
    have hff : ofKeyB (keyB x.f) = x.f := by rw [ofKeyB_keyB _ hf, hc]
    simp only [putValueB]
    simp [valueB, ht, hv, hff, hl8]
  · rw [e]
    have hg := textB_put x.s hs more
    simp [putValueB, valueB, hg]; omega

theorem valueB_cut (x : Vl) (hx : Fits x) (hs : x.s.length < 18446744073709551616) (j : Nat) (hj : j < (putValueB x).length) : valueB ((putValueB x).take j) = none := by
  cases j with
  | zero => rfl
  | succ j =>
  obtain ⟨h0, h1, hf, hr⟩ := hx
  rcases right_cases hr with e | (e | e) | e | ⟨e, hc⟩ | e
  · rw [e] at hj; simp [putValueB] at hj
  · rw [e] at hj ⊢
    have hg := getB_cut 0 (by omega) j (by simpa [putValueB] using hj)
    simp [putValueB, valueB, hg]
  · rw [e] at hj ⊢
    have hg := getB_cut 1 (by omega) j (by simpa [putValueB] using hj)
    simp [putValueB, valueB, hg]
  · rw [e] at hj ⊢
    by_cases hn : x.n < 0
    · have hg := getB_cut (-1 - x.n).toNat (by omega) j (by simpa [putValueB, hn] using hj)
      simp [putValueB, hn, valueB, hg]
    · have hg := getB_cut x.n.toNat (by omega) j (by simpa [putValueB, hn] using hj)
      simp [putValueB, hn, valueB, hg]
  · rw [e] at hj ⊢
    have hl8 : (fixB 8 (keyB x.f)).length = 8 := fixB_length _ _
    have hj8 : j < 8 := by simp [putValueB, hl8] at hj; omega
    simp [putValueB, valueB, hl8]
    omega
  · rw [e] at hj ⊢
    have hg := textB_cut x.s hs j (by simpa [putValueB] using hj)
    simp [putValueB, valueB, hg]
end Go.Proofs.Ytbcnokidnpnmhaa
