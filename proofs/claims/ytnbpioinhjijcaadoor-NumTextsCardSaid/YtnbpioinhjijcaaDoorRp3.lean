import Derived.Test.YtnbpioinhjijcaaDoorRp2
/-! ref01.Parse of any. -/
namespace Go.Proofs.YtnbpioinhjijcaaDoor
open Go.RowKit Bk

theorem dec_inj {u v : Nat} (h : Lib.decDigits u = Lib.decDigits v) : u = v := by rw [← dv_dec u, ← dv_dec v, h]

/-- What a text of a number looks like behind its sign. -/
theorem body_shape {TL : List UInt8} {r : Nat} (hr : r ≤ 9218868437227405312) (h : bodyB r = TL) (h1 : TL ≠ [105, 110, 102]) (h2 : TL ≠ [48, 112, 48]) :
    cutM TL = Lib.decDigits (magB r) ∧ cutE TL = Lib.itoa (exB r) ∧ (cutM TL).length + 1 < TL.length ∧ magB r % 2 = 1 ∧ magB r ≤ 9007199254740991 ∧ -2000 ≤ exB r ∧ exB r ≤ 2000 := by
  have r1 : r ≠ 9218868437227405312 := fun e => h1 (by rw [← h, e, body_inf])
  have r0 : r ≠ 0 := fun e => h2 (by rw [← h, e, body_zero])
  obtain ⟨m1, m2, m3, a, m4, m5, m6⟩ := mag_spec r (by omega) (by omega)
  obtain ⟨c1, c2⟩ := cut_body (r := r) (by omega) (by omega)
  have hb := body_num (r := r) (by omega) (by omega)
  rw [h] at c1 c2 hb
  refine ⟨c1, c2, ?_, m1, by omega, by omega, by omega⟩
  rw [c1, hb]
  have : 0 < (Lib.itoa (exB r)).length := by
    unfold Lib.itoa
    split
    · simp
    · obtain ⟨c, l, e⟩ := dec_cons (exB r).toNat
      rw [e]; simp
  simp only [List.length_append, List.length_cons, List.length_nil]
  omega

/-- The parts of a word and what they say, given that no special word stands there. -/
structure Shape (neg : Bool) (l TL : List UInt8) : Prop where
  any : ∀ f, f < 18446744073709551616 → textB f = l → ∃ r, r ≤ 9218868437227405312 ∧ bodyB r = TL
  whole : l = (if neg then [45] else []) ++ TL
  inf : TL ≠ [105, 110, 102]
  zero : TL ≠ [48, 112, 48]

theorem shape_true {TL : List UInt8} (h1 : TL ≠ [105, 110, 102]) (h2 : TL ≠ [48, 112, 48]) : Shape true (45 :: TL) TL := by
  refine ⟨fun f hf h => ?_, rfl, h1, h2⟩
  rcases text_split f _ h with ⟨a, b⟩ | ⟨a, b, c, d⟩
  · injection b with b1 b2
    exact absurd b1 (by decide)
  · rw [(trim_neg TL).2] at c
    exact ⟨_, d, c.symm⟩
theorem shape_false {TL : List UInt8} (h0 : TL ≠ [110, 97, 110]) (hh : TL.head? ≠ some 45) (h1 : TL ≠ [105, 110, 102]) (h2 : TL ≠ [48, 112, 48]) : Shape false TL TL := by
  refine ⟨fun f hf h => ?_, rfl, h1, h2⟩
  rcases text_split f _ h with ⟨a, b⟩ | ⟨a, b, c, d⟩
  · exact absurd b h0
  · refine ⟨_, d, ?_⟩
    rw [← c]
    cases TL with
    | nil => rfl
    | cons y t =>
      refine (trim_pos y t fun e => hh ?_).2
      have : y = 45 := UInt8.toNat_inj.1 e
      rw [this]; rfl

section
variable {neg : Bool} {l TL : List UInt8} (S : Shape neg l TL)
include S
theorem sh_b1 (h : ∀ u, u ≤ 9007199254740991 → Lib.decDigits u ≠ cutM TL) : NoText l := by
  intro f hf e
  obtain ⟨r, r1, r2⟩ := S.any f hf e
  obtain ⟨c1, c2, c3, c4, c5, c6, c7⟩ := body_shape r1 r2 S.inf S.zero
  exact h _ c5 c1.symm
theorem sh_b2 (u : Nat) (h : Lib.decDigits u = cutM TL) (hu : u % 2 = 0) : NoText l := by
  intro f hf e
  obtain ⟨r, r1, r2⟩ := S.any f hf e
  obtain ⟨c1, c2, c3, c4, c5, c6, c7⟩ := body_shape r1 r2 S.inf S.zero
  have := dec_inj (h.trans c1)
  omega
theorem sh_b3 (h : TL.length ≤ (cutM TL).length + 1) : NoText l := by
  intro f hf e
  obtain ⟨r, r1, r2⟩ := S.any f hf e
  obtain ⟨c1, c2, c3, c4, c5, c6, c7⟩ := body_shape r1 r2 S.inf S.zero
  omega
theorem sh_ex (E2 : List UInt8) (h : cutE TL = 45 :: E2) {f : Nat} (hf : f < 18446744073709551616) (e : textB f = l) : ∃ k, 0 < k ∧ k ≤ 2000 ∧ E2 = Lib.decDigits k := by
  obtain ⟨r, r1, r2⟩ := S.any f hf e
  obtain ⟨c1, c2, c3, c4, c5, c6, c7⟩ := body_shape r1 r2 S.inf S.zero
  by_cases hn : exB r < 0
  · rw [c2, itoa_neg hn] at h
    injection h with h1 h2
    exact ⟨_, by omega, by omega, h2.symm⟩
  · exfalso
    obtain ⟨n, hn⟩ : ∃ n : Nat, exB r = n := ⟨(exB r).toNat, by omega⟩
    rw [c2, hn, itoa_pos] at h
    have := dec_digits n 45 (by rw [h]; simp)
    revert this
    decide
theorem sh_up (h : ∀ E2, cutE TL ≠ 45 :: E2) {f : Nat} (hf : f < 18446744073709551616) (e : textB f = l) : ∃ k, k ≤ 2000 ∧ cutE TL = Lib.decDigits k := by
  obtain ⟨r, r1, r2⟩ := S.any f hf e
  obtain ⟨c1, c2, c3, c4, c5, c6, c7⟩ := body_shape r1 r2 S.inf S.zero
  by_cases hn : exB r < 0
  · rw [itoa_neg hn] at c2
    exact absurd c2 (h _)
  · obtain ⟨n, hn⟩ : ∃ n : Nat, exB r = n := ⟨(exB r).toNat, by omega⟩
    rw [hn, itoa_pos] at c2
    exact ⟨n, by omega, c2⟩
end
theorem cut_join (TL : List UInt8) (h : (cutM TL).length < TL.length) : TL = cutM TL ++ [112] ++ cutE TL := by
  unfold cutM cutE at *
  have h1 := List.takeWhile_append_dropWhile (p := (· != (112 : UInt8))) (l := TL)
  generalize hd : TL.dropWhile (· != 112) = d at *
  cases d with
  | nil =>
    rw [List.append_nil] at h1
    rw [h1] at h; omega
  | cons c t =>
    have hc := List.head?_dropWhile_not (p := (· != (112 : UInt8))) (l := TL)
    rw [hd] at hc
    simp at hc
    subst hc
    rw [List.drop_one, List.tail_cons, List.append_assoc]
    exact h1.symm
theorem cut_drop (TL : List UInt8) : cutE TL = TL.drop ((cutM TL).length + 1) := by
  unfold cutM cutE
  have h1 : TL.dropWhile (· != 112) = TL.drop (TL.takeWhile (· != 112)).length := by
    conv => rhs; arg 2; rw [← List.takeWhile_append_dropWhile (p := (· != (112 : UInt8))) (l := TL)]
    rw [List.drop_left]
  rw [h1, List.drop_drop]
theorem cut_take (TL : List UInt8) : cutM TL = TL.take (cutM TL).length := by
  unfold cutM
  conv => rhs; arg 2; rw [← List.takeWhile_append_dropWhile (p := (· != (112 : UInt8))) (l := TL)]
  rw [List.take_left]
theorem cut_le (TL : List UInt8) : (cutM TL).length ≤ TL.length := by
  have h := congrArg List.length (cut_take TL)
  rw [List.length_take] at h
  omega
theorem cut_before (TL : List UInt8) (i : Nat) (hi : i < (cutM TL).length) (h : i < TL.length) : TL[i] ≠ 112 := by
  intro e
  have h1 : (cutM TL)[i] = TL[i] := by
    have h2 := cut_take TL
    have : (cutM TL)[i]? = TL[i]? := by
      conv => lhs; rw [h2]
      rw [List.getElem?_take, if_pos hi]
    rw [List.getElem?_eq_getElem hi, List.getElem?_eq_getElem h] at this
    exact Option.some.inj this
  have h3 : ∀ c ∈ cutM TL, c ≠ 112 := by
    intro c hc
    have := List.all_takeWhile (p := (· != (112 : UInt8))) (l := TL)
    rw [List.all_eq_true] at this
    simpa using this c hc
  exact h3 _ (List.getElem_mem hi) (h1.trans e)
theorem cut_at (TL : List UInt8) (h : (cutM TL).length < TL.length) : TL[(cutM TL).length] = 112 := by
  have h1 := cut_join TL h
  have : TL[(cutM TL).length]? = some 112 := by
    conv => lhs; arg 1; rw [h1]
    rw [List.append_assoc, List.getElem?_append_right (Nat.le_refl _), Nat.sub_self]
    rfl
  rw [List.getElem?_eq_getElem h] at this
  exact Option.some.inj this
end Go.Proofs.YtnbpioinhjijcaaDoor
