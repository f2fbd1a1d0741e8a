import Derived.Test.YtnbpioinhjijcaaDoorPln
/-! Which strings are texts of floats. -/
namespace Go.Proofs.YtnbpioinhjijcaaDoor
open Go.RowKit

theorem parseM_le (M : Nat) : ∀ (l : List UInt8) (acc u : Nat), acc ≤ M → Lib.parseUintM M acc l = .ok u → u ≤ M
  | [], acc, u, ha, h => by simp only [Lib.parseUintM] at h; injection h with h; omega
  | c :: r, acc, u, ha, h => by
    simp only [Lib.parseUintM] at h
    split at h
    · split at h
      · cases h
      · split at h
        · cases h
        · exact parseM_le M r _ u (by omega) h
    · cases h
theorem uint53_lt {l : List UInt8} {n : Nat} (h : uint53 l = .ok n) : n < 9007199254740992 := by
  unfold uint53 at h
  split at h
  · cases h
  · have := parseM_le _ l 0 n (by omega) h; omega

theorem body_head (r : Nat) : ∃ c l, bodyB r = c :: l ∧ (c.toNat = 105 ∨ (48 ≤ c.toNat ∧ c.toNat ≤ 57)) := by
  unfold bodyB
  split
  · exact ⟨105, _, rfl, .inl (by decide)⟩
  · split
    · exact ⟨48, _, rfl, .inr (by decide)⟩
    · obtain ⟨c, l, e⟩ := dec_cons (magB r)
      have hd := dec_digits (magB r) c (by rw [e]; simp)
      rw [e]
      exact ⟨c, _, rfl, .inr hd⟩
theorem trim_neg (l : List UInt8) : Lib.hasPrefix (45 :: l) [45] = true ∧ Lib.trimPrefix (45 :: l) [45] = l := by
  have h : Lib.hasPrefix (45 :: l) [45] = true := by simp [Lib.hasPrefix, List.isPrefixOf]
  refine ⟨h, ?_⟩
  unfold Lib.trimPrefix
  rw [if_pos h]; rfl
theorem trim_pos (c : UInt8) (l : List UInt8) (h : c.toNat ≠ 45) : Lib.hasPrefix (c :: l) [45] = false ∧ Lib.trimPrefix (c :: l) [45] = c :: l := by
  have hc : ¬ (45 : UInt8) = c := fun e => h (by rw [← e]; decide)
  have h : Lib.hasPrefix (c :: l) [45] = false := by simp [Lib.hasPrefix, List.isPrefixOf, hc]
  refine ⟨h, ?_⟩
  unfold Lib.trimPrefix
  rw [if_neg (by rw [h]; decide)]
theorem text_split (g : Nat) (l : List UInt8) (h : textB g = l) : (nanB g = true ∧ l = [110, 97, 110]) ∨ (nanB g = false ∧ Lib.hasPrefix l [45] = signB g ∧ Lib.trimPrefix l [45] = bodyB (g % 9223372036854775808) ∧ g % 9223372036854775808 ≤ 9218868437227405312) := by
  unfold textB at h
  cases hn : nanB g with
  | true => rw [hn, if_pos rfl] at h; exact .inl ⟨rfl, h.symm⟩
  | false =>
    right
    have hle := (nanB_false g).1 hn
    rw [hn, if_neg (by decide)] at h
    obtain ⟨c, t, e, hc⟩ := body_head (g % 9223372036854775808)
    cases hs : signB g with
    | true =>
      rw [hs, if_pos rfl] at h
      subst h
      obtain ⟨a, b⟩ := trim_neg (bodyB (g % 9223372036854775808))
      exact ⟨rfl, a, b, hle⟩
    | false =>
      rw [hs, if_neg (by decide), List.nil_append] at h
      subst h
      rw [e]
      obtain ⟨a, b⟩ := trim_pos c t (by omega)
      exact ⟨rfl, a, b, hle⟩
theorem body_not_nan (r : Nat) : bodyB r ≠ [110, 97, 110] := by
  obtain ⟨c, l, e, h⟩ := body_head r
  rw [e]
  intro x
  injection x with x1 x2
  subst x1
  revert h
  decide
theorem body_inf : bodyB 9218868437227405312 = [105, 110, 102] := by unfold bodyB; rw [if_pos rfl]
theorem body_zero : bodyB 0 = [48, 112, 48] := by unfold bodyB; rw [if_neg (by decide), if_pos rfl]
theorem body_num {r : Nat} (h0 : 0 < r) (h1 : r < 9218868437227405312) : bodyB r = Lib.decDigits (magB r) ++ [112] ++ Lib.itoa (exB r) := by unfold bodyB; rw [if_neg (by omega), if_neg (by omega)]

/-! Cut at the first p. -/
def cutM (l : List UInt8) : List UInt8 := l.takeWhile (· != 112)
def cutE (l : List UInt8) : List UInt8 := (l.dropWhile (· != 112)).drop 1
theorem cut_of : ∀ (a b : List UInt8), (∀ c ∈ a, c ≠ 112) → cutM (a ++ [112] ++ b) = a ∧ cutE (a ++ [112] ++ b) = b
  | [], b, _ => ⟨rfl, rfl⟩
  | c :: a, b, h => by
    have hc : (c != 112) = true := by simpa using h c (by simp)
    obtain ⟨e1, e2⟩ := cut_of a b (fun x hx => h x (by simp [hx]))
    unfold cutM cutE at *
    rw [List.cons_append, List.cons_append, List.takeWhile_cons_of_pos (p := fun x => x != 112) hc, List.dropWhile_cons_of_pos (p := fun x => x != 112) hc, e1]
    exact ⟨rfl, e2⟩
theorem cut_body {r : Nat} (h0 : 0 < r) (h1 : r < 9218868437227405312) : cutM (bodyB r) = Lib.decDigits (magB r) ∧ cutE (bodyB r) = Lib.itoa (exB r) := by
  rw [body_num h0 h1]
  exact cut_of _ _ fun c hc e => by
    have := dec_digits _ c hc
    subst e
    revert this
    decide

/-- The other sign. -/
def negB (b : Nat) : Nat := b ^^^ 9223372036854775808
theorem negB_pos {r : Nat} (h : r < 9223372036854775808) : negB r = 9223372036854775808 + r := by
  unfold negB
  have h1 : r ^^^ 9223372036854775808 = 9223372036854775808 ||| r := by
    apply Nat.eq_of_testBit_eq
    intro i
    rw [Nat.testBit_xor, Nat.testBit_or, show (9223372036854775808 : Nat) = 2 ^ 63 by decide, Nat.testBit_two_pow]
    by_cases hi : 63 = i
    · subst hi
      rw [Nat.testBit_lt_two_pow (show r < 2 ^ 63 by omega)]
      simp
    · simp [hi]
  rw [h1, nat_join 63 _ _ (by decide) (by omega)]
theorem negB_neg {g : Nat} (h : g < 18446744073709551616) (hs : 9223372036854775808 ≤ g) : negB (g % 9223372036854775808) = g := by
  rw [negB_pos (Nat.mod_lt _ (by decide))]; omega
theorem negB_lt {b : Nat} (h : b < 18446744073709551616) : negB b < 18446744073709551616 := by
  unfold negB
  exact Nat.xor_lt_two_pow (n := 64) (by omega) (by decide)
def flipB (neg : Bool) (y : Nat) : Nat := if neg then negB y else y
theorem flipB_lt {neg : Bool} {y : Nat} (h : y < 18446744073709551616) : flipB neg y < 18446744073709551616 := by
  unfold flipB; split
  · exact negB_lt h
  · exact h
theorem flip_same {g r : Nat} (h : g < 18446744073709551616) (hr : g % 9223372036854775808 = r) : flipB (signB g) r = g := by
  unfold flipB
  subst hr
  by_cases hs : 9223372036854775808 ≤ g
  · rw [if_pos ((signB_iff g).2 hs), negB_neg h hs]
  · rw [if_neg (fun e => hs ((signB_iff g).1 e))]; omega

def clampZ (k : Int) : Int := max (-2000) (min k 2000)
/-- What stands in the way of a string's being a text. -/
theorem no_text {l : List UInt8} (h1 : Lib.trimPrefix l [45] ≠ [110, 97, 110]) (h2 : Lib.trimPrefix l [45] ≠ [105, 110, 102])
    (h3 : (∀ n, uint53 (cutM (Lib.trimPrefix l [45])) ≠ .ok n) ∨ (∀ k, Lib.atoiAll (cutE (Lib.trimPrefix l [45])) ≠ .ok k)) : ∀ g, g < 18446744073709551616 → textB g ≠ l := by
  intro g hg h
  rcases text_split g l h with ⟨a, b⟩ | ⟨a, b, c, d⟩
  · subst b
    exact h1 (trim_pos 110 _ (by decide)).2
  · rw [c] at h1 h2 h3
    have hni : g % 9223372036854775808 ≠ 9218868437227405312 := fun e => h2 (by rw [e, body_inf])
    by_cases h0 : g % 9223372036854775808 = 0
    · rw [h0, body_zero] at h3
      rcases h3 with h3 | h3
      · exact h3 0 (by decide)
      · exact h3 0 (by decide)
    · obtain ⟨e1, e2⟩ := cut_body (r := g % 9223372036854775808) (by omega) (by omega)
      obtain ⟨m1, m2, m3, x, m4, m5, m6⟩ := mag_spec (g % 9223372036854775808) (by omega) (by omega)
      rcases h3 with h3 | h3
      · exact h3 _ (by rw [e1]; exact uint53_dec _ m3)
      · exact h3 _ (by rw [e2]; exact atoi_itoa _ (by omega) (by omega))
theorem is_text {l : List UInt8} {n y : Nat} {k : Int} (h1 : Lib.trimPrefix l [45] ≠ [110, 97, 110]) (h2 : Lib.trimPrefix l [45] ≠ [105, 110, 102])
    (h3 : uint53 (cutM (Lib.trimPrefix l [45])) = .ok n) (h4 : Lib.atoiAll (cutE (Lib.trimPrefix l [45])) = .ok k) (h5 : LdexpIs n (clampZ k) y) (h6 : n = 0 → y = 0) :
    ∀ g, g < 18446744073709551616 → textB g = l → textB (flipB (Lib.hasPrefix l [45]) y) = l := by
  intro g hg h
  rcases text_split g l h with ⟨a, b⟩ | ⟨a, b, c, d⟩
  · subst b
    exact absurd (trim_pos 110 _ (by decide)).2 h1
  · rw [c] at h1 h2 h3 h4
    have hni : g % 9223372036854775808 ≠ 9218868437227405312 := fun e => h2 (by rw [e, body_inf])
    have hy : y = g % 9223372036854775808 := by
      by_cases h0 : g % 9223372036854775808 = 0
      · rw [h0, body_zero] at h3
        have : n = 0 := by
          have e : uint53 (cutM [48, 112, 48]) = .ok 0 := by decide
          rw [e] at h3
          injection h3 with h3
          exact h3.symm
        rw [h0]; exact h6 this
      · obtain ⟨e1, e2⟩ := cut_body (r := g % 9223372036854775808) (by omega) (by omega)
        obtain ⟨m1, m2, m3, x, m4, m5, m6⟩ := mag_spec (g % 9223372036854775808) (by omega) (by omega)
        rw [e1, uint53_dec _ m3] at h3
        rw [e2, atoi_itoa _ (by omega) (by omega)] at h4
        injection h3 with h3
        injection h4 with h4
        refine h5.2 _ x (by omega) (by omega) ?_ (by rw [← h3]; exact m5)
        unfold clampZ
        omega
    rw [b, hy, flip_same hg rfl]
    exact h
end Go.Proofs.YtnbpioinhjijcaaDoor
