import Derived.Test.YtnbpioinhjijcaaDoorPd2
/-! NumParsed: which texts are read. -/
namespace Go.Proofs.YtnbpioinhjijcaaDoor
open Go.RowKit Bk

def numText (below : Bool) (m : Nat) (e : Int) : List UInt8 := (if below then [45] else []) ++ (Lib.decDigits m ++ [112] ++ Lib.itoa e)

theorem num_text {below : Bool} {m : Nat} {e : Int} (h0 : 0 < m) (h1 : m < 9007199254740992) (e0 : -9223372036854775808 < e) (e1 : e < 9223372036854775808) (g : Nat) (h : textB g = numText below m e) :
    nanB g = false ∧ signB g = below ∧ 0 < g % 9223372036854775808 ∧ g % 9223372036854775808 < 9218868437227405312 ∧ magB (g % 9223372036854775808) = m ∧ exB (g % 9223372036854775808) = e := by
  obtain ⟨c, l, hc⟩ := dec_cons m
  have hcd := dec_digits m c (by rw [hc]; simp)
  have hbody : Lib.decDigits m ++ [112] ++ Lib.itoa e = c :: (l ++ [112] ++ Lib.itoa e) := by rw [hc]; rfl
  have hcut := cut_of (Lib.decDigits m) (Lib.itoa e) (fun d hd x => by have := dec_digits m d hd; subst x; revert this; decide)
  have hpre : Lib.hasPrefix (numText below m e) [45] = below ∧ Lib.trimPrefix (numText below m e) [45] = Lib.decDigits m ++ [112] ++ Lib.itoa e := by
    unfold numText
    rw [hbody]
    cases below with
    | true => exact trim_neg _
    | false => exact trim_pos c _ (by omega)
  rcases text_split g _ h with ⟨a1, a2⟩ | ⟨a1, a2, a3, a4⟩
  · exfalso
    rw [a2, (trim_pos 110 _ (by decide)).2] at hpre
    have := hpre.2
    rw [hbody] at this
    injection this with t1 t2
    subst t1
    revert hcd
    decide
  · rw [hpre.1] at a2
    rw [hpre.2] at a3
    generalize g % 9223372036854775808 = r at *
    have hni : r ≠ 9218868437227405312 := by
      intro x
      rw [x, body_inf, hbody] at a3
      injection a3 with t1 t2
      subst t1
      revert hcd
      decide
    have hn0 : r ≠ 0 := by
      intro x
      rw [x, body_zero] at a3
      rw [a3] at hcut
      have u := uint53_dec m h1
      rw [← hcut.1] at u
      have u0 : uint53 (cutM [48, 112, 48]) = .ok 0 := by decide
      rw [u0] at u
      injection u with u
      omega
    obtain ⟨m1, m2, m3, x, m4, m5, m6⟩ := mag_spec r (by omega) (by omega)
    obtain ⟨c1, c2⟩ := cut_body (r := r) (by omega) (by omega)
    rw [← a3] at c1 c2
    rw [hcut.1] at c1
    rw [hcut.2] at c2
    have u := uint53_dec m h1
    rw [c1, uint53_dec _ m3] at u
    injection u with u
    have v := atoi_itoa e e0 e1
    rw [c2, atoi_itoa _ (by omega) (by omega)] at v
    injection v with v
    exact ⟨a1, a2.symm, by omega, by omega, u, v⟩

theorem pow_ge {m : Nat} (h : 0 < m) : 2 ^ m.log2 ≤ m := log2_le_self (by omega)

/-- A text of a number has room. -/
theorem has_room {below : Bool} {m : Nat} {e : Int} (h0 : 0 < m) (h1 : m < 9007199254740992) (e0 : -9223372036854775808 < e) (e1 : e < 9223372036854775808) (g : Nat) (h : textB g = numText below m e) :
    -1074 ≤ e ∧ e + ((m.log2 + 1 : Nat) : Int) ≤ 1024 := by
  obtain ⟨n1, n2, n3, n4, n5, n6⟩ := num_text h0 h1 e0 e1 g h
  generalize g % 9223372036854775808 = r at *
  obtain ⟨m1, m2, m3, a, m4, m5, m6⟩ := mag_spec r n3 n4
  rw [n5] at m5
  rw [n6] at m4
  refine ⟨by omega, ?_⟩
  have h2 : rv r < rv 9218868437227405312 := rv_lt n4
  obtain ⟨J, hJ⟩ : ∃ J, J = 2098 := ⟨_, rfl⟩
  have h3 : rv 9218868437227405312 = 2 ^ J := by
    have hE : 52 + expR 9218868437227405312 = J := by rw [hJ]; decide
    have hS : sigR 9218868437227405312 = 2 ^ 52 := by decide
    unfold rv
    generalize expR 9218868437227405312 = q at *
    rw [hS, ← Nat.pow_add, hE]
  have h4 : 2 ^ (m.log2 + a) ≤ rv r := by
    rw [m5, Nat.pow_add]
    exact Nat.mul_le_mul_right _ (pow_ge h0)
  rw [h3] at h2
  have h5 : 2 ^ (m.log2 + a) < 2 ^ J := Nat.lt_of_le_of_lt h4 h2
  have h6 : m.log2 + a < J := (Nat.pow_lt_pow_iff_right (by omega)).1 h5
  clear h2 h3 h4 h5 m5
  omega

theorem rung_room (m a : Nat) (h0 : 0 < m) (h1 : m < 9007199254740992) (h : m.log2 + 1 + a ≤ 2098) : ∃ r, rv r = m * 2 ^ a ∧ 0 < r ∧ r < 9218868437227405312 := by
  by_cases ha : a ≤ 2045
  · exact rung_of m a h0 h1 ha
  · obtain ⟨K, hK⟩ : ∃ K, K = 2045 := ⟨_, rfl⟩
    obtain ⟨d, rfl⟩ : ∃ d, a = d + K := ⟨a - K, by omega⟩
    have h2 : m * 2 ^ d < 2 ^ (m.log2 + 1 + d) := by
      rw [Nat.pow_add]
      exact Nat.mul_lt_mul_of_pos_right (lt_log2_succ (by omega)) (Nat.two_pow_pos d)
    have h3 : 2 ^ (m.log2 + 1 + d) ≤ 2 ^ 53 := Nat.pow_le_pow_right (by omega) (by omega)
    obtain ⟨r, r1, r2, r3⟩ := rung_of (m * 2 ^ d) K (Nat.mul_pos h0 (Nat.two_pow_pos d)) (by omega) (by omega)
    exact ⟨r, by rw [r1, Nat.mul_assoc, ← Nat.pow_add], r2, r3⟩

theorem room_has (below : Bool) {m : Nat} {e : Int} (hodd : m % 2 = 1) (h0 : 0 < m) (h1 : m < 9007199254740992) (e0 : -1074 ≤ e) (e1 : e + ((m.log2 + 1 : Nat) : Int) ≤ 1024) :
    ∃ g, g < 18446744073709551616 ∧ textB g = numText below m e := by
  obtain ⟨a, ha⟩ : ∃ a : Nat, e = (a : Int) - 1074 := ⟨(e + 1074).toNat, by omega⟩
  obtain ⟨r, r1, r2, r3⟩ := rung_room m a h0 h1 (by omega)
  obtain ⟨m1, m2, m3, x, m4, m5, m6⟩ := mag_spec r r2 r3
  rw [r1] at m5
  obtain ⟨o1, o2⟩ := odd_part hodd m1 m5
  have hb : bodyB r = Lib.decDigits m ++ [112] ++ Lib.itoa e := by rw [body_num r2 r3, ← o1, m4, ← o2, ← ha]
  refine ⟨flipB below r, flipB_lt (by omega), ?_⟩
  unfold textB numText flipB
  cases below with
  | true =>
    rw [if_pos rfl, negB_pos (by omega), show nanB (9223372036854775808 + r) = false from (nanB_false _).2 (by omega), if_neg (by decide), if_pos ((signB_iff _).2 (by omega)), show (9223372036854775808 + r) % 9223372036854775808 = r by omega, hb]
    rfl
  | false =>
    simp only [Bool.false_eq_true, if_false]
    rw [show nanB r = false from (nanB_false _).2 (by omega), if_neg (by decide), if_neg (fun x => by have := (signB_iff _).1 x; omega), show r % 9223372036854775808 = r by omega, hb]

/-- NumParsed -/
theorem parsed_any (m e : Int) (below : Bool) (w : World) (hv : Vars w) :
    Calls Tryd.prog 9 #[.int .i64 m, .int .i64 e, .bool below] w fun e w' => e = .returned (.bool true) ∧ Below w.heap.size w w' := by
  obtain ⟨m0, hm0, hmo, hml⟩ := m_odd m
  obtain ⟨e0, he, hel⟩ : ∃ e0 : Int, (e % 65536).tmod 2401 = e0 + 1200 ∧ -1200 ≤ e0 ∧ e0 ≤ 1200 := by
    refine ⟨(e % 65536).tmod 2401 - 1200, by omega, ?_⟩
    rw [Int.tmod_eq_emod_of_nonneg (by omega)]
    omega
  have hl : (numText below m0 e0).length ≤ 100 := by
    have l1 := nDigits_le m0 (by omega)
    have l2 := itoa_le e0 (by omega) (by omega)
    unfold numText
    cases below <;> simp <;> omega
  have hno : ¬ (-1074 ≤ e0 ∧ e0 + ((m0.log2 + 1 : Nat) : Int) ≤ 1024) → ∀ w, Vars w → Calls Tryd.prog 21 #[.string ⟨(numText below m0 e0).toArray⟩] w fun e w' => e = .returned (.tuple #[.float .f64 0, .int .i64 2]) ∧ Below w.heap.size w w' := by
    intro hn w hv
    refine (parse_any ⟨(numText below m0 e0).toArray⟩ (by show (numText below m0 e0).toArray.size ≤ _; simp; omega) w hv).mono ?_
    rintro e w' ⟨⟨f, hf, ht, rfl⟩ | ⟨_, rfl⟩, hb⟩
    · exact absurd (has_room (by omega) hml (by omega) (by omega) f ht) hn
    · exact ⟨rfl, hb⟩
  by_cases hroom : -1074 ≤ e0 ∧ e0 + ((m0.log2 + 1 : Nat) : Int) ≤ 1024
  · obtain ⟨g, g1, g2⟩ := room_has below hmo (by omega) hml hroom.1 hroom.2
    obtain ⟨n1, n2, n3, n4, n5, n6⟩ := num_text (by omega) hml (by omega) (by omega) g g2
    have hp : ∀ w, Vars w → Calls Tryd.prog 21 #[.string ⟨(numText below m0 e0).toArray⟩] w fun e w' => e = .returned (.tuple #[.float .f64 g, .int .i64 0]) ∧ Below w.heap.size w w' := by
      intro w hv
      have := parse_text g g1 w hv
      rwa [canonB_num n1, g2] at this
    have ht : ∀ w, Vars w → Calls Tryd.prog 23 #[.float .f64 g] w fun e w' => e = .returned (.string ⟨(numText below m0 e0).toArray⟩) ∧ Below w.heap.size w w' := by
      intro w hv
      have := text_any g g1 w hv
      rwa [g2] at this
    have ho : (FloatKind.f64.format.order g 0 == some .lt) = below := by
      rw [ord_lt g1 (by omega) (nan_of n1) (nan_pos (by omega)), sr_pos (r := 0) (by omega), ← n2]
      by_cases hs : 9223372036854775808 ≤ g
      · rw [(signB_iff g).2 hs, decide_eq_true_eq]
        unfold sr; rw [if_pos hs]; omega
      · rw [show signB g = false by rw [← Bool.not_eq_true]; exact fun x => hs ((signB_iff g).1 x), decide_eq_false_iff_not]
        unfold sr; rw [if_neg hs]; omega
    cases below with
    | true => exact parsed_true m e m0 e0 g hm0 he hml (by omega) hel (fun _ _ => hp) hno (fun _ _ => ht) (fun _ _ => ho) w hv
    | false => exact parsed_false m e m0 e0 g hm0 he hml (by omega) hel (fun _ _ => hp) hno (fun _ _ => ht) (fun _ _ => ho) w hv
  · cases below with
    | true => exact parsed_true m e m0 e0 0 hm0 he hml (by omega) hel (fun a b => absurd ⟨a, b⟩ hroom) hno (fun a b => absurd ⟨a, b⟩ hroom) (fun a b => absurd ⟨a, b⟩ hroom) w hv
    | false => exact parsed_false m e m0 e0 0 hm0 he hml (by omega) hel (fun a b => absurd ⟨a, b⟩ hroom) hno (fun a b => absurd ⟨a, b⟩ hroom) (fun a b => absurd ⟨a, b⟩ hroom) w hv
end Go.Proofs.YtnbpioinhjijcaaDoor
