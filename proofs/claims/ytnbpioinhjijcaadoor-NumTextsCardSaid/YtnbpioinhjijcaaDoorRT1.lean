import Derived.Test.YtnbpioinhjijcaaDoorRA2
import Derived.Test.YtnbpioinhjijcaaDoorSg1
import Derived.Test.YtnbpioinhjijcaaDoorBk
/-! ref01.Text. -/
namespace Go.Proofs.YtnbpioinhjijcaaDoor
open Go.RowKit Bk

set_option maxRecDepth 100000 in
theorem rT_nan (b : Nat) (s : Bool) (ef mf : Nat) (hp : PartsAre b s ef mf) (f1 : ((ef : Int) == 2047) = true) (f2 : ((mf : Int) != 0) = true) (w : World) :
    Calls Tryd.prog 24 #[.float .f64 b] w fun e w' => e = .returned (.string ⟨#[110, 97, 110]⟩) ∧ Below w.heap.size w w' := by
  have HP := Lib.hid hp
  clear hp
  go_enter Tryd.func24, Tryd.ntmps24
  go_wp2_with fail
  refine (HP.out w).mono ?_
  rintro e w1 ⟨rfl, rfl⟩
  go_wp2_with fail
  go_ret
  exact ⟨rfl, Below.refl _ _⟩
set_option maxRecDepth 100000 in
theorem rT_inf_true (b : Nat) (ef mf : Nat) (hp : PartsAre b true ef mf) (f1 : ((ef : Int) == 2047) = true) (f2 : ((mf : Int) != 0) = false) (w : World) :
    Calls Tryd.prog 24 #[.float .f64 b] w fun e w' => e = .returned (.string ⟨([45] ++ [105, 110, 102] : List UInt8).toArray⟩) ∧ Below w.heap.size w w' := by
  have HP := Lib.hid hp
  have a1 := str_add [45] [105, 110, 102] _ rfl (by decide)
  clear hp
  go_enter Tryd.func24, Tryd.ntmps24
  go_wp2_with fail
  refine (HP.out w).mono ?_
  rintro e w1 ⟨rfl, rfl⟩
  go_wp2_with fail
  go_ret
  exact ⟨rfl, Below.refl _ _⟩
set_option maxRecDepth 100000 in
theorem rT_zero_true (b : Nat) (ef mf : Nat) (hp : PartsAre b true ef mf) (f1 : ((ef : Int) == 2047) = false) (f6 : ((ef : Int) == 0) = true) (f4 : ((mf : Int) == 0) = true) (w : World) :
    Calls Tryd.prog 24 #[.float .f64 b] w fun e w' => e = .returned (.string ⟨([45] ++ [48, 112, 48] : List UInt8).toArray⟩) ∧ Below w.heap.size w w' := by
  have HP := Lib.hid hp
  have a1 := str_add [45] [48, 112, 48] _ rfl (by decide)
  clear hp
  go_enter Tryd.func24, Tryd.ntmps24
  go_wp2_with fail
  refine (HP.out w).mono ?_
  rintro e w1 ⟨rfl, rfl⟩
  go_wp2_with fail
  go_ret
  exact ⟨rfl, Below.refl _ _⟩
set_option maxRecDepth 100000 in
theorem rT_inf_false (b : Nat) (ef mf : Nat) (hp : PartsAre b false ef mf) (f1 : ((ef : Int) == 2047) = true) (f2 : ((mf : Int) != 0) = false) (w : World) :
    Calls Tryd.prog 24 #[.float .f64 b] w fun e w' => e = .returned (.string ⟨([] ++ [105, 110, 102] : List UInt8).toArray⟩) ∧ Below w.heap.size w w' := by
  have HP := Lib.hid hp
  have a1 := str_add [] [105, 110, 102] _ rfl (by decide)
  clear hp
  go_enter Tryd.func24, Tryd.ntmps24
  go_wp2_with fail
  refine (HP.out w).mono ?_
  rintro e w1 ⟨rfl, rfl⟩
  go_wp2_with fail
  go_ret
  exact ⟨rfl, Below.refl _ _⟩
set_option maxRecDepth 100000 in
theorem rT_zero_false (b : Nat) (ef mf : Nat) (hp : PartsAre b false ef mf) (f1 : ((ef : Int) == 2047) = false) (f6 : ((ef : Int) == 0) = true) (f4 : ((mf : Int) == 0) = true) (w : World) :
    Calls Tryd.prog 24 #[.float .f64 b] w fun e w' => e = .returned (.string ⟨([] ++ [48, 112, 48] : List UInt8).toArray⟩) ∧ Below w.heap.size w w' := by
  have HP := Lib.hid hp
  have a1 := str_add [] [48, 112, 48] _ rfl (by decide)
  clear hp
  go_enter Tryd.func24, Tryd.ntmps24
  go_wp2_with fail
  refine (HP.out w).mono ?_
  rintro e w1 ⟨rfl, rfl⟩
  go_wp2_with fail
  go_ret
  exact ⟨rfl, Below.refl _ _⟩
set_option maxHeartbeats 4000000 in
set_option maxRecDepth 100000 in
theorem rT_sub_true (b : Nat) (ef mf m0 : Nat) (e0 : Int) (hp : PartsAre b true ef mf) (f1 : ((ef : Int) == 2047) = false) (f6 : ((ef : Int) == 0) = true) (f4 : ((mf : Int) == 0) = false) (hm0 : mf = m0) (he0 : e0 = -1074)
    (hmp : 0 < m0) (hml : m0 < 9007199254740992) (hel : -2000 ≤ e0 ∧ e0 ≤ 2000) (L : List UInt8) (hfin : ∀ m j : Nat, m * 2 ^ j = m0 → m % 2 = 1 → [45] ++ Lib.decDigits m ++ [112] ++ Lib.itoa (e0 + j) = L) (hl : L.length ≤ 1000) (w : World) :
    Calls Tryd.prog 24 #[.float .f64 b] w fun e w' => e = .returned (.string ⟨L.toArray⟩) ∧ Below w.heap.size w w' := by
  have HP := Lib.hid hp
  have HF := Lib.hid hfin
  have HML := Lib.hid hml
  have HMP := Lib.hid hmp
  have HEL := Lib.hid hel
  have HL := Lib.hid hl
  clear hp hfin hml hmp hel hl
  subst hm0
  subst he0
  go_enter Tryd.func24, Tryd.ntmps24
  go_wp2_with fail
  refine (HP.out w).mono ?_
  rintro e w1 ⟨rfl, rfl⟩
  go_wp2_with fail
  clear HP f1
  go_loopw [4, 5, 38, 39, 40, 41, 42, 43, 44] (fun v4 v5 _ _ _ _ _ _ _ wr => ∃ j m : Nat, v4 = .int .i64 (-1074 + (j : Int)) ∧ v5 = .int .i64 (m : Int) ∧ wr = w ∧ Hid (m * 2 ^ j = mf ∧ 0 < m ∧ j ≤ 53)) (fun _ v5 _ _ _ _ _ _ _ _ => (intOf v5).toNat)
  case atStart =>
    exact ⟨0, mf, by first | (simp; done) | (rw [he]; simp), by first | rfl | (rw [hm]; done) | simp, rfl, Lib.hid ⟨by simp, HMP.out, by omega⟩⟩
  case round =>
    obtain ⟨j, m, rfl, rfl, rfl, HI⟩ := hrel
    have HMB := Lib.hid (show m < 9007199254740992 by
      have h1 := HI.out.1
      have h2 := HML.out
      have h3 : m * 1 ≤ m * 2 ^ j := Nat.mul_le_mul_left m (Nat.two_pow_pos j)
      generalize m * 2 ^ j = y at *
      omega)
    by_cases ho : m % 2 = 1
    · have o1 : ((m : Int) % 2 == 0) = false := by simp; omega
      have HD := Lib.hid (digits_any m (by have := HMB.out; omega))
      have HS := Lib.hid (signed_any (-1074 + (j : Int)) (by have := HI.out.2.2; have := HEL.out; omega) (by have := HI.out.2.2; have := HEL.out; omega))
      have HQ := Lib.hid (HF.out m j HI.out.1 ho)
      generalize Lib.decDigits m = D at *
      generalize Lib.itoa (-1074 + (j : Int)) = I at *
      have a1 := str_add [45] D _ rfl (by have h1 := HL.out; rw [← HQ.out] at h1; simp only [List.length_append, List.length_cons, List.length_nil] at h1 ⊢; omega)
      have a2 := str_add ([45] ++ D) [112] _ rfl (by have h1 := HL.out; rw [← HQ.out] at h1; simp only [List.length_append, List.length_cons, List.length_nil] at h1 ⊢; omega)
      have a3 := str_add ([45] ++ D ++ [112]) I L HQ.out (by have := HL.out; omega)
      generalize [45] ++ D ++ [112] = X2 at *
      generalize [45] ++ D = X1 at *
      clear ho HI
      go_wp2_with fail
      refine (HD.out wr).mono ?_
      rintro e w1 ⟨rfl, hb1⟩
      have HB1 := Lib.hid hb1
      clear hb1
      go_wp2_with fail
      refine (HS.out w1).mono ?_
      rintro e w2 ⟨rfl, hb2⟩
      have HB2 := Lib.hid (HB1.out.trans (hb2.mono HB1.out.size))
      clear hb2
      go_wp2_with fail
      go_ret
      exact ⟨rfl, HB2.out⟩
    · have o1 : ((m : Int) % 2 == 0) = true := by simp; omega
      have HO := Lib.hid ho
      clear ho
      go_wp2_with fail
      have h1 := HI.out.1
      have h2 := HI.out.2.1
      have h3 := HI.out.2.2
      have h4 := HO.out
      have h5 := HEL.out
      have h6 := HMB.out
      have e1 : wrap64 (-1074 + (j : Int) + 1) = -1074 + ((j + 1 : Nat) : Int) := by clear h1; unfold wrap64; omega
      have e2 : wrap64 ((m : Int) / 2) = ((m / 2 : Nat) : Int) := by clear h1; unfold wrap64; omega
      have hj : m / 2 * 2 ^ (j + 1) = mf := by rw [← h1, Nat.pow_succ, Nat.mul_comm (2 ^ j) 2, ← Nat.mul_assoc, show m / 2 * 2 = m by clear h1; omega]
      have hjl : j + 1 ≤ 53 := by
        rcases Nat.lt_or_ge 52 j with h | h
        · exfalso
          have g1 : 2 ^ 53 ≤ 2 ^ (j + 1) := Nat.pow_le_pow_right (by omega) (by omega)
          have g2 : 1 * 2 ^ (j + 1) ≤ m / 2 * 2 ^ (j + 1) := Nat.mul_le_mul_right _ (by clear h1 hj; omega)
          rw [hj] at g2
          have := HML.out
          clear h1 hj
          omega
        · omega
      refine ⟨⟨j + 1, m / 2, by rw [e1], by rw [e2], trivial, Lib.hid ⟨hj, by clear h1 hj; omega, hjl⟩⟩, ?_⟩
      rw [e2]; simp only [intOf]; clear h1 hj; omega
set_option maxHeartbeats 4000000 in
set_option maxRecDepth 100000 in
theorem rT_sub_false (b : Nat) (ef mf m0 : Nat) (e0 : Int) (hp : PartsAre b false ef mf) (f1 : ((ef : Int) == 2047) = false) (f6 : ((ef : Int) == 0) = true) (f4 : ((mf : Int) == 0) = false) (hm0 : mf = m0) (he0 : e0 = -1074)
    (hmp : 0 < m0) (hml : m0 < 9007199254740992) (hel : -2000 ≤ e0 ∧ e0 ≤ 2000) (L : List UInt8) (hfin : ∀ m j : Nat, m * 2 ^ j = m0 → m % 2 = 1 → [] ++ Lib.decDigits m ++ [112] ++ Lib.itoa (e0 + j) = L) (hl : L.length ≤ 1000) (w : World) :
    Calls Tryd.prog 24 #[.float .f64 b] w fun e w' => e = .returned (.string ⟨L.toArray⟩) ∧ Below w.heap.size w w' := by
  have HP := Lib.hid hp
  have HF := Lib.hid hfin
  have HML := Lib.hid hml
  have HMP := Lib.hid hmp
  have HEL := Lib.hid hel
  have HL := Lib.hid hl
  clear hp hfin hml hmp hel hl
  subst hm0
  subst he0
  go_enter Tryd.func24, Tryd.ntmps24
  go_wp2_with fail
  refine (HP.out w).mono ?_
  rintro e w1 ⟨rfl, rfl⟩
  go_wp2_with fail
  clear HP f1
  go_loopw [4, 5, 38, 39, 40, 41, 42, 43, 44] (fun v4 v5 _ _ _ _ _ _ _ wr => ∃ j m : Nat, v4 = .int .i64 (-1074 + (j : Int)) ∧ v5 = .int .i64 (m : Int) ∧ wr = w ∧ Hid (m * 2 ^ j = mf ∧ 0 < m ∧ j ≤ 53)) (fun _ v5 _ _ _ _ _ _ _ _ => (intOf v5).toNat)
  case atStart =>
    exact ⟨0, mf, by first | (simp; done) | (rw [he]; simp), by first | rfl | (rw [hm]; done) | simp, rfl, Lib.hid ⟨by simp, HMP.out, by omega⟩⟩
  case round =>
    obtain ⟨j, m, rfl, rfl, rfl, HI⟩ := hrel
    have HMB := Lib.hid (show m < 9007199254740992 by
      have h1 := HI.out.1
      have h2 := HML.out
      have h3 : m * 1 ≤ m * 2 ^ j := Nat.mul_le_mul_left m (Nat.two_pow_pos j)
      generalize m * 2 ^ j = y at *
      omega)
    by_cases ho : m % 2 = 1
    · have o1 : ((m : Int) % 2 == 0) = false := by simp; omega
      have HD := Lib.hid (digits_any m (by have := HMB.out; omega))
      have HS := Lib.hid (signed_any (-1074 + (j : Int)) (by have := HI.out.2.2; have := HEL.out; omega) (by have := HI.out.2.2; have := HEL.out; omega))
      have HQ := Lib.hid (HF.out m j HI.out.1 ho)
      generalize Lib.decDigits m = D at *
      generalize Lib.itoa (-1074 + (j : Int)) = I at *
      have a1 := str_add [] D _ rfl (by have h1 := HL.out; rw [← HQ.out] at h1; simp only [List.length_append, List.length_cons, List.length_nil] at h1 ⊢; omega)
      have a2 := str_add ([] ++ D) [112] _ rfl (by have h1 := HL.out; rw [← HQ.out] at h1; simp only [List.length_append, List.length_cons, List.length_nil] at h1 ⊢; omega)
      have a3 := str_add ([] ++ D ++ [112]) I L HQ.out (by have := HL.out; omega)
      generalize [] ++ D ++ [112] = X2 at *
      generalize [] ++ D = X1 at *
      clear ho HI
      go_wp2_with fail
      refine (HD.out wr).mono ?_
      rintro e w1 ⟨rfl, hb1⟩
      have HB1 := Lib.hid hb1
      clear hb1
      go_wp2_with fail
      refine (HS.out w1).mono ?_
      rintro e w2 ⟨rfl, hb2⟩
      have HB2 := Lib.hid (HB1.out.trans (hb2.mono HB1.out.size))
      clear hb2
      go_wp2_with fail
      go_ret
      exact ⟨rfl, HB2.out⟩
    · have o1 : ((m : Int) % 2 == 0) = true := by simp; omega
      have HO := Lib.hid ho
      clear ho
      go_wp2_with fail
      have h1 := HI.out.1
      have h2 := HI.out.2.1
      have h3 := HI.out.2.2
      have h4 := HO.out
      have h5 := HEL.out
      have h6 := HMB.out
      have e1 : wrap64 (-1074 + (j : Int) + 1) = -1074 + ((j + 1 : Nat) : Int) := by clear h1; unfold wrap64; omega
      have e2 : wrap64 ((m : Int) / 2) = ((m / 2 : Nat) : Int) := by clear h1; unfold wrap64; omega
      have hj : m / 2 * 2 ^ (j + 1) = mf := by rw [← h1, Nat.pow_succ, Nat.mul_comm (2 ^ j) 2, ← Nat.mul_assoc, show m / 2 * 2 = m by clear h1; omega]
      have hjl : j + 1 ≤ 53 := by
        rcases Nat.lt_or_ge 52 j with h | h
        · exfalso
          have g1 : 2 ^ 53 ≤ 2 ^ (j + 1) := Nat.pow_le_pow_right (by omega) (by omega)
          have g2 : 1 * 2 ^ (j + 1) ≤ m / 2 * 2 ^ (j + 1) := Nat.mul_le_mul_right _ (by clear h1 hj; omega)
          rw [hj] at g2
          have := HML.out
          clear h1 hj
          omega
        · omega
      refine ⟨⟨j + 1, m / 2, by rw [e1], by rw [e2], trivial, Lib.hid ⟨hj, by clear h1 hj; omega, hjl⟩⟩, ?_⟩
      rw [e2]; simp only [intOf]; clear h1 hj; omega
set_option maxHeartbeats 4000000 in
set_option maxRecDepth 100000 in
theorem rT_norm_true (b : Nat) (ef mf m0 : Nat) (e0 : Int) (hp : PartsAre b true ef mf) (f1 : ((ef : Int) == 2047) = false) (f6 : ((ef : Int) == 0) = false) (hm : wrap64 ((mf : Int) + 4503599627370496) = (m0 : Int)) (he : wrap64 ((ef : Int) - 1075) = e0)
    (hmp : 0 < m0) (hml : m0 < 9007199254740992) (hel : -2000 ≤ e0 ∧ e0 ≤ 2000) (L : List UInt8) (hfin : ∀ m j : Nat, m * 2 ^ j = m0 → m % 2 = 1 → [45] ++ Lib.decDigits m ++ [112] ++ Lib.itoa (e0 + j) = L) (hl : L.length ≤ 1000) (w : World) :
    Calls Tryd.prog 24 #[.float .f64 b] w fun e w' => e = .returned (.string ⟨L.toArray⟩) ∧ Below w.heap.size w w' := by
  have HP := Lib.hid hp
  have HF := Lib.hid hfin
  have HML := Lib.hid hml
  have HMP := Lib.hid hmp
  have HEL := Lib.hid hel
  have HL := Lib.hid hl
  clear hp hfin hml hmp hel hl
  go_enter Tryd.func24, Tryd.ntmps24
  go_wp2_with fail
  refine (HP.out w).mono ?_
  rintro e w1 ⟨rfl, rfl⟩
  go_wp2_with fail
  clear HP f1
  go_loopw [4, 5, 38, 39, 40, 41, 42, 43, 44] (fun v4 v5 _ _ _ _ _ _ _ wr => ∃ j m : Nat, v4 = .int .i64 (e0 + (j : Int)) ∧ v5 = .int .i64 (m : Int) ∧ wr = w ∧ Hid (m * 2 ^ j = m0 ∧ 0 < m ∧ j ≤ 53)) (fun _ v5 _ _ _ _ _ _ _ _ => (intOf v5).toNat)
  case atStart =>
    exact ⟨0, m0, by first | (simp; done) | (rw [he]; simp), by first | rfl | (rw [hm]; done) | simp, rfl, Lib.hid ⟨by simp, HMP.out, by omega⟩⟩
  case round =>
    obtain ⟨j, m, rfl, rfl, rfl, HI⟩ := hrel
    have HMB := Lib.hid (show m < 9007199254740992 by
      have h1 := HI.out.1
      have h2 := HML.out
      have h3 : m * 1 ≤ m * 2 ^ j := Nat.mul_le_mul_left m (Nat.two_pow_pos j)
      generalize m * 2 ^ j = y at *
      omega)
    by_cases ho : m % 2 = 1
    · have o1 : ((m : Int) % 2 == 0) = false := by simp; omega
      have HD := Lib.hid (digits_any m (by have := HMB.out; omega))
      have HS := Lib.hid (signed_any (e0 + (j : Int)) (by have := HI.out.2.2; have := HEL.out; omega) (by have := HI.out.2.2; have := HEL.out; omega))
      have HQ := Lib.hid (HF.out m j HI.out.1 ho)
      generalize Lib.decDigits m = D at *
      generalize Lib.itoa (e0 + (j : Int)) = I at *
      have a1 := str_add [45] D _ rfl (by have h1 := HL.out; rw [← HQ.out] at h1; simp only [List.length_append, List.length_cons, List.length_nil] at h1 ⊢; omega)
      have a2 := str_add ([45] ++ D) [112] _ rfl (by have h1 := HL.out; rw [← HQ.out] at h1; simp only [List.length_append, List.length_cons, List.length_nil] at h1 ⊢; omega)
      have a3 := str_add ([45] ++ D ++ [112]) I L HQ.out (by have := HL.out; omega)
      generalize [45] ++ D ++ [112] = X2 at *
      generalize [45] ++ D = X1 at *
      clear ho HI
      go_wp2_with fail
      refine (HD.out wr).mono ?_
      rintro e w1 ⟨rfl, hb1⟩
      have HB1 := Lib.hid hb1
      clear hb1
      go_wp2_with fail
      refine (HS.out w1).mono ?_
      rintro e w2 ⟨rfl, hb2⟩
      have HB2 := Lib.hid (HB1.out.trans (hb2.mono HB1.out.size))
      clear hb2
      go_wp2_with fail
      go_ret
      exact ⟨rfl, HB2.out⟩
    · have o1 : ((m : Int) % 2 == 0) = true := by simp; omega
      have HO := Lib.hid ho
      clear ho
      go_wp2_with fail
      have h1 := HI.out.1
      have h2 := HI.out.2.1
      have h3 := HI.out.2.2
      have h4 := HO.out
      have h5 := HEL.out
      have h6 := HMB.out
      have e1 : wrap64 (e0 + (j : Int) + 1) = e0 + ((j + 1 : Nat) : Int) := by clear h1; unfold wrap64; omega
      have e2 : wrap64 ((m : Int) / 2) = ((m / 2 : Nat) : Int) := by clear h1; unfold wrap64; omega
      have hj : m / 2 * 2 ^ (j + 1) = m0 := by rw [← h1, Nat.pow_succ, Nat.mul_comm (2 ^ j) 2, ← Nat.mul_assoc, show m / 2 * 2 = m by clear h1; omega]
      have hjl : j + 1 ≤ 53 := by
        rcases Nat.lt_or_ge 52 j with h | h
        · exfalso
          have g1 : 2 ^ 53 ≤ 2 ^ (j + 1) := Nat.pow_le_pow_right (by omega) (by omega)
          have g2 : 1 * 2 ^ (j + 1) ≤ m / 2 * 2 ^ (j + 1) := Nat.mul_le_mul_right _ (by clear h1 hj; omega)
          rw [hj] at g2
          have := HML.out
          clear h1 hj
          omega
        · omega
      refine ⟨⟨j + 1, m / 2, by rw [e1], by rw [e2], trivial, Lib.hid ⟨hj, by clear h1 hj; omega, hjl⟩⟩, ?_⟩
      rw [e2]; simp only [intOf]; clear h1 hj; omega
set_option maxHeartbeats 4000000 in
set_option maxRecDepth 100000 in
theorem rT_norm_false (b : Nat) (ef mf m0 : Nat) (e0 : Int) (hp : PartsAre b false ef mf) (f1 : ((ef : Int) == 2047) = false) (f6 : ((ef : Int) == 0) = false) (hm : wrap64 ((mf : Int) + 4503599627370496) = (m0 : Int)) (he : wrap64 ((ef : Int) - 1075) = e0)
    (hmp : 0 < m0) (hml : m0 < 9007199254740992) (hel : -2000 ≤ e0 ∧ e0 ≤ 2000) (L : List UInt8) (hfin : ∀ m j : Nat, m * 2 ^ j = m0 → m % 2 = 1 → [] ++ Lib.decDigits m ++ [112] ++ Lib.itoa (e0 + j) = L) (hl : L.length ≤ 1000) (w : World) :
    Calls Tryd.prog 24 #[.float .f64 b] w fun e w' => e = .returned (.string ⟨L.toArray⟩) ∧ Below w.heap.size w w' := by
  have HP := Lib.hid hp
  have HF := Lib.hid hfin
  have HML := Lib.hid hml
  have HMP := Lib.hid hmp
  have HEL := Lib.hid hel
  have HL := Lib.hid hl
  clear hp hfin hml hmp hel hl
  go_enter Tryd.func24, Tryd.ntmps24
  go_wp2_with fail
  refine (HP.out w).mono ?_
  rintro e w1 ⟨rfl, rfl⟩
  go_wp2_with fail
  clear HP f1
  go_loopw [4, 5, 38, 39, 40, 41, 42, 43, 44] (fun v4 v5 _ _ _ _ _ _ _ wr => ∃ j m : Nat, v4 = .int .i64 (e0 + (j : Int)) ∧ v5 = .int .i64 (m : Int) ∧ wr = w ∧ Hid (m * 2 ^ j = m0 ∧ 0 < m ∧ j ≤ 53)) (fun _ v5 _ _ _ _ _ _ _ _ => (intOf v5).toNat)
  case atStart =>
    exact ⟨0, m0, by first | (simp; done) | (rw [he]; simp), by first | rfl | (rw [hm]; done) | simp, rfl, Lib.hid ⟨by simp, HMP.out, by omega⟩⟩
  case round =>
    obtain ⟨j, m, rfl, rfl, rfl, HI⟩ := hrel
    have HMB := Lib.hid (show m < 9007199254740992 by
      have h1 := HI.out.1
      have h2 := HML.out
      have h3 : m * 1 ≤ m * 2 ^ j := Nat.mul_le_mul_left m (Nat.two_pow_pos j)
      generalize m * 2 ^ j = y at *
      omega)
    by_cases ho : m % 2 = 1
    · have o1 : ((m : Int) % 2 == 0) = false := by simp; omega
      have HD := Lib.hid (digits_any m (by have := HMB.out; omega))
      have HS := Lib.hid (signed_any (e0 + (j : Int)) (by have := HI.out.2.2; have := HEL.out; omega) (by have := HI.out.2.2; have := HEL.out; omega))
      have HQ := Lib.hid (HF.out m j HI.out.1 ho)
      generalize Lib.decDigits m = D at *
      generalize Lib.itoa (e0 + (j : Int)) = I at *
      have a1 := str_add [] D _ rfl (by have h1 := HL.out; rw [← HQ.out] at h1; simp only [List.length_append, List.length_cons, List.length_nil] at h1 ⊢; omega)
      have a2 := str_add ([] ++ D) [112] _ rfl (by have h1 := HL.out; rw [← HQ.out] at h1; simp only [List.length_append, List.length_cons, List.length_nil] at h1 ⊢; omega)
      have a3 := str_add ([] ++ D ++ [112]) I L HQ.out (by have := HL.out; omega)
      generalize [] ++ D ++ [112] = X2 at *
      generalize [] ++ D = X1 at *
      clear ho HI
      go_wp2_with fail
      refine (HD.out wr).mono ?_
      rintro e w1 ⟨rfl, hb1⟩
      have HB1 := Lib.hid hb1
      clear hb1
      go_wp2_with fail
      refine (HS.out w1).mono ?_
      rintro e w2 ⟨rfl, hb2⟩
      have HB2 := Lib.hid (HB1.out.trans (hb2.mono HB1.out.size))
      clear hb2
      go_wp2_with fail
      go_ret
      exact ⟨rfl, HB2.out⟩
    · have o1 : ((m : Int) % 2 == 0) = true := by simp; omega
      have HO := Lib.hid ho
      clear ho
      go_wp2_with fail
      have h1 := HI.out.1
      have h2 := HI.out.2.1
      have h3 := HI.out.2.2
      have h4 := HO.out
      have h5 := HEL.out
      have h6 := HMB.out
      have e1 : wrap64 (e0 + (j : Int) + 1) = e0 + ((j + 1 : Nat) : Int) := by clear h1; unfold wrap64; omega
      have e2 : wrap64 ((m : Int) / 2) = ((m / 2 : Nat) : Int) := by clear h1; unfold wrap64; omega
      have hj : m / 2 * 2 ^ (j + 1) = m0 := by rw [← h1, Nat.pow_succ, Nat.mul_comm (2 ^ j) 2, ← Nat.mul_assoc, show m / 2 * 2 = m by clear h1; omega]
      have hjl : j + 1 ≤ 53 := by
        rcases Nat.lt_or_ge 52 j with h | h
        · exfalso
          have g1 : 2 ^ 53 ≤ 2 ^ (j + 1) := Nat.pow_le_pow_right (by omega) (by omega)
          have g2 : 1 * 2 ^ (j + 1) ≤ m / 2 * 2 ^ (j + 1) := Nat.mul_le_mul_right _ (by clear h1 hj; omega)
          rw [hj] at g2
          have := HML.out
          clear h1 hj
          omega
        · omega
      refine ⟨⟨j + 1, m / 2, by rw [e1], by rw [e2], trivial, Lib.hid ⟨hj, by clear h1 hj; omega, hjl⟩⟩, ?_⟩
      rw [e2]; simp only [intOf]; clear h1 hj; omega

theorem odd_part {m n x y : Nat} (hm : m % 2 = 1) (hn : n % 2 = 1) (h : m * 2 ^ x = n * 2 ^ y) : m = n ∧ x = y := by
  rcases Nat.lt_trichotomy x y with hl | rfl | hl
  · exfalso
    obtain ⟨d, rfl⟩ : ∃ d, y = x + 1 + d := ⟨y - x - 1, by omega⟩
    rw [Nat.pow_add, Nat.pow_succ, Nat.mul_assoc, Nat.mul_comm (2 ^ x) (2 * 2 ^ d), ← Nat.mul_assoc] at h
    have := Nat.eq_of_mul_eq_mul_right (Nat.two_pow_pos x) h
    rw [Nat.mul_comm, Nat.mul_assoc] at this
    generalize 2 ^ d * n = q at this
    omega
  · exact ⟨Nat.eq_of_mul_eq_mul_right (Nat.two_pow_pos x) h, rfl⟩
  · exfalso
    obtain ⟨d, rfl⟩ : ∃ d, x = y + 1 + d := ⟨x - y - 1, by omega⟩
    rw [Nat.pow_add, Nat.pow_succ, Nat.mul_assoc, Nat.mul_comm (2 ^ y) (2 * 2 ^ d), ← Nat.mul_assoc] at h
    have := Nat.eq_of_mul_eq_mul_right (Nat.two_pow_pos y) h
    rw [Nat.mul_comm, Nat.mul_assoc] at this
    generalize 2 ^ d * m = q at this
    omega

/-- ref01.Text -/
theorem refText_any (b : Nat) (hb : b < 18446744073709551616) (w : World) :
    Calls Tryd.prog 24 #[.float .f64 b] w fun e w' => e = .returned (.string ⟨(textB b).toArray⟩) ∧ Below w.heap.size w w' := by
  have hp := parts_are b hb
  have he := expoB_eq b
  have hm := fracB_eq b
  have hml := fracB_lt b
  have hel := expoB_lt b
  obtain ⟨r, hr⟩ : ∃ r, b % 9223372036854775808 = r := ⟨_, rfl⟩
  have hrr : r = expoB b * 4503599627370496 + fracB b := by rw [he, hm]; omega
  cases hn : nanB b with
  | true =>
    have h1 := (nanB_iff b).1 hn
    have e : textB b = [110, 97, 110] := by unfold textB; rw [hn, if_pos rfl]
    rw [e]
    exact rT_nan b _ _ _ hp (by simp; omega) (by simp; omega) w
  | false =>
    have h1 := (nanB_false b).1 hn
    have hlen := text_len b
    have e : textB b = (if signB b then [45] else []) ++ bodyB r := by unfold textB; rw [hn, if_neg (by decide), hr]
    rw [hr] at h1
    rw [e] at hlen ⊢
    generalize signB b = s at *
    generalize expoB b = ef at *
    generalize fracB b = mf at *
    clear he hm hn e
    by_cases hi : ef = 2047
    · have hrI : r = 9218868437227405312 := by omega
      rw [hrI, body_inf]
      cases s with
      | true => exact rT_inf_true b ef mf hp (by simp; omega) (by simp; omega) w
      | false => exact rT_inf_false b ef mf hp (by simp; omega) (by simp; omega) w
    · by_cases hz : ef = 0 ∧ mf = 0
      · have hr0 : r = 0 := by omega
        rw [hr0, body_zero]
        cases s with
        | true => exact rT_zero_true b ef mf hp (by simp; omega) (by simp; omega) (by simp; omega) w
        | false => exact rT_zero_false b ef mf hp (by simp; omega) (by simp; omega) (by simp; omega) w
      · have hsig : (ef = 0 ∧ sigR r = mf ∧ expR r = 0) ∨ (0 < ef ∧ sigR r = mf + 4503599627370496 ∧ expR r = ef - 1) := by
          unfold sigR expR
          by_cases e : ef = 0
          · left; rw [if_pos (by omega)]; omega
          · right; rw [if_neg (by omega)]; omega
        have hr1 : r < 9218868437227405312 := by omega
        rw [body_num (by omega) hr1] at hlen ⊢
        obtain ⟨m1, m2, m3, a, m4, m5, m6⟩ := mag_spec r (by omega) hr1
        have hfin : ∀ (pre : List UInt8) (m j : Nat), m * 2 ^ j = sigR r → m % 2 = 1 → pre ++ Lib.decDigits m ++ [112] ++ Lib.itoa ((expR r : Int) - 1074 + j) = pre ++ (Lib.decDigits (magB r) ++ [112] ++ Lib.itoa (exB r)) := by
          intro pre m j hj ho
          have h : m * 2 ^ (j + expR r) = magB r * 2 ^ a := by
            rw [← m5, Nat.pow_add, ← Nat.mul_assoc, hj]; rfl
          obtain ⟨u1, u2⟩ := odd_part ho m1 h
          rw [u1, m4, show (expR r : Int) - 1074 + j = (a : Int) - 1074 by omega]
          simp
        have hl : ((if s = true then [45] else []) ++ (Lib.decDigits (magB r) ++ [112] ++ Lib.itoa (exB r)) : List UInt8).length ≤ 1000 := by omega
        clear hlen
        rcases hsig with ⟨e1, e2, e3⟩ | ⟨e1, e2, e3⟩
        · rw [e2, e3] at hfin
          cases s with
          | true => exact rT_sub_true b ef mf mf (-1074) hp (by simp; omega) (by simp; omega) (by simp; omega) rfl rfl (by omega) (by omega) (by omega) _ (fun m j h1 h2 => hfin [45] m j h1 h2) hl w
          | false => exact rT_sub_false b ef mf mf (-1074) hp (by simp; omega) (by simp; omega) (by simp; omega) rfl rfl (by omega) (by omega) (by omega) _ (fun m j h1 h2 => hfin [] m j h1 h2) hl w
        · rw [e2, e3] at hfin
          cases s with
          | true => exact rT_norm_true b ef mf (mf + 4503599627370496) (((ef - 1 : Nat) : Int) - 1074) hp (by simp; omega) (by simp; omega) (by unfold wrap64; omega) (by unfold wrap64; omega) (by omega) (by omega) (by omega) _ (fun m j h1 h2 => hfin [45] m j h1 h2) hl w
          | false => exact rT_norm_false b ef mf (mf + 4503599627370496) (((ef - 1 : Nat) : Int) - 1074) hp (by simp; omega) (by simp; omega) (by unfold wrap64; omega) (by unfold wrap64; omega) (by omega) (by omega) (by omega) _ (fun m j h1 h2 => hfin [] m j h1 h2) hl w
end Go.Proofs.YtnbpioinhjijcaaDoor

