import Derived.Test.YtnbpioinhjijcaaDoorRAg
import Derived.Deep.LoopGhost
/-! ref01.Against. -/
namespace Go.Proofs.YtnbpioinhjijcaaDoor
open Go.RowKit

/-- What Parts answers. -/
def PartsAre (b : Nat) (s : Bool) (ef mf : Nat) : Prop := ∀ w, Calls Tryd.prog 50 #[.float .f64 b] w fun e w' => e = .returned (.tuple #[.bool s, .int .i64 ef, .int .i64 mf]) ∧ w = w'
theorem parts_are (b : Nat) (hb : b < 18446744073709551616) : PartsAre b (signB b) (expoB b) (fracB b) := fun w => parts_any b hb w

set_option maxRecDepth 100000 in
theorem refA_nan (n : Int) (b : Nat) (s : Bool) (ef mf : Nat) (hp : PartsAre b s ef mf) (f1 : ((ef : Int) == 2047) = true) (f2 : ((mf : Int) != 0) = true) (w : World) :
    Calls Tryd.prog 27 #[.int .i64 n, .float .f64 b] w fun e w' => e = .returned (.tuple #[.int .i64 0, .bool false]) ∧ w = w' := by
  have HP := Lib.hid hp
  clear hp
  go_enter Tryd.func27, Tryd.ntmps27
  go_wp2_with fail
  refine (HP.out w).mono ?_
  rintro e w1 ⟨rfl, rfl⟩
  go_wp2_with fail
  go_ret2
  exact ⟨rfl, rfl⟩
set_option maxRecDepth 100000 in
theorem refA_low (n : Int) (b : Nat) (ef mf : Nat) (hp : PartsAre b true ef mf) (f1 : ((ef : Int) == 2047) = false) (f3 : ((ef : Int) == 1086) = true) (f4 : ((mf : Int) == 0) = true) (w : World) :
    Calls Tryd.prog 27 #[.int .i64 n, .float .f64 b] w fun e w' => e = .returned (.tuple #[.int .i64 (cmpZ n (-9223372036854775808)), .bool true]) ∧ w = w' := by
  have HP := Lib.hid hp
  clear hp
  go_enter Tryd.func27, Tryd.ntmps27
  go_wp2_with fail
  refine (HP.out w).mono ?_
  rintro e w1 ⟨rfl, rfl⟩
  go_wp2_with fail
  refine (sign_any n (-9223372036854775808) w).mono ?_
  rintro e w1 ⟨rfl, rfl⟩
  go_wp2_with fail
  go_ret2
  exact ⟨rfl, rfl⟩
set_option maxHeartbeats 4000000 in
set_option maxRecDepth 100000 in
theorem refA_big (n : Int) (b : Nat) (s : Bool) (ef mf : Nat) (hp : PartsAre b s ef mf) (b1 b2 b3 b4 : Bool) (f1 : ((ef : Int) == 2047) = b1) (f2 : ((mf : Int) != 0) = b2) (f3 : ((ef : Int) == 1086) = b3) (f4 : ((mf : Int) == 0) = b4)
    (f5 : (1086 : Int) ≤ (ef : Int)) (hf : (b1 && b2) = false) (hg : (s && b3 && b4) = false) (w : World) :
    Calls Tryd.prog 27 #[.int .i64 n, .float .f64 b] w fun e w' => e = .returned (.tuple #[.int .i64 (if s then 1 else -1), .bool true]) ∧ w = w' := by
  have HP := Lib.hid hp
  clear hp
  cases s <;> cases b1 <;> cases b2 <;> cases b3 <;> cases b4 <;> (first | (cases hf; done) | (cases hg; done) | skip)
  all_goals
    clear hf hg
    go_enter Tryd.func27, Tryd.ntmps27
    go_wp2_with fail
    refine (HP.out w).mono ?_
    rintro e w1 ⟨rfl, rfl⟩
    go_wp2_with fail
    go_ret2
    exact ⟨rfl, rfl⟩
set_option maxRecDepth 100000 in
theorem refA_zero (n : Int) (b : Nat) (s : Bool) (ef mf : Nat) (hp : PartsAre b s ef mf) (f1 : ((ef : Int) == 2047) = false) (f3 : ((ef : Int) == 1086) = false) (f5 : ¬ (1086 : Int) ≤ (ef : Int)) (f6 : ((ef : Int) == 0) = true) (f4 : ((mf : Int) == 0) = true) (w : World) :
    Calls Tryd.prog 27 #[.int .i64 n, .float .f64 b] w fun e w' => e = .returned (.tuple #[.int .i64 (cmpZ n 0), .bool true]) ∧ w = w' := by
  have HP := Lib.hid hp
  clear hp
  cases s
  all_goals
    go_enter Tryd.func27, Tryd.ntmps27
    go_wp2_with fail
    refine (HP.out w).mono ?_
    rintro e w1 ⟨rfl, rfl⟩
    go_wp2_with fail
    refine (sign_any n 0 w).mono ?_
    rintro e w1 ⟨rfl, rfl⟩
    go_wp2_with fail
    go_ret2
    exact ⟨rfl, rfl⟩

set_option maxHeartbeats 4000000 in
set_option maxRecDepth 100000 in
theorem refA_sub_true (n : Int) (b : Nat) (ef mf m0 d0 : Nat) (hp : PartsAre b true ef mf) (f1 : ((ef : Int) == 2047) = false) (_f3 : ((ef : Int) == 1086) = false) (f5 : ¬ (1086 : Int) ≤ (ef : Int)) (f6 : ((ef : Int) == 0) = true) (f4 : ((mf : Int) == 0) = false) (hm0 : mf = m0) (hd0 : d0 = 1074)
    (hml : m0 < 9007199254740992) (hdl : d0 ≤ 1074) (c : Int) (hbt : ∀ j m d, m * 2 ^ j = m0 → d + j = d0 → m % 2 = 1 → 0 < d → btZ n (lowZ true (m / 2 ^ d)) = c) (hwh : ∀ m, m * 2 ^ d0 = m0 → cmpZ n (if true then -(m : Int) else m) = c) (w : World) :
    Calls Tryd.prog 27 #[.int .i64 n, .float .f64 b] w fun e w' => e = .returned (.tuple #[.int .i64 c, .bool true]) ∧ w = w' := by
  have HP := Lib.hid hp
  have HBT := Lib.hid hbt
  have HWH := Lib.hid hwh
  have HML := Lib.hid hml
  have HDL := Lib.hid hdl
  clear hp hbt hwh hml hdl
  subst hm0
  subst hd0
  go_enter Tryd.func27, Tryd.ntmps27
  go_wp2_with fail
  refine (HP.out w).mono ?_
  rintro e w1 ⟨rfl, rfl⟩
  go_wp2_with fail
  clear HP f1 f5
  go_loopw [7, 8, 53, 54, 55, 56, 57, 63, 64, 65, 66] (fun v7 v8 _ _ _ _ _ _ _ _ _ wr => ∃ j m d : Nat, v7 = .int .i64 (-(d : Int)) ∧ v8 = .int .i64 (m : Int) ∧ wr = w ∧ Hid (m * 2 ^ j = mf ∧ d + j = 1074 ∧ m < 9007199254740992)) (fun v7 _ _ _ _ _ _ _ _ _ _ _ => (-(intOf v7)).toNat)
  case atStart =>
    exact ⟨0, mf, 1074, by first | rfl | (rw [HE.out]; done) | simp, by first | rfl | (rw [hm]; done) | simp, rfl, Lib.hid ⟨by simp, by omega, HML.out⟩⟩
  case round =>
    obtain ⟨j, m, d, rfl, rfl, rfl, HI⟩ := hrel
    have HDD := Lib.hid (show d ≤ 1074 by have := HI.out.2.1; have := HDL.out; omega)
    by_cases hd : d = 0
    · subst hd
      have HC := Lib.hid (HWH.out m (by
        have h1 := HI.out.1
        have h2 := HI.out.2.1
        rwa [show j = 1074 by omega] at h1))
      have HMM := Lib.hid HI.out.2.2
      have hw1 : IntKind.i64.wrap (m : Int) = (m : Int) := by have := HI.out.2.2; rw [IntKind.wrap_i64]; omega
      have hw2 : wrap64 (m : Int) = (m : Int) := by have := HI.out.2.2; unfold wrap64; omega
      have hw3 : wrap64 (-(m : Int)) = -(m : Int) := by have := HI.out.2.2; unfold wrap64; omega
      clear HI
      go_wp2_with fail
      refine (sign_any n _ wr).mono ?_
      rintro e w2 ⟨rfl, rfl⟩
      go_wp2_with fail
      go_ret2
      exact ⟨by rw [← HC.out]; rfl, rfl⟩
    · have hd0 : 0 < d := by omega
      have hdi : (0 : Int) < (d : Int) := by omega
      by_cases ho : m % 2 = 1
      · have o1 : ((m : Int) % 2 == 1) = true := by simp; omega
        have o2 : ((m : Int).tmod 2 == 1) = true := by rw [Int.tmod_eq_emod_of_nonneg (by omega)]; exact o1
        have HC := Lib.hid (HBT.out j m d HI.out.1 HI.out.2.1 ho hd0)
        have HB := Lib.hid (between_any n true m d HI.out.2.2 hd0 HDD.out wr)
        clear ho hd
        go_wp2_with fail
        refine HB.out.mono ?_
        rintro e w2 ⟨rfl, rfl⟩
        go_wp2_with fail
        go_ret2
        exact ⟨by rw [← HC.out]; rfl, rfl⟩
      · have o1 : ((m : Int) % 2 == 1) = false := by simp; omega
        have o2 : ((m : Int).tmod 2 == 1) = false := by rw [Int.tmod_eq_emod_of_nonneg (by omega)]; exact o1
        have HO := Lib.hid ho
        clear ho hd
        go_wp2_with fail
        have h1 := HI.out.1
        have h2 := HI.out.2.1
        have h3 := HI.out.2.2
        have h4 := HO.out
        have h5 := HDD.out
        have e1 : wrap64 (-(d : Int) + 1) = -((d - 1 : Nat) : Int) := by unfold wrap64; omega
        have e2 : wrap64 ((m : Int) / 2) = ((m / 2 : Nat) : Int) := by unfold wrap64; omega
        refine ⟨⟨j + 1, m / 2, d - 1, by rw [e1], by rw [e2], trivial, Lib.hid ⟨?_, by omega, by omega⟩⟩, ?_⟩
        · rw [← h1, Nat.pow_succ, Nat.mul_comm (2 ^ j) 2, ← Nat.mul_assoc, show m / 2 * 2 = m by omega]
        · rw [e1]; simp only [intOf]; omega

set_option maxHeartbeats 4000000 in
set_option maxRecDepth 100000 in
theorem refA_sub_false (n : Int) (b : Nat) (ef mf m0 d0 : Nat) (hp : PartsAre b false ef mf) (f1 : ((ef : Int) == 2047) = false) (_f3 : ((ef : Int) == 1086) = false) (f5 : ¬ (1086 : Int) ≤ (ef : Int)) (f6 : ((ef : Int) == 0) = true) (f4 : ((mf : Int) == 0) = false) (hm0 : mf = m0) (hd0 : d0 = 1074)
    (hml : m0 < 9007199254740992) (hdl : d0 ≤ 1074) (c : Int) (hbt : ∀ j m d, m * 2 ^ j = m0 → d + j = d0 → m % 2 = 1 → 0 < d → btZ n (lowZ false (m / 2 ^ d)) = c) (hwh : ∀ m, m * 2 ^ d0 = m0 → cmpZ n (if false then -(m : Int) else m) = c) (w : World) :
    Calls Tryd.prog 27 #[.int .i64 n, .float .f64 b] w fun e w' => e = .returned (.tuple #[.int .i64 c, .bool true]) ∧ w = w' := by
  have HP := Lib.hid hp
  have HBT := Lib.hid hbt
  have HWH := Lib.hid hwh
  have HML := Lib.hid hml
  have HDL := Lib.hid hdl
  clear hp hbt hwh hml hdl
  subst hm0
  subst hd0
  go_enter Tryd.func27, Tryd.ntmps27
  go_wp2_with fail
  refine (HP.out w).mono ?_
  rintro e w1 ⟨rfl, rfl⟩
  go_wp2_with fail
  clear HP f1 f5
  go_loopw [7, 8, 53, 54, 55, 56, 57, 63, 64, 65, 66] (fun v7 v8 _ _ _ _ _ _ _ _ _ wr => ∃ j m d : Nat, v7 = .int .i64 (-(d : Int)) ∧ v8 = .int .i64 (m : Int) ∧ wr = w ∧ Hid (m * 2 ^ j = mf ∧ d + j = 1074 ∧ m < 9007199254740992)) (fun v7 _ _ _ _ _ _ _ _ _ _ _ => (-(intOf v7)).toNat)
  case atStart =>
    exact ⟨0, mf, 1074, by first | rfl | (rw [HE.out]; done) | simp, by first | rfl | (rw [hm]; done) | simp, rfl, Lib.hid ⟨by simp, by omega, HML.out⟩⟩
  case round =>
    obtain ⟨j, m, d, rfl, rfl, rfl, HI⟩ := hrel
    have HDD := Lib.hid (show d ≤ 1074 by have := HI.out.2.1; have := HDL.out; omega)
    by_cases hd : d = 0
    · subst hd
      have HC := Lib.hid (HWH.out m (by
        have h1 := HI.out.1
        have h2 := HI.out.2.1
        rwa [show j = 1074 by omega] at h1))
      have HMM := Lib.hid HI.out.2.2
      have hw1 : IntKind.i64.wrap (m : Int) = (m : Int) := by have := HI.out.2.2; rw [IntKind.wrap_i64]; omega
      have hw2 : wrap64 (m : Int) = (m : Int) := by have := HI.out.2.2; unfold wrap64; omega
      have hw3 : wrap64 (-(m : Int)) = -(m : Int) := by have := HI.out.2.2; unfold wrap64; omega
      clear HI
      go_wp2_with fail
      refine (sign_any n _ wr).mono ?_
      rintro e w2 ⟨rfl, rfl⟩
      go_wp2_with fail
      go_ret2
      exact ⟨by rw [← HC.out]; rfl, rfl⟩
    · have hd0 : 0 < d := by omega
      have hdi : (0 : Int) < (d : Int) := by omega
      by_cases ho : m % 2 = 1
      · have o1 : ((m : Int) % 2 == 1) = true := by simp; omega
        have o2 : ((m : Int).tmod 2 == 1) = true := by rw [Int.tmod_eq_emod_of_nonneg (by omega)]; exact o1
        have HC := Lib.hid (HBT.out j m d HI.out.1 HI.out.2.1 ho hd0)
        have HB := Lib.hid (between_any n false m d HI.out.2.2 hd0 HDD.out wr)
        clear ho hd
        go_wp2_with fail
        refine HB.out.mono ?_
        rintro e w2 ⟨rfl, rfl⟩
        go_wp2_with fail
        go_ret2
        exact ⟨by rw [← HC.out]; rfl, rfl⟩
      · have o1 : ((m : Int) % 2 == 1) = false := by simp; omega
        have o2 : ((m : Int).tmod 2 == 1) = false := by rw [Int.tmod_eq_emod_of_nonneg (by omega)]; exact o1
        have HO := Lib.hid ho
        clear ho hd
        go_wp2_with fail
        have h1 := HI.out.1
        have h2 := HI.out.2.1
        have h3 := HI.out.2.2
        have h4 := HO.out
        have h5 := HDD.out
        have e1 : wrap64 (-(d : Int) + 1) = -((d - 1 : Nat) : Int) := by unfold wrap64; omega
        have e2 : wrap64 ((m : Int) / 2) = ((m / 2 : Nat) : Int) := by unfold wrap64; omega
        refine ⟨⟨j + 1, m / 2, d - 1, by rw [e1], by rw [e2], trivial, Lib.hid ⟨?_, by omega, by omega⟩⟩, ?_⟩
        · rw [← h1, Nat.pow_succ, Nat.mul_comm (2 ^ j) 2, ← Nat.mul_assoc, show m / 2 * 2 = m by omega]
        · rw [e1]; simp only [intOf]; omega

set_option maxHeartbeats 4000000 in
set_option maxRecDepth 100000 in
theorem refA_norm_true (n : Int) (b : Nat) (ef mf m0 d0 : Nat) (hp : PartsAre b true ef mf) (f1 : ((ef : Int) == 2047) = false) (_f3 : ((ef : Int) == 1086) = false) (f5 : ¬ (1086 : Int) ≤ (ef : Int)) (f6 : ((ef : Int) == 0) = false) (hm : wrap64 ((mf : Int) + 4503599627370496) = (m0 : Int)) (he : (ef : Int) - 1075 = -(d0 : Int))
    (hml : m0 < 9007199254740992) (hdl : d0 ≤ 1074) (c : Int) (hbt : ∀ j m d, m * 2 ^ j = m0 → d + j = d0 → m % 2 = 1 → 0 < d → btZ n (lowZ true (m / 2 ^ d)) = c) (hwh : ∀ m, m * 2 ^ d0 = m0 → cmpZ n (if true then -(m : Int) else m) = c) (w : World) :
    Calls Tryd.prog 27 #[.int .i64 n, .float .f64 b] w fun e w' => e = .returned (.tuple #[.int .i64 c, .bool true]) ∧ w = w' := by
  have HP := Lib.hid hp
  have HBT := Lib.hid hbt
  have HWH := Lib.hid hwh
  have HML := Lib.hid hml
  have HDL := Lib.hid hdl
  clear hp hbt hwh hml hdl
  have HE := Lib.hid he
  clear he
  go_enter Tryd.func27, Tryd.ntmps27
  go_wp2_with fail
  refine (HP.out w).mono ?_
  rintro e w1 ⟨rfl, rfl⟩
  go_wp2_with fail
  clear HP f1 f5
  go_loopw [7, 8, 53, 54, 55, 56, 57, 63, 64, 65, 66] (fun v7 v8 _ _ _ _ _ _ _ _ _ wr => ∃ j m d : Nat, v7 = .int .i64 (-(d : Int)) ∧ v8 = .int .i64 (m : Int) ∧ wr = w ∧ Hid (m * 2 ^ j = m0 ∧ d + j = d0 ∧ m < 9007199254740992)) (fun v7 _ _ _ _ _ _ _ _ _ _ _ => (-(intOf v7)).toNat)
  case atStart =>
    exact ⟨0, m0, d0, by first | rfl | (rw [HE.out]; done) | simp, by first | rfl | (rw [hm]; done) | simp, rfl, Lib.hid ⟨by simp, by omega, HML.out⟩⟩
  case round =>
    obtain ⟨j, m, d, rfl, rfl, rfl, HI⟩ := hrel
    have HDD := Lib.hid (show d ≤ 1074 by have := HI.out.2.1; have := HDL.out; omega)
    by_cases hd : d = 0
    · subst hd
      have HC := Lib.hid (HWH.out m (by
        have h1 := HI.out.1
        have h2 := HI.out.2.1
        rwa [show j = d0 by omega] at h1))
      have HMM := Lib.hid HI.out.2.2
      have hw1 : IntKind.i64.wrap (m : Int) = (m : Int) := by have := HI.out.2.2; rw [IntKind.wrap_i64]; omega
      have hw2 : wrap64 (m : Int) = (m : Int) := by have := HI.out.2.2; unfold wrap64; omega
      have hw3 : wrap64 (-(m : Int)) = -(m : Int) := by have := HI.out.2.2; unfold wrap64; omega
      clear HI
      go_wp2_with fail
      refine (sign_any n _ wr).mono ?_
      rintro e w2 ⟨rfl, rfl⟩
      go_wp2_with fail
      go_ret2
      exact ⟨by rw [← HC.out]; rfl, rfl⟩
    · have hd0 : 0 < d := by omega
      have hdi : (0 : Int) < (d : Int) := by omega
      by_cases ho : m % 2 = 1
      · have o1 : ((m : Int) % 2 == 1) = true := by simp; omega
        have o2 : ((m : Int).tmod 2 == 1) = true := by rw [Int.tmod_eq_emod_of_nonneg (by omega)]; exact o1
        have HC := Lib.hid (HBT.out j m d HI.out.1 HI.out.2.1 ho hd0)
        have HB := Lib.hid (between_any n true m d HI.out.2.2 hd0 HDD.out wr)
        clear ho hd
        go_wp2_with fail
        refine HB.out.mono ?_
        rintro e w2 ⟨rfl, rfl⟩
        go_wp2_with fail
        go_ret2
        exact ⟨by rw [← HC.out]; rfl, rfl⟩
      · have o1 : ((m : Int) % 2 == 1) = false := by simp; omega
        have o2 : ((m : Int).tmod 2 == 1) = false := by rw [Int.tmod_eq_emod_of_nonneg (by omega)]; exact o1
        have HO := Lib.hid ho
        clear ho hd
        go_wp2_with fail
        have h1 := HI.out.1
        have h2 := HI.out.2.1
        have h3 := HI.out.2.2
        have h4 := HO.out
        have h5 := HDD.out
        have e1 : wrap64 (-(d : Int) + 1) = -((d - 1 : Nat) : Int) := by unfold wrap64; omega
        have e2 : wrap64 ((m : Int) / 2) = ((m / 2 : Nat) : Int) := by unfold wrap64; omega
        refine ⟨⟨j + 1, m / 2, d - 1, by rw [e1], by rw [e2], trivial, Lib.hid ⟨?_, by omega, by omega⟩⟩, ?_⟩
        · rw [← h1, Nat.pow_succ, Nat.mul_comm (2 ^ j) 2, ← Nat.mul_assoc, show m / 2 * 2 = m by omega]
        · rw [e1]; simp only [intOf]; omega

set_option maxHeartbeats 4000000 in
set_option maxRecDepth 100000 in
theorem refA_norm_false (n : Int) (b : Nat) (ef mf m0 d0 : Nat) (hp : PartsAre b false ef mf) (f1 : ((ef : Int) == 2047) = false) (_f3 : ((ef : Int) == 1086) = false) (f5 : ¬ (1086 : Int) ≤ (ef : Int)) (f6 : ((ef : Int) == 0) = false) (hm : wrap64 ((mf : Int) + 4503599627370496) = (m0 : Int)) (he : (ef : Int) - 1075 = -(d0 : Int))
    (hml : m0 < 9007199254740992) (hdl : d0 ≤ 1074) (c : Int) (hbt : ∀ j m d, m * 2 ^ j = m0 → d + j = d0 → m % 2 = 1 → 0 < d → btZ n (lowZ false (m / 2 ^ d)) = c) (hwh : ∀ m, m * 2 ^ d0 = m0 → cmpZ n (if false then -(m : Int) else m) = c) (w : World) :
    Calls Tryd.prog 27 #[.int .i64 n, .float .f64 b] w fun e w' => e = .returned (.tuple #[.int .i64 c, .bool true]) ∧ w = w' := by
  have HP := Lib.hid hp
  have HBT := Lib.hid hbt
  have HWH := Lib.hid hwh
  have HML := Lib.hid hml
  have HDL := Lib.hid hdl
  clear hp hbt hwh hml hdl
  have HE := Lib.hid he
  clear he
  go_enter Tryd.func27, Tryd.ntmps27
  go_wp2_with fail
  refine (HP.out w).mono ?_
  rintro e w1 ⟨rfl, rfl⟩
  go_wp2_with fail
  clear HP f1 f5
  go_loopw [7, 8, 53, 54, 55, 56, 57, 63, 64, 65, 66] (fun v7 v8 _ _ _ _ _ _ _ _ _ wr => ∃ j m d : Nat, v7 = .int .i64 (-(d : Int)) ∧ v8 = .int .i64 (m : Int) ∧ wr = w ∧ Hid (m * 2 ^ j = m0 ∧ d + j = d0 ∧ m < 9007199254740992)) (fun v7 _ _ _ _ _ _ _ _ _ _ _ => (-(intOf v7)).toNat)
  case atStart =>
    exact ⟨0, m0, d0, by first | rfl | (rw [HE.out]; done) | simp, by first | rfl | (rw [hm]; done) | simp, rfl, Lib.hid ⟨by simp, by omega, HML.out⟩⟩
  case round =>
    obtain ⟨j, m, d, rfl, rfl, rfl, HI⟩ := hrel
    have HDD := Lib.hid (show d ≤ 1074 by have := HI.out.2.1; have := HDL.out; omega)
    by_cases hd : d = 0
    · subst hd
      have HC := Lib.hid (HWH.out m (by
        have h1 := HI.out.1
        have h2 := HI.out.2.1
        rwa [show j = d0 by omega] at h1))
      have HMM := Lib.hid HI.out.2.2
      have hw1 : IntKind.i64.wrap (m : Int) = (m : Int) := by have := HI.out.2.2; rw [IntKind.wrap_i64]; omega
      have hw2 : wrap64 (m : Int) = (m : Int) := by have := HI.out.2.2; unfold wrap64; omega
      have hw3 : wrap64 (-(m : Int)) = -(m : Int) := by have := HI.out.2.2; unfold wrap64; omega
      clear HI
      go_wp2_with fail
      refine (sign_any n _ wr).mono ?_
      rintro e w2 ⟨rfl, rfl⟩
      go_wp2_with fail
      go_ret2
      exact ⟨by rw [← HC.out]; rfl, rfl⟩
    · have hd0 : 0 < d := by omega
      have hdi : (0 : Int) < (d : Int) := by omega
      by_cases ho : m % 2 = 1
      · have o1 : ((m : Int) % 2 == 1) = true := by simp; omega
        have o2 : ((m : Int).tmod 2 == 1) = true := by rw [Int.tmod_eq_emod_of_nonneg (by omega)]; exact o1
        have HC := Lib.hid (HBT.out j m d HI.out.1 HI.out.2.1 ho hd0)
        have HB := Lib.hid (between_any n false m d HI.out.2.2 hd0 HDD.out wr)
        clear ho hd
        go_wp2_with fail
        refine HB.out.mono ?_
        rintro e w2 ⟨rfl, rfl⟩
        go_wp2_with fail
        go_ret2
        exact ⟨by rw [← HC.out]; rfl, rfl⟩
      · have o1 : ((m : Int) % 2 == 1) = false := by simp; omega
        have o2 : ((m : Int).tmod 2 == 1) = false := by rw [Int.tmod_eq_emod_of_nonneg (by omega)]; exact o1
        have HO := Lib.hid ho
        clear ho hd
        go_wp2_with fail
        have h1 := HI.out.1
        have h2 := HI.out.2.1
        have h3 := HI.out.2.2
        have h4 := HO.out
        have h5 := HDD.out
        have e1 : wrap64 (-(d : Int) + 1) = -((d - 1 : Nat) : Int) := by unfold wrap64; omega
        have e2 : wrap64 ((m : Int) / 2) = ((m / 2 : Nat) : Int) := by unfold wrap64; omega
        refine ⟨⟨j + 1, m / 2, d - 1, by rw [e1], by rw [e2], trivial, Lib.hid ⟨?_, by omega, by omega⟩⟩, ?_⟩
        · rw [← h1, Nat.pow_succ, Nat.mul_comm (2 ^ j) 2, ← Nat.mul_assoc, show m / 2 * 2 = m by omega]
        · rw [e1]; simp only [intOf]; omega

end Go.Proofs.YtnbpioinhjijcaaDoor
