import Derived.Test.YtnbpioinhjijcaaDoorRA2
/-! ref01.Against. -/
namespace Go.Proofs.YtnbpioinhjijcaaDoor
open Go.RowKit
set_option maxHeartbeats 4000000 in
set_option maxRecDepth 100000 in
theorem refA_up (n : Int) (b : Nat) (s : Bool) (ef mf : Nat) (hp : PartsAre b s ef mf) (h0 : 1075 ≤ ef) (h1 : ef < 1086) (hm : mf < 4503599627370496) (w : World) :
    Calls Tryd.prog 27 #[.int .i64 n, .float .f64 b] w fun e w' => e = .returned (.tuple #[.int .i64 (cmpZ n (if s = true then -(((mf + 4503599627370496) * 2 ^ (ef - 1075) : Nat) : Int) else (((mf + 4503599627370496) * 2 ^ (ef - 1075) : Nat) : Int))), .bool true]) ∧ w = w' := by
  have HP := Lib.hid hp
  have f1 : ((ef : Int) == 2047) = false := by simp; omega
  have f3 : ((ef : Int) == 1086) = false := by simp; omega
  have f5 : ¬ (1086 : Int) ≤ (ef : Int) := by omega
  have f6 : ((ef : Int) == 0) = false := by simp; omega
  obtain ⟨k, hk⟩ : ∃ k, ef = 1075 + k := ⟨ef - 1075, by omega⟩
  have he : (ef : Int) - 1075 = (k : Int) := by omega
  obtain ⟨m0, hm0⟩ : ∃ m0, m0 = mf + 4503599627370496 := ⟨_, rfl⟩
  have hmw : wrap64 ((mf : Int) + 4503599627370496) = (m0 : Int) := by unfold wrap64; omega
  have hk2 : 2 ^ k ≤ 2 ^ 10 := Nat.pow_le_pow_right (by omega) (by omega)
  obtain ⟨p, hpp⟩ : ∃ p, 2 ^ k = p := ⟨_, rfl⟩
  rw [show ef - 1075 = k by omega, ← hm0, hpp]
  rw [hpp] at hk2
  have hv : m0 * p < 9223372036854775808 := by
    exact Nat.lt_of_le_of_lt (Nat.mul_le_mul (show m0 ≤ 9007199254740991 by omega) (show p ≤ 1024 by omega)) (by omega)
  obtain ⟨v, hvv⟩ : ∃ v, m0 * p = v := ⟨_, rfl⟩
  rw [hvv] at hv
  rw [hvv]
  have hkk : (k : Int) < 64 := by clear hv hvv hmw; omega
  have HN1 := Lib.hid (show wrap64 (-(v : Int)) = -(v : Int) by unfold wrap64; omega)
  have HN2 := Lib.hid (show wrap64 (v : Int) = (v : Int) by unfold wrap64; omega)
  have hsh : wrap64 ((m0 : Int) * 2 ^ k) = (v : Int) := by
    have : ((2 : Int) ^ k) = ((2 ^ k : Nat) : Int) := by simp
    rw [this, hpp, ← Int.natCast_mul, hvv]; unfold wrap64; omega
  have HE := Lib.hid he
  have HW := Lib.hid hmw
  have HSH := Lib.hid hsh
  clear hp hk hm0 hk2 hpp hvv hv h0 h1 hm he hsh
  cases s
  all_goals
    go_enter Tryd.func27, Tryd.ntmps27
    go_wp2_with fail
    refine (HP.out w).mono ?_
    rintro e w1 ⟨rfl, rfl⟩
    go_wp2_with fail
    clear HP f1 f5
    go_loopw [7, 8, 53, 54, 55, 56, 57, 63, 64, 65, 66] (fun v7 v8 _ _ _ _ _ _ _ _ _ wr => v7 = .int .i64 (k : Int) ∧ v8 = .int .i64 (m0 : Int) ∧ wr = w) (fun _ _ _ _ _ _ _ _ _ _ _ _ => 0)
    case atStart => exact ⟨by rw [HE.out], by first | rfl | (rw [HW.out]; done), rfl⟩
    case round =>
      obtain ⟨rfl, rfl, rfl⟩ := hrel
      clear hmw
      go_wp2_with fail
      rw [HSH.out]
      first | rw [HN2.out] | rw [HN1.out]
      refine (sign_any n _ wr).mono ?_
      rintro e w2 ⟨rfl, rfl⟩
      go_wp2_with fail
      go_ret2
      exact ⟨rfl, rfl⟩

end Go.Proofs.YtnbpioinhjijcaaDoor
