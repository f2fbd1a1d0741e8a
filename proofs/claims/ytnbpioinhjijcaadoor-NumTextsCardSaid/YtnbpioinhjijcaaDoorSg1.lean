import Derived.Test.YtnbpioinhjijcaaDoorDgs
/-! ref01.Signed. -/
namespace Go.Proofs.YtnbpioinhjijcaaDoor
open Go.RowKit

theorem itoa_neg {x : Int} (h : x < 0) : Lib.itoa x = 45 :: Lib.decDigits x.natAbs := by unfold Lib.itoa; rw [if_pos h]
theorem itoa_pos (n : Nat) : Lib.itoa n = Lib.decDigits n := by unfold Lib.itoa; rw [if_neg (by omega)]; rfl

set_option maxRecDepth 100000 in
theorem sg_small (x : Int) (h : x < 0) (h1 : -10 < x) (w : World) : Calls Tryd.prog 29 #[.int .i64 x] w fun e w' => e = .returned (.string ⟨(Lib.itoa x).toArray⟩) ∧ Below w.heap.size w w' := by
  have c2 : IntKind.u8.wrap (48 - x) = 48 - x := by rw [IntKind.wrap_u8]; omega
  have c3 : IntKind.i64.wrap (48 - x) = 48 - x := by rw [IntKind.wrap_i64]; omega
  have hcv := run_conv1 (48 - x) (by omega) (by omega)
  have hadd := str_add [45] [UInt8.ofNat (48 - x).toNat] (Lib.itoa x) (by
    rw [itoa_neg h, dec_small (show x.natAbs < 10 by omega), show (48 - x).toNat = 48 + x.natAbs by omega]; rfl) (by rw [itoa_neg h, dec_small (show x.natAbs < 10 by omega)]; simp)
  go_enter Tryd.func29, Tryd.ntmps29
  go_wp2_with fail
  go_ret
  exact ⟨rfl, below_alloc1 (Below.refl _ _) _⟩

theorem tdiv_tmod {x : Int} (h : x ≤ -10) : x.tdiv 10 = -((x.natAbs / 10 : Nat) : Int) ∧ x.tmod 10 = -((x.natAbs % 10 : Nat) : Int) := by
  obtain ⟨n, rfl⟩ : ∃ n : Nat, x = -(n : Int) := ⟨x.natAbs, by omega⟩
  rw [Int.neg_tdiv, Int.neg_tmod, Int.tdiv_eq_ediv_of_nonneg (by omega), Int.tmod_eq_emod_of_nonneg (by omega), Int.natAbs_neg, Int.natAbs_natCast]
  exact ⟨rfl, rfl⟩

set_option maxRecDepth 100000 in
/-- ref01.Signed, of a number below nought. -/
theorem signed_neg : ∀ (n : Nat) (_ : 0 < n) (_ : n < 9223372036854775808) (w : World),
    Calls Tryd.prog 29 #[.int .i64 (-(n : Int))] w fun e w' => e = .returned (.string ⟨(Lib.itoa (-(n : Int))).toArray⟩) ∧ Below w.heap.size w w' := by
  intro n
  induction n using Nat.strongRecOn with
  | ind n ih =>
    intro hn0 hn w
    by_cases h0 : n < 10
    · exact sg_small _ (by omega) (by omega) w
    · have IH := Lib.hid (show ∀ (x : Int), x = -((n / 10 : Nat) : Int) → ∀ w : World, Calls Tryd.prog 29 #[.int .i64 x] w fun e w' => e = .returned (.string ⟨(Lib.itoa (-((n / 10 : Nat) : Int))).toArray⟩) ∧ Below w.heap.size w w' from fun x hx => hx ▸ ih (n / 10) (by omega) (by omega) (by omega))
      clear ih
      generalize hx : -(n : Int) = x at *
      have hxa : x.natAbs = n := by omega
      obtain ⟨t1, t2⟩ := tdiv_tmod (show x ≤ -10 by omega)
      rw [hxa] at t1 t2
      have c0 : x ≤ -10 := by omega
      have hq2 : IntKind.i64.wrap (x.tdiv 10) = x.tdiv 10 := by rw [IntKind.wrap_i64]; omega
      have hm2 : IntKind.u8.wrap (48 - x.tmod 10) = 48 - x.tmod 10 := by rw [IntKind.wrap_u8]; omega
      have hm3 : IntKind.i64.wrap (48 - x.tmod 10) = 48 - x.tmod 10 := by rw [IntKind.wrap_i64]; omega
      have hx0 : (0 : Int) ≤ 48 - x.tmod 10 := by omega
      have hx1 : 48 - x.tmod 10 < 256 := by omega
      have hconv := run_conv1 (48 - x.tmod 10) (by omega) (by omega)
      have hconv2 := run_conv2 (48 - x.tmod 10) (by omega) (by omega)
      have hadd := str_add (Lib.itoa (-((n / 10 : Nat) : Int))) [UInt8.ofNat (48 - x.tmod 10).toNat] (Lib.itoa x) (by
        rw [itoa_neg (by omega), itoa_neg (by omega), hxa, show (-((n / 10 : Nat) : Int)).natAbs = n / 10 by omega, dec_big h0, show (48 - x.tmod 10).toNat = 48 + n % 10 by omega]
        rfl) (by rw [itoa_neg (by omega), hxa]; have := nDigits_le n (by omega); simp only [List.length_cons]; omega)
      generalize Lib.itoa (-((n / 10 : Nat) : Int)) = Y at *
      generalize Lib.itoa x = Z at *
      have T1 := Lib.hid t1
      have HX := Lib.hid hx
      have HXA := Lib.hid hxa
      clear t1 t2 hn h0 hx hxa hn0
      go_enter Tryd.func29, Tryd.ntmps29
      go_wp2_with fail
      go_region_held (fun _ => True) (go_keep) (first | ((go_at_call 29; refine (IH.out _ T1.out _).mono ?_; rintro e w1 ⟨rfl, hb⟩; have hst := conv_after hx0 hx1 hb)) | ((go_at_call 29; refine (IH.out _ T1.out _).mono ?_; rintro e w1 ⟨rfl, hb⟩; have hst := conv_after_drew hx0 hx1 hb)) | ((go_at_call 29; refine (IH.out _ T1.out _).mono ?_; rintro e w1 ⟨rfl, hb⟩)))
      all_goals go_wp2
      all_goals go_ret
      all_goals refine ⟨rfl, ?_⟩
      all_goals first | exact hb.drew | exact hb | exact below_then hb | exact below_then_drew hb | exact below_alloc1 hb _ | exact below_alloc1 hb.drew _ | exact below_alloc1 ((Below.refl _ w).drew.trans hb) _ | exact ((Below.refl _ w).drew.trans hb)

set_option maxRecDepth 100000 in
/-- ref01.Signed -/
theorem signed_any (x : Int) (h0 : -9223372036854775808 < x) (h1 : x < 9223372036854775808) (w : World) :
    Calls Tryd.prog 29 #[.int .i64 x] w fun e w' => e = .returned (.string ⟨(Lib.itoa x).toArray⟩) ∧ Below w.heap.size w w' := by
  by_cases h : x < 0
  · have := signed_neg x.natAbs (by omega) (by omega) w
    rwa [show -((x.natAbs : Nat) : Int) = x by omega] at this
  · obtain ⟨n, rfl⟩ : ∃ n : Nat, x = n := ⟨x.toNat, by omega⟩
    rw [itoa_pos]
    have c0 : (0 : Int) ≤ (n : Int) := by omega
    go_enter Tryd.func29, Tryd.ntmps29
    go_wp2_with fail
    refine (digits_any n (by omega) w).mono ?_
    rintro e w1 ⟨rfl, hb⟩
    go_wp2_with fail
    go_ret
    exact ⟨rfl, hb⟩
end Go.Proofs.YtnbpioinhjijcaaDoor
