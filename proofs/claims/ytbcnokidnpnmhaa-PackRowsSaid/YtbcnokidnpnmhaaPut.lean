import Derived.Test.YtbcnokidnpnmhaaBase
import Derived.Test.YtbcnokidnpnmhaaOwn
import Derived.Test.YtbcnokidnpnmhaaPk
import Derived.Deep.LoopGhost
import Derived.Deep.DeepCutAuto
import Derived.Deep.CutBlock
namespace Go.Proofs.Ytbcnokidnpnmhaa
open Go.RowKit

theorem b5 : Byte5 Try.prog := ⟨Try.underlying22, Try.underlying5, Try.underlying9, by kernel_rfl⟩

theorem put_any (B : Nat) (v : Value) (l : List UInt8) (n : Nat) (hn : n < 18446744073709551616) (w : World) (ho : OwnB w B v l) (hB : B ≤ w.heap.size) (hl : l.length < 140737488355000) :
    Calls Try.prog 11 #[v, .int .u64 n] w fun e w' => ∃ v', e = .returned v' ∧ OwnB w' B v' (l ++ putB n) ∧ Wrote w v w' v' := by
  have HN := Lib.hid hn
  clear hn
  go_enter Try.func11, Try.ntmps11
  go_upto_block 0 with (fail)
  go_cut [5] (fun v5 wc => wc = w ∧ ∃ k : Nat, v5 = .int .i64 k ∧ Hid ((nb n).length = k ∧ n / 256 ^ k = 0 ∧ ∀ j, j < k → ¬ n / 256 ^ j = 0))
  case first =>
    go_wp2_with fail
    go_loop [5] (fun v5 => ∃ k : Nat, k ≤ 8 ∧ v5 = .int .i64 k ∧ Hid (∀ j, j < k → ¬ n / 256 ^ j = 0)) (fun v5 => 8 - (intOf v5).toNat)
    case atStart => exact ⟨0, by omega, rfl, fun j hj => by omega⟩
    case round =>
      obtain ⟨k, hk, rfl, HK⟩ := hrel
      go_wp2_with fail
      · go_round
        case rel =>
          have h1 : (k : Int) < 8 := by assumption
          have h2 : ((n : Int) / 2 ^ (8 * k) != 0) = true := by assumption
          refine ⟨k + 1, by omega, by go_num, fun j hj => ?_⟩
          by_cases e : j = k
          · subst e; exact shr_pos h2
          · exact HK.out j (by omega)
        case measure => have h1 : (k : Int) < 8 := by assumption
                        simp [intOf]; omega
      · have h2 : ((n : Int) / 2 ^ (8 * k) != 0) = false := by assumption
        go_meet
        exact ⟨rfl, k, rfl, nb_len k n (shr_zero h2) HK.out, shr_zero h2, HK.out⟩
      · have h1 : 8 ≤ (k : Int) := by assumption
        go_meet
        have : k = 8 := by omega
        subst this
        have h3 : n / 256 ^ 8 = 0 := by have := HN.out; omega
        exact ⟨rfl, 8, rfl, nb_len 8 n h3 HK.out, h3, HK.out⟩
  case rest =>
    obtain ⟨rfl, k, rfl, HK⟩ := hcut
    have hk8 : k ≤ 8 := by rw [← HK.out.1]; exact nb_len_le n HN.out
    go_wp2_with (at_builtin; refine wpList_app1 b5 rfl (.tmp 18) (.tmp 21) rfl (v := v) rfl (ho.alloc _) ⟨wc.heap.size, 0, none⟩ (UInt8.ofNat k) k rfl ?_ ?_ ?_ ?_ ?_; (simp); (rw [byte_toNat]; omega); (omega); (simp; omega); intro v1 w1 ho1 hw1)
    go_loopw [0, 6] (fun v0 v6 wr => ∃ m : Nat, m ≤ k ∧ v6 = .int .i64 ((m : Int) - 1) ∧ Hid (OwnB wr B v0 (l ++ [UInt8.ofNat k] ++ nb (n / 256 ^ m)) ∧ Wrote wc v wr v0)) (fun _ v6 _ => (intOf v6 + 1).toNat)
    case atStart => exact ⟨k, by omega, rfl, by rw [HK.out.2.1, nb_zero, List.append_nil]; exact ho1, hw1.then_alloc⟩
    case round =>
      obtain ⟨m, hm, rfl, HOW⟩ := hrel
      have hO := HOW.out.1
      have hlen : (l ++ [UInt8.ofNat k] ++ nb (n / 256 ^ m)).length ≤ l.length + 9 := by
        have := nb_len_le (n / 256 ^ m) (Nat.lt_of_le_of_lt (Nat.div_le_self _ _) HN.out)
        simp; omega
      have hsz : B ≤ wr.heap.size := Nat.le_trans hB HOW.out.2.grown.size
      rcases Nat.eq_zero_or_pos m with h0 | h0
      · subst h0
        go_wp2_with fail
        go_ret
        refine ⟨_, rfl, ?_, HOW.out.2⟩
        have := HOW.out.1
        rw [List.append_assoc] at this
        simpa [putB, HK.out.1] using this
      · obtain ⟨i, rfl⟩ : ∃ i, m = i + 1 := ⟨m - 1, by omega⟩
        have hi : ((i + 1 : Nat) : Int) - 1 = i := by omega
        rw [hi]
        have hlt : ¬ n / 256 ^ i = 0 := HK.out.2.2 i (by omega)
        have HS := Lib.hid (nb_step n i hlt)
        clear hlt hi h0
        go_wp2_with (at_builtin; refine wpList_app1 b5 rfl (.tmp 29) (.tmp 35) rfl (v := u0) rfl (hO.alloc _) ⟨wr.heap.size, 0, none⟩ (UInt8.ofNat (n / 256 ^ i)) _ rfl (by simp; rfl) ?_ ?_ ?_ ?_; (rw [div_256, byte_toNat]); (omega); (simp; omega); intro v2 w2 ho2 hw2)
        go_roundw
        case rel =>
          refine ⟨i, by omega, by go_num, ?_, HOW.out.2.trans hw2.then_alloc⟩
          rw [List.append_assoc, HS.out] at ho2
          exact ho2
        case measure => simp [intOf]
end Go.Proofs.Ytbcnokidnpnmhaa
