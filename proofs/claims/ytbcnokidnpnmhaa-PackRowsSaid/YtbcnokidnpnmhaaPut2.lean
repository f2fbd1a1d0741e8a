import Derived.Test.YtbcnokidnpnmhaaPut
import Derived.Test.YtbcnokidnpnmhaaVal
import Derived.Deep.RegionWith
namespace Go.Proofs.Ytbcnokidnpnmhaa
open Go.RowKit

theorem putB_len (n : Nat) (h : n < 18446744073709551616) : (putB n).length ≤ 9 := by
  unfold putB; have := nb_len_le n h; simp; omega

theorem put_at (B : Nat) (v : Value) (l : List UInt8) (n : Nat) (x : Int) (hx : x = (n : Int)) (hn : n < 18446744073709551616) (w : World) (ho : OwnB w B v l) (hB : B ≤ w.heap.size) (hl : l.length < 140737488355000) :
    Calls Try.prog 11 #[v, .int .u64 x] w fun e w' => ∃ v', e = .returned v' ∧ OwnB w' B v' (l ++ putB n) ∧ Wrote w v w' v' := by
  subst hx; exact put_any B v l n hn w ho hB hl

theorem putText_any (B : Nat) (v : Value) (l : List UInt8) (s : ByteArray) (w : World) (ho : OwnB w B v l) (hB : B ≤ w.heap.size) (hl : l.length + s.size < 140737488350000) :
    Calls Try.prog 12 #[v, .string s] w fun e w' => ∃ v', e = .returned v' ∧ OwnB w' B v' (l ++ putTextB s.data.toList) ∧ Wrote w v w' v' := by
  have HP := Lib.hid (putB_len s.size (by omega))
  have HE := Lib.hid (show putTextB s.data.toList = putB s.size ++ s.data.toList from rfl)
  go_enter Try.func12, Try.ntmps12
  go_wp2_with fail
  refine (put_any B v l s.size (by omega) w ho hB (by omega)).mono ?_
  rintro e w1 ⟨v1, rfl, ho1, hw1⟩
  have hB1 : B ≤ w1.heap.size := Nat.le_trans hB hw1.grown.size
  go_wp2_with (at_builtin; refine wpList_appS b5 rfl (.tmp 9) (.tmp 10) rfl (v := v1) rfl ho1 s rfl ?_ hB1 ?_; (have := HP.out; simp; omega); intro v2 w2 ho2 hw2)
  go_ret
  refine ⟨v2, rfl, ?_, hw1.trans hw2⟩
  rw [HE.out, ← List.append_assoc]
  exact ho2

end Go.Proofs.Ytbcnokidnpnmhaa
