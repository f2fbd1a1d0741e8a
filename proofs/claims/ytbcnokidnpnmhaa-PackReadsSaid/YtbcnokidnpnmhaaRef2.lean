import Derived.Test.YtbcnokidnpnmhaaRef
import Derived.Test.YtbcnokidnpnmhaaPl2
namespace Go.Proofs.Ytbcnokidnpnmhaa
open Go.RowKit
attribute [local go_sem ↓] Go.wp_at_zero Go.wp_at_succ

/-- ref03.Put -/
theorem refPut_any (n : Nat) (hn : n < 18446744073709551616) (w : World) :
    Calls Try.prog 16 #[.int .u64 n] w fun e w' => e = .returned (.string ⟨(putB n).toArray⟩) ∧ Below w.heap.size w w' := by
  have hl8 := nb_len_le n hn
  have hw8 : IntKind.u8.wrap ((nb n).length : Int) = ((nb n).length : Int) := by rw [IntKind.wrap_u8']; omega
  have hconv := run_conv1 ((nb n).length : Int) (by omega) (by omega)
  have hadd := str_add [UInt8.ofNat (nb n).length] (nb n) (putB n) rfl (by unfold putB; simp; omega)
  have HN := Lib.hid hn
  clear hn
  go_enter Try.func16, Try.ntmps16
  go_wp2_with fail
  refine (refBytes_any n HN.out w).mono ?_
  rintro e w1 ⟨rfl, hb⟩
  go_wp2_with fail
  go_ret
  exact ⟨rfl, below_alloc hb _⟩

/-- ref03.PutText -/
theorem refPutText_any (s : ByteArray) (hs : s.size < 9000000000000000000) (w : World) :
    Calls Try.prog 17 #[.string s] w fun e w' => e = .returned (.string ⟨(putTextB s.data.toList).toArray⟩) ∧ Below w.heap.size w w' := by
  have hadd : (Op.stringOp .add ⟨(putB s.size).toArray⟩ s : Sem Value) = pure (.string ⟨(putTextB s.data.toList).toArray⟩) :=
    str_add (putB s.size) s.data.toList _ rfl (by
      have h2 : s.data.toList.length = s.size := rfl
      have h1 := putB_len s.data.toList.length (by omega)
      unfold putTextB; rw [List.length_append]; omega)
  have HS := Lib.hid hs
  have hw : IntKind.u64.wrap (s.size : Int) = (s.size : Int) := by rw [IntKind.wrap_u64]; omega
  clear hs
  go_enter Try.func17, Try.ntmps17
  go_wp2_with fail
  refine (refPut_any s.size (by have := HS.out; omega) w).mono ?_
  rintro e w1 ⟨rfl, hb⟩
  go_wp2_with fail
  go_ret
  exact ⟨rfl, hb⟩
/-- ref03.number -/
theorem refNumber_any (l : List UInt8) (hl : l.length ≤ 8) (w : World) :
    Calls Try.prog 35 #[.string ⟨l.toArray⟩] w fun e w' => e = .returned (.int .u64 (valB l : Nat)) ∧ w' = w := by
  go_enter Try.func35, Try.ntmps35
  go_wp2_with fail
  go_loop [3, 4] (fun v3 v4 => ∃ i : Nat, i ≤ l.length ∧ v4 = .int .i64 i ∧ v3 = .int .u64 (valB (l.take i) : Nat)) (fun _ v4 => l.length - (intOf v4).toNat)
  case atStart => exact ⟨0, by omega, rfl, rfl⟩
  case round =>
    obtain ⟨i, hi, rfl, rfl⟩ := hrel
    by_cases h : i < l.length
    · have h0 : (0 : Int) ≤ (i : Int) := by omega
      have h1 : (i : Int) < (l.length : Int) := by omega
      go_wp2_with fail
      go_round
      case rel =>
        have e1 : valB (l.take (i + 1)) = valB (l.take i) * 256 + (l[i]).toNat := by rw [take_snocU l i h, valB_snoc]
        have hlt := valB_lt8 (l.take (i + 1)) (by simp; omega)
        have hb := (l[i]).toNat_lt
        have e3 : IntKind.u64.wrap (IntKind.u64.wrap ((valB (l.take i) : Int) * 256) + IntKind.u64.wrap ((l[i]).toNat : Int)) = ((valB (l.take (i + 1)) : Nat) : Int) := by
          rw [IntKind.wrap_u64, IntKind.wrap_u64, IntKind.wrap_u64]
          omega
        exact ⟨i + 1, by omega, by go_num, congrArg (Value.int .u64) e3⟩
      case measure => simp [intOf]; omega
    · go_wp2_with fail
      obtain rfl : i = l.length := by omega
      go_ret
      exact ⟨by simp, rfl⟩

/-- What ref03.Get tells of bytes. -/
theorem refGet_any (l : List UInt8) (hl : l.length ≤ 300) (w : World) :
    Calls Try.prog 21 #[.string ⟨l.toArray⟩] w fun e w' => e = .returned (getV l) ∧ Below w.heap.size w w' := by
  cases l with
  | nil =>
    go_enter Try.func21, Try.ntmps21
    go_wp2_with fail
    go_ret3
    exact ⟨by simp [getV, getB], Below.refl _ _⟩
  | cons c r =>
    obtain ⟨k, hk⟩ : ∃ k, c.toNat = k := ⟨_, rfl⟩
    have he : ((⟨(c :: r).toArray⟩ : ByteArray)[0]'(by show 0 < (c :: r).toArray.size; simp)).toNat = k := hk
    by_cases h8 : 8 < k
    · have h8' : (8 : Int) < (k : Int) := by omega
      have hg : getB (c :: r) = none := by rw [getB, hk, if_pos h8]
      go_enter Try.func21, Try.ntmps21
      go_wp2_with fail
      go_ret3
      exact ⟨by simp [getV, hg], Below.refl _ _⟩
    have h8' : (k : Int) ≤ 8 := by omega
    have h80 : decide ((8 : Int) < (k : Int)) = false := by simp; omega
    by_cases hr : r.length < k
    · have hr' : (r.length : Int) + 1 < 1 + (k : Int) := by omega
      have hr0 : decide ((r.length : Int) + 1 < 1 + (k : Int)) = true := by simp; omega
      have hg : getB (c :: r) = none := by rw [getB, hk, if_neg h8, if_pos hr]
      go_enter Try.func21, Try.ntmps21
      go_wp2_with fail
      go_ret3
      exact ⟨by simp [getV, hg], Below.refl _ _⟩
    have hr' : 1 + (k : Int) ≤ (r.length : Int) + 1 := by omega
    have hr0 : decide ((r.length : Int) + 1 < 1 + (k : Int)) = false := by simp; omega
    have hex1 : (⟨(c :: r).toArray⟩ : ByteArray).extract 1 (1 + k) = ⟨(r.take k).toArray⟩ := by
      apply ByteArray.ext
      simp [ByteArray.data_extract]
    obtain ⟨L, hL⟩ : ∃ L, (c :: r).take (1 + k) = L := ⟨_, rfl⟩
    have hex0 : (⟨(c :: r).toArray⟩ : ByteArray).extract 0 (1 + k) = ⟨L.toArray⟩ := by
      apply ByteArray.ext
      simp [ByteArray.data_extract, ← hL]
    obtain ⟨n, hn⟩ : ∃ n, valB (r.take k) = n := ⟨_, rfl⟩
    have hn64 : n < 18446744073709551616 := by rw [← hn]; exact valB_lt8 _ (by simp; omega)
    have HN := Lib.hid hn64
    have HNV := Lib.hid hn
    have HLT := Lib.hid (show (r.take k).length ≤ 8 by simp; omega)
    have hv : getV (c :: r) = if putB n = L then .tuple #[.int .u64 n, .int .i64 ((1 + k : Nat) : Int), .bool true] else .tuple #[.int .u64 0, .int .i64 0, .bool false] := by
      by_cases hq : putB n = L
      · rw [if_pos hq]
        have h1 := getB_putB n hn64 ((c :: r).drop (1 + k))
        rw [hq, ← hL, List.take_append_drop] at h1
        have h2 : ((c :: r).take (1 + k)).length = 1 + k := by simp; omega
        rw [h2] at h1
        simp [getV, h1]
      · rw [if_neg hq]
        cases hg : getB (c :: r) with
        | none => simp [getV, hg]
        | some p =>
          obtain ⟨n', k'⟩ := p
          have h1 := getB_one hg
          exfalso
          apply hq
          rw [getB, hk, if_neg h8, if_neg hr] at hg
          split at hg
          · cases hg
          · injection hg with hg
            injection hg with e1 e2
            rw [hn] at e1
            subst e1; subst e2
            rw [← hL]; exact h1.1.symm
    have HV := Lib.hid hv
    clear hn hn64 hL hv
    by_cases hq : putB n = L
    · have hqb : (putB n == L) = true := by simpa using hq
      have hqn : (putB n != L) = false := by simpa using hq
      have HVV := Lib.hid (HV.out.trans (if_pos hq))
      clear hq HV
      go_enter Try.func21, Try.ntmps21
      go_wp2_with fail
      refine (refNumber_any (r.take k) HLT.out w).mono ?_
      rintro e w1 ⟨rfl, rfl⟩
      rw [HNV.out]
      go_wp2_with fail
      go_region_held (fun _ => True) (go_keep) (first | ((go_at_call 16; refine (refPut_any n HN.out _).mono ?_; rintro e w2 ⟨rfl, hb⟩)))
      all_goals go_wp2
      all_goals go_ret3
      all_goals exact ⟨by rw [HVV.out]; simp, (Below.refl _ w1).drew.trans hb⟩
    · have hqb : (putB n == L) = false := by simpa using hq
      have hqn : (putB n != L) = true := by simpa using hq
      have HVV := Lib.hid (HV.out.trans (if_neg hq))
      clear hq HV
      go_enter Try.func21, Try.ntmps21
      go_wp2_with fail
      refine (refNumber_any (r.take k) HLT.out w).mono ?_
      rintro e w1 ⟨rfl, rfl⟩
      rw [HNV.out]
      go_wp2_with fail
      go_region_held (fun _ => True) (go_keep) (first | ((go_at_call 16; refine (refPut_any n HN.out _).mono ?_; rintro e w2 ⟨rfl, hb⟩)))
      all_goals go_wp2
      all_goals go_ret3
      all_goals exact ⟨by rw [HVV.out]; simp, (Below.refl _ w1).drew.trans hb⟩

/-- ref03.Text -/
theorem refText_any (l : List UInt8) (hl : l.length ≤ 300) (w : World) :
    Calls Try.prog 23 #[.string ⟨l.toArray⟩] w fun e w' => e = .returned (getT l) ∧ Below w.heap.size w w' := by
  cases hg : getB l with
  | none =>
    have hv : getV l = .tuple #[.int .u64 0, .int .i64 0, .bool false] := by simp [getV, hg]
    have ht : getT l = .tuple #[.string ⟨#[]⟩, .int .i64 0, .bool false] := by simp [getT, textB, hg]
    clear hg
    go_enter Try.func23, Try.ntmps23
    go_wp2_with fail
    refine (refGet_any l hl w).mono ?_
    rintro e w1 ⟨rfl, hb⟩
    rw [hv]
    go_wp2_with fail
    go_ret3
    exact ⟨by rw [ht]; simp, hb⟩
  | some p =>
    obtain ⟨n, k⟩ := p
    obtain ⟨hn, hk, hk1⟩ := getB_some hg
    have hv : getV l = .tuple #[.int .u64 n, .int .i64 k, .bool true] := by simp [getV, hg]
    have hw : IntKind.u64.wrap ((l.length : Int) - (k : Int)) = ((l.length - k : Nat) : Int) := by rw [IntKind.wrap_u64]; omega
    go_enter Try.func23, Try.ntmps23
    go_wp2_with fail
    refine (refGet_any l hl w).mono ?_
    rintro e w1 ⟨rfl, hb⟩
    rw [hv]
    go_wp2_with fail
    · go_ret3
      rename_i h
      exact ⟨by simp [getT, textB, hg, h], hb⟩
    · go_ret3
      rename_i h
      have hex : (⟨l.toArray⟩ : ByteArray).extract k (k + n) = ⟨((l.drop k).take n).toArray⟩ := by
        apply ByteArray.ext
        simp [ByteArray.data_extract]
      exact ⟨by simp [getT, textB, hg, h, hex], hb⟩
end Go.Proofs.Ytbcnokidnpnmhaa
