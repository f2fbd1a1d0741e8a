import Derived.Test.YtbcnokidnpnmhaaPutv
namespace Go.Proofs.Ytbcnokidnpnmhaa
open Go.RowKit

/-- A pack.reader in block pb: over the bytes l (the slice v), at a place. -/
structure RdAt (w : World) (pb : Nat) (v : Value) (l : List UInt8) (pos : Nat) : Prop where
  c0 : w.cell? ⟨pb, 0, none⟩ = some v
  c1 : w.cell? ⟨pb, 1, none⟩ = some (.int .i64 pos)
  fz : w.frozen? ⟨pb, 1, none⟩ = false
  rd : ReadsB w v l
  ne : v.ownBlock ≠ some pb
  le : pos ≤ l.length

def LACK : Ending := .panicked [{ v := .iface 75 (.agg #[]), recovered := false }]

theorem take_lack (pb : Nat) (v : Value) (l : List UInt8) (pos n : Nat) (w : World) (h : RdAt w pb v l pos) (hn : l.length - pos < n) (hn2 : n < 18446744073709551616) :
    Calls Try.prog 45 #[.pointer (some ⟨pb, 0, none⟩), .int .u64 n] w fun e w' => e = LACK ∧ ∃ k, w' = w.drewN k := by
  obtain ⟨h0, h1, hf, hr, hne, hle⟩ := h
  have HLE := Lib.hid hle
  obtain ⟨A, c, rfl, hlc⟩ : ∃ A c, v = .slice A l.length c ∧ l.length ≤ 9223372036854775807 := by
    rcases hr with ⟨rfl, rfl⟩ | ⟨ad, c, rfl, h2, h3, _⟩
    · exact ⟨none, 0, rfl, by simp⟩
    · exact ⟨_, _, rfl, by unfold maxLen at h3; omega⟩
  clear hr
  have e1 : IntKind.i64.wrap ((l.length : Int) - (pos : Int)) = ((l.length - pos : Nat) : Int) := by rw [IntKind.wrap_i64]; omega
  have e2 : IntKind.u64.wrap ((l.length - pos : Nat) : Int) = ((l.length - pos : Nat) : Int) := by rw [IntKind.wrap_u64]; omega
  go_enter Try.func45, Try.ntmps45
  go_wp2_with fail
  go_quiet (fail)
  go_wp2
  exact ⟨rfl, rfl, ⟨_, rfl⟩⟩

theorem drew_set_drew (w : World) (a b : Nat) (p : Addr) (u : Value) : ((w.drewN a).setCell p u).drewN b = (w.setCell p u).drewN (a + b) := by
  rw [← World.drewN_drewN]; rfl

theorem sliced_reads {w : World} {v : Value} {l : List UInt8} (A : Option Addr) (c : Nat) (hv : v = .slice A l.length c) (hr : ReadsB w v l) (pos n : Nat) (h : pos + n ≤ l.length) :
    ReadsB w (sliced A pos (pos + n) (pos + n) 1) ((l.drop pos).take n) ∧ ((sliced A pos (pos + n) (pos + n) 1).ownBlock = v.ownBlock) := by
  subst hv
  have hlen : ((l.drop pos).take n).length = n := by simp; omega
  rcases hr with ⟨h1, rfl⟩ | ⟨ad, c', h1, h2, h3, h4, h5⟩
  · injection h1 with hA _ hc
    subst hA
    simp at h
    obtain ⟨rfl, rfl⟩ := h
    refine ⟨.inl ⟨by simp [sliced], by simp⟩, by simp [sliced, Value.ownBlock]⟩
  · injection h1 with hA _ hc
    subst hA
    obtain ⟨b, o, sp⟩ := ad
    simp at h4
    subst h4
    refine ⟨.inr ?_, ?_⟩
    · by_cases h0 : n = 0
      · subst h0
        exact ⟨⟨b, o, none⟩, 0, by simp [sliced], by simp, by simp [maxLen], rfl, fun j hj => by simp at hj⟩
      · have hne : ¬ pos + n = pos := by omega
        refine ⟨⟨b, o + pos, none⟩, n, ?_, by omega, by unfold maxLen at *; omega, rfl, fun j hj => ?_⟩
        · rw [hlen]
          simp only [sliced, if_neg hne, Option.map, Nat.mul_one]
          rw [addr_add rfl]
          simp
        · rw [hlen] at hj
          rw [Nat.add_assoc, h5 (pos + j) (by omega)]
          simp [List.getD_eq_getElem?_getD, List.getElem?_drop, hj]
    · unfold sliced
      split
      · rfl
      · simp [Value.ownBlock, Option.map]
        rw [addr_add rfl]

theorem take_ok (pb : Nat) (v : Value) (l : List UInt8) (pos n : Nat) (w : World) (h : RdAt w pb v l pos) (hn : n ≤ l.length - pos) :
    Calls Try.prog 45 #[.pointer (some ⟨pb, 0, none⟩), .int .u64 n] w fun e w' => ∃ v', e = .returned v' ∧ (∃ k, w' = (w.setCell ⟨pb, 1, none⟩ (.int .i64 ((pos : Int) + n))).drewN k) ∧ ReadsB w v' ((l.drop pos).take n) ∧ v'.ownBlock = v.ownBlock := by
  obtain ⟨h0, h1, hf, hr, hne, hle⟩ := h
  have HLE := Lib.hid hle
  obtain ⟨A, c, hv, hlc, hcc⟩ : ∃ A c, v = .slice A l.length c ∧ l.length ≤ 9223372036854775807 ∧ l.length ≤ c := by
    rcases hr with ⟨rfl, rfl⟩ | ⟨ad, c, rfl, h2, h3, _⟩
    · exact ⟨none, 0, rfl, by simp, by simp⟩
    · exact ⟨_, _, rfl, by unfold maxLen at h3; omega, h2⟩
  have HS := Lib.hid (sliced_reads A c hv hr pos n (by omega))
  subst hv
  clear hr
  have hpn : pos + n ≤ l.length := by omega
  go_enter Try.func45, Try.ntmps45
  go_wp2_with fail
  go_quiet (fail)
  go_wp2
  go_quiet (fail)
  go_wp2
  · have h0n : n = 0 := by omega
    subst h0n
    go_ret
    refine ⟨_, rfl, ⟨_, drew_set_drew w _ _ _ _⟩, ?_, ?_⟩
    · simpa [sliced] using HS.out.1
    · simpa [sliced] using HS.out.2
  · have hne2 : ¬ pos + n = pos := by omega
    go_ret
    refine ⟨_, rfl, ⟨_, drew_set_drew w _ _ _ _⟩, ?_, ?_⟩
    · have := HS.out.1
      simp only [sliced, if_neg hne2, Nat.mul_one] at this
      simpa using this
    · have := HS.out.2
      simp only [sliced, if_neg hne2, Nat.mul_one] at this
      simpa using this

/-- The reader behind a take. -/
theorem RdAt.took {w : World} {pb : Nat} {v : Value} {l : List UInt8} {pos n k : Nat} (h : RdAt w pb v l pos) (hn : n ≤ l.length - pos) : RdAt ((w.setCell ⟨pb, 1, none⟩ (.int .i64 ((pos : Int) + n))).drewN k) pb v l (pos + n) := by
  obtain ⟨h0, h1, hf, hr, hne, hle⟩ := h
  refine ⟨?_, ?_, ?_, ?_, hne, by omega⟩
  · rw [World.cell?_drewN]; exact (World.cell?_setCell_other w _ _ _ (by simp)).trans h0
  · rw [World.cell?_drewN]; rw [World.cell?_setCell_same w _ _ h1]; simp
  · rw [World.frozen?_drewN]; simpa using hf
  · refine hr.kept fun b o u hx hb => ?_
    rw [World.cell?_drewN]
    exact (World.cell?_setCell_other w _ _ _ (by intro e; injection e with e1; subst e1; exact hne hb)).trans hx

theorem or_byte (a : Nat) (c : UInt8) (h : a < 72057594037927936) : bits .or .u64 (IntKind.u64.wrap ((a : Int) * 256)) (IntKind.u64.wrap (c.toNat : Int)) = ((a * 256 + c.toNat : Nat) : Int) := by
  have hc := c.toNat_lt
  rw [IntKind.wrap_u64, IntKind.wrap_u64, show ((a : Int) * 256) % 18446744073709551616 = ((a * 256 : Nat) : Int) by omega, show ((c.toNat : Int)) % 18446744073709551616 = ((c.toNat : Nat) : Int) by omega, u64_or_nat _ _ (by omega) (by omega), nat_join 8 _ _ (by omega) (by omega)]
theorem take_snocU (m : List UInt8) (i : Nat) (h : i < m.length) : m.take (i + 1) = m.take i ++ [m[i]] := by
  rw [List.take_succ_eq_append_getElem h]

theorem high_lack (pb : Nat) (v : Value) (l : List UInt8) (pos n : Nat) (w : World) (h : RdAt w pb v l pos) (hn : l.length - pos < n) (hn2 : n < 9223372036854775808) :
    Calls Try.prog 46 #[.pointer (some ⟨pb, 0, none⟩), .int .i64 n] w fun e w' => e = LACK ∧ ∃ k, w' = w.drewN k := by
  go_enter Try.func46, Try.ntmps46
  go_wp2_with fail
  refine (take_lack pb v l pos n w h hn (by omega)).mono ?_
  rintro e w1 ⟨rfl, hk⟩
  exact ⟨rfl, rfl, hk⟩

theorem high_ok (pb : Nat) (v : Value) (l : List UInt8) (pos n : Nat) (w : World) (h : RdAt w pb v l pos) (hn : n ≤ l.length - pos) (hn8 : n ≤ 8) :
    Calls Try.prog 46 #[.pointer (some ⟨pb, 0, none⟩), .int .i64 n] w fun e w' => e = .returned (.int .u64 (valB ((l.drop pos).take n))) ∧ ∃ k, w' = (w.setCell ⟨pb, 1, none⟩ (.int .i64 ((pos : Int) + n))).drewN k := by
  have hlen : ((l.drop pos).take n).length = n := by simp; omega
  go_enter Try.func46, Try.ntmps46
  go_wp2_with fail
  refine (take_ok pb v l pos n w h hn).mono ?_
  rintro e w1 ⟨v1, rfl, hk, hr, ho⟩
  have hr1 : ReadsB w1 v1 ((l.drop pos).take n) := by
    obtain ⟨k, rfl⟩ := hk
    refine hr.kept fun b o u hx hb => ?_
    rw [World.cell?_drewN]
    exact (World.cell?_setCell_other w _ _ _ (by intro e; injection e with e1; subst e1; exact h.ne (ho ▸ hb))).trans hx
  have HK := Lib.hid hk
  clear hk hr ho h hn
  obtain ⟨m, hm⟩ : ∃ m, m = (l.drop pos).take n := ⟨_, rfl⟩
  rw [← hm] at hr1 hlen
  have HM := Lib.hid hm
  clear hm
  obtain ⟨A, c, hv, hcell⟩ : ∃ A c, v1 = .slice A m.length c ∧ ∀ j, j < m.length → ∃ ad, A = some ad ∧ w1.cell? (ad.add j) = some (.int .u8 (m.getD j 0).toNat) := by
    rcases hr1 with ⟨rfl, rfl⟩ | ⟨ad, c, rfl, h2, h3, h4, h5⟩
    · exact ⟨none, 0, rfl, fun j hj => by simp at hj⟩
    · exact ⟨some ad, c, rfl, fun j hj => ⟨ad, rfl, by rw [addr_add h4]; exact h5 j hj⟩⟩
  subst hv
  clear hr1
  go_wp2_with fail
  go_loop [4, 6, 12] (fun v4 _ v12 => ∃ i : Nat, i ≤ m.length ∧ v12 = .int .i64 i ∧ v4 = .int .u64 (valB (m.take i))) (fun _ _ v12 => m.length - (intOf v12).toNat)
  case atStart => exact ⟨0, by omega, rfl, by simp [valB]⟩
  case round =>
    obtain ⟨i, hi, rfl, rfl⟩ := hrel
    by_cases hlt : i < m.length
    · obtain ⟨ad, rfl, hc⟩ := hcell i hlt
      go_wp2_with fail
      go_round
      case rel =>
        refine ⟨i + 1, by omega, by go_num, ?_⟩
        have h1 : (m.take i).length = i := by simp; omega
        have h2 := valB_lt (m.take i)
        rw [h1] at h2
        have h3 : 256 ^ i ≤ 256 ^ 7 := Nat.pow_le_pow_right (by omega) (by omega)
        rw [or_byte _ _ (by have : (256 : Nat) ^ 7 = 72057594037927936 := by decide
                            omega), take_snocU m i hlt, valB_snoc]
      case measure => simp [intOf]; omega
    · have hi2 : i = m.length := by omega
      subst hi2
      go_wp2_with fail
      go_ret
      exact ⟨ret_int (by rw [← HM.out, List.take_of_length_le (by omega)]), HK.out⟩

end Go.Proofs.Ytbcnokidnpnmhaa
