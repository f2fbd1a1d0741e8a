import Derived.Test.YtnbpioinhjijcaaDoorFmt
import Derived.Test.YtnbpioinhjijcaaDoorLdx
import Derived.Lib.Strings
import Derived.Lib.ConvBytes
import Derived.Lib.ParseIntBMem
import Derived.Laws.Strings3
import Derived.Laws.Closers25
import Derived.Laws.Closers25b
/-! ParseUint at 53 bits; Ldexp. -/
namespace Go.Proofs.YtnbpioinhjijcaaDoor
open Go.RowKit

set_option maxRecDepth 100000 in
theorem Ldexp_any (n : Nat) (k : Int) (h : n < 9007199254740992) (k0 : -2000 ≤ k) (k1 : k ≤ 2000) (w : World) :
    Calls Tryd.prog 42 #[.float .f64 (wi n), .int .i64 k] w fun e w' => w = w' ∧ ∃ y, LdexpIs n k y ∧ (n = 0 → y = 0) ∧ e = .returned (.float .f64 y) := by
  by_cases h0 : n = 0
  · subst h0
    have hw : wi 0 = 0 := by unfold wi; rw [nearest_zero, word_eq, if_neg (by decide)]
    rw [hw]
    have ho : (FloatKind.f64.format.order 0 0 == some .eq) = true := by
      rw [ord_eq (by omega) (by omega) (nan_pos (by omega)) (nan_pos (by omega))]; simp
    have HY := Lib.hid (show LdexpIs 0 k 0 from ⟨by omega, fun q a q0 q1 hk hv => by rw [Nat.zero_mul, ← rv_zero] at hv; exact (rv_inj hv).symm⟩)
    clear h k0 k1
    go_enter Tryd.func42, Tryd.ntmps42
    go_wp2
    go_ret
    exact ⟨rfl, 0, HY.out, fun _ => rfl, rfl⟩
  · have HW := Lib.hid (ldexp_walk n k (by omega) h k0 k1 w)
    have H0 := Lib.hid h0
    clear h k0 k1 h0
    generalize wi n = r at *
    go_enter Tryd.func42, Tryd.ntmps42
    go_wp2_with fail
    refine HW.out.mono ?_
    rintro e w1 ⟨rfl, y, hy, rfl⟩
    have HY := Lib.hid hy
    clear hy
    go_wp2_with fail
    go_ret
    exact ⟨rfl, y, HY.out, fun e => absurd e H0.out, rfl⟩

set_option maxHeartbeats 32000000 in
set_option maxRecDepth 100000 in
theorem parseUint53_in (t : ByteArray) (hne : t.size ≠ 0) (hmax : t.size ≤ 9223372036854775806) (w : World) :
    Calls Tryd.prog 59 #[.string t, .int .i64 10, .int .i64 53] w fun e w' => e = .returned (Lib.uintTupleM 77 9007199254740991 (Lib.parseUintM 9007199254740991 0 t.data.toList)) ∧ w' = Lib.bytesWorld w 5 t := by
  have hemp : t.toList.isEmpty = false := by
    rw [← decide_eq_emptyBytes]
    exact decide_eq_false (fun h => hne (by rw [h]; rfl))
  have hcv := Lib.run_convert_string_bytes (P := Tryd.prog) w 9 73 5 t (u := .string) Tryd.underlying9 Tryd.underlying73 Tryd.underlying5
  have hB : ∀ j, j < t.size → (Lib.bytesWorld w 5 t).cell? ⟨w.heap.size, j, none⟩ = some (.int .u8 (t.data.toList.getD j 0).toNat) := fun j hj => Lib.bytesWorld_cell w 5 t j hj
  obtain ⟨W1, hW1⟩ : ∃ W1, W1 = Lib.bytesWorld w 5 t := ⟨_, rfl⟩
  rw [← hW1] at hcv hB ⊢
  clear hW1
  obtain ⟨bs, hL⟩ : ∃ bs, bs = t.data.toList := ⟨_, rfl⟩
  have hLn : bs.length = t.size := by rw [hL, Lib.size_eq]
  rw [← hL] at hB ⊢
  clear hL
  -- 'maxVal := uint64(1)<<uint(bitSize) - 1': its value, for the walk to take
  have hmv : IntKind.u64.wrap (IntKind.u64.wrap 9007199254740992 - 1) = 9007199254740991 := by
    rw [IntKind.wrap_u64, IntKind.wrap_u64]
    decide
  go_enter Tryd.func59, Tryd.ntmps59
  go_wp2
  go_loop [12, 13, 101] (fun vu vn vi => ∃ (k acc : Nat) (a : Int), vu = .bool false ∧ vn = .int .u64 a ∧ vi = .int .i64 k ∧ k ≤ t.size ∧ Hid (a = (acc : Int) ∧ acc ≤ 9007199254740991 ∧ Lib.parseUintM 9007199254740991 0 bs = Lib.parseUintM 9007199254740991 acc (bs.drop k)))
    (fun _ _ vi => t.size - (intOf vi).toNat)
  case atStart => exact ⟨0, 0, 0, rfl, rfl, rfl, by omega, rfl, by omega, rfl⟩
  case round =>
    obtain ⟨k, acc, a, rfl, rfl, rfl, hk, hh⟩ := hrel
    obtain ⟨ha, hacc, hdec⟩ := hh.out
    clear hh
    have a0 : 0 ≤ a := by omega
    have a1 : a ≤ 9007199254740991 := by omega
    by_cases hkn : k < t.size
    · have hc := hB k hkn
      have hdrop : bs.drop k = bs[k]'(by omega) :: bs.drop (k + 1) := List.drop_eq_getElem_cons (by omega)
      have hget : bs.getD k 0 = bs[k]'(by omega) := by simp [List.getD, List.getElem?_eq_getElem (show k < bs.length by omega)]
      rw [hdrop] at hdec
      rw [hget] at hc
      generalize bs[k]'(by omega) = c at hc hdec
      have hc256 : c.toNat < 256 := c.toNat_lt
      clear hB hdrop hget
      by_cases hdig : 48 ≤ c.toNat ∧ c.toNat ≤ 57
      · obtain ⟨hd0, hd1⟩ := hdig
        have hcut : ¬ 1844674407370955162 ≤ acc := by omega
        by_cases hov : 9007199254740991 < acc * 10 + (c.toNat - 48)
        · -- OVER THE SIZE
          have hF : Lib.parseUintM 9007199254740991 acc (c :: bs.drop (k + 1)) = .range := by simp [Lib.parseUintM, hd0, hd1, hcut, hov]
          rw [hF] at hdec
          have iov : 9007199254740991 < a * 10 + ((c.toNat : Int) - 48) := by omega
          clear hcut hacc hF hov ha
          go_wp2
          go_ret2
          exact ⟨rfl, rfl⟩
        · have hF : Lib.parseUintM 9007199254740991 acc (c :: bs.drop (k + 1)) = Lib.parseUintM 9007199254740991 (acc * 10 + (c.toNat - 48)) (bs.drop (k + 1)) := by simp [Lib.parseUintM, hd0, hd1, hcut, hov]
          have HN : Hid (a * 10 + ((c.toNat : Int) - 48) = ((acc * 10 + (c.toNat - 48) : Nat) : Int) ∧ acc * 10 + (c.toNat - 48) ≤ 9007199254740991 ∧ Lib.parseUintM 9007199254740991 0 bs = Lib.parseUintM 9007199254740991 (acc * 10 + (c.toNat - 48)) (bs.drop (k + 1))) := Lib.hid ⟨by omega, by omega, hdec.trans hF⟩
          have iov : a * 10 + ((c.toNat : Int) - 48) ≤ 9007199254740991 := by omega
          clear hcut hacc hF hov hdec ha
          go_wp2
          refine ⟨⟨k + 1, acc * 10 + (c.toNat - 48), a * 10 + ((c.toNat : Int) - 48), rfl, (by first | rfl | (congr 1; omega)), (by first | rfl | (congr 1; omega)), by omega, HN⟩, by simp [intOf]; omega⟩
      · -- NO DIGIT: whatever way the text goes: (0, ErrSyntax)
        have hF : Lib.parseUintM 9007199254740991 acc (c :: bs.drop (k + 1)) = Lib.parseMag [] := by simp [Lib.parseUintM, Lib.parseMag, hdig]
        rw [hF] at hdec
        clear hacc hF ha
        have hv0 := bits_lo_u8 .or (c.toNat : Int) 32
        have hv1 := bits_hi_u8 .or (c.toNat : Int) 32
        have hu0 := bits_lo_u8 .or 95 32       -- at '_' the walk writes the byte out
        have hu1 := bits_hi_u8 .or 95 32
        go_wp2_with (go_at_call 73; refine (Tryd.internal_strconv_lower _ _).mono ?_; rintro e w' ⟨rfl, rfl⟩)
        all_goals go_ret2
        all_goals first | exact ⟨rfl, rfl⟩ | exact ⟨by rw [hdec]; rfl, rfl⟩
    · -- THE BYTES ARE AT AN END
      have hkk : k = t.size := by omega
      subst hkk
      have hF : Lib.parseUintM 9007199254740991 acc (bs.drop t.size) = .ok acc := by rw [List.drop_eq_nil_of_le (by omega)]; rfl
      rw [hF] at hdec
      subst ha
      clear hacc hF a0 a1
      go_wp2
      go_ret2
      exact ⟨rfl, rfl⟩
end Go.Proofs.YtnbpioinhjijcaaDoor
