import Derived.Test.YtbcnokidnpnmhaaRef2
namespace Go.Proofs.Ytbcnokidnpnmhaa
open Go.RowKit
attribute [local go_sem ↓] Go.wp_at_zero Go.wp_at_succ

theorem boxed {w w1 : World} {k n : Int} {f : Nat} {s : ByteArray} (hb : Below (w.alloc (VOBJ k n f s)).heap.size (w.alloc (VOBJ k n f s)) w1) : ValAt w1 w.heap.size k n f s ∧ w.heap.size < w1.heap.size ∧ Below w.heap.size w w1 := by
  have h1 : ValAt w1 w.heap.size k n f s := ValAt.below (w := w.alloc (VOBJ k n f s)) (heap_alloc_new w _) hb
  exact ⟨h1, lt_of_block h1, below_then hb⟩

theorem refPV_null (w : World) : Calls Try.prog 18 #[VAL 0 0 0 ⟨#[]⟩] w fun e w' => e = .returned (.string ⟨[(0 : UInt8)].toArray⟩) ∧ Below w.heap.size w w' := by
  have hconv := conv_cell (w1 := (w.alloc (VOBJ 0 0 0 ⟨#[]⟩)).alloc (.cells #[.int .u8 0] 5)) (g := w.heap.size + 1) (x := 0) (by omega) (by omega) (by simp [go_sem])
  have hadd := str_add [UInt8.ofNat (0 : Int).toNat] [] [0] rfl (by simp)
  go_enter Try.func18, Try.ntmps18
  go_wp2_with fail
  go_ret
  exact ⟨rfl, below_alloc (below_alloc (Below.refl _ _) _) _⟩

theorem refPV_pos1 (x : Int) (n : Nat) (hx : x = (n : Int)) (hn : n < 9223372036854775808) (w : World) : Calls Try.prog 18 #[VAL 1 x 0 ⟨#[]⟩] w fun e w' => e = .returned (.string ⟨((1 : UInt8) :: putB n).toArray⟩) ∧ Below w.heap.size w w' := by
  have hw : IntKind.u64.wrap (n : Int) = (n : Int) := by rw [IntKind.wrap_u64]; omega
  have hconv := run_conv1 1 (by omega) (by omega)
  have hadd := str_add [(1 : UInt8)] (putB n) (1 :: putB n) rfl (by have := putB_len n (by omega); simp; omega)
  subst hx
  have HN := Lib.hid hn
  clear hn
  go_enter Try.func18, Try.ntmps18
  go_wp2_with fail
  refine (refPut_any n (by have := HN.out; omega) _).mono ?_
  rintro e w1 ⟨rfl, hb⟩
  obtain ⟨va, la, hb1⟩ := boxed hb
  have a0 := va.c0
  have a1 := va.c1
  clear hb va
  go_wp2_with fail
  go_ret
  exact ⟨rfl, below_alloc hb1 _⟩

theorem refPV_pos2 (x : Int) (n : Nat) (hx : x = (n : Int)) (hn : n < 9223372036854775808) (w : World) : Calls Try.prog 18 #[VAL 2 x 0 ⟨#[]⟩] w fun e w' => e = .returned (.string ⟨((2 : UInt8) :: putB n).toArray⟩) ∧ Below w.heap.size w w' := by
  have hw : IntKind.u64.wrap (n : Int) = (n : Int) := by rw [IntKind.wrap_u64]; omega
  have hconv := run_conv1 2 (by omega) (by omega)
  have hadd := str_add [(2 : UInt8)] (putB n) (2 :: putB n) rfl (by have := putB_len n (by omega); simp; omega)
  subst hx
  have HN := Lib.hid hn
  clear hn
  go_enter Try.func18, Try.ntmps18
  go_wp2_with fail
  refine (refPut_any n (by have := HN.out; omega) _).mono ?_
  rintro e w1 ⟨rfl, hb⟩
  obtain ⟨va, la, hb1⟩ := boxed hb
  have a0 := va.c0
  have a1 := va.c1
  clear hb va
  go_wp2_with fail
  go_ret
  exact ⟨rfl, below_alloc hb1 _⟩

theorem refPV_neg (x : Int) (n : Nat) (hx : (-1 - x) = (n : Int)) (hn : n < 9223372036854775808) (w : World) : Calls Try.prog 18 #[VAL 2 x 0 ⟨#[]⟩] w fun e w' => e = .returned (.string ⟨((18 : UInt8) :: putB n).toArray⟩) ∧ Below w.heap.size w w' := by
  have hw : IntKind.u64.wrap (n : Int) = (n : Int) := by rw [IntKind.wrap_u64]; omega
  have hconv := run_conv1 18 (by omega) (by omega)
  have hadd := str_add [(18 : UInt8)] (putB n) (18 :: putB n) rfl (by have := putB_len n (by omega); simp; omega)
  have hlt : decide (x < 0) = true := by simp; omega
  have hw64 : wrap64 (-1 - x) = (n : Int) := by unfold wrap64; omega
  have hwi : IntKind.i64.wrap (-1 - x) = (n : Int) := by rw [IntKind.wrap_i64]; omega
  have HN := Lib.hid hn
  clear hn
  go_enter Try.func18, Try.ntmps18
  go_wp2_with fail
  obtain ⟨q, hq, hq64⟩ : ∃ q : Nat, IntKind.u64.wrap x = (q : Int) ∧ q < 18446744073709551616 := ⟨(IntKind.u64.wrap x).toNat, by rw [IntKind.wrap_u64]; omega, by rw [IntKind.wrap_u64]; omega⟩
  rw [hq]
  refine (refPut_any q hq64 _).mono ?_
  rintro e w1 ⟨rfl, hb⟩
  obtain ⟨va, la, hb1⟩ := boxed hb
  have a0 := va.c0
  have a1 := va.c1
  clear hb va hq hq64
  have HX := Lib.hid hx
  clear hx
  go_wp2_with fail
  refine (refPut_any n (by have := HN.out; omega) _).mono ?_
  rintro e w2 ⟨rfl, hb2⟩
  have hb3 := hb1.trans (hb2.mono hb1.size)
  clear hb1 hb2
  go_wp2_with fail
  go_ret
  exact ⟨rfl, below_alloc hb3 _⟩

theorem refPV_text (s : ByteArray) (hs : s.size ≤ 1000) (w : World) : Calls Try.prog 18 #[VAL 4 0 0 s] w fun e w' => e = .returned (.string ⟨((4 : UInt8) :: putTextB s.data.toList).toArray⟩) ∧ Below w.heap.size w w' := by
  have hconv := run_conv1 4 (by omega) (by omega)
  have hadd := str_add [(4 : UInt8)] (putTextB s.data.toList) (4 :: putTextB s.data.toList) rfl (by
    have h2 : s.data.toList.length = s.size := rfl
    have := putB_len s.data.toList.length (by omega)
    have := putB_len s.size (by omega)
    unfold putTextB; simp; omega)
  have HS := Lib.hid hs
  clear hs
  go_enter Try.func18, Try.ntmps18
  go_wp2_with fail
  refine (refPutText_any s (by have := HS.out; omega) _).mono ?_
  rintro e w1 ⟨rfl, hb⟩
  obtain ⟨va, la, hb1⟩ := boxed hb
  have a0 := va.c0
  clear hb va
  go_wp2_with fail
  go_ret
  exact ⟨rfl, below_alloc hb1 _⟩

theorem pad_nb : ∀ (k n : Nat), n < 256 ^ k → fixB k n = List.replicate (k - (nb n).length) 0 ++ nb n ∧ (nb n).length ≤ k := by
  intro k
  induction k with
  | zero => intro n h; simp at h; subst h; simp [fixB, nb_zero]
  | succ k ih =>
    intro n h
    obtain ⟨h1, h2⟩ := ih (n / 256) (by rw [Nat.pow_succ] at h; omega)
    by_cases h0 : n = 0
    · subst h0
      simp only [Nat.zero_div, nb_zero, List.length_nil, Nat.sub_zero, List.append_nil] at h1
      rw [fixB, Nat.zero_div, h1, nb_zero]
      simp [List.replicate_succ']
    · rw [fixB, h1, nb_pos h0, List.length_append]
      simp only [List.length_singleton]
      exact ⟨by rw [show k + 1 - ((nb (n / 256)).length + 1) = k - (nb (n / 256)).length by omega, List.append_assoc], by omega⟩

def strOf : Value → Nat
  | .string s => s.size
  | _ => 0

theorem refPV_float (f : Nat) (hf : f < 18446744073709551616) (w : World) : Calls Try.prog 18 #[VAL 3 0 f ⟨#[]⟩] w fun e w' => e = .returned (.string ⟨((3 : UInt8) :: fixB 8 (keyB f)).toArray⟩) ∧ Below w.heap.size w w' := by
  have hk := keyB_lt f hf
  have hpad := (pad_nb 8 (keyB f) (by rw [pow8]; exact hk))
  have HK := Lib.hid hk
  have HP := Lib.hid hpad
  have HF := Lib.hid hf
  have hconv := run_conv1 3 (by omega) (by omega)
  have hadd := str_add [(3 : UInt8)] (fixB 8 (keyB f)) (3 :: fixB 8 (keyB f)) rfl (by simp [fixB_length])
  clear hk hpad hf
  go_enter Try.func18, Try.ntmps18
  go_wp2_with fail
  refine (refKey_any f HF.out _).mono ?_
  rintro e w1 ⟨rfl, rfl⟩
  go_wp2_with fail
  refine (refBytes_any (keyB f) HK.out _).mono ?_
  rintro e w1 ⟨rfl, hb⟩
  obtain ⟨va, la, hb1⟩ := boxed hb
  clear hb va
  go_wp2_with fail
  generalize nb (keyB f) = N at *
  go_loop [4] (fun v4 => ∃ i : Nat, i + N.length ≤ 8 ∧ v4 = .string ⟨(List.replicate i 0 ++ N).toArray⟩) (fun v4 => 8 - strOf v4)
  case atStart => exact ⟨0, by have := HP.out.2; omega, by simp⟩
  case round =>
    obtain ⟨i, hi, rfl⟩ := hrel
    by_cases h : i + N.length < 8
    · have h1 : (i : Int) + (N.length : Int) < 8 := by omega
      have ha := str_add [(0 : UInt8)] (List.replicate i 0 ++ N) (List.replicate (i + 1) 0 ++ N) (by simp [List.replicate_succ]) (by simp; omega)
      go_wp2_with fail
      go_round
      case rel => exact ⟨i + 1, by omega, rfl⟩
      case measure =>
        show 8 - (List.replicate (i + 1) 0 ++ N).length < 8 - (List.replicate i 0 ++ N).length
        simp; omega
    · have h1 : 8 ≤ (i : Int) + (N.length : Int) := by omega
      have hfx : List.replicate i 0 ++ N = fixB 8 (keyB f) := by rw [HP.out.1, show 8 - N.length = i by omega]
      rw [hfx] at *
      have hl8 : (fixB 8 (keyB f)).length = 8 := fixB_length _ _
      go_wp2_with fail
      go_ret
      exact ⟨rfl, below_alloc hb1 _⟩

/-- ref03.PutValue, of a right value. -/
theorem refPV_any (x : Vl) (hx : Fits x) (hs : x.s.length ≤ 1000) (w : World) :
    Calls Try.prog 18 #[VL x] w fun e w' => e = .returned (.string ⟨(putValueB x).toArray⟩) ∧ Below w.heap.size w w' := by
  obtain ⟨h0, h1, hf, hr⟩ := hx
  obtain ⟨k, n, f, s⟩ := x
  simp only at h0 h1 hf hs
  rcases right_cases hr with e | (e | e) | e | ⟨e, hc⟩ | e
  · injection e with e1 e2 e3 e4
    subst e1; subst e2; subst e3; subst e4
    exact refPV_null w
  · injection e with e1 e2 e3 e4
    subst e1; subst e2; subst e3; subst e4
    exact refPV_pos1 0 0 rfl (by omega) w
  · injection e with e1 e2 e3 e4
    subst e1; subst e2; subst e3; subst e4
    exact refPV_pos1 1 1 rfl (by omega) w
  · injection e with e1 e2 e3 e4
    subst e1; subst e3; subst e4
    by_cases hn : n < 0
    · have hp : putValueB ⟨2, n, 0, []⟩ = 18 :: putB (-1 - n).toNat := by simp [putValueB, hn]
      rw [hp]
      exact refPV_neg n (-1 - n).toNat (by omega) (by omega) w
    · have hp : putValueB ⟨2, n, 0, []⟩ = 2 :: putB n.toNat := by simp [putValueB, hn]
      rw [hp]
      exact refPV_pos2 n n.toNat (by omega) (by omega) w
  · injection e with e1 e2 e3 e4
    subst e1; subst e2; subst e4
    exact refPV_float f hf w
  · injection e with e1 e2 e3 e4
    subst e1; subst e2; subst e3
    exact refPV_text ⟨s.toArray⟩ hs w
end Go.Proofs.Ytbcnokidnpnmhaa
