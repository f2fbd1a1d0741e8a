import Derived.Test.YtbcnokidnpnmhaaSh
import Derived.Deep.RegionHeld3
import Derived.Deep.DrawnRows
namespace Go.Proofs.Ytbcnokidnpnmhaa
open Go.RowKit

/-- Are two values the same? -/
def sameB (k n : Int) (f : Nat) (s : ByteArray) (k' n' : Int) (f' : Nat) (s' : ByteArray) : Bool :=
  (k == k') && ((n == n') && ((s.toList == s'.toList) && ((canonB f : Int) == (canonB f' : Int))))

set_option maxHeartbeats 1000000 in
theorem same_any (k n : Int) (f : Nat) (s : ByteArray) (k' n' : Int) (f' : Nat) (s' : ByteArray) (w : World) (hf : f < 18446744073709551616) (hf' : f' < 18446744073709551616) :
    Calls Try.prog 19 #[VAL k n f s, VAL k' n' f' s'] w fun e w' => e = .returned (.bool (sameB k n f s k' n' f' s')) ∧ Below w.heap.size w w' := by
  have HF := Lib.hid hf
  have HF' := Lib.hid hf'
  clear hf hf'
  cases c1 : (k == k') with
  | false =>
    refine of_res (b := false) ?_ (by simp [sameB, c1])
    go_enter Try.func19, Try.ntmps19
    go_wp2_with fail
    go_quiet (fail)
    go_wp2
    go_ret
    exact ⟨rfl, (by repeat (first | exact Below.refl _ _ | apply below_drewN | apply below_alloc))⟩
  | true =>
  cases c2 : (n == n') with
  | false =>
    refine of_res (b := false) ?_ (by simp [sameB, c2])
    go_enter Try.func19, Try.ntmps19
    go_wp2_with fail
    go_quiet (fail)
    go_wp2
    go_ret
    exact ⟨rfl, (by repeat (first | exact Below.refl _ _ | apply below_drewN | apply below_alloc))⟩
  | true =>
  cases c3 : (s.toList == s'.toList) with
  | false =>
    refine of_res (b := false) ?_ (by simp [sameB, c3])
    go_enter Try.func19, Try.ntmps19
    go_wp2_with fail
    go_quiet (fail)
    go_wp2
    go_ret
    exact ⟨rfl, (by repeat (first | exact Below.refl _ _ | apply below_drewN | apply below_alloc))⟩
  | true =>
    refine of_res (b := ((canonB f : Int) == (canonB f' : Int))) ?_ (by simp [sameB, c1, c2, c3])
    go_enter Try.func19, Try.ntmps19
    go_wp2_with fail
    go_quiet ((go_at_call 30; exact Calls.quiet_of_same ((bits_any _ (by first | exact HF.out | exact HF'.out) _).mono fun _ _ h => ⟨h.1, h.2.symm⟩)))
    go_wp2
    go_ret
    exact ⟨rfl, (by repeat (first | exact Below.refl _ _ | apply below_drewN | apply below_alloc))⟩

/-- string([]byte{x}) -/
theorem run_conv1 (x : Int) (h0 : 0 ≤ x) (h1 : x < 256) (w : World) :
    (convert 22 9 (.slice (some ⟨w.heap.size, 0, none⟩) 1 1)).run Try.prog (w.alloc (.cells #[.int .u8 x] 5)) = .ok (.string ⟨#[UInt8.ofNat x.toNat]⟩) (w.alloc (.cells #[.int .u8 x] 5)) := by
  have h2 : ((UInt8.ofNat x.toNat).toNat : Int) = x := by simp; omega
  have h := reads_string b5 (own_lit w w.heap.size (Nat.le_refl _) [UInt8.ofNat x.toNat] (by simp)).reads
  rw [show cellsU [UInt8.ofNat x.toNat] = [.int .u8 x] by simp only [cellsU, List.map_cons, List.map_nil]; rw [h2]] at h
  exact h
theorem run_conv2 (x : Int) (h0 : 0 ≤ x) (h1 : x < 256) (w : World) :
    (convert 22 9 (.slice (some ⟨w.heap.size, 0, none⟩) 1 1)).run Try.prog (w.alloc (.cells #[.int .u8 x] 5)).drew = .ok (.string ⟨#[UInt8.ofNat x.toNat]⟩) (w.alloc (.cells #[.int .u8 x] 5)).drew := by
  have h2 : ((UInt8.ofNat x.toNat).toNat : Int) = x := by simp; omega
  have h := reads_string b5 (own_lit w w.heap.size (Nat.le_refl _) [UInt8.ofNat x.toNat] (by simp)).drew.reads
  rw [show cellsU [UInt8.ofNat x.toNat] = [.int .u8 x] by simp only [cellsU, List.map_cons, List.map_nil]; rw [h2]] at h
  exact h
theorem str_add (x y z : List UInt8) (hz : x ++ y = z) (h : z.length ≤ 9223372036854775807) : (Op.stringOp .add ⟨x.toArray⟩ ⟨y.toArray⟩ : Sem Value) = pure (.string ⟨z.toArray⟩) := by
  subst hz
  unfold Op.stringOp
  have e : ((⟨x.toArray⟩ : ByteArray).size + (⟨y.toArray⟩ : ByteArray).size : Nat) = (x ++ y).length := by rw [List.length_append]; rfl
  simp only [e]
  rw [if_neg]
  · congr 2
  · have : IntKind.i64.max = 9223372036854775807 := rfl
    rw [this]; omega
theorem conv_cell {w1 : World} {g : Nat} {x : Int} (h0 : 0 ≤ x) (h1 : x < 256) (hc : w1.cell? ⟨g, 0, none⟩ = some (.int .u8 x)) :
    (convert 22 9 (.slice (some ⟨g, 0, none⟩) 1 1)).run Try.prog w1 = .ok (.string ⟨#[UInt8.ofNat x.toNat]⟩) w1 := by
  have h2 : ((UInt8.ofNat x.toNat).toNat : Int) = x := by simp; omega
  refine reads_string b5 (l := [UInt8.ofNat x.toNat]) (.inr ⟨⟨g, 0, none⟩, 1, rfl, by simp, by unfold maxLen; omega, rfl, fun j hj => ?_⟩)
  obtain rfl : j = 0 := by simpa using hj
  show w1.cell? ⟨g, 0, none⟩ = some (.int .u8 ((UInt8.ofNat x.toNat).toNat : Int))
  rw [h2]; exact hc
theorem conv_after {W w1 : World} {x : Int} (h0 : 0 ≤ x) (h1 : x < 256) (hb : Below (W.alloc (.cells #[.int .u8 x] 5)).heap.size (W.alloc (.cells #[.int .u8 x] 5)) w1) :
    (convert 22 9 (.slice (some ⟨W.heap.size, 0, none⟩) 1 1)).run Try.prog w1 = .ok (.string ⟨#[UInt8.ofNat x.toNat]⟩) w1 :=
  conv_cell h0 h1 ((hb.cell (p := ⟨W.heap.size, 0, none⟩) (by simp)).trans (by simp))
theorem conv_after_drew {W w1 : World} {x : Int} (h0 : 0 ≤ x) (h1 : x < 256) (hb : Below (W.alloc (.cells #[.int .u8 x] 5)).drew.heap.size (W.alloc (.cells #[.int .u8 x] 5)).drew w1) :
    (convert 22 9 (.slice (some ⟨W.heap.size, 0, none⟩) 1 1)).run Try.prog w1 = .ok (.string ⟨#[UInt8.ofNat x.toNat]⟩) w1 :=
  conv_cell h0 h1 ((hb.cell (p := ⟨W.heap.size, 0, none⟩) (by simp)).trans (by simp [go_sem]))
theorem u8_wrap_nat (n : Nat) : IntKind.u8.wrap (n : Int) = ((n % 256 : Nat) : Int) := by rw [IntKind.wrap_u8']; omega

theorem below_then {w w1 : World} {o : Obj} (h : Below (w.alloc o).heap.size (w.alloc o) w1) : Below w.heap.size w w1 :=
  (below_alloc (Below.refl _ _) o).trans (h.mono (by simp))
theorem below_then_drew {w w1 : World} {o : Obj} (h : Below (w.alloc o).drew.heap.size (w.alloc o).drew w1) : Below w.heap.size w w1 :=
  (below_alloc (Below.refl _ _) o).drew.trans (h.mono (by simp))

/-- ref03.bytes -/
theorem refBytes_any : ∀ (n : Nat) (_ : n < 18446744073709551616) (w : World),
    Calls Try.prog 31 #[.int .u64 n] w fun e w' => e = .returned (.string ⟨(nb n).toArray⟩) ∧ Below w.heap.size w w' := by
  intro n
  induction n using Nat.strongRecOn with
  | ind n ih =>
    intro hn w
    by_cases h0 : n = 0
    · subst h0
      go_enter Try.func31, Try.ntmps31
      go_wp2_with fail
      go_ret
      exact ⟨by simp [nb_zero], Below.refl _ _⟩
    · have c0 : ((n : Int) == 0) = false := by rw [beq_eq_false_iff_ne]; omega
      have IH := Lib.hid (show ∀ (x : Int), x = ((n / 256 : Nat) : Int) → ∀ w : World, Calls Try.prog 31 #[.int .u64 x] w fun e w' => e = .returned (.string ⟨(nb (n / 256)).toArray⟩) ∧ Below w.heap.size w w' from fun x hx => hx ▸ ih (n / 256) (by omega) (by omega))
      clear ih
      have hq : IntKind.u64.wrap ((n : Int) / 256) = ((n / 256 : Nat) : Int) := by rw [IntKind.wrap_u64]; omega
      have hm : (n : Int).tmod 256 = (n : Int) % 256 := by rw [Int.tmod_eq_emod_of_nonneg (by omega)]
      have hm2 : IntKind.u8.wrap ((n : Int) % 256) = (n : Int) % 256 := by rw [IntKind.wrap_u8']; omega
      have hx0 : (0 : Int) ≤ (n : Int) % 256 := by omega
      have hx1 : (n : Int) % 256 < 256 := by omega
      have hconv := run_conv1 ((n : Int) % 256) (by omega) (by omega)
      have hconv2 := run_conv2 ((n : Int) % 256) (by omega) (by omega)
      have hadd := str_add (nb (n / 256)) [UInt8.ofNat ((n : Int) % 256).toNat] (nb n) (by
        rw [nb_pos h0]
        congr 2
        apply UInt8.toNat_inj.1
        simp
        omega) (by have := nb_len_le n hn; omega)
      have HN := Lib.hid hn
      clear hn
      go_enter Try.func31, Try.ntmps31
      go_wp2_with fail
      go_region_held (fun _ => True) (go_keep) (first | ((go_at_call 31; refine (IH.out _ (by omega) _).mono ?_; rintro e w1 ⟨rfl, hb⟩; have hst := conv_after hx0 hx1 hb)) | ((go_at_call 31; refine (IH.out _ (by omega) _).mono ?_; rintro e w1 ⟨rfl, hb⟩; have hst := conv_after_drew hx0 hx1 hb)) | ((go_at_call 31; refine (IH.out _ (by omega) _).mono ?_; rintro e w1 ⟨rfl, hb⟩)))
      all_goals go_wp2
      all_goals go_ret
      all_goals refine ⟨rfl, ?_⟩
      all_goals first | exact hb.drew | exact hb | exact below_then hb | exact below_then_drew hb | exact below_alloc hb _ | exact below_alloc hb.drew _ | exact below_alloc ((Below.refl _ w).drew.trans hb) _ | exact ((Below.refl _ w).drew.trans hb)
end Go.Proofs.Ytbcnokidnpnmhaa
