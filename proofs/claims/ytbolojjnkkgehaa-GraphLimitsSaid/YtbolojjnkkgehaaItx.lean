import Derived.Test.YtbolojjnkkgehaaStp
import Derived.Laws.IdiomStrings
/-! ref02.Int: a number's digits. -/
namespace Go.Proofs.Ytbolojjnkkgehaa
open Go.RowKit

def dg (n : Nat) : UInt8 := UInt8.ofNat (48 + n % 10)
/-- The digits of a number of at most f + 1 digits. -/
def decF : Nat → Nat → List UInt8
  | 0, n => [dg n]
  | f + 1, n => if n < 10 then [dg n] else decF f (n / 10) ++ [dg n]
theorem decF_len : ∀ f n, 1 ≤ (decF f n).length ∧ (decF f n).length ≤ f + 1
  | 0, n => by simp [decF]
  | f + 1, n => by
    have := decF_len f (n / 10)
    unfold decF
    split
    · simp
    · simp; omega
theorem conv86 {W : World} {g : Nat} {n : Nat} (hc : W.cell? ⟨g, 0, none⟩ = some (.int .u8 (48 + (n : Int) % 10))) :
    (convert 86 9 (.slice (some ⟨g, 0, none⟩) 1 1)).run Try.prog W = .ok (.string ⟨#[dg n]⟩) W :=
  run_convert_bytes_back (P := Try.prog) W 86 9 5 ⟨g, 0, none⟩ 1 [dg n] Try.underlying86 Try.underlying5 Try.underlying9 (fun j hj => by
    have hj0 : j = 0 := by simpa using hj
    subst hj0
    rw [addr_add0, Nat.add_zero, hc]
    congr 2
    simp [dg]; omega)
theorem str_cat (x y z : List UInt8) (hz : x ++ y = z) (h : z.length ≤ 9223372036854775807) : (Op.stringOp .add ⟨x.toArray⟩ ⟨y.toArray⟩ : Sem Value) = pure (.string ⟨z.toArray⟩) := by
  subst hz
  unfold Op.stringOp
  have e : ((⟨x.toArray⟩ : ByteArray).size + (⟨y.toArray⟩ : ByteArray).size : Nat) = (x ++ y).length := by rw [List.length_append]; rfl
  simp only [e]
  rw [if_neg]
  · congr 2
  · have : IntKind.i64.max = 9223372036854775807 := rfl
    rw [this]; omega

set_option maxRecDepth 100000 in
theorem int_small (f n : Nat) (h : n < 10) (w : World) : Calls Try.prog 14 #[.int .i64 n] w fun e w' => e = .returned (.string ⟨(decF f n).toArray⟩) ∧ Below w.heap.size w w' := by
  have hd : decF f n = [dg n] := by
    cases f with
    | zero => rfl
    | succ f => unfold decF; rw [if_pos h]
  rw [hd]
  have hm : (n : Int).tmod 10 = (n : Int) % 10 := by rw [Int.tmod_eq_emod_of_nonneg (by omega)]
  have hq : (n : Int) / 10 = 0 := by omega
  have c2 : IntKind.u8.wrap (48 + (n : Int) % 10) = 48 + (n : Int) % 10 := by rw [IntKind.wrap_u8]; omega
  have c3 : (0 : Int) ≤ (n : Int) % 10 := by omega
  have hcv := conv86 (W := w.alloc (.cells #[.int .u8 (48 + (n : Int) % 10)] 5)) (g := w.heap.size) (n := n) (by simp [go_sem])
  go_enter Try.func14, Try.ntmps14
  go_wp2_with fail
  go_ret
  exact ⟨rfl, (Below.refl _ _).alloc (Nat.le_refl _) _⟩

set_option maxRecDepth 100000 in
/-- ref02.Int -/
theorem int_any : ∀ (f n : Nat) (_ : n < 10 ^ (f + 1)) (_ : n < 9223372036854775808) (_ : f ≤ 20) (w : World),
    Calls Try.prog 14 #[.int .i64 n] w fun e w' => e = .returned (.string ⟨(decF f n).toArray⟩) ∧ Below w.heap.size w w'
  | 0, n, h, _, _, w => int_small 0 n (by simpa using h) w
  | f + 1, n, h, hn, hf, w => by
    by_cases h0 : n < 10
    · exact int_small (f + 1) n h0 w
    have hp : 10 ^ (f + 1 + 1) = 10 ^ (f + 1) * 10 := Nat.pow_succ ..
    have hlt : n / 10 < 10 ^ (f + 1) := by rw [hp] at h; generalize 10 ^ (f + 1) = q at *; omega
    have IH := Lib.hid (show ∀ (x : Int), x = (n : Int) / 10 → ∀ w : World, Calls Try.prog 14 #[.int .i64 x] w fun e w' => e = .returned (.string ⟨(decF f (n / 10)).toArray⟩) ∧ Below w.heap.size w w' from fun x hx => by
      rw [hx, show (n : Int) / 10 = ((n / 10 : Nat) : Int) by omega]
      exact int_any f (n / 10) hlt (by omega) (by omega))
    have hd : decF (f + 1) n = decF f (n / 10) ++ [dg n] := by rw [decF, if_neg h0]
    rw [hd]
    have hm : (n : Int).tmod 10 = (n : Int) % 10 := by rw [Int.tmod_eq_emod_of_nonneg (by omega)]
    have hq : ((n : Int) / 10 != 0) = true := by simp; omega
    have hq2 : IntKind.i64.wrap ((n : Int) / 10) = (n : Int) / 10 := by rw [IntKind.wrap_i64]; omega
    have c2 : IntKind.u8.wrap (48 + (n : Int) % 10) = 48 + (n : Int) % 10 := by rw [IntKind.wrap_u8]; omega
    have c3 : (0 : Int) ≤ (n : Int) % 10 := by omega
    have hcv := conv86 (W := w.alloc (.cells #[.int .u8 (48 + (n : Int) % 10)] 5)) (g := w.heap.size) (n := n) (by simp [go_sem])
    have hl := decF_len f (n / 10)
    have hadd := str_cat (decF f (n / 10)) [dg n] (decF f (n / 10) ++ [dg n]) rfl (by rw [List.length_append]; simp; omega)
    have HB := Lib.hid ((Below.refl w.heap.size w).alloc (Nat.le_refl _) (.cells #[.int .u8 (48 + (n : Int) % 10)] 5))
    clear hd hl h hn hlt hp h0 hf
    go_enter Try.func14, Try.ntmps14
    go_wp2_with fail
    refine (IH.out _ rfl _).mono ?_
    rintro e w1 ⟨rfl, hb1⟩
    have HB1 := Lib.hid (below_trans' HB.out hb1)
    clear hb1
    go_wp2_with fail
    go_ret
    exact ⟨rfl, HB1.out⟩
end Go.Proofs.Ytbolojjnkkgehaa
