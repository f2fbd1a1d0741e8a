import Derived.Test.YtnbpioinhjijcaaDoorPl2
import Derived.Test.YtnbpioinhjijcaaDoorTxt
import Derived.Deep.RegionHeld3
import Derived.Deep.DrawnRows
/-! ref01.Digits, Signed. -/
namespace Go.Proofs.YtnbpioinhjijcaaDoor
open Go.RowKit

theorem conv1 {W : World} {g : Nat} {x : Int} (h0 : 0 ≤ x) (h1 : x < 256) (hc : W.cell? ⟨g, 0, none⟩ = some (.int .u8 x)) :
    (convert 73 9 (.slice (some ⟨g, 0, none⟩) 1 1)).run Tryd.prog W = .ok (.string ⟨#[UInt8.ofNat x.toNat]⟩) W :=
  run_convert_bytes_back (P := Tryd.prog) W 73 9 5 ⟨g, 0, none⟩ 1 [UInt8.ofNat x.toNat] Tryd.underlying73 Tryd.underlying5 Tryd.underlying9 (fun j hj => by
    have hj0 : j = 0 := by simpa using hj
    subst hj0
    rw [Lib.add_plain]
    show W.cell? ⟨g, 0 + 0, none⟩ = _
    rw [Nat.add_zero, hc]
    congr 2
    simp; omega)
theorem below_alloc1 {w W : World} (h : Below w.heap.size w W) (o : Obj) : Below w.heap.size w (W.alloc o) := h.alloc h.size o

theorem run_conv1 (x : Int) (h0 : 0 ≤ x) (h1 : x < 256) (w : World) : (convert 73 9 (.slice (some ⟨w.heap.size, 0, none⟩) 1 1)).run Tryd.prog (w.alloc (.cells #[.int .u8 x] 5)) = .ok (.string ⟨#[UInt8.ofNat x.toNat]⟩) (w.alloc (.cells #[.int .u8 x] 5)) :=
  conv1 h0 h1 (by simp [go_sem])
theorem run_conv2 (x : Int) (h0 : 0 ≤ x) (h1 : x < 256) (w : World) : (convert 73 9 (.slice (some ⟨w.heap.size, 0, none⟩) 1 1)).run Tryd.prog (w.alloc (.cells #[.int .u8 x] 5)).drew = .ok (.string ⟨#[UInt8.ofNat x.toNat]⟩) (w.alloc (.cells #[.int .u8 x] 5)).drew :=
  conv1 h0 h1 (by simp [go_sem])
theorem conv_after {W w1 : World} {x : Int} (h0 : 0 ≤ x) (h1 : x < 256) (hb : Below (W.alloc (.cells #[.int .u8 x] 5)).heap.size (W.alloc (.cells #[.int .u8 x] 5)) w1) :
    (convert 73 9 (.slice (some ⟨W.heap.size, 0, none⟩) 1 1)).run Tryd.prog w1 = .ok (.string ⟨#[UInt8.ofNat x.toNat]⟩) w1 :=
  conv1 h0 h1 ((hb.cell (p := ⟨W.heap.size, 0, none⟩) (by simp)).trans (by simp))
theorem conv_after_drew {W w1 : World} {x : Int} (h0 : 0 ≤ x) (h1 : x < 256) (hb : Below (W.alloc (.cells #[.int .u8 x] 5)).drew.heap.size (W.alloc (.cells #[.int .u8 x] 5)).drew w1) :
    (convert 73 9 (.slice (some ⟨W.heap.size, 0, none⟩) 1 1)).run Tryd.prog w1 = .ok (.string ⟨#[UInt8.ofNat x.toNat]⟩) w1 :=
  conv1 h0 h1 ((hb.cell (p := ⟨W.heap.size, 0, none⟩) (by simp)).trans (by simp [go_sem]))
theorem below_then {w w1 : World} {o : Obj} (h : Below (w.alloc o).heap.size (w.alloc o) w1) : Below w.heap.size w w1 :=
  (below_alloc1 (Below.refl _ _) o).trans (h.mono (by simp))
theorem below_then_drew {w w1 : World} {o : Obj} (h : Below (w.alloc o).drew.heap.size (w.alloc o).drew w1) : Below w.heap.size w w1 :=
  (below_alloc1 (Below.refl _ _) o).drew.trans (h.mono (by simp))

set_option maxRecDepth 100000 in
theorem digits_small (n : Nat) (h : n < 10) (w : World) : Calls Tryd.prog 28 #[.int .i64 n] w fun e w' => e = .returned (.string ⟨(Lib.decDigits n).toArray⟩) ∧ Below w.heap.size w w' := by
  have c1 : decide (n < 10) = true := by simpa using h
  have c2 : IntKind.u8.wrap (48 + (n : Int)) = 48 + (n : Int) := by rw [IntKind.wrap_u8]; omega
  have hcv := conv1 (W := w.alloc (.cells #[.int .u8 (48 + (n : Int))] 5)) (g := w.heap.size) (x := 48 + (n : Int)) (by omega) (by omega) (by simp [go_sem])
  go_enter Tryd.func28, Tryd.ntmps28
  go_wp2_with fail
  go_ret
  exact ⟨by rw [dec_small h]; rfl, below_alloc1 (Below.refl _ _) _⟩

set_option maxRecDepth 100000 in
/-- ref01.Digits -/
theorem digits_any : ∀ (n : Nat) (_ : n < 9223372036854775808) (w : World),
    Calls Tryd.prog 28 #[.int .i64 n] w fun e w' => e = .returned (.string ⟨(Lib.decDigits n).toArray⟩) ∧ Below w.heap.size w w' := by
  intro n
  induction n using Nat.strongRecOn with
  | ind n ih =>
    intro hn w
    by_cases h0 : n < 10
    · exact digits_small n h0 w
    · have c0 : (10 : Int) ≤ (n : Int) := by omega
      have IH := Lib.hid (show ∀ (x : Int), x = ((n / 10 : Nat) : Int) → ∀ w : World, Calls Tryd.prog 28 #[.int .i64 x] w fun e w' => e = .returned (.string ⟨(Lib.decDigits (n / 10)).toArray⟩) ∧ Below w.heap.size w w' from fun x hx => hx ▸ ih (n / 10) (by omega) (by omega))
      clear ih
      have hq : wrap64 ((n : Int) / 10) = ((n / 10 : Nat) : Int) := by unfold wrap64; omega
      have hq2 : IntKind.i64.wrap ((n : Int) / 10) = ((n / 10 : Nat) : Int) := by rw [IntKind.wrap_i64]; omega
      have hm : (n : Int).tmod 10 = (n : Int) % 10 := by rw [Int.tmod_eq_emod_of_nonneg (by omega)]
      have hm2 : IntKind.u8.wrap (48 + (n : Int) % 10) = 48 + (n : Int) % 10 := by rw [IntKind.wrap_u8]; omega
      have hm3 : IntKind.i64.wrap (48 + (n : Int) % 10) = 48 + (n : Int) % 10 := by rw [IntKind.wrap_i64]; omega
      have hx0 : (0 : Int) ≤ 48 + (n : Int) % 10 := by omega
      have hx1 : 48 + (n : Int) % 10 < 256 := by omega
      have hconv := run_conv1 (48 + (n : Int) % 10) (by omega) (by omega)
      have hconv2 := run_conv2 (48 + (n : Int) % 10) (by omega) (by omega)
      have hadd := str_add (Lib.decDigits (n / 10)) [UInt8.ofNat (48 + (n : Int) % 10).toNat] (Lib.decDigits n) (by
        rw [dec_big h0]
        congr 3) (by have := nDigits_le n (by omega); omega)
      have HN := Lib.hid hn
      clear hn h0
      go_enter Tryd.func28, Tryd.ntmps28
      go_wp2_with fail
      go_region_held (fun _ => True) (go_keep) (first | ((go_at_call 28; refine (IH.out _ (by omega) _).mono ?_; rintro e w1 ⟨rfl, hb⟩; have hst := conv_after hx0 hx1 hb)) | ((go_at_call 28; refine (IH.out _ (by omega) _).mono ?_; rintro e w1 ⟨rfl, hb⟩; have hst := conv_after_drew hx0 hx1 hb)) | ((go_at_call 28; refine (IH.out _ (by omega) _).mono ?_; rintro e w1 ⟨rfl, hb⟩)))
      all_goals go_wp2
      all_goals go_ret
      all_goals refine ⟨rfl, ?_⟩
      all_goals first | exact hb.drew | exact hb | exact below_then hb | exact below_then_drew hb | exact below_alloc1 hb _ | exact below_alloc1 hb.drew _ | exact below_alloc1 ((Below.refl _ w).drew.trans hb) _ | exact ((Below.refl _ w).drew.trans hb)
end Go.Proofs.YtnbpioinhjijcaaDoor
