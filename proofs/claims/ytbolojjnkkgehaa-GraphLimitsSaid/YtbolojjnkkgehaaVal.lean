import Derived.Test.YtbolojjnkkgehaaBase
import Derived.Deep.QuietTactic
import Derived.BigQuiet
import Derived.Deep.DeepCutAuto
import Derived.WalkSmall
namespace Go.Proofs.Ytbolojjnkkgehaa
open Go.RowKit

theorem below_alloc {w W : World} (h : Below w.heap.size w W) (o : Obj) : Below w.heap.size w (W.alloc o) := h.alloc h.size o

/-- An api.Value as the model has it. -/
abbrev VAL (k n : Int) (f : Nat) (s : ByteArray) : Value := .agg #[.int .i64 k, .int .i64 n, .float .f64 f, .string s]

abbrev VOBJ (k n : Int) (f : Nat) (s : ByteArray) : Obj := .cells #[.int .i64 k, .int .i64 n, .float .f64 f, .string s] 53

theorem truth_yes (w : World) : Calls Try.prog 59 #[.bool true] w fun e w' => e = .returned (VAL 1 1 0 ⟨#[]⟩) ∧ w' = w.alloc (VOBJ 1 1 0 ⟨#[]⟩) := by
  go_enter Try.func59, Try.ntmps59
  go_wp2
  exact bodyPost_ret (v := VAL 1 1 0 ⟨#[]⟩) (by simp [results, Try.results59, go_sem]) rfl ⟨rfl, rfl⟩

theorem truth_no (w : World) : Calls Try.prog 59 #[.bool false] w fun e w' => e = .returned (VAL 1 0 0 ⟨#[]⟩) ∧ w' = w.alloc (VOBJ 1 0 0 ⟨#[]⟩) := by
  go_enter Try.func59, Try.ntmps59
  go_wp2
  exact bodyPost_ret (v := VAL 1 0 0 ⟨#[]⟩) (by simp [results, Try.results59, go_sem]) rfl ⟨rfl, rfl⟩

theorem right0a (n : Int) (f : Nat) (s : ByteArray) (w : World) (c1 : (n == 0) = true) (c2 : s.toList = []) :
    Calls Try.prog 52 #[VAL 0 n f s] w fun e w' => e = .returned (.bool ((f : Int) == 0)) ∧ Below w.heap.size w w' := by
  have hx := run_f64bits
  go_enter Try.func52, Try.ntmps52
  go_wp2_with fail
  go_quiet (fail)
  go_wp2
  go_ret
  exact ⟨rfl, (by repeat (first | exact Below.refl _ _ | apply below_drewN | apply below_alloc))⟩

theorem right0b (n : Int) (f : Nat) (s : ByteArray) (w : World) (c1 : (n == 0) = true) (c2 : s.toList.isEmpty = false) :
    Calls Try.prog 52 #[VAL 0 n f s] w fun e w' => e = .returned (.bool (false)) ∧ Below w.heap.size w w' := by
  have hx := run_f64bits
  go_enter Try.func52, Try.ntmps52
  go_wp2_with fail
  go_quiet (fail)
  go_wp2
  go_ret
  exact ⟨rfl, (by repeat (first | exact Below.refl _ _ | apply below_drewN | apply below_alloc))⟩

theorem right0c (n : Int) (f : Nat) (s : ByteArray) (w : World) (c1 : (n == 0) = false) :
    Calls Try.prog 52 #[VAL 0 n f s] w fun e w' => e = .returned (.bool (false)) ∧ Below w.heap.size w w' := by
  have hx := run_f64bits
  go_enter Try.func52, Try.ntmps52
  go_wp2_with fail
  go_quiet (fail)
  go_wp2
  go_ret
  exact ⟨rfl, (by repeat (first | exact Below.refl _ _ | apply below_drewN | apply below_alloc))⟩

theorem right1a (n : Int) (f : Nat) (s : ByteArray) (w : World) (c0 : (n == 1) = true) (c2 : s.toList = []) :
    Calls Try.prog 52 #[VAL 1 n f s] w fun e w' => e = .returned (.bool ((f : Int) == 0)) ∧ Below w.heap.size w w' := by
  have hx := run_f64bits
  go_enter Try.func52, Try.ntmps52
  go_wp2_with (go_at_call 59; refine (truth_yes _).mono ?_; rintro e w1 ⟨rfl, rfl⟩)
  go_quiet (fail)
  go_wp2
  go_ret
  exact ⟨rfl, (by repeat (first | exact Below.refl _ _ | apply below_drewN | apply below_alloc))⟩

theorem right1b (n : Int) (f : Nat) (s : ByteArray) (w : World) (c0 : (n == 1) = true) (c2 : s.toList.isEmpty = false) :
    Calls Try.prog 52 #[VAL 1 n f s] w fun e w' => e = .returned (.bool (false)) ∧ Below w.heap.size w w' := by
  have hx := run_f64bits
  go_enter Try.func52, Try.ntmps52
  go_wp2_with (go_at_call 59; refine (truth_yes _).mono ?_; rintro e w1 ⟨rfl, rfl⟩)
  go_quiet (fail)
  go_wp2
  go_ret
  exact ⟨rfl, (by repeat (first | exact Below.refl _ _ | apply below_drewN | apply below_alloc))⟩

theorem right1c (n : Int) (f : Nat) (s : ByteArray) (w : World) (c0 : (n == 1) = false) (c1 : (n == 0) = true) (c2 : s.toList = []) :
    Calls Try.prog 52 #[VAL 1 n f s] w fun e w' => e = .returned (.bool ((f : Int) == 0)) ∧ Below w.heap.size w w' := by
  have hx := run_f64bits
  go_enter Try.func52, Try.ntmps52
  go_wp2_with (go_at_call 59; refine (truth_no _).mono ?_; rintro e w1 ⟨rfl, rfl⟩)
  go_quiet (fail)
  go_wp2
  go_ret
  exact ⟨rfl, (by repeat (first | exact Below.refl _ _ | apply below_drewN | apply below_alloc))⟩

theorem right1d (n : Int) (f : Nat) (s : ByteArray) (w : World) (c0 : (n == 1) = false) (c1 : (n == 0) = true) (c2 : s.toList.isEmpty = false) :
    Calls Try.prog 52 #[VAL 1 n f s] w fun e w' => e = .returned (.bool (false)) ∧ Below w.heap.size w w' := by
  have hx := run_f64bits
  go_enter Try.func52, Try.ntmps52
  go_wp2_with (go_at_call 59; refine (truth_no _).mono ?_; rintro e w1 ⟨rfl, rfl⟩)
  go_quiet (fail)
  go_wp2
  go_ret
  exact ⟨rfl, (by repeat (first | exact Below.refl _ _ | apply below_drewN | apply below_alloc))⟩

theorem right1e (n : Int) (f : Nat) (s : ByteArray) (w : World) (c0 : (n == 1) = false) (c1 : (n == 0) = false) :
    Calls Try.prog 52 #[VAL 1 n f s] w fun e w' => e = .returned (.bool (false)) ∧ Below w.heap.size w w' := by
  have hx := run_f64bits
  go_enter Try.func52, Try.ntmps52
  go_wp2_with (go_at_call 59; refine (truth_no _).mono ?_; rintro e w1 ⟨rfl, rfl⟩)
  go_quiet (fail)
  go_wp2
  go_ret
  exact ⟨rfl, (by repeat (first | exact Below.refl _ _ | apply below_drewN | apply below_alloc))⟩

theorem right2a (n : Int) (f : Nat) (s : ByteArray) (w : World) (c2 : s.toList = []) :
    Calls Try.prog 52 #[VAL 2 n f s] w fun e w' => e = .returned (.bool ((f : Int) == 0)) ∧ Below w.heap.size w w' := by
  have hx := run_f64bits
  go_enter Try.func52, Try.ntmps52
  go_wp2_with fail
  go_quiet (fail)
  go_wp2
  go_ret
  exact ⟨rfl, (by repeat (first | exact Below.refl _ _ | apply below_drewN | apply below_alloc))⟩

theorem right2b (n : Int) (f : Nat) (s : ByteArray) (w : World) (c2 : s.toList.isEmpty = false) :
    Calls Try.prog 52 #[VAL 2 n f s] w fun e w' => e = .returned (.bool (false)) ∧ Below w.heap.size w w' := by
  have hx := run_f64bits
  go_enter Try.func52, Try.ntmps52
  go_wp2_with fail
  go_quiet (fail)
  go_wp2
  go_ret
  exact ⟨rfl, (by repeat (first | exact Below.refl _ _ | apply below_drewN | apply below_alloc))⟩

theorem right3a (n : Int) (f : Nat) (s : ByteArray) (w : World) (c1 : (n == 0) = true) (c2 : s.toList = []) :
    Calls Try.prog 52 #[VAL 3 n f s] w fun e w' => e = .returned (.bool ((f : Int) == (canonB f : Int))) ∧ Below w.heap.size w w' := by
  have hx := run_f64bits
  go_enter Try.func52, Try.ntmps52
  go_wp2_with (go_at_call 60; refine (canon_any _ _).mono ?_; rintro e w1 ⟨rfl, rfl⟩)
  go_quiet (fail)
  go_wp2
  go_ret
  exact ⟨rfl, (by repeat (first | exact Below.refl _ _ | apply below_drewN | apply below_alloc))⟩

theorem right3b (n : Int) (f : Nat) (s : ByteArray) (w : World) (c1 : (n == 0) = true) (c2 : s.toList.isEmpty = false) :
    Calls Try.prog 52 #[VAL 3 n f s] w fun e w' => e = .returned (.bool (false)) ∧ Below w.heap.size w w' := by
  have hx := run_f64bits
  go_enter Try.func52, Try.ntmps52
  go_wp2_with (go_at_call 60; refine (canon_any _ _).mono ?_; rintro e w1 ⟨rfl, rfl⟩)
  go_quiet (fail)
  go_wp2
  go_ret
  exact ⟨rfl, (by repeat (first | exact Below.refl _ _ | apply below_drewN | apply below_alloc))⟩

theorem right3c (n : Int) (f : Nat) (s : ByteArray) (w : World) (c1 : (n == 0) = false) :
    Calls Try.prog 52 #[VAL 3 n f s] w fun e w' => e = .returned (.bool (false)) ∧ Below w.heap.size w w' := by
  have hx := run_f64bits
  go_enter Try.func52, Try.ntmps52
  go_wp2_with (go_at_call 60; refine (canon_any _ _).mono ?_; rintro e w1 ⟨rfl, rfl⟩)
  go_quiet (fail)
  go_wp2
  go_ret
  exact ⟨rfl, (by repeat (first | exact Below.refl _ _ | apply below_drewN | apply below_alloc))⟩

theorem right4a (n : Int) (f : Nat) (s : ByteArray) (w : World) (c1 : (n == 0) = true) :
    Calls Try.prog 52 #[VAL 4 n f s] w fun e w' => e = .returned (.bool ((f : Int) == 0)) ∧ Below w.heap.size w w' := by
  have hx := run_f64bits
  go_enter Try.func52, Try.ntmps52
  go_wp2_with fail
  go_quiet (fail)
  go_wp2
  go_ret
  exact ⟨rfl, (by repeat (first | exact Below.refl _ _ | apply below_drewN | apply below_alloc))⟩

theorem right4c (n : Int) (f : Nat) (s : ByteArray) (w : World) (c1 : (n == 0) = false) :
    Calls Try.prog 52 #[VAL 4 n f s] w fun e w' => e = .returned (.bool (false)) ∧ Below w.heap.size w w' := by
  have hx := run_f64bits
  go_enter Try.func52, Try.ntmps52
  go_wp2_with fail
  go_quiet (fail)
  go_wp2
  go_ret
  exact ⟨rfl, (by repeat (first | exact Below.refl _ _ | apply below_drewN | apply below_alloc))⟩

theorem right5 (k n : Int) (f : Nat) (s : ByteArray) (w : World) (h0 : (k == 0) = false) (h1 : (k == 1) = false) (h2 : (k == 2) = false) (h3 : (k == 3) = false) (h4 : (k == 4) = false) :
    Calls Try.prog 52 #[VAL k n f s] w fun e w' => e = .returned (.bool false) ∧ Below w.heap.size w w' := by
  have hx := run_f64bits
  go_enter Try.func52, Try.ntmps52
  go_wp2
  go_ret
  exact ⟨rfl, (by repeat (first | exact Below.refl _ _ | apply below_drewN | apply below_alloc))⟩
end Go.Proofs.Ytbolojjnkkgehaa
