import Derived.Test.YtbolojjnkkgehaaVal
namespace Go.Proofs.Ytbolojjnkkgehaa
open Go.RowKit

theorem refRight0a (n : Int) (f : Nat) (s : ByteArray) (w : World) (c1 : (n == 0) = true) (c2 : ((f : Int) == 0) = true) :
    Calls Try.prog 58 #[VAL 0 n f s] w fun e w' => e = .returned (.bool (s.toList.isEmpty)) ∧ Below w.heap.size w w' := by
  have hx := run_f64bits
  go_enter Try.func58, Try.ntmps58
  go_wp2_with fail
  go_ret
  exact ⟨rfl, (by repeat (first | exact Below.refl _ _ | apply below_drewN | apply below_alloc))⟩

theorem refRight0b (n : Int) (f : Nat) (s : ByteArray) (w : World) (c1 : (n == 0) = true) (c2 : ((f : Int) == 0) = false) :
    Calls Try.prog 58 #[VAL 0 n f s] w fun e w' => e = .returned (.bool (false)) ∧ Below w.heap.size w w' := by
  have hx := run_f64bits
  go_enter Try.func58, Try.ntmps58
  go_wp2_with fail
  go_ret
  exact ⟨rfl, (by repeat (first | exact Below.refl _ _ | apply below_drewN | apply below_alloc))⟩

theorem refRight0c (n : Int) (f : Nat) (s : ByteArray) (w : World) (c1 : (n == 0) = false) :
    Calls Try.prog 58 #[VAL 0 n f s] w fun e w' => e = .returned (.bool (false)) ∧ Below w.heap.size w w' := by
  have hx := run_f64bits
  go_enter Try.func58, Try.ntmps58
  go_wp2_with fail
  go_ret
  exact ⟨rfl, (by repeat (first | exact Below.refl _ _ | apply below_drewN | apply below_alloc))⟩

theorem refRight1a (n : Int) (f : Nat) (s : ByteArray) (w : World) (c1 : (n == 0) = true) (c2 : ((f : Int) == 0) = true) :
    Calls Try.prog 58 #[VAL 1 n f s] w fun e w' => e = .returned (.bool (s.toList.isEmpty)) ∧ Below w.heap.size w w' := by
  have hx := run_f64bits
  go_enter Try.func58, Try.ntmps58
  go_wp2_with fail
  go_ret
  exact ⟨rfl, (by repeat (first | exact Below.refl _ _ | apply below_drewN | apply below_alloc))⟩

theorem refRight1b (n : Int) (f : Nat) (s : ByteArray) (w : World) (c1 : (n == 0) = true) (c2 : ((f : Int) == 0) = false) :
    Calls Try.prog 58 #[VAL 1 n f s] w fun e w' => e = .returned (.bool (false)) ∧ Below w.heap.size w w' := by
  have hx := run_f64bits
  go_enter Try.func58, Try.ntmps58
  go_wp2_with fail
  go_ret
  exact ⟨rfl, (by repeat (first | exact Below.refl _ _ | apply below_drewN | apply below_alloc))⟩

theorem refRight1c (n : Int) (f : Nat) (s : ByteArray) (w : World) (c1 : (n == 0) = false) (c0 : (n == 1) = true) (c2 : ((f : Int) == 0) = true) :
    Calls Try.prog 58 #[VAL 1 n f s] w fun e w' => e = .returned (.bool (s.toList.isEmpty)) ∧ Below w.heap.size w w' := by
  have hx := run_f64bits
  go_enter Try.func58, Try.ntmps58
  go_wp2_with fail
  go_ret
  exact ⟨rfl, (by repeat (first | exact Below.refl _ _ | apply below_drewN | apply below_alloc))⟩

theorem refRight1d (n : Int) (f : Nat) (s : ByteArray) (w : World) (c1 : (n == 0) = false) (c0 : (n == 1) = true) (c2 : ((f : Int) == 0) = false) :
    Calls Try.prog 58 #[VAL 1 n f s] w fun e w' => e = .returned (.bool (false)) ∧ Below w.heap.size w w' := by
  have hx := run_f64bits
  go_enter Try.func58, Try.ntmps58
  go_wp2_with fail
  go_ret
  exact ⟨rfl, (by repeat (first | exact Below.refl _ _ | apply below_drewN | apply below_alloc))⟩

theorem refRight1e (n : Int) (f : Nat) (s : ByteArray) (w : World) (c1 : (n == 0) = false) (c0 : (n == 1) = false) :
    Calls Try.prog 58 #[VAL 1 n f s] w fun e w' => e = .returned (.bool (false)) ∧ Below w.heap.size w w' := by
  have hx := run_f64bits
  go_enter Try.func58, Try.ntmps58
  go_wp2_with fail
  go_ret
  exact ⟨rfl, (by repeat (first | exact Below.refl _ _ | apply below_drewN | apply below_alloc))⟩

theorem refRight2a (n : Int) (f : Nat) (s : ByteArray) (w : World) (c2 : ((f : Int) == 0) = true) :
    Calls Try.prog 58 #[VAL 2 n f s] w fun e w' => e = .returned (.bool (s.toList.isEmpty)) ∧ Below w.heap.size w w' := by
  have hx := run_f64bits
  go_enter Try.func58, Try.ntmps58
  go_wp2_with fail
  go_ret
  exact ⟨rfl, (by repeat (first | exact Below.refl _ _ | apply below_drewN | apply below_alloc))⟩

theorem refRight2b (n : Int) (f : Nat) (s : ByteArray) (w : World) (c2 : ((f : Int) == 0) = false) :
    Calls Try.prog 58 #[VAL 2 n f s] w fun e w' => e = .returned (.bool (false)) ∧ Below w.heap.size w w' := by
  have hx := run_f64bits
  go_enter Try.func58, Try.ntmps58
  go_wp2_with fail
  go_ret
  exact ⟨rfl, (by repeat (first | exact Below.refl _ _ | apply below_drewN | apply below_alloc))⟩

theorem refRight3a (n : Int) (f : Nat) (s : ByteArray) (w : World) (c1 : (n == 0) = true) (c2 : s.toList = []) (hf : Hid (f < 18446744073709551616)) :
    Calls Try.prog 58 #[VAL 3 n f s] w fun e w' => e = .returned (.bool ((canonB f : Int) == (f : Int))) ∧ Below w.heap.size w w' := by
  have hx := run_f64bits
  go_enter Try.func58, Try.ntmps58
  go_wp2_with fail
  go_quiet ((go_at_call 36; exact Calls.quiet_of_same ((bits_any _ hf.out _).mono fun _ _ h => ⟨h.1, h.2.symm⟩)))
  go_wp2
  go_ret
  exact ⟨rfl, (by repeat (first | exact Below.refl _ _ | apply below_drewN | apply below_alloc))⟩

theorem refRight3b (n : Int) (f : Nat) (s : ByteArray) (w : World) (c1 : (n == 0) = true) (c2 : s.toList.isEmpty = false) :
    Calls Try.prog 58 #[VAL 3 n f s] w fun e w' => e = .returned (.bool (false)) ∧ Below w.heap.size w w' := by
  have hx := run_f64bits
  go_enter Try.func58, Try.ntmps58
  go_wp2_with fail
  go_quiet (fail)
  go_wp2
  go_ret
  exact ⟨rfl, (by repeat (first | exact Below.refl _ _ | apply below_drewN | apply below_alloc))⟩

theorem refRight3c (n : Int) (f : Nat) (s : ByteArray) (w : World) (c1 : (n == 0) = false) :
    Calls Try.prog 58 #[VAL 3 n f s] w fun e w' => e = .returned (.bool (false)) ∧ Below w.heap.size w w' := by
  have hx := run_f64bits
  go_enter Try.func58, Try.ntmps58
  go_wp2_with fail
  go_quiet (fail)
  go_wp2
  go_ret
  exact ⟨rfl, (by repeat (first | exact Below.refl _ _ | apply below_drewN | apply below_alloc))⟩

theorem refRight4a (n : Int) (f : Nat) (s : ByteArray) (w : World) (c1 : (n == 0) = true) :
    Calls Try.prog 58 #[VAL 4 n f s] w fun e w' => e = .returned (.bool ((f : Int) == 0)) ∧ Below w.heap.size w w' := by
  have hx := run_f64bits
  go_enter Try.func58, Try.ntmps58
  go_wp2_with fail
  go_ret
  exact ⟨rfl, (by repeat (first | exact Below.refl _ _ | apply below_drewN | apply below_alloc))⟩

theorem refRight4c (n : Int) (f : Nat) (s : ByteArray) (w : World) (c1 : (n == 0) = false) :
    Calls Try.prog 58 #[VAL 4 n f s] w fun e w' => e = .returned (.bool (false)) ∧ Below w.heap.size w w' := by
  have hx := run_f64bits
  go_enter Try.func58, Try.ntmps58
  go_wp2_with fail
  go_ret
  exact ⟨rfl, (by repeat (first | exact Below.refl _ _ | apply below_drewN | apply below_alloc))⟩

theorem refRight5 (k n : Int) (f : Nat) (s : ByteArray) (w : World) (h0 : (k == 0) = false) (h1 : (k == 1) = false) (h2 : (k == 2) = false) (h3 : (k == 3) = false) (h4 : (k == 4) = false) :
    Calls Try.prog 58 #[VAL k n f s] w fun e w' => e = .returned (.bool false) ∧ Below w.heap.size w w' := by
  have hx := run_f64bits
  go_enter Try.func58, Try.ntmps58
  go_wp2
  go_ret
  exact ⟨rfl, (by repeat (first | exact Below.refl _ _ | apply below_drewN | apply below_alloc))⟩
end Go.Proofs.Ytbolojjnkkgehaa
