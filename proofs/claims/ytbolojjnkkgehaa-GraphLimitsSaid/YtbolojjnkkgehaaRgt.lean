import Derived.Test.YtbolojjnkkgehaaVar
namespace Go.Proofs.Ytbolojjnkkgehaa
open Go.RowKit

/-- Is a value right? -/
def rightB (k n : Int) (f : Nat) (s : ByteArray) : Bool :=
  if k = 0 then n == 0 && (s.toList.isEmpty && (f : Int) == 0)
  else if k = 1 then (n == 0 || n == 1) && (s.toList.isEmpty && (f : Int) == 0)
  else if k = 2 then s.toList.isEmpty && (f : Int) == 0
  else if k = 3 then n == 0 && (s.toList.isEmpty && (f : Int) == (canonB f : Int))
  else if k = 4 then n == 0 && (f : Int) == 0
  else false

theorem of_res {P : Program} {fn : FuncId} {args : Array Value} {w : World} {b b' : Bool} (h : Calls P fn args w fun e w' => e = .returned (.bool b) ∧ Below w.heap.size w w') (hb : b = b') :
    Calls P fn args w fun e w' => e = .returned (.bool b') ∧ Below w.heap.size w w' := hb ▸ h

theorem empty_of {s : ByteArray} (h : s.toList.isEmpty = true) : s.toList = [] := by simpa using h

theorem right_any (k n : Int) (f : Nat) (s : ByteArray) (w : World) :
    Calls Try.prog 52 #[VAL k n f s] w fun e w' => e = .returned (.bool (rightB k n f s)) ∧ Below w.heap.size w w' := by
  by_cases h0 : k = 0
  · subst h0
    cases hn : (n == 0)
    · exact of_res (right0c n f s w hn) (by simp [rightB, hn])
    · cases hs : s.toList.isEmpty
      · exact of_res (right0b n f s w hn hs) (by simp [rightB, hn, hs])
      · exact of_res (right0a n f s w hn (empty_of hs)) (by simp [rightB, hn, hs])
  by_cases h1 : k = 1
  · subst h1
    cases hn1 : (n == 1)
    · cases hn : (n == 0)
      · exact of_res (right1e n f s w hn1 hn) (by simp [rightB, hn, hn1])
      · cases hs : s.toList.isEmpty
        · exact of_res (right1d n f s w hn1 hn hs) (by simp [rightB, hs])
        · exact of_res (right1c n f s w hn1 hn (empty_of hs)) (by simp [rightB, hn, hs])
    · cases hs : s.toList.isEmpty
      · exact of_res (right1b n f s w hn1 hs) (by simp [rightB, hs])
      · exact of_res (right1a n f s w hn1 (empty_of hs)) (by simp [rightB, hn1, hs])
  by_cases h2 : k = 2
  · subst h2
    cases hs : s.toList.isEmpty
    · exact of_res (right2b n f s w hs) (by simp [rightB, hs])
    · exact of_res (right2a n f s w (empty_of hs)) (by simp [rightB, hs])
  by_cases h3 : k = 3
  · subst h3
    cases hn : (n == 0)
    · exact of_res (right3c n f s w hn) (by simp [rightB, hn])
    · cases hs : s.toList.isEmpty
      · exact of_res (right3b n f s w hn hs) (by simp [rightB, hs])
      · exact of_res (right3a n f s w hn (empty_of hs)) (by simp [rightB, hn, hs])
  by_cases h4 : k = 4
  · subst h4
    cases hn : (n == 0)
    · exact of_res (right4c n f s w hn) (by simp [rightB, hn])
    · exact of_res (right4a n f s w hn) (by simp [rightB, hn])
  · exact of_res (right5 k n f s w (by simpa using h0) (by simpa using h1) (by simpa using h2) (by simpa using h3) (by simpa using h4)) (by simp [rightB, h0, h1, h2, h3, h4])

theorem refRight_any (k n : Int) (f : Nat) (s : ByteArray) (w : World) (hf : f < 18446744073709551616) :
    Calls Try.prog 58 #[VAL k n f s] w fun e w' => e = .returned (.bool (rightB k n f s)) ∧ Below w.heap.size w w' := by
  by_cases h0 : k = 0
  · subst h0
    cases hn : (n == 0)
    · exact of_res (refRight0c n f s w hn) (by simp [rightB, hn])
    · cases hz : ((f : Int) == 0)
      · exact of_res (refRight0b n f s w hn hz) (by simp [rightB, hz])
      · exact of_res (refRight0a n f s w hn hz) (by simp [rightB, hn, hz])
  by_cases h1 : k = 1
  · subst h1
    cases hn : (n == 0)
    · cases hn1 : (n == 1)
      · exact of_res (refRight1e n f s w hn hn1) (by simp [rightB, hn, hn1])
      · cases hz : ((f : Int) == 0)
        · exact of_res (refRight1d n f s w hn hn1 hz) (by simp [rightB, hz])
        · exact of_res (refRight1c n f s w hn hn1 hz) (by simp [rightB, hn1, hz])
    · cases hz : ((f : Int) == 0)
      · exact of_res (refRight1b n f s w hn hz) (by simp [rightB, hz])
      · exact of_res (refRight1a n f s w hn hz) (by simp [rightB, hn, hz])
  by_cases h2 : k = 2
  · subst h2
    cases hz : ((f : Int) == 0)
    · exact of_res (refRight2b n f s w hz) (by simp [rightB, hz])
    · exact of_res (refRight2a n f s w hz) (by simp [rightB, hz])
  by_cases h3 : k = 3
  · subst h3
    cases hn : (n == 0)
    · exact of_res (refRight3c n f s w hn) (by simp [rightB, hn])
    · cases hs : s.toList.isEmpty
      · exact of_res (refRight3b n f s w hn hs) (by simp [rightB, hs])
      · exact of_res (refRight3a n f s w hn (empty_of hs) hf) (by simp [rightB, hn, hs]; rw [Bool.eq_iff_iff]; simp; omega)
  by_cases h4 : k = 4
  · subst h4
    cases hn : (n == 0)
    · exact of_res (refRight4c n f s w hn) (by simp [rightB, hn])
    · exact of_res (refRight4a n f s w hn) (by simp [rightB, hn])
  · exact of_res (refRight5 k n f s w (by simpa using h0) (by simpa using h1) (by simpa using h2) (by simpa using h3) (by simpa using h4)) (by simp [rightB, h0, h1, h2, h3, h4])
theorem rightB_0 : rightB 0 0 0 ⟨#[]⟩ = true := by simp [rightB]
theorem rightB_1 (n : Int) : rightB 1 n 0 ⟨#[]⟩ = (n == 0 || n == 1) := by simp [rightB]
theorem rightB_2 (n : Int) : rightB 2 n 0 ⟨#[]⟩ = true := by simp [rightB]
theorem rightB_3 (f : Nat) (h : canonB f = f) : rightB 3 0 f ⟨#[]⟩ = true := by simp [rightB, h]
theorem rightB_4 (s : ByteArray) : rightB 4 0 0 s = true := by simp [rightB]
attribute [irreducible] rightB
/-- Are two values the same? -/
def sameB (k n : Int) (f : Nat) (s : ByteArray) (k' n' : Int) (f' : Nat) (s' : ByteArray) : Bool :=
  (k == k') && ((n == n') && ((s.toList == s'.toList) && ((canonB f : Int) == (canonB f' : Int))))

set_option maxHeartbeats 1000000 in
theorem same_any (k n : Int) (f : Nat) (s : ByteArray) (k' n' : Int) (f' : Nat) (s' : ByteArray) (w : World) (hf : f < 18446744073709551616) (hf' : f' < 18446744073709551616) :
    Calls Try.prog 16 #[VAL k n f s, VAL k' n' f' s'] w fun e w' => e = .returned (.bool (sameB k n f s k' n' f' s')) ∧ Below w.heap.size w w' := by
  have HF := Lib.hid hf
  have HF' := Lib.hid hf'
  clear hf hf'
  cases c1 : (k == k') with
  | false =>
    refine of_res (b := false) ?_ (by simp [sameB, c1])
    go_enter Try.func16, Try.ntmps16
    go_wp2_with fail
    go_quiet (fail)
    go_wp2
    go_ret
    exact ⟨rfl, (by repeat (first | exact Below.refl _ _ | apply below_drewN | apply below_alloc))⟩
  | true =>
  cases c2 : (n == n') with
  | false =>
    refine of_res (b := false) ?_ (by simp [sameB, c2])
    go_enter Try.func16, Try.ntmps16
    go_wp2_with fail
    go_quiet (fail)
    go_wp2
    go_ret
    exact ⟨rfl, (by repeat (first | exact Below.refl _ _ | apply below_drewN | apply below_alloc))⟩
  | true =>
  cases c3 : (s.toList == s'.toList) with
  | false =>
    refine of_res (b := false) ?_ (by simp [sameB, c3])
    go_enter Try.func16, Try.ntmps16
    go_wp2_with fail
    go_quiet (fail)
    go_wp2
    go_ret
    exact ⟨rfl, (by repeat (first | exact Below.refl _ _ | apply below_drewN | apply below_alloc))⟩
  | true =>
    refine of_res (b := ((canonB f : Int) == (canonB f' : Int))) ?_ (by simp [sameB, c1, c2, c3])
    go_enter Try.func16, Try.ntmps16
    go_wp2_with fail
    go_quiet ((go_at_call 36; exact Calls.quiet_of_same ((bits_any _ (by first | exact HF.out | exact HF'.out) _).mono fun _ _ h => ⟨h.1, h.2.symm⟩)))
    go_wp2
    go_ret
    exact ⟨rfl, (by repeat (first | exact Below.refl _ _ | apply below_drewN | apply below_alloc))⟩
end Go.Proofs.Ytbolojjnkkgehaa
