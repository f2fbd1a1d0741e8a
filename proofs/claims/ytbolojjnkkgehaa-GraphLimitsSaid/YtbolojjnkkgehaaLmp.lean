import Derived.Test.YtbolojjnkkgehaaItx
/-! GraphLimits: plain facts on the graph that it makes. -/
namespace Go.Proofs.Ytbolojjnkkgehaa
open Go.RowKit

def nmL (c : UInt8) (i : Nat) : ByteArray := ⟨(c :: decF 3 i).toArray⟩
def valL (l : List UInt8) : Nat := l.foldl (fun a c => a * 10 + (c.toNat - 48)) 0
theorem val_dec {i : Nat} (h : i < 1200) : valL (decF 3 i) = i := by
  have h1 : (List.range 1200).all (fun i => valL (decF 3 i) == i) = true := by decide +kernel
  have := List.all_eq_true.1 h1 i (by simpa using h)
  simpa using this
theorem nmL_inj {c : UInt8} {i j : Nat} (hi : i < 1200) (hj : j < 1200) (h : nmL c i = nmL c j) : i = j := by
  have h1 : decF 3 i = decF 3 j := by
    unfold nmL at h
    injection h with h
    have := congrArg Array.toList h
    simpa using this
  rw [← val_dec hi, ← val_dec hj, h1]
theorem nmL_word {i : Nat} (h : i < 1200) : nodeB ⟨nmL 110 i, [], []⟩ = true ∧ elemB (nmL 101 i) [] [] = true := by
  have h1 : (List.range 1200).all (fun i => nodeB ⟨nmL 110 i, [], []⟩ && elemB (nmL 101 i) [] []) = true := by decide +kernel
  have := List.all_eq_true.1 h1 i (by simpa using h)
  simpa using this
def limE (n m : Nat) : List EX := (List.range m).map fun i => ⟨⟨nmL 101 i, ((i % n : Nat) : Int), ((i * 7 % n : Nat) : Int), false, [], []⟩, .slice none 0 0, .slice none 0 0⟩
def limN (n : Nat) : List NX := (List.range n).map fun i => ⟨⟨nmL 110 i, [], []⟩, .slice none 0 0, .slice none 0 0⟩
/-- With the last node's name another one. -/
def limT (n : Nat) : List NX := (List.range n).map fun i => ⟨⟨if i = n - 1 then nmL 110 0 else nmL 110 i, [], []⟩, .slice none 0 0, .slice none 0 0⟩
theorem limN_length (n : Nat) : (limN n).length = n := by simp [limN]
theorem limT_length (n : Nat) : (limT n).length = n := by simp [limT]
theorem limE_length (n m : Nat) : (limE n m).length = m := by simp [limE]
theorem strAt_range (f : Nat → ByteArray) (n i : Nat) (h : i < n) : strAt ((List.range n).map f) i = f i := by rw [strAt_eq (by simpa using h)]; simp
theorem lim_big (xs : List NX) (es : List EX) (h : 1000 < xs.length ∨ 1000 < es.length) : rightN xs es = 6 := by unfold rightN; rw [if_pos h]
theorem distE (n m : Nat) (hm : m ≤ 1200) : distB ((limE n m).map (·.d.nm)) = true := by
  rw [distB_iff]
  have e : (limE n m).map (·.d.nm) = (List.range m).map (nmL 101) := by simp [limE, Function.comp_def]
  rw [e]
  intro i j hij hj
  simp only [List.length_map, List.length_range] at hj
  rw [strAt_range _ _ _ (by omega), strAt_range _ _ _ hj]
  intro h
  have := nmL_inj (by omega) (by omega) h
  omega
theorem distN (n : Nat) (hn : n ≤ 1200) : distB ((limN n).map (·.d.nm)) = true := by
  rw [distB_iff]
  have e : (limN n).map (·.d.nm) = (List.range n).map (nmL 110) := by simp [limN, Function.comp_def]
  rw [e]
  intro i j hij hj
  simp only [List.length_map, List.length_range] at hj
  rw [strAt_range _ _ _ (by omega), strAt_range _ _ _ hj]
  intro h
  have := nmL_inj (by omega) (by omega) h
  omega
theorem distT (n : Nat) (hn : 1 < n) : distB ((limT n).map (·.d.nm)) = false := by
  cases h : distB ((limT n).map (·.d.nm)) with
  | false => rfl
  | true =>
    have e : (limT n).map (·.d.nm) = (List.range n).map fun i => if i = n - 1 then nmL 110 0 else nmL 110 i := by simp [limT, Function.comp_def]
    rw [e, distB_iff] at h
    have h1 := h 0 (n - 1) (by omega) (by simp; omega)
    rw [strAt_range _ _ _ (by omega), strAt_range _ _ _ (by omega)] at h1
    exact absurd (by rw [if_neg (by omega), if_pos rfl]) h1
theorem edAt_lim {n m j : Nat} (h : j < m) : (edAt (limE n m) j).d = ⟨nmL 101 j, ((j % n : Nat) : Int), ((j * 7 % n : Nat) : Int), false, [], []⟩ := by
  rw [edAt_eq (by rw [limE_length]; exact h)]
  simp [limE]
theorem ndAt_lim {n j : Nat} (h : j < n) : (ndAt (limN n) j).d = ⟨nmL 110 j, [], []⟩ := by
  rw [ndAt_eq (by rw [limN_length]; exact h)]
  simp [limN]
theorem lim_ok (n m : Nat) (h0 : 0 < n) (hn : n ≤ 1000) (hm : m ≤ 1000) : rightN (limN n) (limE n m) = 0 := by
  have h1 : okE (limN n) (limE n m) m = true := by
    unfold okE okN startB
    rw [distN n (by omega), distE n m (by omega), limN_length]
    simp only [Bool.and_self, Bool.true_and, Bool.and_eq_true, List.all_eq_true, List.mem_range]
    refine ⟨fun j hj => ?_, fun j hj => ?_⟩
    · rw [ndAt_lim hj]; exact (nmL_word (by omega)).1
    · rw [edAt_lim hj]
      unfold edgeB inB
      have a := Nat.mod_lt j h0
      have b := Nat.mod_lt (j * 7) h0
      rw [(nmL_word (by omega)).2]
      simp only [Bool.true_and, Bool.and_eq_true, decide_eq_true_eq]
      omega
  unfold rightN
  rw [limN_length, limE_length, if_neg (by omega), h1]
  rfl
theorem lim_twice (n m : Nat) (h1 : 1 < n) (hn : n ≤ 1000) (hm : m ≤ 1000) : rightN (limT n) (limE n m) = 1 := by
  have h2 : okE (limT n) (limE n m) m = false := by
    unfold okE okN startB
    rw [distT n h1]
    simp
  unfold rightN
  rw [limT_length, limE_length, if_neg (by omega), h2]
  rfl
end Go.Proofs.Ytbolojjnkkgehaa
