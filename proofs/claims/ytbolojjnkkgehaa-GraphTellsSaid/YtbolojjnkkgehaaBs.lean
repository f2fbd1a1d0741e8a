import Derived.Test.YtbolojjnkkgehaaRig
import Derived.Lib.Bytealg
import Derived.Lib.Strings
/-! Comparing texts; searching a rising row of properties: plain facts. -/
namespace Go.Proofs.Ytbolojjnkkgehaa
open Go.RowKit

def cmpB (a b : ByteArray) : Int := Lib.compareBytes a.data.toList b.data.toList
instance : Trans (α := UInt8) (β := UInt8) (γ := UInt8) (· < ·) (· < ·) (· < ·) := ⟨UInt8.lt_trans⟩
theorem compare_lt : ∀ (a b : List UInt8), Lib.compareBytes a b < 0 ↔ a < b
  | [], [] => by simp [Lib.compareBytes]
  | [], _ :: _ => by simp [Lib.compareBytes]
  | _ :: _, [] => by simp [Lib.compareBytes]
  | a :: at_, b :: bs => by
    have ih := compare_lt at_ bs
    rw [List.cons_lt_cons_iff, ← ih]
    rw [Lib.compareBytes]
    by_cases h : a < b
    · simp [h]
    · by_cases h2 : b < a
      · have h3 : a ≠ b := fun e => by subst e; exact UInt8.lt_irrefl _ h2
        simp [h, h2, h3]
      · have h3 : a = b := UInt8.le_antisymm (UInt8.not_lt.1 h2) (UInt8.not_lt.1 h)
        subst h3
        simp
theorem compare_eq : ∀ (a b : List UInt8), Lib.compareBytes a b = 0 ↔ a = b
  | [], [] => by simp [Lib.compareBytes]
  | [], _ :: _ => by simp [Lib.compareBytes]
  | _ :: _, [] => by simp [Lib.compareBytes]
  | a :: at_, b :: bs => by
    have ih := compare_eq at_ bs
    rw [List.cons.injEq, ← ih]
    rw [Lib.compareBytes]
    by_cases h : a < b
    · have h3 : a ≠ b := fun e => by subst e; exact UInt8.lt_irrefl _ h
      simp [h, h3]
    · by_cases h2 : b < a
      · have h3 : a ≠ b := fun e => by subst e; exact UInt8.lt_irrefl _ h2
        simp [h, h2, h3]
      · have h3 : a = b := UInt8.le_antisymm (UInt8.not_lt.1 h2) (UInt8.not_lt.1 h)
        subst h3
        simp
theorem cmpB_lt (a b : ByteArray) : cmpB a b < 0 ↔ a.data.toList < b.data.toList := compare_lt _ _
theorem cmpB_eq (a b : ByteArray) : cmpB a b = 0 ↔ a = b := by
  unfold cmpB
  rw [compare_eq]
  refine ⟨fun h => ?_, fun h => by rw [h]⟩
  obtain ⟨⟨a⟩⟩ := a
  obtain ⟨⟨b⟩⟩ := b
  simp at h
  rw [h]
theorem less_compare : ∀ (a b : List UInt8), Op.bytesLess a b = true ↔ Lib.compareBytes a b < 0
  | [], [] => by simp [Lib.compareBytes, Op.bytesLess]
  | [], _ :: _ => by simp [Lib.compareBytes, Op.bytesLess]
  | _ :: _, [] => by simp [Lib.compareBytes, Op.bytesLess]
  | a :: at_, b :: bs => by
    have ih := less_compare at_ bs
    rw [Lib.compareBytes, Op.bytesLess]
    by_cases h : a < b
    · simp [h]
    · by_cases h2 : b < a
      · have h3 : a ≠ b := fun e => by subst e; exact UInt8.lt_irrefl _ h2
        simp [h, h2, h3]
      · have h3 : a = b := UInt8.le_antisymm (UInt8.not_lt.1 h2) (UInt8.not_lt.1 h)
        subst h3
        simp [ih]
theorem less_lt (a b : ByteArray) : Op.bytesLess a.toList b.toList = true ↔ cmpB a b < 0 := by
  rw [cmpB_lt, ← compare_lt, Lib.toList_data, Lib.toList_data, less_compare]
/-- Whatever stands ahead is less. -/
theorem rising_lt {l : List ByteArray} (h : risingB l = true) : ∀ (d i : Nat), i + d + 1 < l.length → cmpB (strAt l i) (strAt l (i + d + 1)) < 0
  | 0, i, hj => by
    have h1 := List.all_eq_true.1 h (i + 1) (List.mem_range.2 hj)
    have h2 : Op.bytesLess (strAt l i).toList (strAt l (i + 1)).toList = true := by
      unfold risAt at h1
      simpa using (Bool.and_eq_true_iff.1 h1).2
    exact (less_lt _ _).1 h2
  | d + 1, i, hj => by
    have h1 := rising_lt h d i (by omega)
    have h2 := rising_lt h 0 (i + d + 1) (by omega)
    rw [cmpB_lt] at h1 h2 ⊢
    exact List.lt_trans h1 h2
theorem rising_less {l : List ByteArray} (h : risingB l = true) {i j : Nat} (hij : i < j) (hj : j < l.length) : cmpB (strAt l i) (strAt l j) < 0 := by
  have := rising_lt h (j - i - 1) i (by omega)
  rwa [show i + (j - i - 1) + 1 = j by omega] at this

def prNull : Pr := ⟨⟨#[]⟩, 0, 0, 0, ⟨#[]⟩⟩
/-- The property of a name. -/
def prGet (l : List Pr) (nm : ByteArray) : Pr := (l.find? fun q => decide (q.nm = nm)).getD prNull
theorem nm_at {l : List Pr} {i : Nat} (h : i < l.length) : strAt (l.map (·.nm)) i = (prAt l i).nm := by rw [strAt_eq (by simpa using h), prAt_eq h]; simp
/-- What the search tells. -/
def Srch (l : List Pr) (nm : ByteArray) (i : Nat) (b : Bool) : Prop := i ≤ l.length ∧ (∀ t, t < i → cmpB (prAt l t).nm nm < 0) ∧ (∀ t, i ≤ t → t < l.length → 0 ≤ cmpB (prAt l t).nm nm) ∧ b = (decide (i < l.length) && decide (cmpB (prAt l i).nm nm = 0))
theorem srch_get {l : List Pr} {nm : ByteArray} {i : Nat} {b : Bool} (h : Srch l nm i b) (hr : risingB (l.map (·.nm)) = true) : (b = true → i < l.length ∧ prGet l nm = prAt l i) ∧ (b = false → prGet l nm = prNull) := by
  obtain ⟨h1, h2, h3, h4⟩ := h
  refine ⟨fun hb => ?_, fun hb => ?_⟩
  · rw [hb] at h4
    have h5 := Bool.and_eq_true_iff.1 h4.symm
    have hi : i < l.length := of_decide_eq_true h5.1
    have he : (prAt l i).nm = nm := (cmpB_eq _ _).1 (of_decide_eq_true h5.2)
    refine ⟨hi, ?_⟩
    unfold prGet
    have hf : (l.find? fun q => decide (q.nm = nm)) = some l[i] := by
      rw [List.find?_eq_some_iff_getElem]
      refine ⟨by rw [prAt_eq hi] at he; simpa using he, i, hi, rfl, fun j hj => ?_⟩
      have h6 := h2 j hj
      rw [prAt_eq (by omega)] at h6
      have h7 : l[j].nm ≠ nm := fun e => by have := (cmpB_eq _ _).2 e; omega
      simpa using h7
    rw [hf, prAt_eq hi]
    rfl
  · rw [hb] at h4
    unfold prGet
    have hf : (l.find? fun q => decide (q.nm = nm)) = none := by
      rw [List.find?_eq_none]
      intro x hx
      obtain ⟨k, hk, rfl⟩ := List.getElem_of_mem hx
      have h7 : l[k].nm ≠ nm := fun e => by
        have e0 : cmpB (prAt l k).nm nm = 0 := by rw [prAt_eq hk, e]; exact (cmpB_eq _ _).2 rfl
        rcases Nat.lt_trichotomy k i with hki | hki | hki
        · have := h2 k hki; omega
        · subst hki
          simp [hk, e0] at h4
        · have h8 := rising_less hr hki (by simpa using hk)
          rw [nm_at (by omega), nm_at hk] at h8
          have e1 : (prAt l k).nm = nm := by rw [prAt_eq hk, e]
          rw [e1] at h8
          have := h3 i (Nat.le_refl _) (by omega)
          omega
      simpa using h7
    rw [hf]
    rfl
theorem srch_mono {l : List Pr} {nm : ByteArray} (hr : risingB (l.map (·.nm)) = true) {a b : Nat} (hab : a ≤ b) (hb : b < l.length) (h : cmpB (prAt l b).nm nm < 0) : cmpB (prAt l a).nm nm < 0 := by
  rcases Nat.lt_or_eq_of_le hab with h1 | rfl
  · have h8 := rising_less hr h1 (by simpa using hb)
    rw [nm_at (by omega), nm_at hb] at h8
    rw [cmpB_lt] at h h8 ⊢
    exact List.lt_trans h8 h
  · exact h
end Go.Proofs.Ytbolojjnkkgehaa
