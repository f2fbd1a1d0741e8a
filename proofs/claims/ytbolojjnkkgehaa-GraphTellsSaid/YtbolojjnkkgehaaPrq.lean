import Derived.Test.YtbolojjnkkgehaaPrp
import Derived.Test.YtbolojjnkkgehaaTu
/-! GraphProps: plain facts on properties. -/
namespace Go.Proofs.Ytbolojjnkkgehaa
open Go.RowKit

/-- Properties that may be. -/
structure PropsOK (l : List Pr) : Prop where
  ok : propsB l = true
  ris : risingB (l.map (·.nm)) = true
theorem PropsOK.nil : PropsOK [] := ⟨rfl, rfl⟩
theorem elem_props {nm : ByteArray} {ls : List ByteArray} {ps : List Pr} (h : elemB nm ls ps = true) : PropsOK ps := by
  unfold elemB at h
  simp only [Bool.and_eq_true] at h
  exact ⟨h.1, h.2.2.2⟩
theorem right_props {xs : List NX} {es : List EX} (h : rightN xs es = 0) (edge : Bool) (x : Int) : PropsOK (prpL (xs.map (·.d)) (es.map (·.d)) edge x) := by
  have h1 : okE xs es es.length = true := by
    unfold rightN at h
    split at h
    · omega
    · cases h2 : okE xs es es.length with
      | true => rfl
      | false => rw [h2] at h; simp at h
  have h2 := Bool.and_eq_true_iff.1 h1
  have h3 := Bool.and_eq_true_iff.1 h2.1
  unfold prpL
  cases edge with
  | true =>
    simp only [if_true, List.length_map]
    split
    · rename_i hi
      have hi2 : 0 ≤ x ∧ x < (es.length : Int) := by simpa [inB] using hi
      have hl : x.toNat < es.length := by omega
      rw [edD_map hl]
      have h4 := List.all_eq_true.1 h2.2 x.toNat (List.mem_range.2 hl)
      exact elem_props (Bool.and_eq_true_iff.1 h4).1
    · exact PropsOK.nil
  | false =>
    simp only [Bool.false_eq_true, if_false, List.length_map]
    split
    · rename_i hi
      have hi2 : 0 ≤ x ∧ x < (xs.length : Int) := by simpa [inB] using hi
      have hl : x.toNat < xs.length := by omega
      rw [ndD_map hl]
      have h4 := List.all_eq_true.1 h3.2 x.toNat (List.mem_range.2 hl)
      exact elem_props h4
    · exact PropsOK.nil
/-- A property's own name tells it. -/
theorem prGet_self {l : List Pr} (h : PropsOK l) {k : Nat} (hk : k < l.length) : prGet l (prAt l k).nm = prAt l k := by
  unfold prGet
  have hf : (l.find? fun q => decide (q.nm = (prAt l k).nm)) = some l[k] := by
    rw [List.find?_eq_some_iff_getElem]
    refine ⟨by rw [prAt_eq hk]; simp, k, hk, rfl, fun j hj => ?_⟩
    have h8 := rising_less h.ris hj (by simpa using hk)
    rw [nm_at (by omega), nm_at hk] at h8
    have h7 : l[j].nm ≠ (prAt l k).nm := fun e => by
      rw [← e, prAt_eq (by omega)] at h8
      have := (cmpB_eq l[j].nm l[j].nm).2 rfl
      omega
    simpa using h7
  rw [hf, prAt_eq hk]
  rfl
/-- Does one of these have this name? -/
def hasN (l : List Pr) (k : Nat) (nm : ByteArray) : Bool := (l.take k).any fun q => q.nm.toList == nm.toList
theorem hasN_zero (l : List Pr) (nm : ByteArray) : hasN l 0 nm = false := by simp [hasN]
theorem hasN_succ {l : List Pr} {k : Nat} (hk : k < l.length) (nm : ByteArray) : hasN l (k + 1) nm = (hasN l k nm || ((prAt l k).nm.toList == nm.toList)) := by
  unfold hasN
  rw [List.take_succ_eq_append_getElem hk, List.any_append, prAt_eq hk]
  simp
theorem toList_inj {a b : ByteArray} (h : a.toList = b.toList) : a = b := by
  rw [Lib.toList_data, Lib.toList_data] at h
  obtain ⟨⟨a⟩⟩ := a
  obtain ⟨⟨b⟩⟩ := b
  simp at h
  rw [h]
theorem prOk_at {l : List Pr} (h : PropsOK l) {k : Nat} (hk : k < l.length) : (prAt l k).k ≠ 0 := by
  have h1 := List.all_eq_true.1 h.ok k (List.mem_range.2 hk)
  unfold prOk at h1
  simp only [Bool.and_eq_true, bne_iff_ne, ne_eq] at h1
  exact h1.1
/-- A name is told just if one has it. -/
theorem prGet_has {l : List Pr} (h : PropsOK l) (nm : ByteArray) : ((prGet l nm).k != 0) = hasN l l.length nm := by
  cases hh : hasN l l.length nm with
  | true =>
    unfold hasN at hh
    rw [List.take_length, List.any_eq_true] at hh
    obtain ⟨q, hq, he⟩ := hh
    obtain ⟨k, hk, rfl⟩ := List.getElem_of_mem hq
    have e := toList_inj (beq_iff_eq.1 he)
    rw [← e, ← prAt_eq hk, prGet_self h hk]
    simpa using prOk_at h hk
  | false =>
    unfold hasN at hh
    rw [List.take_length, List.any_eq_false] at hh
    unfold prGet
    have hf : (l.find? fun q => decide (q.nm = nm)) = none := by
      rw [List.find?_eq_none]
      intro x hx he
      have e : x.nm = nm := of_decide_eq_true he
      exact hh x hx (by rw [e]; simp)
    rw [hf]
    rfl
theorem prGet_nil (nm : ByteArray) : prGet [] nm = prNull := rfl
theorem prpL_out {n : Nat} {ns : List Nd} {es : List Ed} (hn : n = ns.length) : prpL ns es false (n : Int) = [] := by subst hn; simp [prpL, inB]
theorem prpL_outE {n : Nat} {ns : List Nd} {es : List Ed} (hn : n = es.length) : prpL ns es true (n : Int) = [] := by subst hn; simp [prpL, inB]
theorem lblL_out {n : Nat} {ns : List Nd} {es : List Ed} (hn : n = ns.length) : lblL ns es false (n : Int) = [] := by subst hn; simp [lblL, inB]
theorem lblL_outE {n : Nat} {ns : List Nd} {es : List Ed} (hn : n = es.length) : lblL ns es true (n : Int) = [] := by subst hn; simp [lblL, inB]
theorem prpL_node {xs : List NX} {es : List Ed} {i : Nat} (hi : i < xs.length) : prpL (xs.map (·.d)) es false (i : Int) = (ndAt xs i).d.ps := by
  have h : inB xs.length (i : Int) = true := by simp [inB]; omega
  simp [prpL, h, ndD_map hi]
theorem prpL_edge {xs : List Nd} {es : List EX} {i : Nat} (hi : i < es.length) : prpL xs (es.map (·.d)) true (i : Int) = (edAt es i).d.ps := by
  have h : inB es.length (i : Int) = true := by simp [inB]; omega
  simp [prpL, h, edD_map hi]
theorem field53 (k n : Int) (f : Nat) (s : ByteArray) (w : World) : (Instr.field 53 (.agg #[.int .i64 k, .int .i64 n, .float .f64 f, .string s]) 0).run Try.prog w = .ok (.int .i64 k) w := by
  unfold Instr.field
  rw [Sem.run_bind, run_underlying Try.underlying53]
  simp [go_sem, asAgg]
theorem same_self (k n : Int) (f : Nat) (s : ByteArray) : sameB k n f s k n f s = true := by simp [sameB]
end Go.Proofs.Ytbolojjnkkgehaa
