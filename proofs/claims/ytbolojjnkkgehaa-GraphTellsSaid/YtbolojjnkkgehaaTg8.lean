import Derived.Test.YtbolojjnkkgehaaTg7
/-! GraphTells: plain facts. -/
namespace Go.Proofs.Ytbolojjnkkgehaa
open Go.RowKit

theorem fst_range (l : List ByteArray) (nm : ByteArray) : fstI l nm = -1 ∨ ∃ k : Nat, k < l.length ∧ fstI l nm = (k : Int) := by
  unfold fstI
  cases h : l.findIdx? (fun s => s.toList == nm.toList) with
  | none => exact .inl rfl
  | some i =>
    have := (List.findIdx?_eq_some_iff_getElem.1 h).1
    exact .inr ⟨i, this, rfl⟩
theorem fst_spec {l : List ByteArray} {nm : ByteArray} {k : Nat} (h : fstI l nm = (k : Int)) : k < l.length ∧ strAt l k = nm := by
  unfold fstI at h
  cases h1 : l.findIdx? (fun s => s.toList == nm.toList) with
  | none => rw [h1] at h; simp only at h; omega
  | some i =>
    rw [h1] at h
    simp only at h
    obtain rfl : i = k := by omega
    obtain ⟨h2, h3, _⟩ := List.findIdx?_eq_some_iff_getElem.1 h1
    exact ⟨h2, by rw [strAt_eq h2]; exact toList_inj (beq_iff_eq.1 h3)⟩
theorem fst_no {l : List ByteArray} {nm : ByteArray} (h : fstI l nm = -1) : ∀ j, j < l.length → strAt l j ≠ nm := fun j hj e => by
  unfold fstI at h
  cases h1 : l.findIdx? (fun s => s.toList == nm.toList) with
  | some i => rw [h1] at h; simp only at h; omega
  | none =>
    have := List.findIdx?_eq_none_iff.1 h1 l[j] (List.getElem_mem hj)
    rw [strAt_eq hj] at e
    rw [e] at this
    simp at this
/-- With names that are all unlike, the last place is the first one. -/
theorem findI_fst {l : List ByteArray} (hd : distB l = true) (nm : ByteArray) : findI l nm l.length = fstI l nm := by
  rw [distB_iff] at hd
  rcases fst_range l nm with h | ⟨k, hk, h⟩
  · rw [h]
    exact (findI_none l nm l.length).2 (fst_no h)
  · rw [h]
    have h2 := (fst_spec h).2
    have h3 := findI_lt l nm l.length
    have h4 : findI l nm l.length ≠ -1 := fun e => (findI_none l nm l.length).1 e k hk h2
    have h5 : 0 ≤ findI l nm l.length := by omega
    have h6 := findI_some l nm l.length h5
    have h7 : (findI l nm l.length).toNat = k := by
      rcases Nat.lt_trichotomy (findI l nm l.length).toNat k with e | e | e
      · exact absurd (h6.trans h2.symm) (hd _ _ e hk)
      · exact e
      · exact absurd (h2.trans h6.symm) (hd _ _ e (by omega))
    omega
theorem right_dist {xs : List NX} {es : List EX} (h : rightN xs es = 0) : distB (xs.map (·.d.nm)) = true ∧ distB (es.map (·.d.nm)) = true := by
  have h1 : okE xs es es.length = true := by
    unfold rightN at h
    split at h
    · omega
    · cases h2 : okE xs es es.length with
      | true => rfl
      | false => rw [h2] at h; simp at h
  have h2 := (Bool.and_eq_true_iff.1 (Bool.and_eq_true_iff.1 (Bool.and_eq_true_iff.1 h1).1).1)
  exact h2
theorem FOUND_neg : FOUND (-1) = .tuple #[.int .i64 0, .bool false] := rfl
theorem FOUND_nat (k : Nat) : FOUND (k : Int) = .tuple #[.int .i64 (k : Int), .bool true] := by
  unfold FOUND
  rw [Int.max_eq_left (by omega)]
  simp
theorem prpL_wf {w : World} {nv : Value} {xs : List NX} {ev : Value} {es : List EX} (hn : Nodes w nv xs) (he : Edges w ev es) (edge : Bool) (x : Int) : ∀ p ∈ prpL (xs.map (·.d)) (es.map (·.d)) edge x, p.f < 18446744073709551616 := by
  unfold prpL
  cases edge with
  | true =>
    simp only [if_true, List.length_map]
    split
    · rename_i hi
      have hi2 : 0 ≤ x ∧ x < (es.length : Int) := by simpa [inB] using hi
      have hl : x.toNat < es.length := by omega
      rw [edD_map hl, edAt_eq hl]
      exact fun p hp => ((he.ps _ (List.getElem_mem hl)).wf p hp).f
    · simp
  | false =>
    simp only [Bool.false_eq_true, if_false, List.length_map]
    split
    · rename_i hi
      have hi2 : 0 ≤ x ∧ x < (xs.length : Int) := by simpa [inB] using hi
      have hl : x.toNat < xs.length := by omega
      rw [ndD_map hl, ndAt_eq hl]
      exact fun p hp => ((hn.ps _ (List.getElem_mem hl)).wf p hp).f
    · simp
theorem prGet_f {l : List Pr} (h : ∀ p ∈ l, p.f < 18446744073709551616) (nm : ByteArray) : (prGet l nm).f < 18446744073709551616 := by
  unfold prGet
  cases hf : l.find? (fun q => decide (q.nm = nm)) with
  | none => decide
  | some q => exact h q (List.mem_of_find?_eq_some hf)

/-- What GraphTells keeps: the graph's and the element's cells, the index. -/
structure GT (w wr : World) (B p : Nat) (nv ev : Value) (ns : List Nd) (es : List Ed) (edge : Bool) (x : Int) : Prop where
  gs : GS w wr B p nv ev ns es
  el : TwoAt wr (B + 1) (.bool edge) (.int .i64 x)
theorem GT.next {w wr wr' : World} {B p : Nat} {nv ev : Value} {ns : List Nd} {es : List Ed} {edge : Bool} {x : Int} (h : GT w wr B p nv ev ns es edge x) (hb : Below wr.heap.size wr wr') : GT w wr' B p nv ev ns es edge x :=
  ⟨h.gs.next hb, h.el.below hb (World.block_lt_of_cell? wr _ h.el.c0)⟩
/-- A literal of one text. -/
theorem own_lit1 (w : World) (s : ByteArray) (B : Nat) (hB : B ≤ w.heap.size) : OwnS (w.alloc (.cells #[.string s] 9)) B (.slice (some ⟨w.heap.size, 0, none⟩) 1 1) [s] :=
  ⟨rfl, .inr ⟨w.heap.size, 1, #[.string s], rfl, hB, heap_alloc_new w _, Nat.le_refl _, by unfold maxLen; omega, rfl, rfl⟩⟩
end Go.Proofs.Ytbolojjnkkgehaa
