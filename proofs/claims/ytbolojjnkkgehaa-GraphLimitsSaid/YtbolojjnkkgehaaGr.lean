import Derived.Test.YtbolojjnkkgehaaRgt
/-! Plain graphs, and how they lie in memory. -/
namespace Go.Proofs.Ytbolojjnkkgehaa
open Go.RowKit

/-- A property. -/
structure Pr where
  nm : ByteArray
  k : Int
  n : Int
  f : Nat
  s : ByteArray
/-- A node. -/
structure Nd where
  nm : ByteArray
  ls : List ByteArray
  ps : List Pr
/-- An edge. -/
structure Ed where
  nm : ByteArray
  src : Int
  dst : Int
  dir : Bool
  ls : List ByteArray
  ps : List Pr
/-- A node, and its two slices. -/
structure NX where
  d : Nd
  lv : Value
  pv : Value
structure EX where
  d : Ed
  lv : Value
  pv : Value

structure Pr.Wf (p : Pr) : Prop where
  nm : p.nm.size ≤ maxLen
  k0 : -9223372036854775808 ≤ p.k
  k1 : p.k ≤ 9223372036854775807
  n0 : -9223372036854775808 ≤ p.n
  n1 : p.n ≤ 9223372036854775807
  f : p.f < 18446744073709551616

def cellsS (l : List ByteArray) : List Value := l.map .string
def cellsP (l : List Pr) : List Value := l.flatMap fun p => [.string p.nm, .int .i64 p.k, .int .i64 p.n, .float .f64 p.f, .string p.s]
def cellsN (l : List NX) : List Value := l.flatMap fun x => [.string x.d.nm, x.lv, x.pv]
def cellsE (l : List EX) : List Value := l.flatMap fun x => [.string x.d.nm, .int .i64 x.d.src, .int .i64 x.d.dst, .bool x.d.dir, x.lv, x.pv]

theorem flat_length {α : Type} (k : Nat) (f : α → List Value) (hf : ∀ x, (f x).length = k) : ∀ l : List α, (l.flatMap f).length = l.length * k
  | [] => by simp
  | x :: l => by rw [List.flatMap_cons, List.length_append, hf, flat_length k f hf l, List.length_cons, Nat.add_mul]; omega
theorem flat_at {α : Type} (k : Nat) (f : α → List Value) (hf : ∀ x, (f x).length = k) : ∀ (l : List α) (i j : Nat) (hi : i < l.length), j < k → (l.flatMap f)[i * k + j]? = (f l[i])[j]?
  | [], i, j, hi, _ => by simp at hi
  | x :: l, 0, j, hi, hj => by
    rw [List.flatMap_cons, Nat.zero_mul, Nat.zero_add, List.getElem?_append_left (by rw [hf]; exact hj)]
    rfl
  | x :: l, i + 1, j, hi, hj => by
    rw [List.flatMap_cons, List.getElem?_append_right (by rw [hf, Nat.add_mul]; omega), hf]
    have := flat_at k f hf l i j (by simpa using hi) hj
    rw [show (i + 1) * k + j - k = i * k + j by rw [Nat.add_mul]; omega, this]
    rfl
theorem cellsS_length (l : List ByteArray) : (cellsS l).length = l.length := by simp [cellsS]
theorem cellsP_length (l : List Pr) : (cellsP l).length = l.length * 5 := flat_length 5 _ (fun _ => rfl) l
theorem cellsN_length (l : List NX) : (cellsN l).length = l.length * 3 := flat_length 3 _ (fun _ => rfl) l
theorem cellsE_length (l : List EX) : (cellsE l).length = l.length * 6 := flat_length 6 _ (fun _ => rfl) l
theorem cellsS_append (a b : List ByteArray) : cellsS (a ++ b) = cellsS a ++ cellsS b := by simp [cellsS]
theorem cellsP_append (a b : List Pr) : cellsP (a ++ b) = cellsP a ++ cellsP b := by simp [cellsP]

/-- What lies behind a slice's address. -/
def ReadsL (w : World) (A : Option Addr) (vs : List Value) : Prop := ∀ j u, vs[j]? = some u → ∃ b o, A = some ⟨b, o, none⟩ ∧ w.cell? ⟨b, o + j, none⟩ = some u
theorem ReadsL.below {w w' : World} {A : Option Addr} {vs : List Value} {n : Nat} (h : ReadsL w A vs) (hb : Below n w w') (hn : w.heap.size ≤ n) : ReadsL w' A vs := fun j u hj => by
  obtain ⟨b, o, h1, h2⟩ := h j u hj
  exact ⟨b, o, h1, (hb.cell (p := ⟨b, o + j, none⟩) (Nat.lt_of_lt_of_le (World.block_lt_of_cell? w _ h2) hn)).trans h2⟩
theorem ReadsL.take {w : World} {A : Option Addr} {vs : List Value} (h : ReadsL w A vs) (k : Nat) : ReadsL w A (vs.take k) := fun j u hj => by
  rw [List.getElem?_take] at hj
  split at hj
  · exact h j u hj
  · cases hj

/-- The slice v holds n elements, whose cells these are. -/
def SliceR (w : World) (v : Value) (n : Nat) (cs : List Value) : Prop := ∃ A c, v = .slice A n c ∧ n ≤ c ∧ c ≤ maxLen ∧ (A = none → c = 0) ∧ ReadsL w A cs
theorem SliceR.below {w w' : World} {v : Value} {n m : Nat} {cs : List Value} (h : SliceR w v n cs) (hb : Below m w w') (hm : w.heap.size ≤ m) : SliceR w' v n cs := by
  obtain ⟨A, c, h1, h2, h3, h4, h5⟩ := h
  exact ⟨A, c, h1, h2, h3, h4, h5.below hb hm⟩
theorem SliceR.nil (w : World) : SliceR w (.slice none 0 0) 0 [] := ⟨none, 0, rfl, Nat.le_refl _, by omega, fun _ => rfl, fun j u hj => by simp at hj⟩

structure Strs (w : World) (v : Value) (l : List ByteArray) : Prop where
  sl : SliceR w v l.length (cellsS l)
  len : l.length * 16 ≤ 140737488355328
  wf : ∀ s ∈ l, s.size ≤ maxLen
structure Props (w : World) (v : Value) (l : List Pr) : Prop where
  sl : SliceR w v l.length (cellsP l)
  len : l.length * 56 ≤ 140737488355328
  wf : ∀ p ∈ l, p.Wf
structure Nodes (w : World) (v : Value) (l : List NX) : Prop where
  sl : SliceR w v l.length (cellsN l)
  len : l.length * 64 ≤ 140737488355328
  ls : ∀ x ∈ l, Strs w x.lv x.d.ls
  ps : ∀ x ∈ l, Props w x.pv x.d.ps
  nm : ∀ x ∈ l, x.d.nm.size ≤ maxLen
structure Edges (w : World) (v : Value) (l : List EX) : Prop where
  sl : SliceR w v l.length (cellsE l)
  len : l.length * 88 ≤ 140737488355328
  ls : ∀ x ∈ l, Strs w x.lv x.d.ls
  ps : ∀ x ∈ l, Props w x.pv x.d.ps
  nm : ∀ x ∈ l, x.d.nm.size ≤ maxLen
  s0 : ∀ x ∈ l, -9223372036854775808 ≤ x.d.src ∧ x.d.src ≤ 9223372036854775807
  d0 : ∀ x ∈ l, -9223372036854775808 ≤ x.d.dst ∧ x.d.dst ≤ 9223372036854775807

theorem Strs.below {w w' : World} {v : Value} {l : List ByteArray} {m : Nat} (h : Strs w v l) (hb : Below m w w') (hm : w.heap.size ≤ m) : Strs w' v l := ⟨h.sl.below hb hm, h.len, h.wf⟩
theorem Props.below {w w' : World} {v : Value} {l : List Pr} {m : Nat} (h : Props w v l) (hb : Below m w w') (hm : w.heap.size ≤ m) : Props w' v l := ⟨h.sl.below hb hm, h.len, h.wf⟩
theorem Nodes.below {w w' : World} {v : Value} {l : List NX} {m : Nat} (h : Nodes w v l) (hb : Below m w w') (hm : w.heap.size ≤ m) : Nodes w' v l :=
  ⟨h.sl.below hb hm, h.len, fun x hx => (h.ls x hx).below hb hm, fun x hx => (h.ps x hx).below hb hm, h.nm⟩
theorem Edges.below {w w' : World} {v : Value} {l : List EX} {m : Nat} (h : Edges w v l) (hb : Below m w w') (hm : w.heap.size ≤ m) : Edges w' v l :=
  ⟨h.sl.below hb hm, h.len, fun x hx => (h.ls x hx).below hb hm, fun x hx => (h.ps x hx).below hb hm, h.nm, h.s0, h.d0⟩

theorem SliceR.form {w : World} {v : Value} {n : Nat} {cs : List Value} (h : SliceR w v n cs) : ∃ A c, v = .slice A n c ∧ n ≤ c ∧ c ≤ 9223372036854775807 ∧ (A = none → c = 0) ∧ ReadsL w A cs := by
  obtain ⟨A, c, h1, h2, h3, h4, h5⟩ := h
  exact ⟨A, c, h1, h2, by unfold maxLen at h3; omega, h4, h5⟩

/-- One string of a row. -/
theorem ReadsL.str {w : World} {A : Option Addr} {l : List ByteArray} (h : ReadsL w A (cellsS l)) (i : Nat) (hi : i < l.length) :
    ∃ b o, A = some ⟨b, o, none⟩ ∧ b < w.heap.size ∧ w.cell? ⟨b, o + i, none⟩ = some (.string l[i]) := by
  obtain ⟨b, o, h1, h2⟩ := h i (.string l[i]) (by simp [cellsS, List.getElem?_map, List.getElem?_eq_getElem hi])
  exact ⟨b, o, h1, World.block_lt_of_cell? w _ h2, h2⟩
/-- One property. -/
theorem ReadsL.prop {w : World} {A : Option Addr} {l : List Pr} (h : ReadsL w A (cellsP l)) (i : Nat) (hi : i < l.length) :
    ∃ b o, A = some ⟨b, o, none⟩ ∧ b < w.heap.size ∧ w.cell? ⟨b, o + i * 5, none⟩ = some (.string l[i].nm) ∧ w.cell? ⟨b, o + i * 5 + 1, none⟩ = some (.int .i64 l[i].k) ∧ w.cell? ⟨b, o + i * 5 + 2, none⟩ = some (.int .i64 l[i].n) ∧ w.cell? ⟨b, o + i * 5 + 3, none⟩ = some (.float .f64 l[i].f) ∧ w.cell? ⟨b, o + i * 5 + 4, none⟩ = some (.string l[i].s) := by
  have key : ∀ j u, j < 5 → [Value.string l[i].nm, .int .i64 l[i].k, .int .i64 l[i].n, .float .f64 l[i].f, .string l[i].s][j]? = some u → ∃ b o, A = some ⟨b, o, none⟩ ∧ w.cell? ⟨b, o + i * 5 + j, none⟩ = some u := fun j u hj hu => by
    obtain ⟨b, o, h1, h2⟩ := h (i * 5 + j) u (by rw [cellsP, flat_at 5 _ (fun _ => rfl) l i j hi hj]; exact hu)
    exact ⟨b, o, h1, by rw [Nat.add_assoc]; exact h2⟩
  obtain ⟨b, o, e0, h0⟩ := key 0 _ (by omega) rfl
  subst e0
  have fin : ∀ j u, j < 5 → [Value.string l[i].nm, .int .i64 l[i].k, .int .i64 l[i].n, .float .f64 l[i].f, .string l[i].s][j]? = some u → w.cell? ⟨b, o + i * 5 + j, none⟩ = some u := fun j u hj hu => by
    obtain ⟨b', o', e1, h1⟩ := key j u hj hu
    cases e1; exact h1
  exact ⟨b, o, rfl, World.block_lt_of_cell? w _ h0, h0, fin 1 _ (by omega) rfl, fin 2 _ (by omega) rfl, fin 3 _ (by omega) rfl, fin 4 _ (by omega) rfl⟩
/-- One node. -/
theorem ReadsL.node {w : World} {A : Option Addr} {l : List NX} (h : ReadsL w A (cellsN l)) (i : Nat) (hi : i < l.length) :
    ∃ b o, A = some ⟨b, o, none⟩ ∧ b < w.heap.size ∧ w.cell? ⟨b, o + i * 3, none⟩ = some (.string l[i].d.nm) ∧ w.cell? ⟨b, o + i * 3 + 1, none⟩ = some l[i].lv ∧ w.cell? ⟨b, o + i * 3 + 2, none⟩ = some l[i].pv := by
  have key : ∀ j u, j < 3 → [Value.string l[i].d.nm, l[i].lv, l[i].pv][j]? = some u → ∃ b o, A = some ⟨b, o, none⟩ ∧ w.cell? ⟨b, o + i * 3 + j, none⟩ = some u := fun j u hj hu => by
    obtain ⟨b, o, h1, h2⟩ := h (i * 3 + j) u (by rw [cellsN, flat_at 3 _ (fun _ => rfl) l i j hi hj]; exact hu)
    exact ⟨b, o, h1, by rw [Nat.add_assoc]; exact h2⟩
  obtain ⟨b, o, e0, h0⟩ := key 0 _ (by omega) rfl
  subst e0
  have fin : ∀ j u, j < 3 → [Value.string l[i].d.nm, l[i].lv, l[i].pv][j]? = some u → w.cell? ⟨b, o + i * 3 + j, none⟩ = some u := fun j u hj hu => by
    obtain ⟨b', o', e1, h1⟩ := key j u hj hu
    cases e1; exact h1
  exact ⟨b, o, rfl, World.block_lt_of_cell? w _ h0, h0, fin 1 _ (by omega) rfl, fin 2 _ (by omega) rfl⟩
/-- One edge. -/
theorem ReadsL.edge {w : World} {A : Option Addr} {l : List EX} (h : ReadsL w A (cellsE l)) (i : Nat) (hi : i < l.length) :
    ∃ b o, A = some ⟨b, o, none⟩ ∧ b < w.heap.size ∧ w.cell? ⟨b, o + i * 6, none⟩ = some (.string l[i].d.nm) ∧ w.cell? ⟨b, o + i * 6 + 1, none⟩ = some (.int .i64 l[i].d.src) ∧ w.cell? ⟨b, o + i * 6 + 2, none⟩ = some (.int .i64 l[i].d.dst) ∧ w.cell? ⟨b, o + i * 6 + 3, none⟩ = some (.bool l[i].d.dir) ∧ w.cell? ⟨b, o + i * 6 + 4, none⟩ = some l[i].lv ∧ w.cell? ⟨b, o + i * 6 + 5, none⟩ = some l[i].pv := by
  have key : ∀ j u, j < 6 → [Value.string l[i].d.nm, .int .i64 l[i].d.src, .int .i64 l[i].d.dst, .bool l[i].d.dir, l[i].lv, l[i].pv][j]? = some u → ∃ b o, A = some ⟨b, o, none⟩ ∧ w.cell? ⟨b, o + i * 6 + j, none⟩ = some u := fun j u hj hu => by
    obtain ⟨b, o, h1, h2⟩ := h (i * 6 + j) u (by rw [cellsE, flat_at 6 _ (fun _ => rfl) l i j hi hj]; exact hu)
    exact ⟨b, o, h1, by rw [Nat.add_assoc]; exact h2⟩
  obtain ⟨b, o, e0, h0⟩ := key 0 _ (by omega) rfl
  subst e0
  have fin : ∀ j u, j < 6 → [Value.string l[i].d.nm, .int .i64 l[i].d.src, .int .i64 l[i].d.dst, .bool l[i].d.dir, l[i].lv, l[i].pv][j]? = some u → w.cell? ⟨b, o + i * 6 + j, none⟩ = some u := fun j u hj hu => by
    obtain ⟨b', o', e1, h1⟩ := key j u hj hu
    cases e1; exact h1
  exact ⟨b, o, rfl, World.block_lt_of_cell? w _ h0, h0, fin 1 _ (by omega) rfl, fin 2 _ (by omega) rfl, fin 3 _ (by omega) rfl, fin 4 _ (by omega) rfl, fin 5 _ (by omega) rfl⟩

theorem cell_below {w w' : World} {n : Nat} (hb : Below n w w') {a : Addr} {v : Value} (hn : a.block < n) (h : w.cell? a = some v) : w'.cell? a = some v := (hb.cell (p := a) hn).trans h
theorem below_trans' {w w1 w2 : World} (h : Below w.heap.size w w1) (k : Below w1.heap.size w1 w2) : Below w.heap.size w w2 := h.trans (k.mono h.size)
end Go.Proofs.Ytbolojjnkkgehaa
