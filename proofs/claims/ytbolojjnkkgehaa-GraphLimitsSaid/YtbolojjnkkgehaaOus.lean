import Derived.Test.YtbolojjnkkgehaaLed
import Derived.Test.YtbolojjnkkgehaaRnd
/-! Where all lists of leads lie. -/
namespace Go.Proofs.Ytbolojjnkkgehaa
open Go.RowKit Go.Shelf
attribute [local go_sem] Oper.semAt_some

def cellsL (l : List Ld) : List Value := l.flatMap fun x => [.int .i64 x.ed, .int .i64 x.nd, .int .i64 x.dir]
theorem cellsL_length (l : List Ld) : (cellsL l).length = l.length * 3 := flat_length 3 _ (fun _ => rfl) l
theorem cellsL_append (a b : List Ld) : cellsL (a ++ b) = cellsL a ++ cellsL b := by simp [cellsL]
/-- One node's leads, of all that there are. -/
def lstZ (q : List (Int × Ld)) (j : Int) : List Ld := (q.filter fun x => x.1 == j).map (·.2)
theorem lstZ_append (q r : List (Int × Ld)) (j : Int) : lstZ (q ++ r) j = lstZ q j ++ lstZ r j := by simp [lstZ]
theorem lstZ_length (q : List (Int × Ld)) (j : Int) : (lstZ q j).length ≤ q.length := by unfold lstZ; rw [List.length_map]; exact List.length_filter_le _ _

/-- Block ob holds each node's list of leads; each is a row of its own. -/
structure OutSt (W : World) (B ob : Nat) (vs : List Value) (q : List (Int × Ld)) : Prop where
  row : W.heap[ob]? = some (.cells vs.toArray 83 (0, 0))
  own : ∀ j (h : j < vs.length), W.ownsRow B 82 3 vs[j] (lstZ q j).length (cellsL (lstZ q j))
  apart : ∀ j k (hj : j < vs.length) (hk : k < vs.length), j ≠ k → ∀ b, vs[j].ownBlock = some b → vs[k].ownBlock ≠ some b

theorem own_heap {w : World} {B e size : Nat} {v : Value} {n : Nat} {xs : List Value} (h : w.ownsRow B e size v n xs) {b : Nat} (hb : v.ownBlock = some b) : ∃ cur, w.heap[b]? = some (.cells cur e (0, 0)) := by
  rcases h.2 with ⟨rfl, _⟩ | ⟨g, cap, cur, rfl, _, hg, _⟩
  · cases hb
  · cases hb; exact ⟨cur, hg⟩
theorem own_same {w w' : World} {B e size : Nat} {v : Value} {n : Nat} {xs : List Value} (h : w.ownsRow B e size v n xs) (hs : ∀ b, v.ownBlock = some b → w'.heap[b]? = w.heap[b]?) : w'.ownsRow B e size v n xs := by
  refine ⟨h.1, ?_⟩
  rcases h.2 with h2 | ⟨g, cap, cur, rfl, hbg, hg, h3⟩
  · exact .inl h2
  · exact .inr ⟨g, cap, cur, rfl, hbg, (hs g rfl).trans hg, h3⟩

/-- What leaves all cells as they lay leaves the lists. -/
theorem OutSt.cells {W W' : World} {B ob : Nat} {vs : List Value} {q : List (Int × Ld)} (h : OutSt W B ob vs q) (hk : ∀ (k : Nat) (o : Obj), W.heap[k]? = some o → o.isCells = true → W'.heap[k]? = some o) : OutSt W' B ob vs q :=
  ⟨hk _ _ h.row rfl, fun j hj => own_same (h.own j hj) fun b hb => by obtain ⟨cur, hc⟩ := own_heap (h.own j hj) hb; rw [hc]; exact hk _ _ hc rfl, h.apart⟩

theorem OutSt.lt {W : World} {B ob : Nat} {vs : List Value} {q : List (Int × Ld)} (h : OutSt W B ob vs q) : ob < W.heap.size := (Array.getElem?_eq_some_iff.1 h.row).1

theorem row_set {W : World} {ob j : Nat} {cs : Array Value} {e : TypeId} (h : W.heap[ob]? = some (.cells cs e (0, 0))) (v : Value) : (W.setCell ⟨ob, j, none⟩ v).heap[ob]? = some (.cells (cs.setIfInBounds j v) e (0, 0)) := heap_setCell_same W ob j cs e v h

/-- One more lead. -/
theorem OutSt.push {W W2 : World} {B ob : Nat} {vs : List Value} {q : List (Int × Ld)} (h : OutSt W B ob vs q) {j : Nat} (hj : j < vs.length) {x : Ld} {o : Obj} {v' : Value}
    (ho : W2.ownsRow B 82 3 v' ((lstZ q j).length + 1) (cellsL (lstZ q j) ++ [.int .i64 x.ed, .int .i64 x.nd, .int .i64 x.dir])) (hg : (W.alloc o).grownBy W2 vs[j].ownBlock) (hn : v'.ownBlock = vs[j].ownBlock ∨ v'.ownBlock = some (W.heap.size + 1)) :
    OutSt (W2.setCell ⟨ob, j, none⟩ v') B ob (vs.set j v') (q ++ [((j : Int), x)]) := by
  have hlt : ∀ k, v'.ownBlock = some k → vs[j].ownBlock = some k ∨ k = W.heap.size + 1 := fun k hk => by
    rcases hn with e | e
    · exact .inl (by rw [← e]; exact hk)
    · rw [hk] at e; exact .inr (by cases e; rfl)
  have hne : ∀ k, v'.ownBlock = some k → k ≠ ob := fun k hk => by
    obtain ⟨c, hc⟩ := own_heap ho hk
    rintro rfl
    have hlt2 := h.lt
    rcases hlt k hk with h1 | h1
    · obtain ⟨c2, hc2⟩ := own_heap (h.own j hj) h1
      rw [h.row] at hc2
      injection hc2 with hc2
      injection hc2 with e1 e2 e3
      exact absurd e2 (by decide)
    · omega
  have hrow2 : W2.heap[ob]? = some (.cells vs.toArray 83 (0, 0)) := by
    refine (hg.block ob (by have := h.lt; simp; omega) (fun e => ?_)).trans ((Below.heap_alloc W o ob h.lt).trans h.row)
    obtain ⟨c, hc⟩ := own_heap (h.own j hj) e.symm
    rw [h.row] at hc
    injection hc with hc
    injection hc with e1 e2 e3
    exact absurd e2 (by decide)
  refine ⟨?_, fun k hk => ?_, fun k i hk hi hki b hb => ?_⟩
  · rw [row_set hrow2]
    congr 2
    simp
  · have hk' : k < vs.length := by simpa using hk
    rw [lstZ_append]
    by_cases e : k = j
    · subst e
      rw [List.getElem_set_self]
      have e1 : lstZ [((k : Int), x)] k = [x] := by simp [lstZ]
      rw [e1, List.length_append, cellsL_append]
      exact ownsRow_setCell_other ho (fun e => hne _ e rfl) v'
    · rw [List.getElem_set_ne (fun e' => e e'.symm)]
      have e1 : lstZ [((j : Int), x)] k = [] := by
        have : ((j : Int) == (k : Int)) = false := by rw [beq_eq_false_iff_ne]; omega
        simp [lstZ, this]
      rw [e1, List.append_nil]
      have h1 := h.own k hk'
      have h2 := World.ownsRow.kept (h1.alloc o) hg (by
        cases hv : vs[k].ownBlock with
        | none => exact .inl rfl
        | some b => exact .inr fun e2 => h.apart k j hk' hj e b hv e2.symm)
      exact ownsRow_setCell_other h2 (fun e2 => by
        obtain ⟨c, hc⟩ := own_heap h1 e2
        simp only at hc
        rw [h.row] at hc
        injection hc with hc
        injection hc with e3 e4 e5
        exact absurd e4 (by decide)) v'
  · have hk' : k < vs.length := by simpa using hk
    have hi' : i < vs.length := by simpa using hi
    have old : ∀ k (hk : k < vs.length) b, vs[k].ownBlock = some b → b < W.heap.size := fun k hk b hb => (own_lt (h.own k hk) b hb).2
    by_cases e : k = j
    · subst e
      rw [List.getElem_set_self] at hb
      rw [List.getElem_set_ne hki]
      rcases hlt b hb with h1 | h1
      · exact h.apart k i hk' hi' hki b h1
      · intro h2
        have := old i hi' b h2
        omega
    · rw [List.getElem_set_ne (fun e' => e e'.symm)] at hb
      by_cases e2 : i = j
      · subst e2
        rw [List.getElem_set_self]
        intro h2
        rcases hlt b h2 with h1 | h1
        · exact h.apart k i hk' hi' hki b hb h1
        · have := old k hk' b hb
          omega
      · rw [List.getElem_set_ne (fun e' => e2 e'.symm)]
        exact h.apart k i hk' hi' hki b hb
end Go.Proofs.Ytbolojjnkkgehaa
