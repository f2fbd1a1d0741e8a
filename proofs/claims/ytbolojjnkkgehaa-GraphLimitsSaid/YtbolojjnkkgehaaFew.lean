import Derived.Test.YtbolojjnkkgehaaSh
/-! few: some nodes and edges of a graph. -/
namespace Go.Proofs.Ytbolojjnkkgehaa
open Go.RowKit

theorem SliceR.take {w : World} {A : Option Addr} {n c m : Nat} {cs cs' : List Value} (h : SliceR w (.slice A n c) n cs) (hm : m ≤ n) (hcs : cs' = cs.take cs'.length) : SliceR w (.slice A m c) m cs' := by
  obtain ⟨A', c', e, h1, h2, h3, h4⟩ := h
  cases e
  exact ⟨A, c, rfl, by omega, h2, h3, by rw [hcs]; exact h4.take _⟩
theorem cells_take {α : Type} (f : α → List Value) (k : Nat) (l : List α) : (l.take k).flatMap f = (l.flatMap f).take ((l.take k).flatMap f).length := by
  have : l.flatMap f = (l.take k).flatMap f ++ (l.drop k).flatMap f := by rw [← List.flatMap_append, List.take_append_drop]
  rw [this, List.take_left' rfl]
theorem Nodes.take {w : World} {A : Option Addr} {c : Nat} {xs : List NX} (h : Nodes w (.slice A xs.length c) xs) (k : Nat) : Nodes w (.slice A (xs.take k).length c) (xs.take k) :=
  ⟨h.sl.take (by simp; omega) (cells_take _ k xs), by have := h.len; simp; omega, fun x hx => h.ls x (List.mem_of_mem_take hx), fun x hx => h.ps x (List.mem_of_mem_take hx), fun x hx => h.nm x (List.mem_of_mem_take hx)⟩
theorem Edges.take {w : World} {A : Option Addr} {c : Nat} {xs : List EX} (h : Edges w (.slice A xs.length c) xs) (k : Nat) : Edges w (.slice A (xs.take k).length c) (xs.take k) :=
  ⟨h.sl.take (by simp; omega) (cells_take _ k xs), by have := h.len; simp; omega, fun x hx => h.ls x (List.mem_of_mem_take hx), fun x hx => h.ps x (List.mem_of_mem_take hx), fun x hx => h.nm x (List.mem_of_mem_take hx), fun x hx => h.s0 x (List.mem_of_mem_take hx), fun x hx => h.d0 x (List.mem_of_mem_take hx)⟩

attribute [local go_sem ↓] Go.wp_at_zero Go.wp_at_succ
set_option maxHeartbeats 1000000 in
theorem few_any (A : Option Addr) (c : Nat) (xs : List NX) (A' : Option Addr) (c' : Nat) (es : List EX) (n : Nat) (w : World) (hn : Nodes w (.slice A xs.length c) xs) (he : Edges w (.slice A' es.length c') es) :
    Calls Try.prog 9 #[GR (.slice A xs.length c) (.slice A' es.length c'), .int .i64 n] w fun e w' => e = .returned (GR (.slice A (xs.take n).length c) (.slice A' (es.take n).length c')) ∧ Below w.heap.size w w' := by
  obtain ⟨_, _, e1, hlc, hcm, -, -⟩ := hn.sl.form
  obtain ⟨_, _, e2, hlc', hcm', -, -⟩ := he.sl.form
  cases e1
  cases e2
  have hl1 : (xs.take n).length = min n xs.length := by simp
  have hl2 : (es.take n).length = min n es.length := by simp
  have h1 : (if n < xs.length then (n : Int) else (xs.length : Int)) = ((xs.take n).length : Int) := by rw [hl1]; split <;> omega
  have h2 : (if n < es.length then (n : Int) else (es.length : Int)) = ((es.take n).length : Int) := by rw [hl2]; split <;> omega
  have hm1 : ((xs.take n).length : Int) ≤ (c : Int) := by omega
  have hm2 : ((es.take n).length : Int) ≤ (c' : Int) := by omega
  have hm3 : (0 : Int) ≤ ((xs.take n).length : Int) := by omega
  have hm4 : (0 : Int) ≤ ((es.take n).length : Int) := by omega
  clear hn he hl1 hl2
  generalize (xs.take n).length = k at *
  generalize (es.take n).length = k' at *
  go_enter Try.func9, Try.ntmps9
  go_wp2_with fail
  go_region
  have HB := Lib.hid ((((Below.refl w.heap.size w).alloc (Nat.le_refl _) (.cells #[.slice A xs.length c, .slice A' es.length c'] 25)).alloc (by simp) (.cells #[.slice A k c, .slice A' k' c'] 25)).drew)
  clear h1 h2
  go_wp2_with fail
  refine bodyPost_ret (v := GR (.slice A k c) (.slice A' k' c')) ?_ rfl ?_
  · simp [results, Try.results9, go_sem]
  · exact ⟨rfl, HB.out⟩
end Go.Proofs.Ytbolojjnkkgehaa
