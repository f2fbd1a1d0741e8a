import Derived.Test.YtbolojjnkkgehaaRis
import Derived.Maps.AppendAt
import Derived.OwnWalk
import Derived.Deep.LoopGhost
namespace Go.Proofs.Ytbolojjnkkgehaa
open Go.RowKit

theorem grown_trans0 {w w1 w2 : World} {row : Option Nat} (h : w.grownBy w1 row) (k : w1.grownBy w2 row) : w.grownBy w2 row := World.grownBy.trans h k
theorem below_grown0 {w w1 : World} {row : Option Nat} {B : Nat} (hg : w.grownBy w1 row) (hB : B ≤ w.heap.size) (hr : ∀ k, row = some k → B ≤ k) : Below B w w1 :=
  (Below.refl B w).grown hg hB hr

/-- An element's type: its row of the table. -/
structure Ty (t e : TypeId) (size bytes : Nat) : Prop where
  ht : Try.prog.underlying t = some (.slice e)
  hi : ∃ i z, Try.prog.info? e = some i ∧ i.zero = some z ∧ i.size = size ∧ i.bytes = bytes ∧ z.cells.size = size
  pos : 0 < size
theorem ty_of {t e : TypeId} {size bytes : Nat} {z : Value} (ht : Try.prog.underlying t = some (.slice e)) (hi : (Try.prog.info? e).map (fun i => (i.zero, i.size, i.bytes)) = some (some z, size, bytes)) (hz : z.cells.size = size) (hp : 0 < size) : Ty t e size bytes := by
  refine ⟨ht, ?_, hp⟩
  cases h : Try.prog.info? e with
  | none => rw [h] at hi; cases hi
  | some i =>
    rw [h] at hi
    simp only [Option.map_some, Option.some.injEq, Prod.mk.injEq] at hi
    exact ⟨i, z, rfl, hi.1, hi.2.1, hi.2.2, hz⟩
theorem tyS : Ty 39 9 1 16 := ty_of (z := .string ⟨#[]⟩) Try.underlying39 (by kernel_rfl) rfl (by omega)
theorem tyP : Ty 40 55 5 56 := ty_of (z := .agg #[.string ⟨#[]⟩, .int .i64 0, .int .i64 0, .float .f64 0, .string ⟨#[]⟩]) Try.underlying40 (by kernel_rfl) rfl (by omega)
theorem tyN : Ty 22 46 3 64 := ty_of (z := .agg #[.string ⟨#[]⟩, .slice none 0 0, .slice none 0 0]) Try.underlying22 (by kernel_rfl) rfl (by omega)
theorem tyE : Ty 23 42 6 88 := ty_of (z := .agg #[.string ⟨#[]⟩, .int .i64 0, .int .i64 0, .bool false, .slice none 0 0, .slice none 0 0]) Try.underlying23 (by kernel_rfl) rfl (by omega)
theorem tySt : Ty 33 38 2 16 := ty_of (z := .agg #[.int .i64 0, .int .i64 0]) Try.underlying33 (by kernel_rfl) rfl (by omega)
theorem tyL : Ty 83 82 3 24 := ty_of (z := .agg #[.int .i64 0, .int .i64 0, .int .i64 0]) Try.underlying83 (by kernel_rfl) rfl (by omega)

/-- What a writer leaves: the slice lies in its own row or in a new one. -/
def Near (w : World) (v v' : Value) : Prop := ∀ k, v'.ownBlock = some k → v.ownBlock = some k ∨ w.heap.size ≤ k

theorem addr_add0 (b o j : Nat) : (⟨b, o, none⟩ : Addr).add j = ⟨b, o + j, none⟩ := by
  unfold Addr.add
  split
  · rename_i e; subst e; rfl
  · rfl

/-- append(s, x..): elements that lie somewhere onto a slice of the call's own. -/
theorem wpList_app {t e : TypeId} {size bytes : Nat} (hty : Ty t e size bytes) {w : World} {ops : Array Oper} {rest : List Oper} {o : Oper} {a : Act} {Q : Exit → Act → World → Prop} (hgd : o.guard = none) (s x : Operand)
    (ho : o.op = .call { callee := .builtin .append, args := #[s, x], argTypes := #[t, t] })
    {B : Nat} {v : Value} {n : Nat} {xs : List Value} (hs : a.eval s = v) (hown : w.ownsRow B e size v n xs)
    (A : Addr) (m c : Nat) (news : List Value) (hx : a.eval x = .slice (some A) m c) (hl : news.length = m * size) (hA : A.spot = none) (hnews : ∀ j u, news[j]? = some u → w.cell? ⟨A.block, A.off + j, none⟩ = some u) (h1 : ∀ u ∈ news, u.oneCell' = true)
    (h63 : n + m ≤ 9223372036854775807) (hby : (n + m) * bytes ≤ 140737488355328) (hB : B ≤ w.heap.size)
    (h : ∀ v' w', w'.ownsRow B e size v' (n + m) (xs ++ news) → w.grownBy w' v.ownBlock → Near w v v' → wpList Try.prog ops Q rest (a.put o.dst v') w') : wpList Try.prog ops Q (o :: rest) a w := by
  obtain ⟨i, z, hi, hz, hsz, hbt, hzc⟩ := hty.hi
  refine wpList_append_own_at w hgd s x t ho B e i z size bytes hty.ht hi hz hsz hbt hzc hty.pos v n xs hs hown A m c news hx hl (fun j u hj => ?_) h1 (by unfold maxLen; omega) hby hB ?_
  · obtain ⟨b, o, sp⟩ := A
    simp only at hA
    subst hA
    rw [addr_add0]
    exact hnews j u hj
  · intro v' w' h6 h7 h8 h9
    refine h v' w' h6 h7 ?_
    intro k hk
    rcases h9 with e9 | e9
    · exact .inl (by rw [← e9]; exact hk)
    · rw [hk] at e9; simp at e9; exact .inr (by omega)

theorem oneCellS (l : List ByteArray) : ∀ u ∈ cellsS l, u.oneCell' = true := by
  intro u hu
  simp only [cellsS, List.mem_map] at hu
  obtain ⟨s, _, rfl⟩ := hu
  rfl
theorem oneCellP (l : List Pr) : ∀ u ∈ cellsP l, u.oneCell' = true := by
  intro u hu
  simp only [cellsP, List.mem_flatMap, List.mem_cons, List.not_mem_nil, or_false] at hu
  obtain ⟨s, _, hu⟩ := hu
  rcases hu with rfl | rfl | rfl | rfl | rfl <;> rfl

/-- The slice v, among the blocks from B on, is a row of its own with these texts. -/
def OwnS (w : World) (B : Nat) (v : Value) (l : List ByteArray) : Prop := w.ownsRow B 9 1 v l.length (cellsS l)
theorem OwnS.nil (w : World) (B : Nat) : OwnS w B (.slice none 0 0) [] := World.ownsRow_nil _ _ _ _
theorem OwnS.alloc {w : World} {B : Nat} {v : Value} {l : List ByteArray} (h : OwnS w B v l) (o : Obj) : OwnS (w.alloc o) B v l := World.ownsRow.alloc h o
theorem own_below {w w' : World} {B e size : Nat} {v : Value} {n : Nat} {xs : List Value} {m : Nat} (h : w.ownsRow B e size v n xs) (hb : Below m w w') (hm : w.heap.size ≤ m) : w'.ownsRow B e size v n xs := by
  refine World.ownsRow.kept (row := none) h ⟨hb.os, hb.tape, hb.output, hb.size, fun k hk _ => hb.block k (Nat.lt_of_lt_of_le hk hm)⟩ ?_
  cases v.ownBlock
  · exact .inl rfl
  · exact .inr (by simp)
theorem own_lt {w : World} {B e size : Nat} {v : Value} {n : Nat} {xs : List Value} (h : w.ownsRow B e size v n xs) : ∀ k, v.ownBlock = some k → B ≤ k ∧ k < w.heap.size := World.ownsRow.lt h

/-- A row of its own is read as a slice. -/
theorem own_reads {w : World} {B e size : Nat} {v : Value} {n : Nat} {xs : List Value} (h : w.ownsRow B e size v n xs) : SliceR w v n xs := by
  have h1 := h.1
  rcases h.2 with ⟨rfl, h0⟩ | ⟨g, cap, cur, rfl, hbg, hg, hnc, hcm, hcs, htake⟩
  · subst h0
    have : xs = [] := List.eq_nil_of_length_eq_zero (by rw [h1]; omega)
    subst this
    exact SliceR.nil w
  · refine ⟨some ⟨g, 0, none⟩, cap, rfl, hnc, hcm, by simp, fun j u hj => ⟨g, 0, rfl, ?_⟩⟩
    have := World.ownsRow.cells h (g := g) rfl j u hj
    rw [addr_add0] at this
    exact this

/-- The cells of a new block. -/
theorem new_cells (w : World) (cs : List Value) (e : TypeId) : ∀ j u, cs[j]? = some u → (w.alloc (.cells cs.toArray e)).cell? ⟨w.heap.size, 0 + j, none⟩ = some u := fun j u hj => by
  simp [go_sem, hj]
theorem own_strs {w : World} {B : Nat} {v : Value} {l : List ByteArray} (h : OwnS w B v l) (hl : l.length * 16 ≤ 140737488355328) (hw : ∀ s ∈ l, s.size ≤ maxLen) : Strs w v l := ⟨own_reads h, hl, hw⟩
theorem OwnS.snoc {w : World} {B : Nat} {v : Value} {l : List ByteArray} {s : ByteArray} (h : w.ownsRow B 9 1 v (l.length + 1) (cellsS l ++ [.string s])) : OwnS w B v (l ++ [s]) := by
  unfold OwnS
  rw [List.length_append, cellsS_append]
  exact h
end Go.Proofs.Ytbolojjnkkgehaa
