import Derived.Test.YtbcnokidnpnmhaaRow2
import Derived.Test.YtbcnokidnpnmhaaPl2
import Derived.Test.YtbcnokidnpnmhaaHold
/-! Rows of values, numbers, texts. -/
namespace Go.Proofs.Ytbcnokidnpnmhaa
open Go.ChangeShapes Go.WideShapes Go.ChangeAt Go.RowKit

def cellsV (L : List Vl) : List Value := L.flatMap fun x => [.int .i64 x.k, .int .i64 x.n, .float .f64 x.f, .string ⟨x.s.toArray⟩]
theorem cellsV_length : ∀ L : List Vl, (cellsV L).length = L.length * 4
  | [] => rfl
  | x :: L => by
    have h := cellsV_length L
    simp only [cellsV, List.flatMap_cons, List.length_append, List.length_cons, List.length_nil] at h ⊢
    omega
theorem cellsV_append (L M : List Vl) : cellsV (L ++ M) = cellsV L ++ cellsV M := by simp [cellsV]

/-- The slice v, among the blocks from B on, is a row of its own with these values. -/
def OwnV (w : World) (B : Nat) (v : Value) (L : List Vl) : Prop := w.ownsRow B 29 4 v L.length (cellsV L)
theorem OwnV.nil (w : World) (B : Nat) : OwnV w B (.slice none 0 0) [] := World.ownsRow_nil _ _ _ _
theorem OwnV.alloc {w : World} {B : Nat} {v : Value} {l : List Vl} (h : OwnV w B v l) (o : Obj) : OwnV (w.alloc o) B v l := World.ownsRow.alloc h o
theorem OwnV.lt {w : World} {B : Nat} {v : Value} {l : List Vl} (h : OwnV w B v l) : ∀ k, v.ownBlock = some k → B ≤ k ∧ k < w.heap.size := World.ownsRow.lt h
theorem OwnV.kept {w w' : World} {B : Nat} {v : Value} {l : List Vl} {row : Option Nat} (h : OwnV w B v l) (hg : w.grownBy w' row) (hne : v.ownBlock = none ∨ v.ownBlock ≠ row) : OwnV w' B v l := World.ownsRow.kept h hg hne

theorem i29 : (Try.prog.info? 29).map (fun i => (i.zero, i.size, i.bytes)) = some (some (VAL 0 0 0 ⟨#[]⟩), 4, 40) := by kernel_rfl
theorem info29 : ∃ i, Try.prog.info? 29 = some i ∧ i.zero = some (VAL 0 0 0 ⟨#[]⟩) ∧ i.size = 4 ∧ i.bytes = 40 := by
  have h := i29
  cases hi : Try.prog.info? 29 with
  | none => rw [hi] at h; cases h
  | some i =>
    rw [hi] at h
    simp only [Option.map_some, Option.some.injEq, Prod.mk.injEq] at h
    exact ⟨i, rfl, h.1, h.2.1, h.2.2⟩

/-- append(values, a, b): the two lie in a new block. -/
theorem wpList_appV {w : World} {ops : Array Oper} {rest : List Oper} {o : Oper} {a : Act} {Q : Exit → Act → World → Prop} (hgd : o.guard = none) (s x : Operand)
    (ho : o.op = .call { callee := .builtin .append, args := #[s, x], argTypes := #[55, 55] })
    {B : Nat} {v : Value} {L M : List Vl} (hs : a.eval s = v) (hown : OwnV w B v L) (g : Nat) (hx : a.eval x = .slice (some ⟨g, 0, none⟩) M.length M.length) (hc : w.heap[g]? = some (.cells (cellsV M).toArray 29 (0, 0)))
    (hl : L.length + M.length ≤ 1000) (hB : B ≤ w.heap.size)
    (h : ∀ v' w', OwnV w' B v' (L ++ M) → Wrote w v w' v' → wpList Try.prog ops Q rest (a.put o.dst v') w') : wpList Try.prog ops Q (o :: rest) a w := by
  obtain ⟨i, hi, hz, hsz, hby⟩ := info29
  refine wpList_append_own_at w hgd s x 55 ho B 29 i _ 4 40 Try.underlying55 hi hz hsz hby rfl (by decide) v L.length (cellsV L) hs hown ⟨g, 0, none⟩ M.length M.length (cellsV M) hx (cellsV_length M)
    (fun j u hj => ?_) (fun u hu => ?_) (by unfold maxLen; omega) (by omega) hB ?_
  · rw [addr_add rfl, cell_of_row w g _ _ _ _ hc]
    simpa using hj
  · simp only [cellsV, List.mem_flatMap] at hu
    obtain ⟨y, _, hy⟩ := hu
    simp only [List.mem_cons, List.not_mem_nil, or_false] at hy
    rcases hy with rfl | rfl | rfl | rfl <;> rfl
  · intro v' w' h6 h7 h8 h9
    refine h v' w' ?_ ⟨h7, Near.of h9⟩
    unfold OwnV
    rw [cellsV_append, List.length_append]
    exact h6

/-- What lies behind a slice's address. -/
def ReadsL (w : World) (A : Option Addr) (vs : List Value) : Prop := ∀ j u, vs[j]? = some u → ∃ b o, A = some ⟨b, o, none⟩ ∧ w.cell? ⟨b, o + j, none⟩ = some u
theorem ReadsL.below {w w' : World} {A : Option Addr} {vs : List Value} (h : ReadsL w A vs) (hb : Below w.heap.size w w') : ReadsL w' A vs := fun j u hj => by
  obtain ⟨b, o, h1, h2⟩ := h j u hj
  exact ⟨b, o, h1, (hb.cell (p := ⟨b, o + j, none⟩) (World.block_lt_of_cell? w _ h2)).trans h2⟩

theorem cells23 : Try.prog.cellsOf 23 = 1 := by kernel_rfl
theorem cells9 : Try.prog.cellsOf 9 = 1 := by kernel_rfl

theorem open_u64s {H : Type} {enc : TypeId × Value → H} {W : World} {base : Nat} {v : Value} {d : DataW H} {p : List MemPlace} (hval : Value.okWide Try.prog W .any base 53 v)
    (h : DataW.Trod enc Try.prog W 0 (fun _ => true) true 53 v d p) : ∃ (A : Option Addr) (c : Nat) (l : List Nat), v = .slice A l.length c ∧ l.length ≤ c ∧ l.length ≤ 9223372036854775807 ∧ (∀ n ∈ l, n < 18446744073709551616) ∧ ReadsL W A (l.map fun n => .int .u64 (n : Nat)) := by
  obtain ⟨a0, len, cap, rfl⟩ := okWide_slice Try.underlying53 hval
  obtain ⟨fuel, hf⟩ := h
  rcases open_ints Try.underlying53 Try.underlying23 cells23 hf with ⟨hcs, hx⟩ | ⟨a, len', cap', zs, hcs, _, hl, hm, hz, hx, hcell, hwz⟩
  · simp [Value.cells] at hcs
    obtain ⟨rfl, rfl, rfl⟩ := hcs
    exact ⟨none, 0, [], rfl, by simp, by simp, by simp, fun j u hj => by simp at hj⟩
  · simp [Value.cells] at hcs
    obtain ⟨rfl, rfl, rfl⟩ := hcs
    simp only [Value.okWide, Try.underlying53, Cell.okWide, Cell.ok, World.has] at hval
    obtain ⟨_, _, _, hsp, _⟩ := hval
    simp only [if_true] at hz
    have hlen : ((zs.take len).map Int.toNat).length = len := by simp; omega
    refine ⟨some a, cap, (zs.take len).map Int.toNat, by rw [hlen], by omega, by rw [hlen]; unfold maxLen at hm; omega, ?_, ?_⟩
    · intro n hn
      simp only [List.mem_map] at hn
      obtain ⟨z, hz1, rfl⟩ := hn
      obtain ⟨q, hq, hq2⟩ := u64_of_wf (hwz z (List.mem_of_mem_take hz1))
      omega
    · intro j u hj
      have hj1 : j < len := by
        rcases Nat.lt_or_ge j len with h1 | h1
        · exact h1
        · rw [List.getElem?_eq_none (by simp; omega)] at hj; cases hj
      have h1 := hcell j (by omega)
      rw [addr_add hsp] at h1
      obtain ⟨b, o, sp⟩ := a
      simp only at hsp h1 ⊢
      subst hsp
      refine ⟨b, o, rfl, ?_⟩
      rw [h1]
      have h2 : zs.getD j 0 = zs[j] := by rw [List.getD_eq_getElem?_getD, List.getElem?_eq_getElem (by omega)]; rfl
      obtain ⟨q, hq, _⟩ := u64_of_wf (hwz zs[j] (List.getElem_mem _))
      simp [List.getElem?_map, hj1, List.getElem?_eq_getElem (show j < zs.length by omega)] at hj
      rw [← hj, h2]
      congr 2
      omega

theorem open_strs {H : Type} {enc : TypeId × Value → H} {W : World} {base : Nat} {v : Value} {d : DataW H} {p : List MemPlace} (hval : Value.okWide Try.prog W .any base 54 v)
    (h : DataW.Trod enc Try.prog W 0 (fun _ => true) true 54 v d p) : ∃ (A : Option Addr) (c : Nat) (l : List ByteArray), v = .slice A l.length c ∧ l.length ≤ c ∧ l.length ≤ 9223372036854775807 ∧ (∀ s ∈ l, s.size ≤ maxLen) ∧ ReadsL W A (l.map fun s => .string s) := by
  obtain ⟨a0, len, cap, rfl⟩ := okWide_slice Try.underlying54 hval
  obtain ⟨fuel, hf⟩ := h
  rcases open_strings Try.underlying54 Try.underlying9 cells9 hf with ⟨hcs, hx⟩ | ⟨a, len', cap', ss, hcs, _, hl, hm, hz, hx, hcell, hwz⟩
  · simp [Value.cells] at hcs
    obtain ⟨rfl, rfl, rfl⟩ := hcs
    exact ⟨none, 0, [], rfl, by simp, by simp, by simp, fun j u hj => by simp at hj⟩
  · simp [Value.cells] at hcs
    obtain ⟨rfl, rfl, rfl⟩ := hcs
    simp only [Value.okWide, Try.underlying54, Cell.okWide, Cell.ok, World.has] at hval
    obtain ⟨_, _, _, hsp, _⟩ := hval
    simp only [if_true] at hz
    have hlen : (ss.take len).length = len := by simp; omega
    refine ⟨some a, cap, ss.take len, by rw [hlen], by omega, by rw [hlen]; unfold maxLen at hm; omega, fun s hs => hwz s (List.mem_of_mem_take hs), ?_⟩
    intro j u hj
    have hj1 : j < len := by
      rcases Nat.lt_or_ge j len with h1 | h1
      · exact h1
      · rw [List.getElem?_eq_none (by simp; omega)] at hj; cases hj
    have h1 := hcell j (by omega)
    rw [addr_add hsp] at h1
    obtain ⟨b, o, sp⟩ := a
    simp only at hsp h1 ⊢
    subst hsp
    refine ⟨b, o, rfl, ?_⟩
    rw [h1]
    have h2 : ss.getD j ByteArray.empty = ss[j] := by rw [List.getD_eq_getElem?_getD, List.getElem?_eq_getElem (by omega)]; rfl
    simp [List.getElem?_map, hj1, List.getElem?_eq_getElem (show j < ss.length by omega)] at hj
    rw [← hj, h2]
end Go.Proofs.Ytbcnokidnpnmhaa
