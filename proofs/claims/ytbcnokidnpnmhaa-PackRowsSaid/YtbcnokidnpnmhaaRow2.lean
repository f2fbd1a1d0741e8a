import Derived.Test.YtbcnokidnpnmhaaRow
import Derived.Test.YtbcnokidnpnmhaaSh
/-! Opening a slice of bytes. -/
namespace Go.Proofs.Ytbcnokidnpnmhaa
open Go.ChangeShapes Go.WideShapes Go.ChangeAt Go.RowKit

theorem cells5 : Try.prog.cellsOf 5 = 1 := by kernel_rfl

theorem open_bytes {H : Type} {enc : TypeId × Value → H} {W : World} {base : Nat} {v : Value} {d : DataW H} {p : List MemPlace} (hval : Value.okWide Try.prog W .any base 22 v)
    (h : DataW.Trod enc Try.prog W 0 (fun _ => true) true 22 v d p) : ∃ l : List UInt8, ReadsB W v l ∧ (∀ b, v.ownBlock = some b → b < W.heap.size) := by
  obtain ⟨a0, len, cap, rfl⟩ := okWide_slice Try.underlying22 hval
  obtain ⟨fuel, hf⟩ := h
  rcases open_ints Try.underlying22 Try.underlying5 cells5 hf with ⟨hcs, hx⟩ | ⟨a, len', cap', zs, hcs, _, hl, hm, hz, hx, hcell, hwz⟩
  · simp [Value.cells] at hcs
    obtain ⟨rfl, rfl, rfl⟩ := hcs
    exact ⟨[], .inl ⟨rfl, rfl⟩, by simp [Value.ownBlock]⟩
  · simp [Value.cells] at hcs
    obtain ⟨rfl, rfl, rfl⟩ := hcs
    simp only [Value.okWide, Try.underlying22, Cell.okWide, Cell.ok, World.has] at hval
    obtain ⟨_, _, _, hsp, row, cs, hsh, _⟩ := hval
    simp only [if_true] at hz
    have hlen : ((zs.take len).map fun z => UInt8.ofNat z.toNat).length = len := by simp; omega
    refine ⟨(zs.take len).map fun z => UInt8.ofNat z.toNat, .inr ⟨a, cap, by rw [hlen], by omega, hm, hsp, fun j hj => ?_⟩, ?_⟩
    · rw [hlen] at hj
      have h1 := hcell j (by omega)
      rw [addr_add hsp] at h1
      rw [h1]
      have h2 : zs.getD j 0 ∈ zs := by rw [List.getD_eq_getElem?_getD, List.getElem?_eq_getElem (by omega)]; simp
      have h3 := hwz _ h2
      have h4 : (decide (IntKind.u8.min ≤ zs.getD j 0) && decide (zs.getD j 0 ≤ IntKind.u8.max)) = true := h3
      simp only [Bool.and_eq_true, decide_eq_true_eq] at h4
      have h5 : (0 : Int) ≤ zs.getD j 0 := h4.1
      have h6 : zs.getD j 0 ≤ (255 : Int) := h4.2
      have h7 : (((zs.take len).map fun z => UInt8.ofNat z.toNat).getD j 0).toNat = (zs.getD j 0).toNat := by
        rw [List.getD_eq_getElem?_getD, List.getElem?_map, List.getElem?_take, if_pos hj, List.getElem?_eq_getElem (by omega)]
        rw [List.getD_eq_getElem?_getD, List.getElem?_eq_getElem (by omega)] at h5 h6 ⊢
        simp at h5 h6 ⊢
        omega
      rw [h7]
      congr 2
      omega
    · intro b hb
      simp [Value.ownBlock] at hb
      subst hb
      unfold World.shape? at hsh
      split at hsh
      · rename_i hh
        exact lt_of_block hh
      · cases hsh

theorem ReadsB.cap {w : World} {A : Option Addr} {n c : Nat} {l : List UInt8} (h : ReadsB w (.slice A n c) l) : n = l.length ∧ l.length ≤ c := by
  rcases h with ⟨h1, rfl⟩ | ⟨ad, c', h1, h2, h3, h4, h5⟩
  · injection h1 with e1 e2 e3
    exact ⟨by simpa using e2, by simp⟩
  · injection h1 with e1 e2 e3
    exact ⟨e2, by omega⟩

/-- The first bytes of a slice. -/
theorem reads_take {w : World} {A : Option Addr} {n c : Nat} {l : List UInt8} (h : ReadsB w (.slice A n c) l) (k : Nat) (hk : k ≤ n) : ReadsB w (.slice A k c) (l.take k) := by
  rcases h with ⟨h1, rfl⟩ | ⟨ad, c', h1, h2, h3, h4, h5⟩
  · injection h1 with e1 e2 e3
    subst e1; subst e2; subst e3
    obtain rfl : k = 0 := by omega
    exact .inl ⟨rfl, rfl⟩
  · injection h1 with e1 e2 e3
    subst e1; subst e2; subst e3
    have hl : (l.take k).length = k := by simp; omega
    refine .inr ⟨ad, c, by rw [hl], by omega, h3, h4, fun j hj => ?_⟩
    rw [hl] at hj
    have := h5 j (by omega)
    rw [this, List.getD_eq_getElem?_getD, List.getD_eq_getElem?_getD, List.getElem?_take, if_pos hj]
end Go.Proofs.Ytbcnokidnpnmhaa
