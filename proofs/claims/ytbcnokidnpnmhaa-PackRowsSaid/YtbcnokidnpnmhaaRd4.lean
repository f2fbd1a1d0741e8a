import Derived.Test.YtbcnokidnpnmhaaRd3
import Derived.Test.YtbcnokidnpnmhaaPv
namespace Go.Proofs.Ytbcnokidnpnmhaa
open Go.RowKit

theorem block_set {w : World} {b o : Nat} {u : Value} {cs : Array Value} {t : TypeId} {fr : Nat × Nat} (h : w.heap[b]? = some (.cells cs t fr)) : (w.setCell ⟨b, o, none⟩ u).heap[b]? = some (.cells (cs.setIfInBounds o u) t fr) := by
  have hlt := lt_of_block h
  have h' : w.heap[b] = .cells cs t fr := by simpa [Array.getElem?_eq_getElem hlt] using h
  show (w.heap.modify b _)[b]? = _
  rw [Array.getElem?_eq_getElem (by simpa using hlt), Array.getElem_modify_self, h']
  rfl

/-- A value in the block vb. -/
def ValAt (w : World) (vb : Nat) (k n : Int) (f : Nat) (s : ByteArray) : Prop := w.heap[vb]? = some (VOBJ k n f s)

section
variable {w : World} {vb : Nat} {k n : Int} {f : Nat} {s : ByteArray}
theorem ValAt.c0 (h : ValAt w vb k n f s) : w.cell? ⟨vb, 0, none⟩ = some (.int .i64 k) := by rw [cell_of_row w vb 0 _ _ _ h]; rfl
theorem ValAt.c1 (h : ValAt w vb k n f s) : w.cell? ⟨vb, 1, none⟩ = some (.int .i64 n) := by rw [cell_of_row w vb 1 _ _ _ h]; rfl
theorem ValAt.c2 (h : ValAt w vb k n f s) : w.cell? ⟨vb, 2, none⟩ = some (.float .f64 f) := by rw [cell_of_row w vb 2 _ _ _ h]; rfl
theorem ValAt.c3 (h : ValAt w vb k n f s) : w.cell? ⟨vb, 3, none⟩ = some (.string s) := by rw [cell_of_row w vb 3 _ _ _ h]; rfl
theorem ValAt.fz (h : ValAt w vb k n f s) (o : Nat) : w.frozen? ⟨vb, o, none⟩ = false := by
  unfold ValAt at h
  simp [World.frozen?, h]
theorem ValAt.set0 (h : ValAt w vb k n f s) (x : Int) : ValAt (w.setCell ⟨vb, 0, none⟩ (.int .i64 x)) vb x n f s := block_set h
theorem ValAt.set1 (h : ValAt w vb k n f s) (x : Int) : ValAt (w.setCell ⟨vb, 1, none⟩ (.int .i64 x)) vb k x f s := block_set h
theorem ValAt.set2 (h : ValAt w vb k n f s) (x : Nat) : ValAt (w.setCell ⟨vb, 2, none⟩ (.float .f64 x)) vb k n x s := block_set h
theorem ValAt.set3 (h : ValAt w vb k n f s) (x : ByteArray) : ValAt (w.setCell ⟨vb, 3, none⟩ (.string x)) vb k n f x := block_set h
theorem ValAt.grown {w' : World} {r : Option Nat} (h : ValAt w vb k n f s) (hg : w.grownBy w' r) (hne : some vb ≠ r) : ValAt w' vb k n f s :=
  (hg.block vb (lt_of_block h) hne).trans h
theorem ValAt.below {w' : World} (h : ValAt w vb k n f s) (hb : Below w.heap.size w w') : ValAt w' vb k n f s := h.grown (grown_below hb none) (by simp)
theorem ValAt.drewN (h : ValAt w vb k n f s) (j : Nat) : ValAt (w.drewN j) vb k n f s := h
end

theorem RdAt.other {w : World} {pb : Nat} {v : Value} {l : List UInt8} {pos : Nat} (h : RdAt w pb v l pos) {b : Nat} (hb : b ≠ pb) (hv : v.ownBlock ≠ some b) (o : Nat) (u : Value) : RdAt (w.setCell ⟨b, o, none⟩ u) pb v l pos :=
  ⟨(World.cell?_setCell_other w _ _ _ (by intro e; injection e with e1; exact hb e1)).trans h.c0, (World.cell?_setCell_other w _ _ _ (by intro e; injection e with e1; exact hb e1)).trans h.c1, by rw [World.frozen?_setCell]; exact h.fz,
    h.rd.kept fun b' o' x hx hb' => (World.cell?_setCell_other w _ _ _ (by intro e; injection e with e1; subst e1; exact hv hb')).trans hx, h.ne, h.le⟩
theorem ReadsB.lt {w : World} {v : Value} {l : List UInt8} (h : ReadsB w v l) (hl : l ≠ []) : ∀ b, v.ownBlock = some b → b < w.heap.size := by
  intro b hb
  rcases h with ⟨rfl, h0⟩ | ⟨ad, c, rfl, h1, h2, h3, h4⟩
  · exact absurd h0 hl
  · have : 0 < l.length := List.length_pos_iff.2 hl
    have h5 := World.block_lt_of_cell? w _ (h4 0 this)
    simp [Value.ownBlock] at hb
    rw [← hb]; exact h5

/-- The world behind the first byte: the value's block is new, the reader stands behind the byte. -/
theorem after_take (w : World) (pb : Nat) (v : Value) (l : List UInt8) (pos k : Nat) (v1 : Value) (h : RdAt w pb v l pos) (hp : pos < l.length) (c : Nat) (hc : (l[pos]).toNat = c)
    (hr : ReadsB (w.alloc (VOBJ 0 0 0 ⟨#[]⟩)) v1 ((l.drop pos).take 1)) (ho : v1.ownBlock = v.ownBlock) :
    ∃ w3, ((w.alloc (VOBJ 0 0 0 ⟨#[]⟩)).setCell ⟨pb, 1, none⟩ (.int .i64 ((pos : Int) + (1 : Nat)))).drewN k = w3 ∧ w.grownBy w3 (some pb) ∧ RdAt w3 pb v l (pos + 1) ∧ ValAt w3 w.heap.size 0 0 0 ⟨#[]⟩ ∧
      (∃ ad cap, v1 = .slice (some ad) 1 cap ∧ w3.cell? ad = some (.int .u8 c)) ∧ w.heap.size ≠ pb ∧ v.ownBlock ≠ some w.heap.size := by
  have hpb : pb < w.heap.size := World.block_lt_of_cell? w _ h.c0
  have hA := h.below ((Below.refl w.heap.size w).alloc (Nat.le_refl _) (VOBJ 0 0 0 ⟨#[]⟩))
  have hvl := h.rd.lt (by intro e; subst e; simp at hp)
  refine ⟨_, rfl, ?_, hA.took (n := 1) (by omega), ?_, ?_, by omega, fun e => by have := hvl _ e; omega⟩
  · exact grown_trans (World.grownBy_alloc w _ (some pb)) (grown_set _ _ _ _ _) (fun _ h => .inl h)
  · refine ValAt.drewN (ValAt.grown (w := w.alloc (VOBJ 0 0 0 ⟨#[]⟩)) ?_ (grown_set _ pb 1 _ 0) (by simp; omega)) k
    exact heap_alloc_new w _
  · obtain ⟨ad, cap, e, hcl⟩ := first_byte (w := ((w.alloc (VOBJ 0 0 0 ⟨#[]⟩)).setCell ⟨pb, 1, none⟩ (.int .i64 ((pos : Int) + (1 : Nat)))).drewN k) (hr.kept fun b o u hx hb => by
      rw [World.cell?_drewN]
      exact (World.cell?_setCell_other _ _ _ _ (by intro e; injection e with e1; subst e1; exact h.ne (ho ▸ hb))).trans hx) hp
    rw [hc] at hcl
    exact ⟨ad, cap, e, hcl⟩

/-- Midway: a value in its block, the reader at a place; of what was there only the reader has turned. -/
structure Mid (w : World) (pb : Nat) (v : Value) (l : List UInt8) (pos : Nat) (W : World) (vb : Nat) (k n : Int) (f : Nat) (s : ByteArray) : Prop where
  gr : w.grownBy W (some pb)
  rd : RdAt W pb v l pos
  val : ValAt W vb k n f s
  ne : vb ≠ pb
  ne2 : v.ownBlock ≠ some vb
  ge : w.heap.size ≤ vb

section
variable {w : World} {pb : Nat} {v : Value} {l : List UInt8} {pos : Nat} {W : World} {vb : Nat} {k n : Int} {f : Nat} {s : ByteArray}
theorem grown_new {W : World} (h : w.grownBy W (some pb)) {vb : Nat} (hv : w.heap.size ≤ vb) (o : Nat) (u : Value) : w.grownBy (W.setCell ⟨vb, o, none⟩ u) (some pb) :=
  grown_trans h (r2 := some vb) (grown_set W vb o u 0) (fun k hk => by injection hk with hk; subst hk; exact .inr hv)
theorem Mid.set0 (h : Mid w pb v l pos W vb k n f s) (x : Int) : Mid w pb v l pos (W.setCell ⟨vb, 0, none⟩ (.int .i64 x)) vb x n f s := ⟨grown_new h.gr h.ge _ _, h.rd.other h.ne h.ne2 _ _, h.val.set0 x, h.ne, h.ne2, h.ge⟩
theorem Mid.set1 (h : Mid w pb v l pos W vb k n f s) (x : Int) : Mid w pb v l pos (W.setCell ⟨vb, 1, none⟩ (.int .i64 x)) vb k x f s := ⟨grown_new h.gr h.ge _ _, h.rd.other h.ne h.ne2 _ _, h.val.set1 x, h.ne, h.ne2, h.ge⟩
theorem Mid.set2 (h : Mid w pb v l pos W vb k n f s) (x : Nat) : Mid w pb v l pos (W.setCell ⟨vb, 2, none⟩ (.float .f64 x)) vb k n x s := ⟨grown_new h.gr h.ge _ _, h.rd.other h.ne h.ne2 _ _, h.val.set2 x, h.ne, h.ne2, h.ge⟩
theorem Mid.set3 (h : Mid w pb v l pos W vb k n f s) (x : ByteArray) : Mid w pb v l pos (W.setCell ⟨vb, 3, none⟩ (.string x)) vb k n f x := ⟨grown_new h.gr h.ge _ _, h.rd.other h.ne h.ne2 _ _, h.val.set3 x, h.ne, h.ne2, h.ge⟩
theorem Mid.turned (h : Mid w pb v l pos W vb k n f s) {W' : World} {pos' : Nat} (hg : W.grownBy W' (some pb)) (hr : RdAt W' pb v l pos') : Mid w pb v l pos' W' vb k n f s :=
  ⟨grown_same h.gr hg, hr, h.val.grown hg (fun e => by injection e with e; exact h.ne e), h.ne, h.ne2, h.ge⟩
theorem Mid.below (h : Mid w pb v l pos W vb k n f s) {W' : World} (hb : Below W.heap.size W W') : Mid w pb v l pos W' vb k n f s :=
  h.turned (grown_below hb _) (h.rd.below hb)
theorem Mid.lack (h : Mid w pb v l pos W vb k n f s) {W' : World} (hg : W.grownBy W' (some pb)) : w.grownBy W' (some pb) := grown_same h.gr hg
end

/-- The first byte is none that a value may begin with; or there is no byte. -/
theorem value_none (pb : Nat) (v : Value) (l : List UInt8) (pos : Nat) (w : World) (h : RdAt w pb v l pos) (hp : ¬ pos < l.length) (R : Ending → World → Prop)
    (hL : ∀ w', w.grownBy w' (some pb) → R LACK w') :
    Calls Try.prog 39 #[.pointer (some ⟨pb, 0, none⟩)] w R := by
  have HL := Lib.hid hL
  have HLE := Lib.hid h.le
  have HA := Lib.hid (h.below ((Below.refl w.heap.size w).alloc (Nat.le_refl _) (VOBJ 0 0 0 ⟨#[]⟩)))
  clear hL
  go_enter Try.func39, Try.ntmps39
  go_wp2_with fail
  refine (take_lack pb v l pos 1 _ HA.out (by omega) (by omega)).mono ?_
  rintro e w1 ⟨rfl, k, rfl⟩
  refine ⟨rfl, HL.out _ ?_⟩
  exact grown_trans (World.grownBy_alloc w _ (some pb)) (grown_drewN _ _ _) (fun _ h => .inl h)

end Go.Proofs.Ytbcnokidnpnmhaa
