import Derived.Test.YtbolojjnkkgehaaTg2
/-! Graph: what is handed back. -/
namespace Go.Proofs.Ytbolojjnkkgehaa
open Go.RowKit

/-- No cell of this block but empty slices. -/
def Blank (w : World) (B : Nat) : Prop := ∀ o u, w.cell? ⟨B, o, none⟩ = some u → u = .slice none 0 0
theorem blank_new (w : World) : Blank (w.alloc (.cells #[.slice none 0 0, .slice none 0 0] 25)) w.heap.size := fun o u h => by
  match o with
  | 0 => simpa [go_sem] using h.symm
  | 1 => simpa [go_sem] using h.symm
  | o + 2 => simp [go_sem] at h
theorem Blank.below {w w' : World} {B : Nat} (h : Blank w B) (hb : Below w.heap.size w w') (hB : B < w.heap.size) : Blank w' B := fun o u hu => h o u ((hb.cell (p := ⟨B, o, none⟩) hB).symm.trans hu)
/-- The world with the two cells stored. -/
abbrev set2 (w : World) (B : Nat) (x y : Value) : World := (w.setCell ⟨B, 0, none⟩ x).setCell ⟨B, 1, none⟩ y
theorem set2_far (w : World) (B : Nat) (x y : Value) {b o : Nat} (h : b ≠ B) : (set2 w B x y).cell? ⟨b, o, none⟩ = w.cell? ⟨b, o, none⟩ :=
  (World.cell?_setCell_far _ ⟨B, 1, none⟩ ⟨b, o, none⟩ y (by simpa using fun e => h e.symm)).trans (World.cell?_setCell_far w ⟨B, 0, none⟩ ⟨b, o, none⟩ x (by simpa using fun e => h e.symm))
theorem SliceR.set2 {w : World} {v : Value} {n B : Nat} {cs : List Value} (h : SliceR w v n cs) (hB : Blank w B) (x y : Value) (h0 : ∀ j, j < cs.length → ∃ (k : Nat) (u : Value), cs[k]? = some u ∧ u ≠ .slice none 0 0) : SliceR (set2 w B x y) v n cs := by
  obtain ⟨A, c, e, h1, h2, h3, h4⟩ := h
  refine ⟨A, c, e, h1, h2, h3, fun j u hj => ?_⟩
  obtain ⟨b, o, e2, h5⟩ := h4 j u hj
  obtain ⟨k, u0, h6, h7⟩ := h0 j (List.getElem?_eq_some_iff.1 hj).1
  obtain ⟨b', o', e3, h8⟩ := h4 k u0 h6
  rw [e2] at e3
  cases e3
  have hb : b ≠ B := fun e => by subst e; exact h7 (hB _ _ h8)
  exact ⟨b, o, e2, by rw [set2_far w B x y hb]; exact h5⟩
theorem Strs.set2 {w : World} {v : Value} {B : Nat} {l : List ByteArray} (h : Strs w v l) (hB : Blank w B) (x y : Value) : Strs (set2 w B x y) v l := by
  refine ⟨h.sl.set2 hB x y fun j hj => ?_, h.len, h.wf⟩
  cases l with
  | nil => simp [cellsS] at hj
  | cons a l => exact ⟨0, .string a, rfl, by simp⟩
theorem Props.set2 {w : World} {v : Value} {B : Nat} {l : List Pr} (h : Props w v l) (hB : Blank w B) (x y : Value) : Props (set2 w B x y) v l := by
  refine ⟨h.sl.set2 hB x y fun j hj => ?_, h.len, h.wf⟩
  cases l with
  | nil => simp [cellsP] at hj
  | cons a l => exact ⟨0, .string a.nm, rfl, by simp⟩
theorem Nodes.set2 {w : World} {v : Value} {B : Nat} {l : List NX} (h : Nodes w v l) (hB : Blank w B) (x y : Value) : Nodes (set2 w B x y) v l := by
  refine ⟨h.sl.set2 hB x y fun j hj => ?_, h.len, fun z hz => (h.ls z hz).set2 hB x y, fun z hz => (h.ps z hz).set2 hB x y, h.nm⟩
  cases l with
  | nil => simp [cellsN] at hj
  | cons a l => exact ⟨0, .string a.d.nm, rfl, by simp⟩
theorem Edges.set2 {w : World} {v : Value} {B : Nat} {l : List EX} (h : Edges w v l) (hB : Blank w B) (x y : Value) : Edges (set2 w B x y) v l := by
  refine ⟨h.sl.set2 hB x y fun j hj => ?_, h.len, fun z hz => (h.ls z hz).set2 hB x y, fun z hz => (h.ps z hz).set2 hB x y, h.nm, h.s0, h.d0⟩
  cases l with
  | nil => simp [cellsE] at hj
  | cons a l => exact ⟨0, .string a.d.nm, rfl, by simp⟩

set_option maxHeartbeats 1000000 in
/-- (*Index).Graph -/
theorem graph_any (p : Nat) (ns : List Nd) (es : List Ed) (w : World) (hx : Index w p ns es) :
    Calls Try.prog 30 #[.pointer (some ⟨p, 0, none⟩)] w fun e w' => ∃ nv xs ev zs, e = .returned (GR nv ev) ∧ Nodes w' nv xs ∧ Edges w' ev zs ∧ xs.map (·.d) = ns ∧ zs.map (·.d) = es ∧ Below w.heap.size w w' := by
  obtain ⟨nv, ev, mn, me, ov, xs, zs, vs, rfl, rfl, hi⟩ := hx
  have hp := hi.ix.lt
  have hb0 := (Below.refl w.heap.size w).alloc (Nat.le_refl _) (.cells #[.slice none 0 0, .slice none 0 0] 25)
  have h0 := hi.ix.c0
  have h1 := hi.ix.c1
  have HN := Lib.hid (hi.ny.below hb0 (Nat.le_refl _))
  have HE := Lib.hid (hi.ez.below hb0 (Nat.le_refl _))
  have HBL := Lib.hid (blank_new w)
  have k0 : (w.alloc (.cells #[.slice none 0 0, .slice none 0 0] 25)).cell? ⟨w.heap.size, 0, none⟩ = some (.slice none 0 0) := by simp [go_sem]
  have k1 : (w.alloc (.cells #[.slice none 0 0, .slice none 0 0] 25)).cell? ⟨w.heap.size, 1, none⟩ = some (.slice none 0 0) := by simp [go_sem]
  have z : ∀ o, (w.alloc (.cells #[.slice none 0 0, .slice none 0 0] 25)).frozen? ⟨w.heap.size, o, none⟩ = false := fun o => by simp [go_sem]
  have hlt : w.heap.size < (w.alloc (.cells #[.slice none 0 0, .slice none 0 0] 25)).heap.size := by simp
  have HB0 := Lib.hid hb0
  have g0 := cell_below hb0 hp h0
  have g1 := cell_below hb0 hp h1
  have hp2 : p < (w.alloc (.cells #[.slice none 0 0, .slice none 0 0] 25)).heap.size := Nat.lt_trans hp hlt
  clear hi hb0 h0 h1
  go_enter Try.func30, Try.ntmps30
  go_wp2_with fail
  generalize w.alloc (.cells #[.slice none 0 0, .slice none 0 0] 25) = w0 at *
  refine (own_any nv xs ev zs _ HN.out HE.out).mono ?_
  rintro e w1 ⟨nv', ys, ev', es', rfl, hn1, he1, hnd, hed, hb1⟩
  have HB1 := Lib.hid (below_trans' HB0.out hb1)
  have m0 := cell_below hb1 hlt k0
  have m1 := cell_below hb1 hlt k1
  have y0 := (hb1.frozen (p := ⟨w.heap.size, 0, none⟩) hlt).trans (z 0)
  have y1 := (hb1.frozen (p := ⟨w.heap.size, 1, none⟩) hlt).trans (z 1)
  have HBL1 := Lib.hid (HBL.out.below hb1 hlt)
  have HN1 := Lib.hid hn1
  have HE1 := Lib.hid he1
  obtain ⟨A1, c1, rfl, -, -, -, -⟩ := hn1.sl.form
  obtain ⟨A2, c2, rfl, -, -, -, -⟩ := he1.sl.form
  clear hn1 he1 hb1 k0 k1 z g0 g1
  go_wp2_with fail
  have hT := two_set (.slice A1 ys.length c1) (.slice A2 es'.length c2) m0 m1
  have r0 := hT.c0
  have r1 := hT.c1
  refine bodyPost_ret (v := GR (.slice A1 ys.length c1) (.slice A2 es'.length c2)) ?_ rfl ?_
  · simp [results, Try.results30, go_sem, r0, r1]
  · exact ⟨_, ys, _, es', rfl, HN1.out.set2 HBL1.out _ _, HE1.out.set2 HBL1.out _ _, hnd, hed, (HB1.out.setCell (p := ⟨w.heap.size, 0, none⟩) (Nat.le_refl _) _).setCell (p := ⟨w.heap.size, 1, none⟩) (Nat.le_refl _) _⟩
end Go.Proofs.Ytbolojjnkkgehaa
