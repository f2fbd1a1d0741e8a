import Derived.Test.YtbolojjnkkgehaaTu
import Derived.Test.YtbolojjnkkgehaaFlp
import Derived.Deep.CutBlock
import Derived.Deep.DeepCutAuto
/-! GraphFlat: its walk. -/
namespace Go.Proofs.Ytbolojjnkkgehaa
open Go.RowKit

def flX (x : EX) : EX := { x with d := flD x.d }
def bkX (x : EX) : EX := { x with d := bkD x.d }
theorem cellsE_append (a b : List EX) : cellsE (a ++ b) = cellsE a ++ cellsE b := by simp [cellsE]
theorem cellsE_snoc (f : EX → EX) {l : List EX} {i : Nat} (h : i < l.length) : cellsE ((l.take (i + 1)).map f) = cellsE ((l.take i).map f) ++ cellsE [f (edAt l i)] := by
  rw [List.take_succ_eq_append_getElem h, List.map_append, cellsE_append, edAt_eq h]
  rfl

/-- The cells of a block. -/
def RowAt (w : World) (b : Nat) (vs : List Value) : Prop := ∀ (k : Nat) (u : Value), vs[k]? = some u → w.cell? ⟨b, k, none⟩ = some u
theorem RowAt.set {w : World} {b : Nat} {vs : List Value} (h : RowAt w b vs) {o : Nat} {u : Value} (ho : o < vs.length) : RowAt (w.setCell ⟨b, o, none⟩ u) b (vs.set o u) := fun k x hk => by
  by_cases e : o = k
  · subst e
    rw [List.getElem?_set_self ho] at hk
    cases hk
    exact World.cell?_setCell_same w ⟨b, o, none⟩ u (h o _ (List.getElem?_eq_getElem ho))
  · rw [List.getElem?_set_ne e] at hk
    exact (World.cell?_setCell_other w ⟨b, o, none⟩ ⟨b, k, none⟩ u (by simp <;> omega)).trans (h k x hk)
theorem RowAt.below {w w' : World} {b : Nat} {vs : List Value} (h : RowAt w b vs) (hb : Below w.heap.size w w') : RowAt w' b vs := fun k x hk => cell_below hb (World.block_lt_of_cell? w _ (h k x hk)) (h k x hk)


/-- What the loop keeps: two graphs with the nodes of the one, their edges under way. -/
structure FlS (w4 wr : World) (b6 b7 : Nat) (nv fv bv : Value) (zs : List EX) (i j : Nat) : Prop where
  bel : Below b6 w4 wr
  c60 : wr.cell? ⟨b6, 0, none⟩ = some nv
  c61 : wr.cell? ⟨b6, 1, none⟩ = some fv
  c70 : wr.cell? ⟨b7, 0, none⟩ = some nv
  c71 : wr.cell? ⟨b7, 1, none⟩ = some bv
  z61 : wr.frozen? ⟨b6, 1, none⟩ = false
  z71 : wr.frozen? ⟨b7, 1, none⟩ = false
  own6 : wr.ownsRow (b7 + 1) 42 6 fv i (cellsE ((zs.take i).map flX))
  own7 : wr.ownsRow (b7 + 1) 42 6 bv j (cellsE ((zs.take j).map bkX))
  sep : ∀ k, fv.ownBlock = some k → bv.ownBlock ≠ some k
  lt : b6 < b7 ∧ b7 < wr.heap.size

theorem grown_set (w : World) (b o : Nat) (u : Value) : w.grownBy (w.setCell ⟨b, o, none⟩ u) (some b) :=
  ⟨rfl, rfl, rfl, by simp, fun i _ hne => Below.heap_setCell w ⟨b, o, none⟩ u i (fun e => hne (by rw [e]))⟩
theorem frozen_grown {w w' : World} {row : Option Nat} (hg : w.grownBy w' row) {b : Nat} (o : Nat) (hlt : b < w.heap.size) (hne : some b ≠ row) : w'.frozen? ⟨b, o, none⟩ = w.frozen? ⟨b, o, none⟩ := World.frozen?_of_block (a := ⟨b, o, none⟩) (hg.block b hlt (fun e => hne (by rw [e])))
theorem grown_alloc (w : World) (o : Obj) (r : Option Nat) : w.grownBy (w.alloc o) r :=
  ⟨rfl, rfl, rfl, by simp, fun i hi _ => Below.heap_alloc w o i hi⟩
theorem own_set {w : World} {B e size : Nat} {v : Value} {n : Nat} {xs : List Value} {b o : Nat} {u : Value} (h : w.ownsRow B e size v n xs) (hne : ∀ k, v.ownBlock = some k → k ≠ b) : (w.setCell ⟨b, o, none⟩ u).ownsRow B e size v n xs := by
  refine World.ownsRow.kept h (grown_set w b o u) ?_
  cases hv : v.ownBlock with
  | none => exact .inl rfl
  | some k => exact .inr (fun e => hne k hv (by cases e; rfl))
section
variable {w4 wr : World} {b6 b7 : Nat} {nv fv bv : Value} {zs : List EX} {i j : Nat}
/-- A store elsewhere. -/
theorem FlS.set (h : FlS w4 wr b6 b7 nv fv bv zs i j) {sb o : Nat} {u : Value} (hs : b7 < sb) (hf : ∀ k, fv.ownBlock = some k → k ≠ sb) (hb : ∀ k, bv.ownBlock = some k → k ≠ sb) : FlS w4 (wr.setCell ⟨sb, o, none⟩ u) b6 b7 nv fv bv zs i j := by
  have h1 := h.lt.1
  have far : ∀ (b o' : Nat) (x : Value), b < sb → wr.cell? ⟨b, o', none⟩ = some x → (wr.setCell ⟨sb, o, none⟩ u).cell? ⟨b, o', none⟩ = some x := fun b o' x hb hx => (World.cell?_setCell_far wr ⟨sb, o, none⟩ ⟨b, o', none⟩ u (by simp; omega)).trans hx
  exact ⟨h.bel.setCell (p := ⟨sb, o, none⟩) (by simp; omega) _, far _ _ _ (by omega) h.c60, far _ _ _ (by omega) h.c61, far _ _ _ hs h.c70, far _ _ _ hs h.c71, (World.frozen?_setCell _ _ _ _).trans h.z61, (World.frozen?_setCell _ _ _ _).trans h.z71, own_set h.own6 hf, own_set h.own7 hb, h.sep, h.lt.1, by simpa using h.lt.2⟩
theorem FlS.set' {sb : Nat} (h : FlS w4 wr b6 b7 nv fv bv zs i j ∧ b7 < sb ∧ (∀ k, fv.ownBlock = some k → k ≠ sb) ∧ (∀ k, bv.ownBlock = some k → k ≠ sb)) {o : Nat} {u : Value} : FlS w4 (wr.setCell ⟨sb, o, none⟩ u) b6 b7 nv fv bv zs i j ∧ b7 < sb ∧ (∀ k, fv.ownBlock = some k → k ≠ sb) ∧ (∀ k, bv.ownBlock = some k → k ≠ sb) := ⟨h.1.set h.2.1 h.2.2.1 h.2.2.2, h.2⟩
theorem FlS.alloc (h : FlS w4 wr b6 b7 nv fv bv zs i j) (o : Obj) : FlS w4 (wr.alloc o) b6 b7 nv fv bv zs i j := by
  have h1 := h.lt
  have hb := (Below.refl wr.heap.size wr).alloc (Nat.le_refl _) o
  exact ⟨h.bel.alloc (by omega) o, cell_below hb (by simp; omega) h.c60, cell_below hb (by simp; omega) h.c61, cell_below hb (by simp; omega) h.c70, cell_below hb (by simp; omega) h.c71, (hb.frozen (p := ⟨b6, 1, none⟩) (by simp; omega)).trans h.z61, (hb.frozen (p := ⟨b7, 1, none⟩) (by simp; omega)).trans h.z71, World.ownsRow.alloc h.own6 o, World.ownsRow.alloc h.own7 o, h.sep, h1.1, by simp; omega⟩
theorem FlS.own6lt (h : FlS w4 wr b6 b7 nv fv bv zs i j) : ∀ k, fv.ownBlock = some k → b7 < k ∧ k < wr.heap.size := fun k hk => by have := own_lt h.own6 k hk; omega
theorem FlS.own7lt (h : FlS w4 wr b6 b7 nv fv bv zs i j) : ∀ k, bv.ownBlock = some k → b7 < k ∧ k < wr.heap.size := fun k hk => by have := own_lt h.own7 k hk; omega
/-- What one append leaves of the two variables. -/
theorem FlS.mid6 (h : FlS w4 wr b6 b7 nv fv bv zs i j) {w2 : World} (hg : wr.grownBy w2 fv.ownBlock) : w2.cell? ⟨b6, 0, none⟩ = some nv ∧ w2.cell? ⟨b6, 1, none⟩ = some fv ∧ w2.cell? ⟨b7, 0, none⟩ = some nv ∧ w2.cell? ⟨b7, 1, none⟩ = some bv ∧ w2.frozen? ⟨b6, 1, none⟩ = false ∧ w2.frozen? ⟨b7, 1, none⟩ = false := by
  have h1 := h.lt
  have n6 : some b6 ≠ fv.ownBlock := fun e => by have := h.own6lt b6 e.symm; omega
  have n7 : some b7 ≠ fv.ownBlock := fun e => by have := h.own6lt b7 e.symm; omega
  exact ⟨hg.cell h.c60 n6, hg.cell h.c61 n6, hg.cell h.c70 n7, hg.cell h.c71 n7, (frozen_grown hg 1 (by omega) n6).trans h.z61, (frozen_grown hg 1 h1.2 n7).trans h.z71⟩
theorem FlS.mid7 (h : FlS w4 wr b6 b7 nv fv bv zs i j) {w2 : World} (hg : wr.grownBy w2 bv.ownBlock) : w2.cell? ⟨b6, 0, none⟩ = some nv ∧ w2.cell? ⟨b6, 1, none⟩ = some fv ∧ w2.cell? ⟨b7, 0, none⟩ = some nv ∧ w2.cell? ⟨b7, 1, none⟩ = some bv ∧ w2.frozen? ⟨b6, 1, none⟩ = false ∧ w2.frozen? ⟨b7, 1, none⟩ = false := by
  have h1 := h.lt
  have n6 : some b6 ≠ bv.ownBlock := fun e => by have := h.own7lt b6 e.symm; omega
  have n7 : some b7 ≠ bv.ownBlock := fun e => by have := h.own7lt b7 e.symm; omega
  exact ⟨hg.cell h.c60 n6, hg.cell h.c61 n6, hg.cell h.c70 n7, hg.cell h.c71 n7, (frozen_grown hg 1 (by omega) n6).trans h.z61, (frozen_grown hg 1 h1.2 n7).trans h.z71⟩
/-- flat.Edges = append(flat.Edges, s) -/
theorem FlS.app6 (h : FlS w4 wr b6 b7 nv fv bv zs i j) {w2 : World} {v2 : Value} (hg : wr.grownBy w2 fv.ownBlock) (hn : Near wr fv v2) (ho : w2.ownsRow (b7 + 1) 42 6 v2 (i + 1) (cellsE ((zs.take (i + 1)).map flX))) :
    FlS w4 (w2.setCell ⟨b6, 1, none⟩ v2) b6 b7 nv v2 bv zs (i + 1) j := by
  obtain ⟨k1, k2, k3, k4, k5, k6⟩ := h.mid6 hg
  have h1 := h.lt
  have hs := hg.size
  have o2 := own_lt ho
  have o7 := h.own7lt
  have hb7 : w2.ownsRow (b7 + 1) 42 6 bv j (cellsE ((zs.take j).map bkX)) := by
    refine World.ownsRow.kept h.own7 hg ?_
    cases hv : bv.ownBlock with
    | none => exact .inl rfl
    | some k => exact .inr (fun e => h.sep k e.symm hv)
  refine ⟨(h.bel.grown hg (by omega) (fun k hk => by have := h.own6lt k hk; omega)).setCell (p := ⟨b6, 1, none⟩) (Nat.le_refl _) _, (World.cell?_setCell_other w2 ⟨b6, 1, none⟩ ⟨b6, 0, none⟩ v2 (by simp)).trans k1, World.cell?_setCell_same w2 ⟨b6, 1, none⟩ v2 k2, (World.cell?_setCell_far w2 ⟨b6, 1, none⟩ ⟨b7, 0, none⟩ v2 (by simp; omega)).trans k3, (World.cell?_setCell_far w2 ⟨b6, 1, none⟩ ⟨b7, 1, none⟩ v2 (by simp; omega)).trans k4, (World.frozen?_setCell _ _ _ _).trans k5, (World.frozen?_setCell _ _ _ _).trans k6, own_set ho (fun k hk => by have := o2 k hk; omega), own_set hb7 (fun k hk => by have := o7 k hk; omega), fun k hk e => ?_, h1.1, by simp; omega⟩
  rcases hn k hk with h2 | h2
  · exact h.sep k h2 e
  · have := o7 k e; omega
/-- back.Edges = append(back.Edges, s) -/
theorem FlS.app7 (h : FlS w4 wr b6 b7 nv fv bv zs i j) {w2 : World} {v2 : Value} (hg : wr.grownBy w2 bv.ownBlock) (hn : Near wr bv v2) (ho : w2.ownsRow (b7 + 1) 42 6 v2 (j + 1) (cellsE ((zs.take (j + 1)).map bkX))) :
    FlS w4 (w2.setCell ⟨b7, 1, none⟩ v2) b6 b7 nv fv v2 zs i (j + 1) := by
  obtain ⟨k1, k2, k3, k4, k5, k6⟩ := h.mid7 hg
  have h1 := h.lt
  have hs := hg.size
  have o2 := own_lt ho
  have o6 := h.own6lt
  have hb6 : w2.ownsRow (b7 + 1) 42 6 fv i (cellsE ((zs.take i).map flX)) := by
    refine World.ownsRow.kept h.own6 hg ?_
    cases hv : fv.ownBlock with
    | none => exact .inl rfl
    | some k => exact .inr (fun e => h.sep k hv e.symm)
  refine ⟨(h.bel.grown hg (by omega) (fun k hk => by have := h.own7lt k hk; omega)).setCell (p := ⟨b7, 1, none⟩) (by simp; omega) _, (World.cell?_setCell_far w2 ⟨b7, 1, none⟩ ⟨b6, 0, none⟩ v2 (by simp; omega)).trans k1, (World.cell?_setCell_far w2 ⟨b7, 1, none⟩ ⟨b6, 1, none⟩ v2 (by simp; omega)).trans k2, (World.cell?_setCell_other w2 ⟨b7, 1, none⟩ ⟨b7, 0, none⟩ v2 (by simp)).trans k3, World.cell?_setCell_same w2 ⟨b7, 1, none⟩ v2 k4, (World.frozen?_setCell _ _ _ _).trans k5, (World.frozen?_setCell _ _ _ _).trans k6, own_set hb6 (fun k hk => by have := o6 k hk; omega), own_set ho (fun k hk => by have := o2 k hk; omega), fun k hk e => ?_, h1.1, by simp; omega⟩
  rcases hn k e with h2 | h2
  · exact h.sep k hk h2
  · have := o6 k hk; omega
end

theorem edges_fl {w wr : World} {v v0 : Value} {zs : List EX} (h : Edges w v0 zs) (hb : Below w.heap.size w wr) (hs : SliceR wr v zs.length (cellsE (zs.map flX))) : Edges wr v (zs.map flX) := by
  refine ⟨by rw [List.length_map]; exact hs, by rw [List.length_map]; exact h.len, fun x hx => ?_, fun x hx => ?_, fun x hx => ?_, fun x hx => ?_, fun x hx => ?_⟩ <;> (obtain ⟨y, hy, rfl⟩ := List.mem_map.1 hx)
  · exact (h.ls y hy).below hb (Nat.le_refl _)
  · exact (h.ps y hy).below hb (Nat.le_refl _)
  · exact h.nm y hy
  · exact h.s0 y hy
  · exact h.d0 y hy
theorem edges_bk {w wr : World} {v v0 : Value} {zs : List EX} (h : Edges w v0 zs) (hb : Below w.heap.size w wr) (hs : SliceR wr v zs.length (cellsE (zs.map bkX))) : Edges wr v (zs.map bkX) := by
  refine ⟨by rw [List.length_map]; exact hs, by rw [List.length_map]; exact h.len, fun x hx => ?_, fun x hx => ?_, fun x hx => ?_, fun x hx => ?_, fun x hx => ?_⟩ <;> (obtain ⟨y, hy, rfl⟩ := List.mem_map.1 hx)
  · exact (h.ls y hy).below hb (Nat.le_refl _)
  · exact (h.ps y hy).below hb (Nat.le_refl _)
  · exact h.nm y hy
  · exact h.d0 y hy
  · exact h.s0 y hy
/-- The three indices. -/
structure I3 (w4 wr : World) (p py pz : Nat) (ns : List Nd) (ds : List Ed) : Prop where
  bel : Below w4.heap.size w4 wr
  x : Index wr p ns ds
  y : Index wr py ns (ds.map flD)
  z : Index wr pz ns (ds.map bkD)
theorem I3.next {w4 wr wr' : World} {p py pz : Nat} {ns : List Nd} {ds : List Ed} (h : I3 w4 wr p py pz ns ds) (hb : Below wr.heap.size wr wr') : I3 w4 wr' p py pz ns ds := ⟨below_trans' h.bel hb, h.x.below hb, h.y.below hb, h.z.below hb⟩
theorem out_flat (p : Nat) (ns : List Nd) (ds : List Ed) (i : Int) (w : World) (h : Index w p ns (ds.map flD)) : Calls Try.prog 12 #[.pointer (some ⟨p, 0, none⟩), .int .i64 i, .int .i64 2] w fun e w' => ∃ v, e = .returned v ∧ Steps w' v (outL ns.length ds i 7) ∧ Below w.heap.size w w' := by
  have h1 := out_any p ns _ i 2 w h
  rw [outL_map flD rfl 2 7 flat2] at h1
  exact h1
theorem out_flat5 (p : Nat) (ns : List Nd) (ds : List Ed) (i : Int) (w : World) (h : Index w p ns (ds.map flD)) : Calls Try.prog 12 #[.pointer (some ⟨p, 0, none⟩), .int .i64 i, .int .i64 5] w fun e w' => ∃ v, e = .returned v ∧ Steps w' v [] ∧ Below w.heap.size w w' := by
  have h1 := out_any p ns _ i 5 w h
  rw [outL_flat5] at h1
  exact h1
theorem out_back (p : Nat) (ns : List Nd) (ds : List Ed) (i : Int) (q q' : Int) (hq : (q = 1 ∧ q' = 4) ∨ (q = 4 ∧ q' = 1) ∨ (q = 2 ∧ q' = 2)) (w : World) (h : Index w p ns (ds.map bkD)) : Calls Try.prog 12 #[.pointer (some ⟨p, 0, none⟩), .int .i64 i, .int .i64 q] w fun e w' => ∃ v, e = .returned v ∧ Steps w' v (outL ns.length ds i q') ∧ Below w.heap.size w w' := by
  have h1 := out_any p ns _ i q w h
  rw [outL_map bkD rfl q q' (back_all q q' hq)] at h1
  exact h1

set_option maxRecDepth 20000 in
set_option maxHeartbeats 4000000 in
theorem flat_any (nv : Value) (xs : List NX) (ev : Value) (es : List EX) (w : World) (hn : Nodes w nv xs) (he : Edges w ev es) :
    Calls Try.prog 5 #[GR nv ev] w fun e w' => e = .returned (.bool true) ∧ Below w.heap.size w w' := by
  obtain ⟨A, c, rfl, hlc, hcm, -, -⟩ := hn.sl.form
  obtain ⟨A', c', rfl, hlc', hcm', -, -⟩ := he.sl.form
  have hb0 := (Below.refl w.heap.size w).alloc (Nat.le_refl _) (.cells #[.slice A xs.length c, .slice A' es.length c'] 25)
  have HN := Lib.hid hn
  have HE := Lib.hid he
  have HNT := Lib.hid (hn.take 50)
  have HET := Lib.hid (he.take 50)
  have HB0 := Lib.hid hb0
  clear hn he hb0
  have hlt : w.heap.size < (w.alloc (.cells #[.slice A xs.length c, .slice A' es.length c'] 25)).heap.size := by simp
  have k0 : (w.alloc (.cells #[.slice A xs.length c, .slice A' es.length c'] 25)).cell? ⟨w.heap.size, 0, none⟩ = some (.slice A xs.length c) := by simp [go_sem]
  have k1 : (w.alloc (.cells #[.slice A xs.length c, .slice A' es.length c'] 25)).cell? ⟨w.heap.size, 1, none⟩ = some (.slice A' es.length c') := by simp [go_sem]
  have f0 : (w.alloc (.cells #[.slice A xs.length c, .slice A' es.length c'] 25)).frozen? ⟨w.heap.size, 0, none⟩ = false := by simp [go_sem]
  have f1 : (w.alloc (.cells #[.slice A xs.length c, .slice A' es.length c'] 25)).frozen? ⟨w.heap.size, 1, none⟩ = false := by simp [go_sem]
  go_enter Try.func5, Try.ntmps5
  go_wp2_with fail
  generalize w.alloc (.cells #[.slice A xs.length c, .slice A' es.length c'] 25) = w0 at *
  refine (shown_any _).mono ?_
  rintro e w1 ⟨rfl, hb1⟩
  have HB1 := Lib.hid (HB0.out.trans (hb1.mono HB0.out.size))
  have m0 := cell_below hb1 hlt k0
  have m1 := cell_below hb1 hlt k1
  have g0 := (hb1.frozen (p := ⟨w.heap.size, 0, none⟩) hlt).trans f0
  have g1 := (hb1.frozen (p := ⟨w.heap.size, 1, none⟩) hlt).trans f1
  have hlt1 := Nat.lt_of_lt_of_le hlt hb1.size
  clear k0 k1 f0 f1 hb1
  go_wp2_with fail
  refine (few_any A c xs A' c' es 50 _ (HN.out.below HB1.out (Nat.le_refl _)) (HE.out.below HB1.out (Nat.le_refl _))).mono ?_
  rintro e w2 ⟨rfl, hb2⟩
  have HB2 := Lib.hid (HB1.out.trans (hb2.mono HB1.out.size))
  have k0 := cell_below hb2 hlt1 m0
  have k1 := cell_below hb2 hlt1 m1
  have f0 := (hb2.frozen (p := ⟨w.heap.size, 0, none⟩) hlt1).trans g0
  have f1 := (hb2.frozen (p := ⟨w.heap.size, 1, none⟩) hlt1).trans g1
  have hlt2 := Nat.lt_of_lt_of_le hlt1 hb2.size
  clear m0 m1 g0 g1 hb2
  have hys : (xs.take 50).length ≤ 50 := by simp; omega
  have hzs : (es.take 50).length ≤ 50 := by simp; omega
  generalize xs.take 50 = ys at *
  generalize es.take 50 = zs at *
  go_wp2_with fail
  have hT := two_set (.slice A ys.length c) (.slice A' zs.length c') k0 k1
  have hB3 : Below w.heap.size w ((w2.setCell ⟨w.heap.size, 0, none⟩ (.slice A ys.length c)).setCell ⟨w.heap.size, 1, none⟩ (.slice A' zs.length c')) := (HB2.out.setCell (p := ⟨w.heap.size, 0, none⟩) (Nat.le_refl _) _).setCell (p := ⟨w.heap.size, 1, none⟩) (Nat.le_refl _) _
  generalize (w2.setCell ⟨w.heap.size, 0, none⟩ (.slice A ys.length c)).setCell ⟨w.heap.size, 1, none⟩ (.slice A' zs.length c') = w3 at *
  have HN3 := Lib.hid (HNT.out.below hB3 (Nat.le_refl _))
  have HE3 := Lib.hid (HET.out.below hB3 (Nat.le_refl _))
  have HB3 := Lib.hid hB3
  clear hB3 k0 k1 f0 f1
  refine (new_any _ ys _ zs _ HN3.out HE3.out).mono ?_
  rintro e w4 ⟨hb4, h4⟩
  have HB4 := Lib.hid (HB3.out.trans (hb4.mono HB3.out.size))
  have hltw : w.heap.size < w3.heap.size := World.block_lt_of_cell? w3 _ hT.c0
  have hT4 := hT.below hb4 hltw
  have k0 := hT4.c0
  have k1 := hT4.c1
  have HN4 := Lib.hid (HN3.out.below hb4 (Nat.le_refl _))
  have HE4 := Lib.hid (HE3.out.below hb4 (Nat.le_refl _))
  clear hb4 hT hltw HNT HN HE HN3 HE3
  rcases h4 with ⟨hr, rfl⟩ | ⟨hr, p, rfl, hx⟩
  · have hr1 : (rightN ys zs != 0) = true := by simpa using hr
    clear hr
    generalize rightN ys zs = r at *
    go_wp2_with fail
    go_ret
    exact ⟨rfl, HB4.out⟩
  · have HR := Lib.hid hr
    have HX := Lib.hid hx
    clear hr hx
    obtain ⟨_, _, hze, -, -, -, hre⟩ := HET.out.sl.form
    cases hze
    have HRE := Lib.hid hre
    clear hre
    have HGS := Lib.hid (⟨HB4.out, hT4, HX.out⟩ : GS w w4 w.heap.size p (.slice A ys.length c) (.slice A' zs.length c') (ys.map (·.d)) (zs.map (·.d)))
    have hltB : w.heap.size < w4.heap.size := World.block_lt_of_cell? w4 _ k0
    have hst : FlS w4 ((w4.alloc (.cells #[.slice A ys.length c, .slice none 0 0] 25)).alloc (.cells #[.slice A ys.length c, .slice none 0 0] 25)) w4.heap.size (w4.heap.size + 1) (.slice A ys.length c) (.slice none 0 0) (.slice none 0 0) zs 0 0 := by
      refine ⟨((Below.refl _ w4).alloc (Nat.le_refl _) _).alloc (by simp) _, by simp [go_sem], by simp [go_sem], by simp [go_sem], by simp [go_sem], by simp [go_sem], by simp [go_sem], World.ownsRow_nil _ _ _ _, World.ownsRow_nil _ _ _ _, fun k hk => by simp [Value.ownBlock] at hk, by simp⟩
    have HST := Lib.hid hst
    clear hst
    go_wp2_with fail
    generalize (w4.alloc (.cells #[.slice A ys.length c, .slice none 0 0] 25)).alloc (.cells #[.slice A ys.length c, .slice none 0 0] 25) = w5 at *
    clear HB0 HB1 HB2 HB3 hcm hcm' hlc hlc' hlt1 hlt2 hT4 HX
    go_loopw [8] (fun v8 wr => ∃ (i : Nat) (fv bv : Value), v8 = .int .i64 i ∧ i ≤ zs.length ∧ Hid (FlS w4 wr w4.heap.size (w4.heap.size + 1) (.slice A ys.length c) fv bv zs i i)) (fun v8 _ => zs.length - (intOf v8).toNat)
    case atStart => exact ⟨0, _, _, rfl, by omega, HST⟩
    case round =>
      obtain ⟨i, fv, bv, rfl, hi, HS⟩ := hrel
      clear HST
      have k1r := cell_below HS.out.bel hltB k1
      by_cases hin : i < zs.length
      · have hin' : (i : Int) < (zs.length : Int) := by omega
        have hi0 : (0 : Int) ≤ (i : Int) := by omega
        obtain ⟨b, q, hA, hbl, e0, e1, e2, e3, e4, e5⟩ := HRE.out.edgeA i hin
        subst hA
        have hbw : b < w4.heap.size := Nat.lt_of_lt_of_le hbl HB4.out.size
        have u0 := cell_below HB4.out hbl e0
        have r0 := cell_below HS.out.bel hbw u0
        have u1 := cell_below HB4.out hbl e1
        have r1 := cell_below HS.out.bel hbw u1
        have u2 := cell_below HB4.out hbl e2
        have r2 := cell_below HS.out.bel hbw u2
        have u3 := cell_below HB4.out hbl e3
        have r3 := cell_below HS.out.bel hbw u3
        have u4 := cell_below HB4.out hbl e4
        have r4 := cell_below HS.out.bel hbw u4
        have u5 := cell_below HB4.out hbl e5
        have r5 := cell_below HS.out.bel hbw u5
        obtain ⟨A1, n1, d1, A2, n2, d2, s4, s5⟩ := HET.out.slices hin
        rw [s4] at r4 u4
        rw [s5] at r5 u5
        have HSF := Lib.hid (cellsE_snoc flX hin)
        have HSB := Lib.hid (cellsE_snoc bkX hin)
        clear e0 e1 e2 e3 e4 e5
        generalize edAt zs i = ex at *
        obtain ⟨ed, elv, epv⟩ := ex
        dsimp only at r0 r1 r2 r3 u0 u1 u2 u3 s4 s5
        subst s4
        subst s5
        obtain ⟨nm, ea, eb, dir, els, eps⟩ := ed
        dsimp only at r0 r1 r2 r3 u0 u1 u2 u3
        have hbW : b < wr.heap.size := World.block_lt_of_cell? wr _ r0
        have h6W : w4.heap.size < wr.heap.size := by have := HS.out.lt; omega
        have h7W : w4.heap.size + 1 < wr.heap.size := HS.out.lt.2
        have hBW : w.heap.size < wr.heap.size := by omega
        have c60 := HS.out.c60
        have c61 := HS.out.c61
        have c70 := HS.out.c70
        have c71 := HS.out.c71
        have z61 := HS.out.z61
        have z71 := HS.out.z71
        have HS1 := Lib.hid ((HS.out.alloc (.cells #[.string nm, .int .i64 ea, .int .i64 eb, .bool false, .slice A1 n1 d1, .slice A2 n2 d2] 42)).alloc (.cells #[.string nm, .int .i64 ea, .int .i64 eb, .bool false, .slice A1 n1 d1, .slice A2 n2 d2] 42))
        have HO6 := Lib.hid HS.out.own6lt
        have HO7 := Lib.hid HS.out.own7lt
        go_upto_region 13 with fail
        go_cut [53] from 36 to 71 (fun v53 wx => ∃ v2, Hid (wr.heap.size < wx.heap.size ∧ RowAt wx wr.heap.size [.string nm, .int .i64 ea, .int .i64 eb, .bool false, .slice A1 n1 d1, .slice A2 n2 d2] ∧ (∀ o, wx.frozen? ⟨wr.heap.size, o, none⟩ = false) ∧ (FlS w4 wx w4.heap.size (w4.heap.size + 1) (.slice A ys.length c) v2 bv zs (i + 1) (i) ∧ w4.heap.size + 1 < wr.heap.size ∧ (∀ k, v2.ownBlock = some k → k ≠ wr.heap.size) ∧ (∀ k, bv.ownBlock = some k → k ≠ wr.heap.size))))
        case first =>
          go_wp2_with (at_builtin; refine wpList_app tyE rfl (.tmp 50) (.tmp 52) rfl (v := fv) rfl HS1.out.own6 ⟨wr.heap.size + 1, 0, none⟩ 1 1 [.string nm, .int .i64 ea, .int .i64 eb, .bool false, .slice A1 n1 d1, .slice A2 n2 d2] rfl rfl rfl (new_cells2 (wr.alloc (.cells #[.string nm, .int .i64 ea, .int .i64 eb, .bool false, .slice A1 n1 d1, .slice A2 n2 d2] 42)) [.string nm, .int .i64 ea, .int .i64 eb, .bool false, .slice A1 n1 d1, .slice A2 n2 d2] 42 _ (World.size_alloc _ _)) (by simp [Value.oneCell']) ?_ ?_ ?_ ?_; omega; omega; (simp <;> omega); intro v2 w2 ho2 hg2 hn2; obtain ⟨y0, y1, y2, y3, y4, y5⟩ := HS1.out.mid6 hg2; have HO2 := Lib.hid ho2; have HG2 := Lib.hid hg2; have HN2 := Lib.hid hn2; have h6W2 : w4.heap.size < w2.heap.size := World.block_lt_of_cell? w2 _ y1; obtain ⟨D2, e2, hv2, -, -, -, -⟩ := (own_reads ho2).form; subst hv2; clear ho2 hg2 hn2 y0 y2 y3 y5)
          go_meet
          case rel =>
            have ho2 := HO2.out
            have hg2 := HG2.out
            have hn2 := HN2.out
            have ho3 : w2.ownsRow (w4.heap.size + 1 + 1) 42 6 (.slice D2 (i + 1) e2) (i + 1) (cellsE ((zs.take (i + 1)).map flX)) := by rw [HSF.out]; exact ho2
            have hF := HS1.out.app6 hg2 hn2 ho3
            have hne : some wr.heap.size ≠ fv.ownBlock := fun e => by have := HO6.out _ e.symm; omega
            have hsz := hg2.size
            simp only [World.size_alloc] at hsz
            have hc : RowAt (w2.setCell ⟨w4.heap.size, 1, none⟩ (.slice D2 (i + 1) e2)) wr.heap.size [.string nm, .int .i64 ea, .int .i64 eb, .bool false, .slice A1 n1 d1, .slice A2 n2 d2] := fun k u hk => by
              refine (World.cell?_setCell_far w2 ⟨w4.heap.size, 1, none⟩ ⟨wr.heap.size, k, none⟩ _ (by simp; omega)).trans (hg2.cell (a := ⟨wr.heap.size, k, none⟩) ?_ hne)
              have h1 := new_cells wr [.string nm, .int .i64 ea, .int .i64 eb, .bool false, .slice A1 n1 d1, .slice A2 n2 d2] 42 k u hk
              rw [Nat.zero_add] at h1
              exact cell_below ((Below.refl _ _).alloc (Nat.le_refl _) _) (by simp) h1
            refine ⟨_, Lib.hid ⟨by simp; omega, hc, fun o => ?_, hF, h7W, fun k hk e => ?_, fun k hk e => ?_⟩⟩
            · refine (World.frozen?_setCell _ _ _ _).trans ((frozen_grown hg2 o (by simp <;> omega) hne).trans (by simp [go_sem]))
            · rcases hn2 k hk with h2 | h2
              · exact hne (by rw [h2, e])
              · simp only [World.size_alloc] at h2; omega
            · have := HO7.out k hk; omega
        case rest =>
          obtain ⟨v2, HM⟩ := hcut
          have hWx := HM.out.1
          have hbW2 : b < wc.heap.size := by omega
          have hBW2 : w.heap.size < wc.heap.size := by omega
          have k1w := cell_below HM.out.2.2.2.1.bel hltB k1
          have t0 := cell_below HM.out.2.2.2.1.bel hbw u0
          have t1 := cell_below HM.out.2.2.2.1.bel hbw u1
          have t2 := cell_below HM.out.2.2.2.1.bel hbw u2
          have t3 := cell_below HM.out.2.2.2.1.bel hbw u3
          have t4 := cell_below HM.out.2.2.2.1.bel hbw u4
          have t5 := cell_below HM.out.2.2.2.1.bel hbw u5
          have s0 := HM.out.2.1 0 _ rfl
          have z0 := HM.out.2.2.1 0
          have s1 := HM.out.2.1 1 _ rfl
          have z1 := HM.out.2.2.1 1
          have s2 := HM.out.2.1 2 _ rfl
          have z2 := HM.out.2.2.1 2
          have s3 := HM.out.2.1 3 _ rfl
          have z3 := HM.out.2.2.1 3
          have s4 := HM.out.2.1 4 _ rfl
          have z4 := HM.out.2.2.1 4
          have s5 := HM.out.2.1 5 _ rfl
          have z5 := HM.out.2.2.1 5
          clear r0 r1 r2 r3 r4 r5 k1r c60 c61 c70 c71 z61 z71
          go_upto_region 14 with fail
          go_cut [58] from 36 to 71 (fun v58 wx => Hid (wr.heap.size < wx.heap.size ∧ RowAt wx wr.heap.size [.string nm, .int .i64 ea, .int .i64 eb, .bool dir, .slice A1 n1 d1, .slice A2 n2 d2] ∧ (∀ o, wx.frozen? ⟨wr.heap.size, o, none⟩ = false) ∧ (FlS w4 wx w4.heap.size (w4.heap.size + 1) (.slice A ys.length c) v2 bv zs (i + 1) (i) ∧ w4.heap.size + 1 < wr.heap.size ∧ (∀ k, v2.ownBlock = some k → k ≠ wr.heap.size) ∧ (∀ k, bv.ownBlock = some k → k ≠ wr.heap.size))))
          case first =>
            go_wp2_with fail
            go_meet
            case rel =>
              refine Lib.hid ⟨by simp; omega, ?_, fun o => ?_, FlS.set' (FlS.set' (FlS.set' (FlS.set' (FlS.set' (FlS.set' HM.out.2.2.2)))))⟩
              · exact RowAt.set (RowAt.set (RowAt.set (RowAt.set (RowAt.set (RowAt.set HM.out.2.1 (by simp)) (by simp)) (by simp)) (by simp)) (by simp)) (by simp)
              · simp only [World.frozen?_setCell]
                exact HM.out.2.2.1 o
          case rest =>
            have HM2 := hcut
            clear hcut HM t0 t1 t2 t3 t4 t5 s0 s1 s2 s3 s4 s5 z0 z1 z2 z3 z4 z5 k1w hWx hbW2 hBW2
            have HM := HM2
            clear HM2
            have hWx := HM.out.1
            have s0 := HM.out.2.1 0 _ rfl
            have z0 := HM.out.2.2.1 0
            have s1 := HM.out.2.1 1 _ rfl
            have z1 := HM.out.2.2.1 1
            have s2 := HM.out.2.1 2 _ rfl
            have z2 := HM.out.2.2.1 2
            have s3 := HM.out.2.1 3 _ rfl
            have z3 := HM.out.2.2.1 3
            have s4 := HM.out.2.1 4 _ rfl
            have z4 := HM.out.2.2.1 4
            have s5 := HM.out.2.1 5 _ rfl
            have z5 := HM.out.2.2.1 5
            go_upto_region 15 with fail
            go_cut [60] from 36 to 71 (fun v60 wx => Hid (wr.heap.size < wx.heap.size ∧ RowAt wx wr.heap.size [.string nm, .int .i64 eb, .int .i64 ea, .bool dir, .slice A1 n1 d1, .slice A2 n2 d2] ∧ (∀ o, wx.frozen? ⟨wr.heap.size, o, none⟩ = false) ∧ (FlS w4 wx w4.heap.size (w4.heap.size + 1) (.slice A ys.length c) v2 bv zs (i + 1) (i) ∧ w4.heap.size + 1 < wr.heap.size ∧ (∀ k, v2.ownBlock = some k → k ≠ wr.heap.size) ∧ (∀ k, bv.ownBlock = some k → k ≠ wr.heap.size))))
            case first =>
              go_wp2_with fail
              go_meet
              case rel =>
                refine Lib.hid ⟨by simp; omega, ?_, fun o => ?_, FlS.set' (FlS.set' HM.out.2.2.2)⟩
                · exact RowAt.set (RowAt.set HM.out.2.1 (by simp)) (by simp)
                · simp only [World.frozen?_setCell]
                  exact HM.out.2.2.1 o
            case rest =>
              have HM2 := hcut
              clear hcut HM s0 s1 s2 s3 s4 s5 z0 z1 z2 z3 z4 z5 hWx
              have HM := HM2
              clear HM2
              have hWx := HM.out.1
              have s0 := HM.out.2.1 0 _ rfl
              have z0 := HM.out.2.2.1 0
              have s1 := HM.out.2.1 1 _ rfl
              have z1 := HM.out.2.2.1 1
              have s2 := HM.out.2.1 2 _ rfl
              have z2 := HM.out.2.2.1 2
              have s3 := HM.out.2.1 3 _ rfl
              have z3 := HM.out.2.2.1 3
              have s4 := HM.out.2.1 4 _ rfl
              have z4 := HM.out.2.2.1 4
              have s5 := HM.out.2.1 5 _ rfl
              have z5 := HM.out.2.2.1 5
              have HS2 := Lib.hid (HM.out.2.2.2.1.alloc (.cells #[.string nm, .int .i64 eb, .int .i64 ea, .bool dir, .slice A1 n1 d1, .slice A2 n2 d2] 42))
              have c71 := HM.out.2.2.2.1.c71
              have h7c : w4.heap.size + 1 < wc.heap.size := by omega
              go_wp2_with (at_builtin; refine wpList_app tyE rfl (.tmp 67) (.tmp 69) rfl (v := bv) rfl HS2.out.own7 ⟨wc.heap.size, 0, none⟩ 1 1 [.string nm, .int .i64 eb, .int .i64 ea, .bool dir, .slice A1 n1 d1, .slice A2 n2 d2] rfl rfl rfl (new_cells2 wc [.string nm, .int .i64 eb, .int .i64 ea, .bool dir, .slice A1 n1 d1, .slice A2 n2 d2] 42 _ rfl) (by simp [Value.oneCell']) ?_ ?_ ?_ ?_; omega; omega; (simp <;> omega); intro v3 w3 ho2 hg2 hn2; obtain ⟨y0, y1, y2, y3, y4, y5⟩ := HS2.out.mid7 hg2; have HO2 := Lib.hid ho2; have HG2 := Lib.hid hg2; have HN2 := Lib.hid hn2; have h6W2 : w4.heap.size + 1 < w3.heap.size := World.block_lt_of_cell? w3 _ y3; obtain ⟨D2, e2, hv2, -, -, -, -⟩ := (own_reads ho2).form; subst hv2; clear ho2 hg2 hn2 y0 y1 y2 y4)
              go_roundw
              case rel =>
                have ho2 := HO2.out
                have ho3 : w3.ownsRow (w4.heap.size + 1 + 1) 42 6 (.slice D2 (i + 1) e2) (i + 1) (cellsE ((zs.take (i + 1)).map bkX)) := by rw [HSB.out]; exact ho2
                exact ⟨i + 1, _, _, by go_num, by omega, Lib.hid (HS2.out.app7 HG2.out HN2.out ho3)⟩
              case measure => simp [intOf]; omega
      · have hni : (zs.length : Int) ≤ (i : Int) := by omega
        obtain rfl : i = zs.length := by omega
        have o6 := own_reads HS.out.own6
        have o7 := own_reads HS.out.own7
        rw [List.take_length] at o6 o7
        have hbr : Below w.heap.size w wr := HB4.out.trans (HS.out.bel.mono HB4.out.size)
        have HE6 := Lib.hid (edges_fl HET.out hbr o6)
        have HE7 := Lib.hid (edges_bk HET.out hbr o7)
        have HNR := Lib.hid (HN4.out.below HS.out.bel (Nat.le_refl _))
        have HBR := Lib.hid hbr
        obtain ⟨A6, x6, hv6, -, -, -, -⟩ := o6.form
        obtain ⟨A7, x7, hv7, -, -, -, -⟩ := o7.form
        subst hv6
        subst hv7
        have HXR := Lib.hid (HGS.out.idx.below HS.out.bel)
        have c60 := HS.out.c60
        have c61 := HS.out.c61
        have c70 := HS.out.c70
        have c71 := HS.out.c71
        have h7r := HS.out.lt.2
        have HR6 := Lib.hid (rightN_map (xs := ys) (es := zs) (zs := zs.map flX) flD (by simp [flX]) (fun _ => rfl) edgeB_fl)
        have HR7 := Lib.hid (rightN_map (xs := ys) (es := zs) (zs := zs.map bkX) bkD (by simp [bkX]) (fun _ => rfl) edgeB_bk)
        have HM6 := Lib.hid (show (zs.map flX).map (·.d) = (zs.map (·.d)).map flD by simp [flX, Function.comp_def])
        have HM7 := Lib.hid (show (zs.map bkX).map (·.d) = (zs.map (·.d)).map bkD by simp [bkX, Function.comp_def])
        clear o6 o7 hbr hi hin hni HRE
        go_wp2_with fail
        have hnew := new_any _ _ _ _ _ HNR.out HE6.out
        refine hnew.mono ?_
        rintro e w6 ⟨hb6, h6⟩
        have hix : ∃ py, e = .returned (.tuple #[.pointer (some ⟨py, 0, none⟩), .int .i64 0]) ∧ Index w6 py (ys.map (·.d)) ((zs.map (·.d)).map flD) := by
          rcases h6 with ⟨h, _⟩ | ⟨_, py, h3, h4⟩
          · exact absurd (HR6.out.trans HR.out) h
          · exact ⟨py, h3, HM6.out ▸ h4⟩
        clear hnew h6
        obtain ⟨py, rfl, hy⟩ := hix
        have HY := Lib.hid hy
        have d70 := cell_below hb6 (by simp; omega) c70
        have d71 := cell_below hb6 (by simp; omega) c71
        have HB6 := Lib.hid hb6
        have HN6 := Lib.hid (HNR.out.below hb6 (Nat.le_refl _))
        have HE76 := Lib.hid (HE7.out.below hb6 (Nat.le_refl _))
        have HX6 := Lib.hid (HXR.out.below hb6)
        have h7s := Nat.lt_of_lt_of_le h7r hb6.size
        clear hy hb6 c60 c61 c70 c71 HE6 HR6 HM6 HNR HE7 HXR
        go_wp2_with fail
        have hnew := new_any _ _ _ _ _ HN6.out HE76.out
        refine hnew.mono ?_
        rintro e w7 ⟨hb7, h7⟩
        have hix : ∃ pz, e = .returned (.tuple #[.pointer (some ⟨pz, 0, none⟩), .int .i64 0]) ∧ Index w7 pz (ys.map (·.d)) ((zs.map (·.d)).map bkD) := by
          rcases h7 with ⟨h, _⟩ | ⟨_, pz, h3, h4⟩
          · exact absurd (HR7.out.trans HR.out) h
          · exact ⟨pz, h3, HM7.out ▸ h4⟩
        clear hnew h7
        obtain ⟨pz, rfl, hz⟩ := hix
        have HI0 := Lib.hid (⟨below_trans' (below_trans' HS.out.bel HB6.out) hb7, HX6.out.below hb7, HY.out.below hb7, hz⟩ : I3 w4 w7 p py pz (ys.map (·.d)) (zs.map (·.d)))
        clear hz hb7 d70 d71 HN6 HE76 HX6 HY HR7 HM7 HS HB6
        have HNL := Lib.hid (show (ys.map (·.d)).length = ys.length by simp)
        generalize ys.map (·.d) = ns at *
        generalize zs.map (·.d) = ds at *
        go_wp2_with fail
        go_loopw [14] (fun v14 wr => ∃ i : Nat, v14 = .int .i64 i ∧ i ≤ ys.length ∧ Hid (I3 w4 wr p py pz ns ds)) (fun v14 _ => ys.length - (intOf v14).toNat)
        case atStart => exact ⟨0, rfl, by omega, HI0⟩
        case round =>
          obtain ⟨i, rfl, hi, HI⟩ := hrel
          clear HI0
          have k0r := cell_below HI.out.bel hltB k0
          by_cases hin : i < ys.length
          · have hin' : (i : Int) < (ys.length : Int) := by omega
            go_wp2_with fail
            refine (out_flat py ns ds (i : Int) _ HI.out.y).mono ?_
            rintro e g1 ⟨v1, rfl, hs, hb⟩
            obtain ⟨B1, f1, rfl, -, -, -⟩ := hs.form
            have HS1 := Lib.hid hs
            have HJ := Lib.hid (HI.out.next hb)
            have HB1 := Lib.hid hb
            clear hs hb HI
            have HI := HJ
            clear HJ
            go_wp2_with fail
            refine (out_any p ns ds (i : Int) 7 _ HI.out.x).mono ?_
            rintro e g2 ⟨v2, rfl, hs, hb⟩
            obtain ⟨B2, f2, rfl, -, -, -⟩ := hs.form
            have HS2 := Lib.hid hs
            have HJ := Lib.hid (HI.out.next hb)
            have HB2 := Lib.hid hb
            clear hs hb HI
            have HI := HJ
            clear HJ
            go_wp2_with fail
            refine (sames_any _ _ (outL ns.length ds (i : Int) 7) _ (Steps.below HS1.out HB2.out) HS2.out).mono ?_
            rintro e g3 ⟨rfl, hb⟩
            have HJ := Lib.hid (HI.out.next hb)
            clear hb HI HS1 HS2 HB1 HB2
            have HI := HJ
            clear HJ
            go_wp2_with fail
            refine (out_flat5 py ns ds (i : Int) _ HI.out.y).mono ?_
            rintro e g4 ⟨v4, rfl, hs, hb⟩
            obtain ⟨B4, f4, rfl, -, -, -⟩ := hs.form
            have HS4 := Lib.hid hs
            have HJ := Lib.hid (HI.out.next hb)
            have HB4 := Lib.hid hb
            clear hs hb HI
            have HI := HJ
            clear HJ
            go_wp2_with fail
            refine (out_back pz ns ds (i : Int) 1 4 (by omega) _ HI.out.z).mono ?_
            rintro e g5 ⟨v5, rfl, hs, hb⟩
            obtain ⟨B5, f5, rfl, -, -, -⟩ := hs.form
            have HS5 := Lib.hid hs
            have HJ := Lib.hid (HI.out.next hb)
            have HB5 := Lib.hid hb
            clear hs hb HI
            have HI := HJ
            clear HJ
            go_wp2_with fail
            refine (out_any p ns ds (i : Int) 4 _ HI.out.x).mono ?_
            rintro e g6 ⟨v6, rfl, hs, hb⟩
            obtain ⟨B6, f6, rfl, -, -, -⟩ := hs.form
            have HS6 := Lib.hid hs
            have HJ := Lib.hid (HI.out.next hb)
            have HB6 := Lib.hid hb
            clear hs hb HI
            have HI := HJ
            clear HJ
            go_wp2_with fail
            refine (sames_any _ _ (outL ns.length ds (i : Int) 4) _ (Steps.below HS5.out HB6.out) HS6.out).mono ?_
            rintro e g7 ⟨rfl, hb⟩
            have HJ := Lib.hid (HI.out.next hb)
            clear hb HI HS5 HS6 HB5 HB6
            have HI := HJ
            clear HJ
            go_wp2_with fail
            refine (out_back pz ns ds (i : Int) 4 1 (by omega) _ HI.out.z).mono ?_
            rintro e g8 ⟨v8, rfl, hs, hb⟩
            obtain ⟨B8, f8, rfl, -, -, -⟩ := hs.form
            have HS8 := Lib.hid hs
            have HJ := Lib.hid (HI.out.next hb)
            have HB8 := Lib.hid hb
            clear hs hb HI
            have HI := HJ
            clear HJ
            go_wp2_with fail
            refine (out_any p ns ds (i : Int) 1 _ HI.out.x).mono ?_
            rintro e g9 ⟨v9, rfl, hs, hb⟩
            obtain ⟨B9, f9, rfl, -, -, -⟩ := hs.form
            have HS9 := Lib.hid hs
            have HJ := Lib.hid (HI.out.next hb)
            have HB9 := Lib.hid hb
            clear hs hb HI
            have HI := HJ
            clear HJ
            go_wp2_with fail
            refine (sames_any _ _ (outL ns.length ds (i : Int) 1) _ (Steps.below HS8.out HB9.out) HS9.out).mono ?_
            rintro e g10 ⟨rfl, hb⟩
            have HJ := Lib.hid (HI.out.next hb)
            clear hb HI HS8 HS9 HB8 HB9
            have HI := HJ
            clear HJ
            go_wp2_with fail
            refine (out_back pz ns ds (i : Int) 2 2 (by omega) _ HI.out.z).mono ?_
            rintro e g11 ⟨v11, rfl, hs, hb⟩
            obtain ⟨B11, f11, rfl, -, -, -⟩ := hs.form
            have HS11 := Lib.hid hs
            have HJ := Lib.hid (HI.out.next hb)
            have HB11 := Lib.hid hb
            clear hs hb HI
            have HI := HJ
            clear HJ
            go_wp2_with fail
            refine (out_any p ns ds (i : Int) 2 _ HI.out.x).mono ?_
            rintro e g12 ⟨v12, rfl, hs, hb⟩
            obtain ⟨B12, f12, rfl, -, -, -⟩ := hs.form
            have HS12 := Lib.hid hs
            have HJ := Lib.hid (HI.out.next hb)
            have HB12 := Lib.hid hb
            clear hs hb HI
            have HI := HJ
            clear HJ
            go_wp2_with fail
            refine (sames_any _ _ (outL ns.length ds (i : Int) 2) _ (Steps.below HS11.out HB12.out) HS12.out).mono ?_
            rintro e g13 ⟨rfl, hb⟩
            have HJ := Lib.hid (HI.out.next hb)
            clear hb HI HS11 HS12 HB11 HB12
            have HI := HJ
            clear HJ
            clear k0r
            go_wp2_with fail
            go_roundw
            case rel => exact ⟨i + 1, by go_num, by omega, HI⟩
            case measure => simp [intOf]; omega
          · have hni : (ys.length : Int) ≤ (i : Int) := by omega
            go_wp2_with fail
            go_ret
            exact ⟨rfl, HB4.out.trans (HI.out.bel.mono HB4.out.size)⟩
end Go.Proofs.Ytbolojjnkkgehaa
