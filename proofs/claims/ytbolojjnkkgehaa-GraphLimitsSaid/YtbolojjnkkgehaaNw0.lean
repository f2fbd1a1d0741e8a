import Derived.Test.YtbolojjnkkgehaaR12
import Derived.Test.YtbolojjnkkgehaaRig
/-! An index: what it is made of, and how it is kept while it is made. -/
namespace Go.Proofs.Ytbolojjnkkgehaa
open Go.RowKit Go.Shelf

def edD (es : List Ed) (i : Nat) : Ed := es.getD i ⟨⟨#[]⟩, 0, 0, false, [], []⟩
/-- From which nodes an edge leads, and how. -/
def ledZ (i : Int) (d : Ed) : List (Int × Ld) :=
  if d.src = d.dst then [(d.src, ⟨i, d.dst, if d.dir then bits .or .i64 4 1 else bits .or .i64 2 2⟩)] else [(d.src, ⟨i, d.dst, if d.dir then 4 else 2⟩), (d.dst, ⟨i, d.src, if d.dir then 1 else 2⟩)]
/-- All leads of the first k edges. -/
def tokT (es : List Ed) (k : Nat) : List (Int × Ld) := (List.range k).flatMap fun i : Nat => ledZ (i : Int) (edD es i)
theorem tokT_succ (es : List Ed) (k : Nat) : tokT es (k + 1) = tokT es k ++ ledZ k (edD es k) := by simp [tokT, List.range_succ]
theorem ledZ_length (i : Int) (d : Ed) : (ledZ i d).length ≤ 2 := by unfold ledZ; split <;> simp
theorem tokT_length (es : List Ed) : ∀ k, (tokT es k).length ≤ 2 * k
  | 0 => by simp [tokT]
  | k + 1 => by
    have h1 := tokT_length es k
    have h2 := ledZ_length k (edD es k)
    rw [tokT_succ, List.length_append]
    omega
def tokZ {m : Nat} (l : List (Fin m × Ld)) : List (Int × Ld) := l.map fun x => ((x.1.val : Int), x.2)
theorem tokZ_led {m : Nat} (i : Int) (a b : Fin m) (d : Ed) (h1 : d.src = a.val) (h2 : d.dst = b.val) : tokZ (ledF i a b d.dir) = ledZ i d := by
  unfold ledF ledZ
  rw [h1, h2]
  by_cases h : a = b
  · subst h; simp [tokZ]
  · have hne : ¬ (a.val : Int) = (b.val : Int) := fun e => h (Fin.ext (by omega))
    rw [if_neg h, if_neg hne]
    simp [tokZ]
theorem tokZ_append {m : Nat} (a b : List (Fin m × Ld)) : tokZ (a ++ b) = tokZ a ++ tokZ b := by simp [tokZ]

/-- The index at p, its parts named. -/
structure IndexR (w : World) (p : Nat) (nv ev : Value) (mn me : Nat) (ov : Value) (xs : List NX) (zs : List EX) (vs : List Value) : Prop where
  ix : IdxAt w p nv ev mn me ov
  ny : Nodes w nv xs
  ez : Edges w ev zs
  mpn : MapAt w mn (xs.map (·.d.nm)) xs.length
  mpe : MapAt w me (zs.map (·.d.nm)) zs.length
  ov : SliceR w ov xs.length vs
  vl : vs.length = xs.length
  vr : ∀ j (h : j < vs.length), SliceR w vs[j] (lstZ (tokT (zs.map (·.d)) zs.length) j).length (cellsL (lstZ (tokT (zs.map (·.d)) zs.length) j))
/-- The index at p is of this graph. -/
def Index (w : World) (p : Nat) (ns : List Nd) (es : List Ed) : Prop := ∃ nv ev mn me ov xs zs vs, xs.map (·.d) = ns ∧ zs.map (·.d) = es ∧ IndexR w p nv ev mn me ov xs zs vs
theorem IndexR.below {w w' : World} {p : Nat} {nv ev : Value} {mn me : Nat} {ov : Value} {xs : List NX} {zs : List EX} {vs : List Value} (h : IndexR w p nv ev mn me ov xs zs vs) (hb : Below w.heap.size w w') : IndexR w' p nv ev mn me ov xs zs vs :=
  ⟨h.ix.below hb h.ix.lt, h.ny.below hb (Nat.le_refl _), h.ez.below hb (Nat.le_refl _), h.mpn.below hb h.mpn.lt, h.mpe.below hb h.mpe.lt, h.ov.below hb (Nat.le_refl _), h.vl, fun j hj => (h.vr j hj).below hb (Nat.le_refl _)⟩
theorem Index.below {w w' : World} {p : Nat} {ns : List Nd} {es : List Ed} (h : Index w p ns es) (hb : Below w.heap.size w w') : Index w' p ns es := by
  obtain ⟨nv, ev, mn, me, ov, xs, zs, vs, h1, h2, h3⟩ := h
  exact ⟨nv, ev, mn, me, ov, xs, zs, vs, h1, h2, h3.below hb⟩

/-- All cells and maps lie as they lay. -/
def KeptObj (w w' : World) : Prop := ∀ (k : Nat) (o : Obj), w.heap[k]? = some o → (∀ x, o ≠ .deferred x) → w'.heap[k]? = some o
theorem KeptObj.cell {w w' : World} (h : KeptObj w w') {a : Addr} {v : Value} (hc : w.cell? a = some v) : w'.cell? a = some v := by
  obtain ⟨o, ho, hcl⟩ := cells_of_cell hc
  have := h a.block o ho (fun x e => by subst e; cases hcl)
  exact (World.cell?_of_block (by rw [this, ho])).trans hc
theorem KeptObj.frozen {w w' : World} (h : KeptObj w w') {a : Addr} {v : Value} (hc : w.cell? a = some v) : w'.frozen? a = w.frozen? a := by
  obtain ⟨o, ho, hcl⟩ := cells_of_cell hc
  have := h a.block o ho (fun x e => by subst e; cases hcl)
  exact World.frozen?_of_block (by rw [this, ho])
theorem SliceR.keptO {w w' : World} {v : Value} {n : Nat} {cs : List Value} (h : SliceR w v n cs) (hk : KeptObj w w') : SliceR w' v n cs := by
  obtain ⟨A, c, h1, h2, h3, h4, h5⟩ := h
  refine ⟨A, c, h1, h2, h3, h4, fun j u hj => ?_⟩
  obtain ⟨b, o, h6, h7⟩ := h5 j u hj
  exact ⟨b, o, h6, hk.cell h7⟩
theorem Strs.keptO {w w' : World} {v : Value} {l : List ByteArray} (h : Strs w v l) (hk : KeptObj w w') : Strs w' v l := ⟨h.sl.keptO hk, h.len, h.wf⟩
theorem Props.keptO {w w' : World} {v : Value} {l : List Pr} (h : Props w v l) (hk : KeptObj w w') : Props w' v l := ⟨h.sl.keptO hk, h.len, h.wf⟩
theorem Nodes.keptO {w w' : World} {v : Value} {l : List NX} (h : Nodes w v l) (hk : KeptObj w w') : Nodes w' v l := ⟨h.sl.keptO hk, h.len, fun x hx => (h.ls x hx).keptO hk, fun x hx => (h.ps x hx).keptO hk, h.nm⟩
theorem Edges.keptO {w w' : World} {v : Value} {l : List EX} (h : Edges w v l) (hk : KeptObj w w') : Edges w' v l := ⟨h.sl.keptO hk, h.len, fun x hx => (h.ls x hx).keptO hk, fun x hx => (h.ps x hx).keptO hk, h.nm, h.s0, h.d0⟩
theorem MapAt.keptO {w w' : World} {b : Nat} {ns : List ByteArray} {k : Nat} (h : MapAt w b ns k) (hk : KeptObj w w') : MapAt w' b ns k := by
  obtain ⟨es, clock, h1, h2⟩ := h
  exact ⟨es, clock, hk _ _ h1 (fun x e => by cases e), h2⟩
theorem IdxAt.keptO {w w' : World} {p : Nat} {nv ev : Value} {mn me : Nat} {ov : Value} (h : IdxAt w p nv ev mn me ov) (hk : KeptObj w w') : IdxAt w' p nv ev mn me ov := by
  refine ⟨hk.cell h.c0, hk.cell h.c1, hk.cell h.c2, hk.cell h.c3, hk.cell h.c4, fun j => ?_⟩
  obtain ⟨o, ho, hcl⟩ := cells_of_cell h.c0
  have := hk p o ho (fun x e => by subst e; cases hcl)
  exact (World.frozen?_of_block (a := ⟨p, j, none⟩) (by rw [this, ho])).trans (h.fz j)
theorem IndexR.keptO {w w' : World} {p : Nat} {nv ev : Value} {mn me : Nat} {ov : Value} {xs : List NX} {zs : List EX} {vs : List Value} (h : IndexR w p nv ev mn me ov xs zs vs) (hk : KeptObj w w') : IndexR w' p nv ev mn me ov xs zs vs :=
  ⟨h.ix.keptO hk, h.ny.keptO hk, h.ez.keptO hk, h.mpn.keptO hk, h.mpe.keptO hk, h.ov.keptO hk, h.vl, fun j hj => (h.vr j hj).keptO hk⟩

/-- What New has when its loop begins: W0 the world there. -/
structure NwBase (w w3 W0 : World) (xb p ob m mn me : Nat) (nv ev : Value) (ys : List NX) (zs : List EX) : Prop where
  b : Below w.heap.size w w3
  b3 : Below w3.heap.size w3 W0
  ny : Nodes w3 nv ys
  ez : Edges w3 ev zs
  xc : W0.cell? ⟨xb, 0, none⟩ = some (.pointer (some ⟨p, 0, none⟩))
  ix : IdxAt W0 p nv ev mn me (.slice (some ⟨ob, 0, none⟩) m m)
  mpn : MapAt W0 mn (ys.map (·.d.nm)) ys.length
  mpe : MapAt W0 me (zs.map (·.d.nm)) zs.length
  ob3 : w3.heap.size ≤ ob
  nx : xb ≠ ob
  np : p ≠ ob
  nmn : mn ≠ ob
  nme : me ≠ ob
  len : ys.length = m

/-- What its loop keeps. -/
structure NwInv (W0 W : World) (ob m : Nat) (q : List (Int × Ld)) (Ds : List Nat) : Prop where
  g : W0.grownBy W (some ob)
  out : ∃ vs, vs.length = m ∧ OutSt W W0.heap.size ob vs q
  marks : ∀ D ∈ Ds, W0.heap.size ≤ D ∧ W.heap[D]? = some (.deferred (some []))

theorem grown_new {a b c : World} {r : Option Nat} {B : Nat} (h : a.grownBy b r) (k : Below B b c) (hB : a.heap.size ≤ B) : a.grownBy c r :=
  ⟨k.os.trans h.os, k.tape.trans h.tape, k.output.trans h.output, Nat.le_trans h.size k.size, fun i hi hne => (k.block i (by omega)).trans (h.block i hi hne)⟩
theorem NwInv.next {W0 W W' : World} {ob m : Nat} {q : List (Int × Ld)} {Ds : List Nat} (h : NwInv W0 W ob m q Ds) (hb : Below W.heap.size W W') : NwInv W0 W' ob m q Ds := by
  refine ⟨grown_new h.g hb h.g.size, ?_, fun D hD => ⟨(h.marks D hD).1, ?_⟩⟩
  · obtain ⟨vs, hv, ho⟩ := h.out
    exact ⟨vs, hv, ho.cells fun k o hk _ => (hb.block k (Array.getElem?_eq_some_iff.1 hk).1).trans hk⟩
  · have := (h.marks D hD).2
    exact (hb.block D (Array.getElem?_eq_some_iff.1 this).1).trans this

theorem NwBase.below {w w3 W0 W : World} {xb p ob m mn me : Nat} {nv ev : Value} {ys : List NX} {zs : List EX} (hB : NwBase w w3 W0 xb p ob m mn me nv ev ys zs) (hg : W0.grownBy W (some ob)) : Below w3.heap.size w3 W :=
  hB.b3.grown hg hB.b3.size (fun k hk => by cases hk; exact hB.ob3)
theorem NwBase.belowW {w w3 W0 W : World} {xb p ob m mn me : Nat} {nv ev : Value} {ys : List NX} {zs : List EX} (hB : NwBase w w3 W0 xb p ob m mn me nv ev ys zs) (hg : W0.grownBy W (some ob)) : Below w.heap.size w W :=
  below_trans' hB.b (hB.below hg)

/-- Behind the loop the index is whole. -/
theorem NwInv.done {w w3 W0 W : World} {xb p ob m mn me : Nat} {nv ev : Value} {ys : List NX} {zs : List EX} {Ds : List Nat} (hB : NwBase w w3 W0 xb p ob m mn me nv ev ys zs) (h : NwInv W0 W ob m (tokT (zs.map (·.d)) zs.length) Ds) :
    ∃ vs, IndexR W p nv ev mn me (.slice (some ⟨ob, 0, none⟩) m m) ys zs vs := by
  obtain ⟨vs, hv, ho⟩ := h.out
  have hmx : m ≤ maxLen := by have h1 := hB.ny.len; have h2 := hB.len; unfold maxLen; omega
  have hlen := hB.len
  refine ⟨vs, hB.ix.grown h.g (fun e => hB.np (by cases e; rfl)), hB.ny.below (hB.below h.g) (Nat.le_refl _), hB.ez.below (hB.below h.g) (Nat.le_refl _), hB.mpn.grown h.g (fun e => hB.nmn (by cases e; rfl)), hB.mpe.grown h.g (fun e => hB.nme (by cases e; rfl)), ?_, by rw [hv, hB.len], fun j hj => own_reads (ho.own j hj)⟩
  refine ⟨_, m, by rw [hB.len], by omega, hmx, by simp, fun j u hj => ⟨ob, 0, rfl, ?_⟩⟩
  rw [cell_of_row W ob _ _ _ _ ho.row]
  simpa using hj

/-- A mark is taken off. -/
theorem put_kept {w : World} {D : Nat} {x y : Option (List Deferred)} (h : w.heap[D]? = some (.deferred x)) : KeptObj w (w.putObj D (.deferred y)) := fun k o hk ho => by
  by_cases e : k = D
  · subst e
    rw [h] at hk
    cases hk
    exact absurd rfl (ho x)
  · exact (World.putObj_heap_other e).trans hk
theorem put_below {w W : World} {n D : Nat} {o : Obj} (h : Below n w W) (hD : n ≤ D) : Below n w (W.putObj D o) :=
  ⟨h.os, h.tape, h.output, by have := h.size; simpa using this, fun k hk => (World.putObj_heap_other (by omega)).trans (h.block k hk)⟩

/-- A function leaves by all its marks. -/
theorem leaves_marks {F : Fence} {n : Nat} {P : Program} {fn : Func} {tmps : Array Value} {R : Ending → World → Prop} (S : World → Prop) (lo : Nat) (hS : ∀ W W' D, lo ≤ D → S W → W.heap[D]? = some (.deferred (some [])) → W' = W.putObj D (.deferred none) → S W') (hfin : ∀ W, S W → LeavesIn F n P fn tmps R [] .returning W) :
    ∀ (Ds : List Nat) (W : World), Ds.Nodup → (∀ D ∈ Ds, lo ≤ D ∧ W.heap[D]? = some (.deferred (some []))) → S W → LeavesInM F n P fn tmps R (Ds.map fun D => { target := .collected D, args := #[] }) .returning W
  | [], W, _, _, hs => hfin W hs
  | D :: Ds, W, hn, hm, hs => by
    obtain ⟨hlo, hD⟩ := hm D (by simp)
    refine ⟨by simp, .inl ⟨D, _, rfl, run_takeDeferred hD, ?_⟩⟩
    refine leaves_marks S lo hS hfin Ds _ (List.nodup_cons.1 hn).2 (fun D' hD' => ⟨(hm D' (by simp [hD'])).1, ?_⟩) (hS _ _ D hlo hs hD rfl)
    have hne : D' ≠ D := fun e => (List.nodup_cons.1 hn).1 (e ▸ hD')
    exact (World.putObj_heap_other hne).trans (hm D' (by simp [hD'])).2

/-- One round's write: one more lead. -/
theorem NwInv.round {w w3 W0 W : World} {xb p ob m mn me : Nat} {nv ev : Value} {ys : List NX} {zs : List EX} {q : List (Int × Ld)} {Ds : List Nat} (hB : NwBase w w3 W0 xb p ob m mn me nv ev ys zs) (h : NwInv W0 W ob m q Ds) {j : Nat} (hj : j < m) (x : Ld) (hq : q.length ≤ 2000) :
    ∃ vj v' w2, Rd12 W.drew xb p ob m j vj ∧ Rd12 (W.drew.alloc (.cells #[.int .i64 x.ed, .int .i64 x.nd, .int .i64 x.dir] 82)) xb p ob m j vj ∧ Rd12 w2 xb p ob m j vj ∧
      (Builtin.append_ #[83, 83] 83 #[vj, .slice (some ⟨W.heap.size, 0, none⟩) 1 1]).run Try.prog (W.drew.alloc (.cells #[.int .i64 x.ed, .int .i64 x.nd, .int .i64 x.dir] 82)) = .ok v' w2 ∧ w2.frozen? ⟨ob, j, none⟩ = false ∧ (∃ g k c, v' = .slice (some ⟨g, 0, none⟩) k c) ∧
      NwInv W0 (w2.setCell ⟨ob, j, none⟩ v') ob m (q ++ [((j : Int), x)]) Ds ∧ KeepsOthers W (w2.setCell ⟨ob, j, none⟩ v') ∧
      (∀ (k : Nat) cs e f, W.heap[k]? = some (.cells cs e f) → e ≠ 82 → k ≠ ob → (w2.setCell ⟨ob, j, none⟩ v').heap[k]? = W.heap[k]?) := by
  obtain ⟨vs, hv, ho⟩ := h.out
  subst hv
  have hown := ho.own j hj
  obtain ⟨ti, z, hi, hz, hsz, hbt, hzc⟩ := tyL.hi
  have hn := lstZ_length q (j : Int)
  have hs0 : W0.heap.size ≤ W.heap.size := h.g.size
  obtain ⟨v', w2, hr, h2, h3, h4, h5⟩ := run_append_own_at (P := Try.prog) (W.drew.alloc (.cells #[.int .i64 x.ed, .int .i64 x.nd, .int .i64 x.dir] 82)) W0.heap.size 83 83 82 ti z 3 24 tyL.ht hi hz hsz hbt hzc (by omega) vs[j] _ _ (World.ownsRow.alloc (w := W.drew) hown _)
    ⟨W.heap.size, 0, none⟩ 1 1 [.int .i64 x.ed, .int .i64 x.nd, .int .i64 x.dir] rfl
    (fun k u hk => by
      rw [addr_add0]
      exact new_cells W.drew [.int .i64 x.ed, .int .i64 x.nd, .int .i64 x.dir] 82 k u hk)
    (by simp [Value.oneCell']) (by unfold maxLen; omega) (by omega) (by simp; omega)
  have hob := ho.lt
  have hrowW : W.heap[ob]? = some (.cells vs.toArray 83 (0, 0)) := ho.row
  -- where the append writes: no block of another type
  have hrb : ∀ k, vs[j].ownBlock = some k → W0.heap.size ≤ k ∧ ∃ cur, W.heap[k]? = some (.cells cur 82 (0, 0)) := fun k hk => ⟨(own_lt hown k hk).1, own_heap hown hk⟩
  have hsame : ∀ (k : Nat) (o : Obj), W.heap[k]? = some o → (∀ cur, o ≠ .cells cur 82 (0, 0)) → w2.heap[k]? = some o := fun k o hk hne => by
    have hlt : k < W.heap.size := (Array.getElem?_eq_some_iff.1 hk).1
    refine (h3.block k (by simp; omega) (fun e => ?_)).trans ((Below.heap_alloc W.drew _ k hlt).trans hk)
    obtain ⟨_, cur, hc⟩ := hrb k e.symm
    rw [hk] at hc
    exact hne cur (by cases hc; rfl)
  have hrow2 : w2.heap[ob]? = some (.cells vs.toArray 83 (0, 0)) := hsame ob _ hrowW (fun cur e => by cases e)
  have hxW : W.cell? ⟨xb, 0, none⟩ = some (.pointer (some ⟨p, 0, none⟩)) := h.g.cell hB.xc (fun e => hB.nx (by cases e; rfl))
  have hpW := hB.ix.grown h.g (fun e => hB.np (by cases e; rfl))
  have hjW : W.cell? ⟨ob, j, none⟩ = some vs[j] := by rw [cell_of_row W ob _ _ _ _ hrowW]; simp [hj]
  have r0 : Rd12 W xb p ob vs.length j vs[j] := ⟨hxW, hpW.c4, hjW⟩
  have old : ∀ (a : Addr) (v : Value), W.cell? a = some v → a.block < W0.heap.size → w2.cell? a = some v := fun a v ha hlt => by
    obtain ⟨o, hob2, hcl⟩ := cells_of_cell ha
    refine (World.cell?_of_block ?_).trans ha
    rw [hob2]
    have hk := h3.block a.block (by simp; have := World.block_lt_of_cell? W _ ha; omega) (fun e => by have := (hrb _ e.symm).1; omega)
    exact hk.trans ((Below.heap_alloc W.drew _ a.block (World.block_lt_of_cell? W _ ha)).trans hob2)
  have hxb0 : xb < W0.heap.size := World.block_lt_of_cell? W0 _ hB.xc
  have hpb0 : p < W0.heap.size := hB.ix.lt
  refine ⟨vs[j], v', w2, ⟨r0.x0, r0.p4, r0.oj⟩, ⟨?_, ?_, ?_⟩, ⟨old _ _ r0.x0 hxb0, old _ _ r0.p4 hpb0, ?_⟩, hr, ?_, ?_, ⟨?_, ⟨vs.set j v', by simp, ?_⟩, fun D hD => ⟨(h.marks D hD).1, ?_⟩⟩, ⟨?_, fun k o hk hcl => ?_⟩, fun k cs e f hk he hne => ?_⟩
  · exact (Below.cell (Below.alloc (Below.refl W.heap.size W.drew) (Nat.le_refl _) _) (p := ⟨xb, 0, none⟩) (World.block_lt_of_cell? W _ r0.x0)).trans r0.x0
  · exact (Below.cell (Below.alloc (Below.refl W.heap.size W.drew) (Nat.le_refl _) _) (p := ⟨p, 4, none⟩) (World.block_lt_of_cell? W _ r0.p4)).trans r0.p4
  · exact (Below.cell (Below.alloc (Below.refl W.heap.size W.drew) (Nat.le_refl _) _) (p := ⟨ob, j, none⟩) hob).trans r0.oj
  · rw [cell_of_row w2 ob _ _ _ _ hrow2]; simp [hj]
  · exact frozen_of_row w2 ob j _ _ hrow2
  · rcases h2.2 with ⟨_, h0⟩ | ⟨g, cap, cur, rfl, _⟩
    · omega
    · exact ⟨g, _, cap, rfl⟩
  · refine ⟨?_, ?_, ?_, ?_, fun k hk hne => ?_⟩
    · exact (show (w2.setCell ⟨ob, j, none⟩ v').os = w2.os from rfl).trans (h3.os.trans h.g.os)
    · exact (show (w2.setCell ⟨ob, j, none⟩ v').tape = w2.tape from rfl).trans (h3.tape.trans h.g.tape)
    · exact (show (w2.setCell ⟨ob, j, none⟩ v').output = w2.output from rfl).trans (h3.output.trans h.g.output)
    · have := h3.size; simp at this ⊢; omega
    · have hk2 : k ≠ ob := fun e => hne (by rw [e])
      rw [Below.heap_setCell w2 ⟨ob, j, none⟩ v' k hk2]
      refine (h3.block k (by simp; omega) (fun e => by have := (hrb _ e.symm).1; omega)).trans ((Below.heap_alloc W.drew _ k (by show k < W.heap.size; omega)).trans (h.g.block k hk hne))
  · refine OutSt.push (W := W.drew) (o := .cells #[.int .i64 x.ed, .int .i64 x.nd, .int .i64 x.dir] 82) ⟨ho.row, ho.own, ho.apart⟩ hj h2 h3 ?_
    rcases h5 with h5 | h5
    · exact .inl h5
    · right; rw [h5]; simp
  · have hd := (h.marks D hD).2
    have hne : D ≠ ob := fun e => by rw [e, hrowW] at hd; cases hd
    rw [Below.heap_setCell w2 ⟨ob, j, none⟩ v' D hne]
    exact hsame D _ hd (fun cur e => by cases e)
  · have := h3.size; simp at this ⊢; omega
  · have hne : k ≠ ob := fun e => by rw [e, hrowW] at hk; cases hk; cases hcl
    rw [Below.heap_setCell w2 ⟨ob, j, none⟩ v' k hne]
    exact hsame k o hk (fun cur e => by subst e; cases hcl)
  · rw [Below.heap_setCell w2 ⟨ob, j, none⟩ v' k hne, hk]
    exact hsame k _ hk (fun cur e2 => by cases e2; exact he rfl)
end Go.Proofs.Ytbolojjnkkgehaa
