import Derived.Test.YtbolojjnkkgehaaCln
/-! What 'own' keeps: rows of nodes and of edges that are written in place. -/
namespace Go.Proofs.Ytbolojjnkkgehaa
open Go.RowKit

/-- The slice lies in none of these blocks. -/
def Off (H : Nat → Prop) (u : Value) : Prop := ∀ b o n c, u = .slice (some ⟨b, o, none⟩) n c → 0 < n → ¬ H b
theorem SliceR.grown {w w' : World} {v : Value} {n : Nat} {cs : List Value} {row : Option Nat} {H : Nat → Prop} (h : SliceR w v n cs) (hl : 0 < cs.length → 0 < n) (hg : w.grownBy w' row) (ho : Off H v) (hr : ∀ k, row = some k → H k) : SliceR w' v n cs := by
  obtain ⟨A, c, rfl, h2, h3, h4, h5⟩ := h
  refine ⟨A, c, rfl, h2, h3, h4, fun j u hj => ?_⟩
  obtain ⟨b, o, rfl, h7⟩ := h5 j u hj
  have hj1 : j < cs.length := by
    rcases Nat.lt_or_ge j cs.length with h | h
    · exact h
    · rw [List.getElem?_eq_none h] at hj; cases hj
  refine ⟨b, o, rfl, hg.cell h7 (fun e => ho b o n c rfl (hl (by omega)) (hr b e.symm))⟩
theorem Strs.grown {w w' : World} {v : Value} {l : List ByteArray} {row : Option Nat} {H : Nat → Prop} (h : Strs w v l) (hg : w.grownBy w' row) (ho : Off H v) (hr : ∀ k, row = some k → H k) : Strs w' v l :=
  ⟨h.sl.grown (by rw [cellsS_length]; exact id) hg ho hr, h.len, h.wf⟩
theorem Props.grown {w w' : World} {v : Value} {l : List Pr} {row : Option Nat} {H : Nat → Prop} (h : Props w v l) (hg : w.grownBy w' row) (ho : Off H v) (hr : ∀ k, row = some k → H k) : Props w' v l :=
  ⟨h.sl.grown (by rw [cellsP_length]; omega) hg ho hr, h.len, h.wf⟩

theorem own_base {w : World} {B B' e size : Nat} {v : Value} {n : Nat} {xs : List Value} (h : w.ownsRow B e size v n xs) (hb : B' ≤ B) : w.ownsRow B' e size v n xs := by
  refine ⟨h.1, ?_⟩
  rcases h.2 with h2 | ⟨g, cap, cur, h3, h4, h5⟩
  · exact .inl h2
  · exact .inr ⟨g, cap, cur, h3, by omega, h5⟩
/-- A row of its own from a block on lies in none of the blocks ahead of it. -/
theorem off_own {w : World} {B e size : Nat} {v : Value} {n : Nat} {xs : List Value} {H : Nat → Prop} (h : w.ownsRow B e size v n xs) (hH : ∀ k, H k → k < B) : Off H v := fun b o m c hv _ hb => by
  have h1 := (own_lt h b (by rw [hv]; rfl)).1
  have h2 := hH b hb
  omega
/-- What is read in a world lies in none of the later blocks. -/
theorem off_old {w : World} {v : Value} {n : Nat} {cs : List Value} {H : Nat → Prop} (h : SliceR w v n cs) (hl : 0 < n → 0 < cs.length) (hH : ∀ k, H k → w.heap.size ≤ k) : Off H v := fun b o m c hv hm hb => by
  obtain ⟨A, c', rfl, h2, h3, h4, h5⟩ := h
  injection hv with e1 e2 e3
  subst e1; subst e2
  have h6 := hl hm
  obtain ⟨b', o', e, h7⟩ := h5 0 cs[0] (by rw [List.getElem?_eq_getElem h6])
  cases e
  have h8 := World.block_lt_of_cell? w _ h7
  have h9 := hH b hb
  simp only at h8
  omega

/-- The fields of nodes and edges, in blocks that are none of H's. -/
structure FieldsN (w : World) (H : Nat → Prop) (l : List NX) : Prop where
  ls : ∀ x ∈ l, Strs w x.lv x.d.ls ∧ Off H x.lv
  ps : ∀ x ∈ l, Props w x.pv x.d.ps ∧ Off H x.pv
structure FieldsE (w : World) (H : Nat → Prop) (l : List EX) : Prop where
  ls : ∀ x ∈ l, Strs w x.lv x.d.ls ∧ Off H x.lv
  ps : ∀ x ∈ l, Props w x.pv x.d.ps ∧ Off H x.pv
theorem FieldsN.below {w w' : World} {H : Nat → Prop} {l : List NX} (h : FieldsN w H l) (hb : Below w.heap.size w w') : FieldsN w' H l :=
  ⟨fun x hx => ⟨(h.ls x hx).1.below hb (Nat.le_refl _), (h.ls x hx).2⟩, fun x hx => ⟨(h.ps x hx).1.below hb (Nat.le_refl _), (h.ps x hx).2⟩⟩
theorem FieldsE.below {w w' : World} {H : Nat → Prop} {l : List EX} (h : FieldsE w H l) (hb : Below w.heap.size w w') : FieldsE w' H l :=
  ⟨fun x hx => ⟨(h.ls x hx).1.below hb (Nat.le_refl _), (h.ls x hx).2⟩, fun x hx => ⟨(h.ps x hx).1.below hb (Nat.le_refl _), (h.ps x hx).2⟩⟩
theorem FieldsN.grown {w w' : World} {H : Nat → Prop} {l : List NX} {row : Option Nat} (h : FieldsN w H l) (hg : w.grownBy w' row) (hr : ∀ k, row = some k → H k) : FieldsN w' H l :=
  ⟨fun x hx => ⟨(h.ls x hx).1.grown hg (h.ls x hx).2 hr, (h.ls x hx).2⟩, fun x hx => ⟨(h.ps x hx).1.grown hg (h.ps x hx).2 hr, (h.ps x hx).2⟩⟩
theorem FieldsE.grown {w w' : World} {H : Nat → Prop} {l : List EX} {row : Option Nat} (h : FieldsE w H l) (hg : w.grownBy w' row) (hr : ∀ k, row = some k → H k) : FieldsE w' H l :=
  ⟨fun x hx => ⟨(h.ls x hx).1.grown hg (h.ls x hx).2 hr, (h.ls x hx).2⟩, fun x hx => ⟨(h.ps x hx).1.grown hg (h.ps x hx).2 hr, (h.ps x hx).2⟩⟩

/-- The blocks that are written meanwhile. -/
def HH (nv ev : Value) (b : Nat) : Nat → Prop := fun k => (nv.ownBlock = some k ∨ ev.ownBlock = some k) ∨ k = b + 1

/-- What 'own' keeps: b: its box of the graph; nv, ev: the new rows. -/
structure OwnSt (w wx : World) (b : Nat) (nv ev : Value) (xs : List NX) (es : List EX) (ys : List NX) (zs : List EX) : Prop where
  below : Below w.heap.size w wx
  lb : w.heap.size ≤ b
  two : TwoAt wx b nv ev
  nrow : wx.ownsRow (b + 2) 46 3 nv ys.length (cellsN ys)
  erow : wx.ownsRow (b + 2) 42 6 ev zs.length (cellsE zs)
  apart : ∀ k, nv.ownBlock = some k → ev.ownBlock ≠ some k
  nd : ys.map (·.d) = xs.map (·.d)
  ed : zs.map (·.d) = es.map (·.d)
  fn : FieldsN wx (HH nv ev b) ys
  fe : FieldsE wx (HH nv ev b) zs
theorem OwnSt.nlen {w wx : World} {b : Nat} {nv ev : Value} {xs : List NX} {es : List EX} {ys : List NX} {zs : List EX} (h : OwnSt w wx b nv ev xs es ys zs) : ys.length = xs.length := by
  have := congrArg List.length h.nd; simpa using this
theorem OwnSt.elen {w wx : World} {b : Nat} {nv ev : Value} {xs : List NX} {es : List EX} {ys : List NX} {zs : List EX} (h : OwnSt w wx b nv ev xs es ys zs) : zs.length = es.length := by
  have := congrArg List.length h.ed; simpa using this
theorem OwnSt.blt {w wx : World} {b : Nat} {nv ev : Value} {xs : List NX} {es : List EX} {ys : List NX} {zs : List EX} (h : OwnSt w wx b nv ev xs es ys zs) : b < wx.heap.size := World.block_lt_of_cell? wx _ h.two.c0
theorem OwnSt.next {w wx wy : World} {b : Nat} {nv ev : Value} {xs : List NX} {es : List EX} {ys : List NX} {zs : List EX} (h : OwnSt w wx b nv ev xs es ys zs) (hb : Below wx.heap.size wx wy) : OwnSt w wy b nv ev xs es ys zs :=
  ⟨below_trans' h.below hb, h.lb, h.two.below hb h.blt, own_below h.nrow hb (Nat.le_refl _), own_below h.erow hb (Nat.le_refl _), h.apart, h.nd, h.ed, h.fn.below hb, h.fe.below hb⟩

theorem set_map {α β : Type} {f : α → β} {l : List α} {i : Nat} {x : α} (hi : i < l.length) (h : f x = f l[i]) : (l.set i x).map f = l.map f := by
  rw [List.map_set, h, ← List.getElem_map (h := by simpa using hi) f, List.set_getElem_self]
theorem flat_set {α : Type} (k : Nat) (f : α → List Value) (hf : ∀ x, (f x).length = k) (l : List α) (i : Nat) (hi : i < l.length) (x : α) (j : Nat) : ((l.set i x).flatMap f)[j]? = if i * k ≤ j ∧ j < i * k + k then (f x)[j - i * k]? else (l.flatMap f)[j]? := by
  have hk : 0 < k ∨ k = 0 := by omega
  rcases hk with hk | hk
  · rcases Nat.lt_or_ge j (l.length * k) with hj | hj
    · have hq : j / k < l.length := Nat.div_lt_of_lt_mul (by rw [Nat.mul_comm]; exact hj)
      have e : j = (j / k) * k + j % k := by rw [Nat.mul_comm, Nat.div_add_mod]
      have hm := Nat.mod_lt j hk
      have h1 := flat_at k f hf (l.set i x) (j / k) (j % k) (by simpa using hq) hm
      have h2 := flat_at k f hf l (j / k) (j % k) hq hm
      rw [← e] at h1 h2
      rw [h1, h2, List.getElem_set]
      by_cases ei : i = j / k
      · rw [if_pos ei]
        have : i * k ≤ j ∧ j < i * k + k := by rw [ei]; omega
        rw [if_pos this]
        congr 1
        rw [ei]; omega
      · rw [if_neg ei]
        have : ¬ (i * k ≤ j ∧ j < i * k + k) := fun h => ei (by
          have h3 : i ≤ j / k := (Nat.le_div_iff_mul_le hk).2 h.1
          have h4 : j / k < i + 1 := (Nat.div_lt_iff_lt_mul hk).2 (by rw [Nat.add_mul]; omega)
          omega)
        rw [if_neg this]
    · have h1 : (l.flatMap f).length = l.length * k := flat_length k f hf l
      have h2 : ((l.set i x).flatMap f).length = l.length * k := by rw [flat_length k f hf]; simp
      rw [List.getElem?_eq_none (l := l.flatMap f) (by omega), List.getElem?_eq_none (l := (l.set i x).flatMap f) (by omega)]
      have : ¬ (i * k ≤ j ∧ j < i * k + k) := fun h => by
        have : i * k + k ≤ l.length * k := by
          have := Nat.mul_le_mul_right k (show i + 1 ≤ l.length from hi)
          rw [Nat.add_mul] at this; omega
        omega
      rw [if_neg this]
  · subst hk
    have h0 : ∀ x, f x = [] := fun x => List.eq_nil_of_length_eq_zero (hf x)
    have e1 : ∀ l : List α, l.flatMap f = [] := fun l => List.eq_nil_of_length_eq_zero (by rw [flat_length 0 f hf]; simp)
    rw [e1, e1]
    simp

theorem cellsN_set {l : List NX} {i : Nat} (hi : i < l.length) {lv pv : Value} : cellsN (l.set i ⟨l[i].d, lv, pv⟩) = ((cellsN l).set (i * 3 + 1) lv).set (i * 3 + 2) pv := by
  refine List.ext_getElem? fun j => ?_
  rw [cellsN, flat_set 3 _ (fun _ => rfl) l i hi]
  rw [List.getElem?_set, List.getElem?_set]
  have hlen := cellsN_length l
  have hle : i * 3 + 3 ≤ (cellsN l).length := by rw [hlen]; omega
  by_cases h : i * 3 ≤ j ∧ j < i * 3 + 3
  · rw [if_pos h]
    have hcase : j = i * 3 ∨ j = i * 3 + 1 ∨ j = i * 3 + 2 := by omega
    rcases hcase with rfl | rfl | rfl
    · have h0 := flat_at 3 (fun x : NX => [Value.string x.d.nm, x.lv, x.pv]) (fun _ => rfl) l i 0 hi (by omega)
      rw [if_neg (by omega), if_neg (by omega), Nat.sub_self]
      simpa [cellsN] using h0.symm
    · rw [if_neg (by omega), if_pos rfl, if_pos (by omega), show i * 3 + 1 - i * 3 = 1 by omega]
      rfl
    · rw [if_pos rfl, if_pos (by simp; omega), show i * 3 + 2 - i * 3 = 2 by omega]
      rfl
  · rw [if_neg h, if_neg (by omega), if_neg (by omega)]
    rfl
theorem cellsE_set {l : List EX} {i : Nat} (hi : i < l.length) {lv pv : Value} : cellsE (l.set i ⟨l[i].d, lv, pv⟩) = ((cellsE l).set (i * 6 + 4) lv).set (i * 6 + 5) pv := by
  refine List.ext_getElem? fun j => ?_
  rw [cellsE, flat_set 6 _ (fun _ => rfl) l i hi]
  rw [List.getElem?_set, List.getElem?_set]
  have hlen := cellsE_length l
  have hle : i * 6 + 6 ≤ (cellsE l).length := by rw [hlen]; omega
  by_cases h : i * 6 ≤ j ∧ j < i * 6 + 6
  · rw [if_pos h]
    have hcase : (j < i * 6 + 4) ∨ j = i * 6 + 4 ∨ j = i * 6 + 5 := by omega
    rcases hcase with h4 | rfl | rfl
    · have h0 := flat_at 6 (fun x : EX => [.string x.d.nm, .int .i64 x.d.src, .int .i64 x.d.dst, .bool x.d.dir, x.lv, x.pv]) (fun _ => rfl) l i (j - i * 6) hi (by omega)
      rw [if_neg (by omega), if_neg (by omega)]
      rw [show i * 6 + (j - i * 6) = j by omega] at h0
      rw [cellsE, h0]
      have hcs : j - i * 6 = 0 ∨ j - i * 6 = 1 ∨ j - i * 6 = 2 ∨ j - i * 6 = 3 := by omega
      rcases hcs with h | h | h | h <;> rw [h] <;> rfl
    · rw [if_neg (by omega), if_pos rfl, if_pos (by omega), show i * 6 + 4 - i * 6 = 4 by omega]
      rfl
    · rw [if_pos rfl, if_pos (by simp; omega), show i * 6 + 5 - i * 6 = 5 by omega]
      rfl
  · rw [if_neg h, if_neg (by omega), if_neg (by omega)]
    rfl
theorem mem_set' {α : Type} {l : List α} {i : Nat} {x y : α} (h : y ∈ l.set i x) : y ∈ l ∨ y = x := List.mem_or_eq_of_mem_set h

/-- A node's two slices are written. -/
theorem OwnSt.storeN {w wx : World} {b g n c : Nat} {ev : Value} {xs : List NX} {es : List EX} {ys : List NX} {zs : List EX} {i : Nat} (hn : n = ys.length) (h : OwnSt w wx b (.slice (some ⟨g, 0, none⟩) n c) ev xs es ys zs) (hi : i < ys.length) {lv pv : Value}
    (hl : Strs wx lv ys[i].d.ls) (hlo : Off (HH (.slice (some ⟨g, 0, none⟩) n c) ev b) lv) (hp : Props wx pv ys[i].d.ps) (hpo : Off (HH (.slice (some ⟨g, 0, none⟩) n c) ev b) pv) :
    OwnSt w ((wx.setCell ⟨g, i * 3 + 1, none⟩ lv).setCell ⟨g, i * 3 + 2, none⟩ pv) b (.slice (some ⟨g, 0, none⟩) n c) ev xs es (ys.set i ⟨ys[i].d, lv, pv⟩) zs := by
  subst hn
  obtain ⟨r1, g1⟩ := h.nrow.stored (i * 3 + 1) lv
  obtain ⟨r2, g2⟩ := r1.stored (i * 3 + 2) pv
  have gg := World.grownBy.trans g1 g2
  have hlt := (own_lt h.nrow g rfl).1
  have hb1 : g ≠ b := by omega
  have hH : ∀ k, some g = some k → HH (.slice (some ⟨g, 0, none⟩) ys.length c) ev b k := fun k hk => .inl (.inl hk)
  refine ⟨?_, h.lb, h.two.grown gg (by simp; omega), ?_, ?_, h.apart, ?_, h.ed, ?_, h.fe.grown gg hH⟩
  · exact h.below.grown gg h.below.size (fun k hk => by cases hk; have := h.lb; omega)
  · rw [List.length_set, cellsN_set hi]; exact r2
  · refine World.ownsRow.kept h.erow gg ?_
    cases he : ev.ownBlock with
    | none => exact .inl rfl
    | some k => exact .inr fun e => h.apart k (by cases e; rfl) he
  · exact (set_map (f := fun x : NX => x.d) (x := ⟨ys[i].d, lv, pv⟩) hi rfl).trans h.nd
  · have hf := h.fn.grown gg hH
    refine ⟨fun x hx => ?_, fun x hx => ?_⟩
    · rcases mem_set' hx with hx | rfl
      · exact hf.ls x hx
      · exact ⟨hl.grown gg hlo hH, hlo⟩
    · rcases mem_set' hx with hx | rfl
      · exact hf.ps x hx
      · exact ⟨hp.grown gg hpo hH, hpo⟩
/-- An edge's two slices are written. -/
theorem OwnSt.storeE {w wx : World} {b g n c : Nat} {nv : Value} {xs : List NX} {es : List EX} {ys : List NX} {zs : List EX} {i : Nat} (hn : n = zs.length) (h : OwnSt w wx b nv (.slice (some ⟨g, 0, none⟩) n c) xs es ys zs) (hi : i < zs.length) {lv pv : Value}
    (hl : Strs wx lv zs[i].d.ls) (hlo : Off (HH nv (.slice (some ⟨g, 0, none⟩) n c) b) lv) (hp : Props wx pv zs[i].d.ps) (hpo : Off (HH nv (.slice (some ⟨g, 0, none⟩) n c) b) pv) :
    OwnSt w ((wx.setCell ⟨g, i * 6 + 4, none⟩ lv).setCell ⟨g, i * 6 + 5, none⟩ pv) b nv (.slice (some ⟨g, 0, none⟩) n c) xs es ys (zs.set i ⟨zs[i].d, lv, pv⟩) := by
  subst hn
  obtain ⟨r1, g1⟩ := h.erow.stored (i * 6 + 4) lv
  obtain ⟨r2, g2⟩ := r1.stored (i * 6 + 5) pv
  have gg := World.grownBy.trans g1 g2
  have hlt := (own_lt h.erow g rfl).1
  have hb1 : g ≠ b := by omega
  have hH : ∀ k, some g = some k → HH nv (.slice (some ⟨g, 0, none⟩) zs.length c) b k := fun k hk => .inl (.inr hk)
  refine ⟨?_, h.lb, h.two.grown gg (by simp; omega), ?_, ?_, h.apart, h.nd, ?_, h.fn.grown gg hH, ?_⟩
  · exact h.below.grown gg h.below.size (fun k hk => by cases hk; have := h.lb; omega)
  · refine World.ownsRow.kept h.nrow gg ?_
    cases he : nv.ownBlock with
    | none => exact .inl rfl
    | some k => exact .inr fun e => h.apart k he (by cases e; rfl)
  · rw [List.length_set, cellsE_set hi]; exact r2
  · exact (set_map (f := fun x : EX => x.d) (x := ⟨zs[i].d, lv, pv⟩) hi rfl).trans h.ed
  · have hf := h.fe.grown gg hH
    refine ⟨fun x hx => ?_, fun x hx => ?_⟩
    · rcases mem_set' hx with hx | rfl
      · exact hf.ls x hx
      · exact ⟨hl.grown gg hlo hH, hlo⟩
    · rcases mem_set' hx with hx | rfl
      · exact hf.ps x hx
      · exact ⟨hp.grown gg hpo hH, hpo⟩

/-- .. and the block of the result, which nobody writes meanwhile. -/
structure OwnR (w wx : World) (nv ev : Value) (xs : List NX) (es : List EX) (ys : List NX) (zs : List EX) : Prop where
  st : OwnSt w wx w.heap.size nv ev xs es ys zs
  res : TwoAt wx (w.heap.size + 1) (.slice none 0 0) (.slice none 0 0)
  fz : ∀ j, wx.frozen? ⟨w.heap.size + 1, j, none⟩ = false
theorem OwnR.next {w wx wy : World} {nv ev : Value} {xs : List NX} {es : List EX} {ys : List NX} {zs : List EX} (h : OwnR w wx nv ev xs es ys zs) (hb : Below wx.heap.size wx wy) : OwnR w wy nv ev xs es ys zs :=
  ⟨h.st.next hb, h.res.below hb (World.block_lt_of_cell? wx _ h.res.c0), fun j => (hb.frozen (p := ⟨w.heap.size + 1, j, none⟩) (show w.heap.size + 1 < wx.heap.size from World.block_lt_of_cell? wx _ h.res.c0)).trans (h.fz j)⟩
theorem OwnR.storeN {w wx : World} {g n c : Nat} {ev : Value} {xs : List NX} {es : List EX} {ys : List NX} {zs : List EX} {i : Nat} (hn : n = ys.length) (h : OwnR w wx (.slice (some ⟨g, 0, none⟩) n c) ev xs es ys zs) (hi : i < ys.length) {lv pv : Value}
    (hl : Strs wx lv ys[i].d.ls) (hlo : Off (HH (.slice (some ⟨g, 0, none⟩) n c) ev w.heap.size) lv) (hp : Props wx pv ys[i].d.ps) (hpo : Off (HH (.slice (some ⟨g, 0, none⟩) n c) ev w.heap.size) pv) :
    OwnR w ((wx.setCell ⟨g, i * 3 + 1, none⟩ lv).setCell ⟨g, i * 3 + 2, none⟩ pv) (.slice (some ⟨g, 0, none⟩) n c) ev xs es (ys.set i ⟨ys[i].d, lv, pv⟩) zs := by
  have hlt := (own_lt h.st.nrow g rfl).1
  refine ⟨h.st.storeN hn hi hl hlo hp hpo, ⟨?_, ?_⟩, fun j => by simp only [World.frozen?_setCell]; exact h.fz j⟩
  · exact (World.cell?_setCell_other _ _ _ _ (fun e => by injection e with e1; omega)).trans ((World.cell?_setCell_other _ _ _ _ (fun e => by injection e with e1; omega)).trans h.res.c0)
  · exact (World.cell?_setCell_other _ _ _ _ (fun e => by injection e with e1; omega)).trans ((World.cell?_setCell_other _ _ _ _ (fun e => by injection e with e1; omega)).trans h.res.c1)
theorem OwnR.storeE {w wx : World} {g n c : Nat} {nv : Value} {xs : List NX} {es : List EX} {ys : List NX} {zs : List EX} {i : Nat} (hn : n = zs.length) (h : OwnR w wx nv (.slice (some ⟨g, 0, none⟩) n c) xs es ys zs) (hi : i < zs.length) {lv pv : Value}
    (hl : Strs wx lv zs[i].d.ls) (hlo : Off (HH nv (.slice (some ⟨g, 0, none⟩) n c) w.heap.size) lv) (hp : Props wx pv zs[i].d.ps) (hpo : Off (HH nv (.slice (some ⟨g, 0, none⟩) n c) w.heap.size) pv) :
    OwnR w ((wx.setCell ⟨g, i * 6 + 4, none⟩ lv).setCell ⟨g, i * 6 + 5, none⟩ pv) nv (.slice (some ⟨g, 0, none⟩) n c) xs es ys (zs.set i ⟨zs[i].d, lv, pv⟩) := by
  have hlt := (own_lt h.st.erow g rfl).1
  refine ⟨h.st.storeE hn hi hl hlo hp hpo, ⟨?_, ?_⟩, fun j => by simp only [World.frozen?_setCell]; exact h.fz j⟩
  · exact (World.cell?_setCell_other _ _ _ _ (fun e => by injection e with e1; omega)).trans ((World.cell?_setCell_other _ _ _ _ (fun e => by injection e with e1; omega)).trans h.res.c0)
  · exact (World.cell?_setCell_other _ _ _ _ (fun e => by injection e with e1; omega)).trans ((World.cell?_setCell_other _ _ _ _ (fun e => by injection e with e1; omega)).trans h.res.c1)
theorem FieldsN.slices {w : World} {H : Nat → Prop} {l : List NX} (h : FieldsN w H l) {i : Nat} (hi : i < l.length) : ∃ A1 n1 c1 A2 n2 c2, l[i].lv = .slice A1 n1 c1 ∧ l[i].pv = .slice A2 n2 c2 := by
  obtain ⟨A1, c1, e1, _⟩ := (h.ls _ (List.getElem_mem hi)).1.sl
  obtain ⟨A2, c2, e2, _⟩ := (h.ps _ (List.getElem_mem hi)).1.sl
  exact ⟨A1, _, c1, A2, _, c2, e1, e2⟩
theorem FieldsE.slices {w : World} {H : Nat → Prop} {l : List EX} (h : FieldsE w H l) {i : Nat} (hi : i < l.length) : ∃ A1 n1 c1 A2 n2 c2, l[i].lv = .slice A1 n1 c1 ∧ l[i].pv = .slice A2 n2 c2 := by
  obtain ⟨A1, c1, e1, _⟩ := (h.ls _ (List.getElem_mem hi)).1.sl
  obtain ⟨A2, c2, e2, _⟩ := (h.ps _ (List.getElem_mem hi)).1.sl
  exact ⟨A1, _, c1, A2, _, c2, e1, e2⟩
theorem cell_b {w w' : World} (hb : Below w.heap.size w w') {a : Addr} {v : Value} (h : w.cell? a = some v) : w'.cell? a = some v := cell_below hb (World.block_lt_of_cell? w _ h) h
theorem OwnR.frozenN {w wx : World} {g n c : Nat} {ev : Value} {xs : List NX} {es : List EX} {ys : List NX} {zs : List EX} (hn : n = ys.length) (h : OwnR w wx (.slice (some ⟨g, 0, none⟩) n c) ev xs es ys zs) (j : Nat) : wx.frozen? ⟨g, j, none⟩ = false := by
  subst hn; exact h.st.nrow.frozenAt j
theorem OwnR.frozenE {w wx : World} {g n c : Nat} {nv : Value} {xs : List NX} {es : List EX} {ys : List NX} {zs : List EX} (hn : n = zs.length) (h : OwnR w wx nv (.slice (some ⟨g, 0, none⟩) n c) xs es ys zs) (j : Nat) : wx.frozen? ⟨g, j, none⟩ = false := by
  subst hn; exact h.st.erow.frozenAt j
theorem OwnR.blocks {w wx : World} {nv ev : Value} {xs : List NX} {es : List EX} {ys : List NX} {zs : List EX} (h : OwnR w wx nv ev xs es ys zs) : ∀ k, HH nv ev w.heap.size k → k < wx.heap.size := fun k hk => by
  rcases hk with (hk | hk) | hk
  · exact (own_lt h.st.nrow k hk).2
  · exact (own_lt h.st.erow k hk).2
  · have h1 : w.heap.size + 1 < wx.heap.size := World.block_lt_of_cell? wx _ h.res.c0
    omega

/-- What own hands back. -/
theorem OwnR.done {w wx : World} {nv ev nv0 ev0 : Value} {xs : List NX} {es : List EX} {ys : List NX} {zs : List EX} (h : OwnR w wx nv ev xs es ys zs) (hn : Nodes w nv0 xs) (he : Edges w ev0 es) :
    Nodes ((wx.setCell ⟨w.heap.size + 1, 0, none⟩ nv).setCell ⟨w.heap.size + 1, 1, none⟩ ev) nv ys ∧ Edges ((wx.setCell ⟨w.heap.size + 1, 0, none⟩ nv).setCell ⟨w.heap.size + 1, 1, none⟩ ev) ev zs ∧ Below w.heap.size w ((wx.setCell ⟨w.heap.size + 1, 0, none⟩ nv).setCell ⟨w.heap.size + 1, 1, none⟩ ev) := by
  have g1 : wx.grownBy (wx.setCell ⟨w.heap.size + 1, 0, none⟩ nv) (some (w.heap.size + 1)) := ⟨rfl, rfl, rfl, by simp, fun k _ hk => Below.heap_setCell wx _ _ k (fun e => hk (by rw [e]))⟩
  have g2 : (wx.setCell ⟨w.heap.size + 1, 0, none⟩ nv).grownBy ((wx.setCell ⟨w.heap.size + 1, 0, none⟩ nv).setCell ⟨w.heap.size + 1, 1, none⟩ ev) (some (w.heap.size + 1)) := ⟨rfl, rfl, rfl, by simp, fun k _ hk => Below.heap_setCell _ _ _ k (fun e => hk (by rw [e]))⟩
  have gg := World.grownBy.trans g1 g2
  have hH : ∀ k, some (w.heap.size + 1) = some k → HH nv ev w.heap.size k := fun k hk => by cases hk; exact .inr rfl
  have fn := h.st.fn.grown gg hH
  have fe := h.st.fe.grown gg hH
  have hnr := World.ownsRow.kept h.st.nrow gg (by
    cases hv : nv.ownBlock with
    | none => exact .inl rfl
    | some k => exact .inr fun e => by cases e; have := (own_lt h.st.nrow _ hv).1; omega)
  have her := World.ownsRow.kept h.st.erow gg (by
    cases hv : ev.ownBlock with
    | none => exact .inl rfl
    | some k => exact .inr fun e => by cases e; have := (own_lt h.st.erow _ hv).1; omega)
  have mem : ∀ y ∈ ys, ∃ x ∈ xs, x.d = y.d := fun y hy => by
    have h1 : y.d ∈ xs.map (·.d) := by rw [← h.st.nd]; exact List.mem_map_of_mem hy
    simpa using h1
  have meme : ∀ y ∈ zs, ∃ x ∈ es, x.d = y.d := fun y hy => by
    have h1 : y.d ∈ es.map (·.d) := by rw [← h.st.ed]; exact List.mem_map_of_mem hy
    simpa using h1
  refine ⟨⟨own_reads hnr, by rw [h.st.nlen]; exact hn.len, fun x hx => (fn.ls x hx).1, fun x hx => (fn.ps x hx).1, fun y hy => ?_⟩,
    ⟨own_reads her, by rw [h.st.elen]; exact he.len, fun x hx => (fe.ls x hx).1, fun x hx => (fe.ps x hx).1, fun y hy => ?_, fun y hy => ?_, fun y hy => ?_⟩, h.st.below.grown gg h.st.below.size (fun k hk => by cases hk; omega)⟩
  · obtain ⟨x, hx, e⟩ := mem y hy
    rw [← e]; exact hn.nm x hx
  · obtain ⟨x, hx, e⟩ := meme y hy
    rw [← e]; exact he.nm x hx
  · obtain ⟨x, hx, e⟩ := meme y hy
    rw [← e]; exact he.s0 x hx
  · obtain ⟨x, hx, e⟩ := meme y hy
    rw [← e]; exact he.d0 x hx
end Go.Proofs.Ytbolojjnkkgehaa
