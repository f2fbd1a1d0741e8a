import Derived.Test.YtbolojjnkkgehaaNw2
import Derived.RegionIn
import Derived.BigRegionIn
import Derived.Deep.OwnRows
namespace Go.Proofs.Ytbolojjnkkgehaa
open Go.RowKit Go.Shelf

/-- New's loop begins. -/
theorem new_start {w w3 w4 W5 W0 : World} {p mn me m : Nat} {nv ev : Value} {ys : List NX} {zs : List EX} (hny : Nodes w3 nv ys) (hez : Edges w3 ev zs) (hb3 : Below w.heap.size w w3) (hb4 : Below w3.heap.size w3 w4) (hix : IdxAt w4 p nv ev mn me (.slice none 0 0))
    (hmn : MapAt w4 mn (ys.map (·.d.nm)) ys.length) (hme : MapAt w4 me (zs.map (·.d.nm)) zs.length) (hp : w3.heap.size ≤ p) (hm1 : w3.heap.size ≤ mn) (hm2 : w3.heap.size ≤ me) (hl : ys.length = m)
    (hW5 : W5 = w4.alloc (.cells #[.pointer (some ⟨p, 0, none⟩)] 28)) (hW0 : W0 = ((W5.setCell ⟨p, 4, none⟩ (.slice (some ⟨w4.heap.size + 1, 0, none⟩) m m)).alloc (.cells (madeCells #[.slice none 0 0] m) 83)).drew) :
    NwBase w w3 W0 w4.heap.size p (w4.heap.size + 1) m mn me nv ev ys zs ∧ NwInv W0 W0 (w4.heap.size + 1) m [] [] := by
  have hpl := hix.lt
  have hml := hmn.lt
  have hel := hme.lt
  have hs4 := hb4.size
  have hz5 : W5.heap.size = w4.heap.size + 1 := by rw [hW5]; simp
  have b45 : Below w4.heap.size w4 W5 := by rw [hW5]; exact (Below.refl _ _).alloc (Nat.le_refl _) _
  have g5 : W5.grownBy W0 (some p) := by
    rw [hW0]
    refine ⟨rfl, rfl, rfl, by simp, fun k hk hne => ?_⟩
    show ((W5.setCell ⟨p, 4, none⟩ _).alloc _).heap[k]? = _
    rw [Below.heap_alloc _ _ k (by simpa using hk)]
    exact Below.heap_setCell W5 _ _ k (fun e => hne (by rw [e]))
  have i5 := hix.below b45 hpl
  have c4 : W0.cell? ⟨p, 4, none⟩ = some (.slice (some ⟨w4.heap.size + 1, 0, none⟩) m m) := by
    rw [hW0]
    show ((W5.setCell ⟨p, 4, none⟩ _).alloc _).cell? _ = _
    rw [(Below.cell ((Below.refl (W5.setCell ⟨p, 4, none⟩ (.slice (some ⟨w4.heap.size + 1, 0, none⟩) m m)).heap.size _).alloc (Nat.le_refl _) _) (p := ⟨p, 4, none⟩) (by simp; omega))]
    exact World.cell?_setCell_same _ _ _ i5.c4
  have hrow : W0.heap[w4.heap.size + 1]? = some (.cells (madeCells #[.slice none 0 0] m) 83 (0, 0)) := by
    rw [hW0]
    have h := World.alloc_heap_new (W5.setCell ⟨p, 4, none⟩ (.slice (some ⟨w4.heap.size + 1, 0, none⟩) m m)) (.cells (madeCells #[.slice none 0 0] m) 83)
    rw [show (W5.setCell ⟨p, 4, none⟩ (.slice (some ⟨w4.heap.size + 1, 0, none⟩) m m)).heap.size = w4.heap.size + 1 by simp [hz5]] at h
    exact h
  have off : ∀ (a : Nat) (j : Nat) (v : Value), j ≠ 4 → W5.cell? ⟨a, j, none⟩ = some v → W0.cell? ⟨a, j, none⟩ = some v := fun a j v hj h => by
    rw [hW0]
    show ((W5.setCell ⟨p, 4, none⟩ _).alloc _).cell? _ = _
    have hlt := World.block_lt_of_cell? W5 _ h
    rw [(Below.cell ((Below.refl (W5.setCell ⟨p, 4, none⟩ (.slice (some ⟨w4.heap.size + 1, 0, none⟩) m m)).heap.size _).alloc (Nat.le_refl _) _) (p := ⟨a, j, none⟩) (by simpa using hlt))]
    exact (World.cell?_setCell_other _ _ _ _ (fun e => hj (by injection e with _ e2; exact e2.symm))).trans h
  refine ⟨⟨hb3, ?_, hny, hez, ?_, ⟨off _ _ _ (by omega) i5.c0, off _ _ _ (by omega) i5.c1, off _ _ _ (by omega) i5.c2, off _ _ _ (by omega) i5.c3, c4, fun j => ?_⟩, ?_, ?_, by omega, by omega, by omega, by omega, by omega, hl⟩, ⟨⟨rfl, rfl, rfl, Nat.le_refl _, fun _ _ _ => rfl⟩, ⟨List.replicate m (.slice none 0 0), by simp, ⟨?_, fun j hj => ?_, fun j k hj hk _ b hb => ?_⟩⟩, by simp⟩⟩
  · exact (hb4.trans (b45.mono hs4)).grown g5 (by omega) (fun k hk => by cases hk; exact hp)
  · refine off _ _ _ (by omega) ?_
    rw [hW5]; simp [go_sem]
  · rw [hW0]
    show ((W5.setCell ⟨p, 4, none⟩ _).alloc _).frozen? _ = _
    rw [(Below.frozen ((Below.refl (W5.setCell ⟨p, 4, none⟩ (.slice (some ⟨w4.heap.size + 1, 0, none⟩) m m)).heap.size _).alloc (Nat.le_refl _) _) (p := ⟨p, j, none⟩) (by simp; omega))]
    rw [World.frozen?_setCell]
    exact i5.fz j
  · refine (hmn.below b45 hml).grown g5 (fun e => ?_)
    cases e
    have h := (hmn.below b45 hml)
    obtain ⟨es, cl, h1, _⟩ := h
    have h2 := i5.c0
    unfold World.cell? at h2
    simp only [h1] at h2
    cases h2
  · refine (hme.below b45 hel).grown g5 (fun e => ?_)
    cases e
    have h := (hme.below b45 hel)
    obtain ⟨es, cl, h1, _⟩ := h
    have h2 := i5.c0
    unfold World.cell? at h2
    simp only [h1] at h2
    cases h2
  · rw [hrow]
    congr 2
    apply Array.ext'
    rw [toList_madeCells_one]
  · have : (List.replicate m (Value.slice none 0 0))[j] = .slice none 0 0 := by simp
    rw [this]
    have e : lstZ [] (j : Int) = [] := rfl
    rw [e]
    exact World.ownsRow_nil _ _ _ _
  · have : (List.replicate m (Value.slice none 0 0))[j] = .slice none 0 0 := by simp
    rw [this] at hb
    cases hb

theorem info83 : (Try.prog.info? 83).map (fun i => (i.zero, i.size, i.bytes)) = some (some (.slice none 0 0), 1, 24) := by kernel_rfl

theorem all_range {n : Nat} {q : Nat → Bool} (h : (List.range n).all q = true) {i : Nat} (hi : i < n) : q i = true := List.all_eq_true.1 h i (by simpa using hi)
theorem map_get {α β : Type} {f : α → β} {l m : List α} (h : l.map f = m.map f) {i : Nat} (hi : i < l.length) (hi' : i < m.length) : f l[i] = f m[i] := by
  have h1 : (l.map f)[i]? = (m.map f)[i]? := by rw [h]
  simpa [hi, hi'] using h1
/-- Of a right graph: where its edges lead. -/
theorem right_range {xs : List NX} {es zs : List EX} (h : rightN xs es = 0) (hz : zs.map (·.d) = es.map (·.d)) : ∀ i (h : i < zs.length), ∃ a b : Fin xs.length, zs[i].d.src = a.val ∧ zs[i].d.dst = b.val := by
  intro i hi
  have hl : zs.length = es.length := by have := congrArg List.length hz; simpa using this
  have hie : i < es.length := by omega
  unfold rightN at h
  split at h
  · cases h
  · split at h
    · rename_i hok
      unfold okE at hok
      rw [Bool.and_eq_true] at hok
      have h1 := all_range hok.2 hie
      unfold edgeB inB at h1
      rw [edAt_eq hie, ← map_get hz hi hie] at h1
      simp only [Bool.and_eq_true, decide_eq_true_eq] at h1
      obtain ⟨_, ⟨h2, h3⟩, h4, h5⟩ := h1
      exact ⟨⟨zs[i].d.src.toNat, by omega⟩, ⟨zs[i].d.dst.toNat, by omega⟩, by simp; omega, by simp; omega⟩
    · cases h

set_option maxRecDepth 100000 in
set_option maxHeartbeats 4000000 in
/-- graph.New -/
theorem new_any (nv : Value) (xs : List NX) (ev : Value) (es : List EX) (w : World) (hn : Nodes w nv xs) (he : Edges w ev es) :
    Calls Try.prog 10 #[GR nv ev] w fun e w' => Below w.heap.size w w' ∧ ((rightN xs es ≠ 0 ∧ e = .returned (.tuple #[.pointer none, .int .i64 (rightN xs es)])) ∨
      (rightN xs es = 0 ∧ ∃ p, e = .returned (.tuple #[.pointer (some ⟨p, 0, none⟩), .int .i64 0]) ∧ Index w' p (xs.map (·.d)) (es.map (·.d)))) := by
  have HN := Lib.hid hn
  have HE := Lib.hid he
  obtain ⟨A, c, rfl, hlc, hcm, -, -⟩ := hn.sl.form
  obtain ⟨A', c', rfl, hlc', hcm', -, -⟩ := he.sl.form
  clear hn he
  cases hr : (rightN xs es == 0) with
  | false =>
    have HR := Lib.hid (show rightN xs es ≠ 0 by simpa using hr)
    have hb0 := (Below.refl w.heap.size w).alloc (Nat.le_refl _) (.cells #[.slice A xs.length c, .slice A' es.length c'] 25)
    have HB0 := Lib.hid hb0
    have hne : (rightN xs es != 0) = true := by simp [bne, hr]
    clear hb0
    go_enter Try.func10, Try.ntmps10
    go_wp2_with fail
    refine (graphRight_any _ xs _ es _ (HN.out.below HB0.out (Nat.le_refl _)) (HE.out.below HB0.out (Nat.le_refl _))).mono ?_
    rintro e w1 ⟨rfl, hb1⟩
    have HB1 := Lib.hid (HB0.out.trans (hb1.mono HB0.out.size))
    clear hb1 hr
    go_wp2_with fail
    go_ret2
    exact ⟨HB1.out, .inl ⟨HR.out, rfl⟩⟩
  | true =>
    have HR := Lib.hid (show rightN xs es = 0 by simpa using hr)
    clear hr
    have HB0 := Lib.hid ((Below.refl w.heap.size w).alloc (Nat.le_refl _) (.cells #[.slice A xs.length c, .slice A' es.length c'] 25))
    refine (callsIn_wide (n := 9)).1 ?_
    refine callsIn_of_wp_marks Try.func10 rfl trivial ?_ rfl
    simp only [Try.ntmps10, List.size_toArray, List.length_cons, List.length_nil, Nat.reduceAdd, Nat.reduceSub, Array.replicate_succ, Array.replicate_zero, List.push_toArray, List.append_toArray, List.nil_append, List.cons_append]
    gi_wp2
    refine ⟨trivial, ?_⟩
    refine (callsIn_wide.2 (graphRight_any _ xs _ es _ (HN.out.below HB0.out (Nat.le_refl _)) (HE.out.below HB0.out (Nat.le_refl _)))).mono ?_
    rintro e w1 ⟨rfl, hb1⟩
    rw [HR.out]
    have hc0 := (hb1.cell (p := ⟨w.heap.size, 0, none⟩) (by simp)).trans (show _ = some (Value.slice A xs.length c) by simp [go_sem])
    have hc1 := (hb1.cell (p := ⟨w.heap.size, 1, none⟩) (by simp)).trans (show _ = some (Value.slice A' es.length c') by simp [go_sem])
    have HB1 := Lib.hid (HB0.out.trans (hb1.mono HB0.out.size))
    have hs1 : w.heap.size < w1.heap.size := Nat.lt_of_lt_of_le (by simp) hb1.size
    clear hb1
    gi_wp2
    refine ⟨trivial, ?_⟩
    refine (callsIn_wide.2 (own_any _ xs _ es _ (HN.out.below HB1.out (Nat.le_refl _)) (HE.out.below HB1.out (Nat.le_refl _)))).mono ?_
    rintro e w3 ⟨nv', ys, ev', zs, rfl, hny, hez, hnd, hed, hb3⟩
    have HNY := Lib.hid hny
    have HEZ := Lib.hid hez
    have HND := Lib.hid hnd
    have HED := Lib.hid hed
    obtain ⟨A1, c1, rfl, hn1, hq1, -, -⟩ := hny.sl.form
    obtain ⟨A2, c2, rfl, hn2, hq2, -, -⟩ := hez.sl.form
    have hd0 := (hb3.cell (p := ⟨w.heap.size, 0, none⟩) hs1).trans hc0
    have HB3 := Lib.hid (HB1.out.trans (hb3.mono HB1.out.size))
    have hs3 : w.heap.size < w3.heap.size := Nat.lt_of_lt_of_le hs1 hb3.size
    clear hny hez hnd hed hb3 hc0 hc1 HB1 hs1
    gi_wp2
    refine ⟨trivial, ?_⟩
    refine (callsIn_wide.2 (indexed_any _ ys _ zs _ HNY.out HEZ.out)).mono ?_
    rintro e w4 ⟨p, mn, me, rfl, hix, hmn, hme, hp1, hm1, hm2, hb4⟩
    have hyl : ys.length = xs.length := by have := congrArg List.length HND.out; simpa using this
    have hnx : 24 * xs.length ≤ 281474976710656 := by have := HN.out.len; omega
    have hmk := run_make_row' (P := Try.prog) 74 83 (.slice none 0 0) 24 Try.underlying74 info83 rfl .i64 .i64 xs.length hnx (by omega)
    have HIX := Lib.hid hix
    have HMN := Lib.hid hmn
    have HME := Lib.hid hme
    have HB4 := Lib.hid hb4
    have hpl := hix.lt
    have hw4 : w.heap.size < w4.heap.size := Nat.lt_of_lt_of_le hs3 hb4.size
    have i4 := hix.c4
    have z4 := hix.fz 4
    have e0 := (hb4.cell (p := ⟨w.heap.size, 0, none⟩) hs3).trans hd0
    have HNX := Lib.hid hnx
    have HP1 := Lib.hid (And.intro hp1 (And.intro hm1 hm2))
    clear hix hmn hme hb4 hd0 hnx hp1 hm1 hm2
    gi_wp2
    obtain ⟨W5, hW5⟩ : ∃ W5, w4.alloc (Obj.cells #[Value.pointer (some { block := p, off := 0 })] 28) = W5 := ⟨_, rfl⟩
    have k0 : W5.cell? ⟨w.heap.size, 0, none⟩ = some (.slice A xs.length c) := by rw [← hW5]; simp [go_sem, hw4, e0]
    have k1 : W5.cell? ⟨p, 4, none⟩ = some (.slice none 0 0) := by rw [← hW5]; simp [go_sem, hpl, i4]
    have k2 : W5.frozen? ⟨p, 4, none⟩ = false := by rw [← hW5]; simp [go_sem, hpl, z4]
    have k3 : W5.cell? ⟨w4.heap.size, 0, none⟩ = some (.pointer (some ⟨p, 0, none⟩)) := by rw [← hW5]; simp [go_sem]
    have k4 : W5.heap.size = w4.heap.size + 1 := by rw [← hW5]; simp
    have k5 : p < W5.heap.size := by omega
    rw [hW5]
    gi_region
    obtain ⟨W0, hW0⟩ : ∃ W0, ((W5.setCell ⟨p, 4, none⟩ (.slice (some ⟨w4.heap.size + 1, 0, none⟩) xs.length xs.length)).alloc (.cells (madeCells #[.slice none 0 0] xs.length) 83)).drew = W0 := ⟨_, rfl⟩
    rw [hW0]
    have HS0 := Lib.hid (new_start HNY.out HEZ.out HB3.out HB4.out HIX.out HMN.out HME.out HP1.out.1 HP1.out.2.1 HP1.out.2.2 hyl hW5.symm hW0.symm)
    have HRX := Lib.hid (show xs.length ≤ 1000 ∧ es.length ≤ 1000 by
      have h := HR.out
      unfold rightN at h
      split at h
      · cases h
      · omega)
    have x1 := HS0.out.1.xc
    have x2 := HS0.out.1.ix.c1
    clear hW5 hW0 k0 k1 k2 k3 k4 k5 hmk HIX HMN HME HB4 i4 z4 e0 hpl HP1 HNX
    gi_wp2
    refine loop10_in w w3 W0 w4.heap.size p (w4.heap.size + 1) xs.length mn me _ A2 zs.length c2 ys zs rfl HS0.out.1 HS0.out.2 HRX.out.1 (by have h := congrArg List.length HED.out; have h2 := HRX.out.2; simp at h; omega) hn2 hq2 (right_range HR.out HED.out) _ _ _ _ _ _ _ _ _ _ _ _ _ _ _ _ _ _ _ _ _ _ _ _ _ _ _ _ _ _ _ _ _ _ _ _ _ _ _ _ _ _ _ _ _ _ _ _ _ _ _ _ _ _ _ _ _ rfl ?_
    intro i u6 u7 u32 u33 u34 u35 u36 u37 u38 u57 Ds W hinv hnd
    have hx := hinv.g.cell HS0.out.1.xc (fun e => HS0.out.1.nx (Option.some.inj e))
    have HI := Lib.hid hinv
    clear hinv
    dsimp only
    gi_wp2
    refine leaves_marks (fun X => (∃ vs, IndexR X p (.slice A1 ys.length c1) (.slice A2 zs.length c2) mn me (.slice (some ⟨w4.heap.size + 1, 0, none⟩) xs.length xs.length) ys zs vs) ∧ Below w.heap.size w X) w.heap.size ?_ ?_ Ds W hnd (fun D hD => ⟨Nat.le_trans HB3.out.size (Nat.le_trans HS0.out.1.b3.size (HI.out.marks D hD).1), (HI.out.marks D hD).2⟩) ⟨HI.out.done HS0.out.1, HS0.out.1.belowW HI.out.g⟩
    · rintro X X' D hlo ⟨⟨vs, h1⟩, h2⟩ hD rfl
      exact ⟨⟨vs, h1.keptO (put_kept hD)⟩, put_below h2 hlo⟩
    · rintro X ⟨⟨vs, h1⟩, h2⟩
      refine ⟨_, results_tmp2 rfl _ _ _, h2, .inr ⟨HR.out, p, rfl, _, _, _, _, _, ys, zs, vs, HND.out, HED.out, h1⟩⟩
end Go.Proofs.Ytbolojjnkkgehaa
