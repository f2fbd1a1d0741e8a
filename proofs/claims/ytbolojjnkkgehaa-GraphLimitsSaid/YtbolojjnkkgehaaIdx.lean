import Derived.Test.YtbolojjnkkgehaaElt
import Derived.Maps.OwnSet
import Derived.StillTailTactics
import Derived.Deep.RegionHeld3
import Derived.RegionTactic
namespace Go.Proofs.Ytbolojjnkkgehaa
open Go.RowKit Go.WideMaps Go.Maps

/-- A region whose order is drawn, of reads and a last few operations, in a world with a name. -/
theorem region_tail {P : Program} {id : Nat} {Q : Exit → Act → World → Prop} {a : Act} {w : World} {l : List Oper} (n : Nat) (hm : P.follows .mixedOrders = true) (hB : Region.lexTailB .any l.toArray n = true)
    (h : ∀ Wd, Wd = w.drew → wpStill P l.toArray Wd (fun a' => wpList P l.toArray Q (l.drop n) a' Wd) (l.take n) a) : (Code.region id l.toArray true).wp P Q a w :=
  wp_region_still_tail n hm hB (h _ rfl)

theorem law9 : Keyed Try.prog 9 := string_keyed Try.underlying9
theorem zero3 (w : World) : (zeroValue 3).run Try.prog w = .ok (.int .i64 0) w := by kernel_rfl

/-- What a map of names to places reads as, the first k names being in. -/
def mapK (ns : List ByteArray) (k : Nat) : DataW Unit := (List.range k).foldl (fun D i => D.put (.string (strAt ns i).data.toList) (.lit (.int .i64 (i : Int)))) (.map [])
theorem mapK_succ (ns : List ByteArray) (k : Nat) : mapK ns (k + 1) = (mapK ns k).put (.string (strAt ns k).data.toList) (.lit (.int .i64 (k : Int))) := by simp [mapK, List.range_succ, List.foldl_append]
def MapAt (w : World) (b : Nat) (ns : List ByteArray) (k : Nat) : Prop := w.ownsMap Try.prog 9 (plainElem (H := Unit) Try.prog 3) b k (mapK ns k)

abbrev GR (nv ev : Value) : Value := .agg #[nv, ev]
structure TwoAt (w : World) (p : Nat) (a b : Value) : Prop where
  c0 : w.cell? ⟨p, 0, none⟩ = some a
  c1 : w.cell? ⟨p, 1, none⟩ = some b
theorem TwoAt.below {w w' : World} {p : Nat} {a b : Value} {m : Nat} (h : TwoAt w p a b) (hb : Below m w w') (hm : p < m) : TwoAt w' p a b := ⟨cell_below hb hm h.c0, cell_below hb hm h.c1⟩

theorem MapAt.below {w w' : World} {b : Nat} {ns : List ByteArray} {k m : Nat} (h : MapAt w b ns k) (hb : Below m w w') (hm : b < m) : MapAt w' b ns k := by
  obtain ⟨es, clock, h1, h2⟩ := h
  exact ⟨es, clock, (hb.block b hm).trans h1, h2⟩
theorem MapAt.lt {w : World} {b : Nat} {ns : List ByteArray} {k : Nat} (h : MapAt w b ns k) : b < w.heap.size := World.ownsMap.lt h

theorem TwoAt.grown {w w' : World} {p : Nat} {a b : Value} {row : Option Nat} (h : TwoAt w p a b) (hg : w.grownBy w' row) (hne : some p ≠ row) : TwoAt w' p a b := ⟨hg.cell h.c0 hne, hg.cell h.c1 hne⟩
theorem IdxAt.grown {w w' : World} {p : Nat} {nv ev : Value} {mn me : Nat} {ov : Value} {row : Option Nat} (h : IdxAt w p nv ev mn me ov) (hg : w.grownBy w' row) (hne : some p ≠ row) : IdxAt w' p nv ev mn me ov :=
  ⟨hg.cell h.c0 hne, hg.cell h.c1 hne, hg.cell h.c2 hne, hg.cell h.c3 hne, hg.cell h.c4 hne, fun j => (World.frozen?_of_block (a := ⟨p, j, none⟩) (hg.block p h.lt (fun e => hne (by rw [e])))).trans (h.fz j)⟩
theorem MapAt.grown {w w' : World} {b : Nat} {ns : List ByteArray} {k : Nat} {row : Option Nat} (h : MapAt w b ns k) (hg : w.grownBy w' row) (hne : some b ≠ row) : MapAt w' b ns k := World.ownsMap.kept h hg hne

def ndAt (l : List NX) (i : Nat) : NX := l.getD i ⟨⟨⟨#[]⟩, [], []⟩, .slice none 0 0, .slice none 0 0⟩
theorem ndAt_eq {l : List NX} {i : Nat} (h : i < l.length) : ndAt l i = l[i] := by simp [ndAt, List.getD_eq_getElem?_getD, List.getElem?_eq_getElem h]
theorem ReadsL.nodeA {w : World} {A : Option Addr} {l : List NX} (h : ReadsL w A (cellsN l)) (i : Nat) (hi : i < l.length) :
    ∃ b o, A = some ⟨b, o, none⟩ ∧ b < w.heap.size ∧ w.cell? ⟨b, o + i * 3, none⟩ = some (.string (ndAt l i).d.nm) ∧ w.cell? ⟨b, o + i * 3 + 1, none⟩ = some (ndAt l i).lv ∧ w.cell? ⟨b, o + i * 3 + 2, none⟩ = some (ndAt l i).pv := by
  rw [ndAt_eq hi]; exact h.node i hi
def edAt (l : List EX) (i : Nat) : EX := l.getD i ⟨⟨⟨#[]⟩, 0, 0, false, [], []⟩, .slice none 0 0, .slice none 0 0⟩
theorem edAt_eq {l : List EX} {i : Nat} (h : i < l.length) : edAt l i = l[i] := by simp [edAt, List.getD_eq_getElem?_getD, List.getElem?_eq_getElem h]
theorem ReadsL.edgeA {w : World} {A : Option Addr} {l : List EX} (h : ReadsL w A (cellsE l)) (i : Nat) (hi : i < l.length) :
    ∃ b o, A = some ⟨b, o, none⟩ ∧ b < w.heap.size ∧ w.cell? ⟨b, o + i * 6, none⟩ = some (.string (edAt l i).d.nm) ∧ w.cell? ⟨b, o + i * 6 + 1, none⟩ = some (.int .i64 (edAt l i).d.src) ∧ w.cell? ⟨b, o + i * 6 + 2, none⟩ = some (.int .i64 (edAt l i).d.dst) ∧ w.cell? ⟨b, o + i * 6 + 3, none⟩ = some (.bool (edAt l i).d.dir) ∧ w.cell? ⟨b, o + i * 6 + 4, none⟩ = some (edAt l i).lv ∧ w.cell? ⟨b, o + i * 6 + 5, none⟩ = some (edAt l i).pv := by
  rw [edAt_eq hi]; exact h.edge i hi

theorem Nodes.slices {w : World} {v : Value} {l : List NX} (h : Nodes w v l) {i : Nat} (hi : i < l.length) : ∃ A1 n1 c1 A2 n2 c2, (ndAt l i).lv = .slice A1 n1 c1 ∧ (ndAt l i).pv = .slice A2 n2 c2 := by
  rw [ndAt_eq hi]
  obtain ⟨A1, c1, e1, _⟩ := (h.ls _ (List.getElem_mem hi)).sl
  obtain ⟨A2, c2, e2, _⟩ := (h.ps _ (List.getElem_mem hi)).sl
  exact ⟨A1, _, c1, A2, _, c2, e1, e2⟩
theorem Edges.slices {w : World} {v : Value} {l : List EX} (h : Edges w v l) {i : Nat} (hi : i < l.length) : ∃ A1 n1 c1 A2 n2 c2, (edAt l i).lv = .slice A1 n1 c1 ∧ (edAt l i).pv = .slice A2 n2 c2 := by
  rw [edAt_eq hi]
  obtain ⟨A1, c1, e1, _⟩ := (h.ls _ (List.getElem_mem hi)).sl
  obtain ⟨A2, c2, e2, _⟩ := (h.ps _ (List.getElem_mem hi)).sl
  exact ⟨A1, _, c1, A2, _, c2, e1, e2⟩

set_option maxHeartbeats 1000000 in
set_option maxRecDepth 100000 in
/-- graph.indexed -/
theorem indexed_any (nv : Value) (xs : List NX) (ev : Value) (es : List EX) (w : World) (hn : Nodes w nv xs) (he : Edges w ev es) :
    Calls Try.prog 31 #[GR nv ev] w fun e w' => ∃ p mn me, e = .returned (.pointer (some ⟨p, 0, none⟩)) ∧ IdxAt w' p nv ev mn me (.slice none 0 0) ∧
      MapAt w' mn (xs.map (·.d.nm)) xs.length ∧ MapAt w' me (es.map (·.d.nm)) es.length ∧ w.heap.size ≤ p ∧ w.heap.size ≤ mn ∧ w.heap.size ≤ me ∧ Below w.heap.size w w' := by
  have hmm := @run_makeMap Try.prog
  obtain ⟨A, c, rfl, hlc, hcm, -, hrd⟩ := hn.sl.form
  obtain ⟨A', c', rfl, hlc', hcm', -, hrd'⟩ := he.sl.form
  have HRD := Lib.hid hrd
  have HRD' := Lib.hid hrd'
  have HN := Lib.hid hn
  have HE := Lib.hid he
  clear hrd hrd' hn he
  go_enter Try.func31, Try.ntmps31
  go_wp2_with fail
  have hp0 : ∃ p, w.heap.size + 1 + 1 + 1 = p := ⟨_, rfl⟩
  have hm0 : ∃ p, w.heap.size + 1 + 1 = p := ⟨_, rfl⟩
  have hn0 : ∃ p, w.heap.size + 1 = p := ⟨_, rfl⟩
  obtain ⟨p, hp⟩ := hp0
  obtain ⟨me, hm⟩ := hm0
  obtain ⟨mn, hn⟩ := hn0
  have HPP := Lib.hid (show w.heap.size < mn ∧ mn < me ∧ me < p by omega)
  have hst : Hid (∃ W0, W0 = (((w.alloc (Obj.cells #[Value.slice A xs.length c, Value.slice A' es.length c'] 25)).alloc (Obj.map #[] 0)).alloc (Obj.map #[] 0)).alloc
      (Obj.cells #[Value.slice A xs.length c, Value.slice A' es.length c', Value.map (some (w.heap.size + 1)), Value.map (some (w.heap.size + 1 + 1)), Value.slice none 0 0] 77) ∧ Below w.heap.size w W0 ∧ TwoAt W0 w.heap.size (.slice A xs.length c) (.slice A' es.length c') ∧ IdxAt W0 p (.slice A xs.length c) (.slice A' es.length c') mn me (.slice none 0 0) ∧ MapAt W0 mn (xs.map (·.d.nm)) 0 ∧ MapAt W0 me (es.map (·.d.nm)) 0) := by
    refine Lib.hid ⟨_, rfl, ?_, ?_, ?_, ?_, ?_⟩
    · exact (((((Below.refl _ w).alloc (Nat.le_refl _) _).alloc (by simp) _).alloc (by simp; omega) _).alloc (by simp; omega) _)
    · exact ⟨by simp [go_sem], by simp [go_sem]⟩
    · subst hp; subst hm; subst hn
      exact ⟨by simp [go_sem], by simp [go_sem], by simp [go_sem], by simp [go_sem], by simp [go_sem], fun j => by simp [go_sem]⟩
    · subst hn
      have h := World.ownsMap_made (w.alloc (Obj.cells #[Value.slice A xs.length c, Value.slice A' es.length c'] 25)) Try.prog 9 (plainElem (H := Unit) Try.prog 3)
      simp only [World.size_alloc] at h
      exact (h.alloc _).alloc _
    · subst hm
      have h := World.ownsMap_made ((w.alloc (Obj.cells #[Value.slice A xs.length c, Value.slice A' es.length c'] 25)).alloc (Obj.map #[] 0)) Try.prog 9 (plainElem (H := Unit) Try.prog 3)
      simp only [World.size_alloc] at h
      exact h.alloc _
  obtain ⟨W0, hW0, hb0, ht0, hx0, hma0, hmb0⟩ := hst.out
  rw [← hW0]
  rw [hp, hm, hn]
  have H0 := Lib.hid (And.intro hb0 (And.intro ht0 (And.intro hx0 (And.intro hma0 hmb0))))
  clear hW0 hst hb0 ht0 hx0 hma0 hmb0 hp hm hn
  go_loopw [16] (fun v16 wr => ∃ i : Nat, v16 = .int .i64 i ∧ i ≤ xs.length ∧ Hid (Below w.heap.size w wr ∧ TwoAt wr w.heap.size (.slice A xs.length c) (.slice A' es.length c') ∧ IdxAt wr p (.slice A xs.length c) (.slice A' es.length c') mn me (.slice none 0 0) ∧ MapAt wr mn (xs.map (·.d.nm)) i ∧ MapAt wr me (es.map (·.d.nm)) 0)) (fun v16 _ => xs.length - (intOf v16).toNat)
  case atStart => exact ⟨0, rfl, by omega, H0⟩
  case round =>
    obtain ⟨i, rfl, hi, HR⟩ := hrel
    clear H0
    by_cases hin : i < xs.length
    · have hin' : (i : Int) < (xs.length : Int) := by omega
      have hi0 : (0 : Int) ≤ (i : Int) := by omega
      obtain ⟨b, o, hA, hbl, hc0, hc1, hc2⟩ := HRD.out.nodeA i hin
      subst hA
      have h0 := cell_below HR.out.1 hbl hc0
      have h1 := cell_below HR.out.1 hbl hc1
      have h2 := cell_below HR.out.1 hbl hc2
      have hx1 := HR.out.2.2.1.c2
      obtain ⟨A1, n1, c1, A2, n2, c2, e1, e2⟩ := HN.out.slices hin
      rw [e1] at h1
      rw [e2] at h2
      clear hc0 hc1 hc2 e1 e2
      have HSZ := Lib.hid (HN.out.nm (ndAt xs i) (by rw [ndAt_eq hin]; exact List.getElem_mem hin))
      generalize hnm : (ndAt xs i).d.nm = nm at *
      have HNM := Lib.hid hnm
      clear hnm
      go_wp2_with fail
      have HB := Lib.hid (HR.out.1.alloc HR.out.1.size (.cells #[.string nm, .slice A1 n1 c1, .slice A2 n2 c2] 46)).drew
      refine region_tail 7 (by kernel_rfl) (by kernel_rfl) ?_
      intro Wd hWd
      rw [← hWd] at HB
      have hwb : Below wr.heap.size wr Wd := by rw [hWd]; exact ((Below.refl _ wr).alloc (Nat.le_refl _) _).drew
      have f1 : Wd.cell? ⟨p, 2, none⟩ = some (.map (some mn)) := cell_below hwb HR.out.2.2.1.lt hx1
      have f2 : Wd.cell? ⟨wr.heap.size, 0, none⟩ = some (.string nm) := by rw [hWd]; simp [go_sem]
      have HM := Lib.hid (HR.out.2.2.2.1.below hwb HR.out.2.2.2.1.lt)
      have HWB := Lib.hid hwb
      clear hWd hwb
      simp only [List.take_succ_cons, List.take_zero, List.drop_succ_cons, List.drop_zero]
      repeat still_step
      refine wpStill_nil ?_
      go_wp2_with (at_mapUpdate; refine wpList_mapUpdate_own _ rfl _ _ _ 75 rfl 9 3 law9 Try.underlying75 _ mn i _ rfl HM.out (by unfold maxLen; omega) _ _ _ rfl rfl (keyOf_string_mk Try.underlying9 HSZ.out) _ [] (plainElem_int Try.underlying3 (WalkArith.wf_i64 (by omega))) ?_; intro w1 hown1 hgrow1)
      have hsz : wr.heap.size ≤ Wd.heap.size := HWB.out.size
      have hlts := HPP.out
      have hm1 : MapAt w1 mn (xs.map (·.d.nm)) (i + 1) := by
        have e : strAt (xs.map (·.d.nm)) i = nm := by rw [← HNM.out, ndAt_eq hin, strAt_eq (by simpa using hin)]; simp
        unfold MapAt; rw [mapK_succ, e]; exact hown1
      have HK := Lib.hid (show Below w.heap.size w w1 ∧ TwoAt w1 w.heap.size (.slice (some ⟨b, o, none⟩) xs.length c) (.slice A' es.length c') ∧ IdxAt w1 p (.slice (some ⟨b, o, none⟩) xs.length c) (.slice A' es.length c') mn me (.slice none 0 0) ∧ MapAt w1 mn (xs.map (·.d.nm)) (i + 1) ∧ MapAt w1 me (es.map (·.d.nm)) 0 from
        ⟨HB.out.grown hgrow1 HB.out.size (fun k hk => by cases hk; omega), (HR.out.2.1.below HWB.out (World.block_lt_of_cell? wr _ HR.out.2.1.c0)).grown hgrow1 (by simp; omega), (HR.out.2.2.1.below HWB.out HR.out.2.2.1.lt).grown hgrow1 (by simp; omega), hm1,
          (HR.out.2.2.2.2.below HWB.out HR.out.2.2.2.2.lt).grown hgrow1 (by simp; omega)⟩)
      clear hown1 hgrow1 hm1 f1 f2 hx1 h0 h1 h2
      go_roundw
      case rel => exact ⟨i + 1, by go_num, by omega, HK⟩
      case measure => simp [intOf]; omega
    · have hni : (xs.length : Int) ≤ (i : Int) := by omega
      obtain rfl : i = xs.length := by omega
      have ht1 := HR.out.2.1.c1
      go_wp2_with fail
      go_loopw [32] (fun v32 wr2 => ∃ i : Nat, v32 = .int .i64 i ∧ i ≤ es.length ∧ Hid (Below w.heap.size w wr2 ∧ TwoAt wr2 w.heap.size (.slice A xs.length c) (.slice A' es.length c') ∧ IdxAt wr2 p (.slice A xs.length c) (.slice A' es.length c') mn me (.slice none 0 0) ∧ MapAt wr2 mn (xs.map (·.d.nm)) xs.length ∧ MapAt wr2 me (es.map (·.d.nm)) i)) (fun v32 _ => es.length - (intOf v32).toNat)
      case atStart => exact ⟨0, rfl, by omega, HR⟩
      case round =>
        obtain ⟨i, rfl, hi, HR2⟩ := hrel
        clear HR ht1
        have HR := HR2
        clear HR2
        by_cases hin : i < es.length
        · have hin' : (i : Int) < (es.length : Int) := by omega
          have hi0 : (0 : Int) ≤ (i : Int) := by omega
          obtain ⟨b, o, hA, hbl, hc0, hc1, hc2, hc3, hc4, hc5⟩ := HRD'.out.edgeA i hin
          subst hA
          have h0 := cell_below HR.out.1 hbl hc0
          have h1 := cell_below HR.out.1 hbl hc1
          have h2 := cell_below HR.out.1 hbl hc2
          have h3 := cell_below HR.out.1 hbl hc3
          have h4 := cell_below HR.out.1 hbl hc4
          have h5 := cell_below HR.out.1 hbl hc5
          have hx1 := HR.out.2.2.1.c3
          obtain ⟨A1, n1, c1, A2, n2, c2, e1, e2⟩ := HE.out.slices hin
          rw [e1] at h4
          rw [e2] at h5
          clear hc0 hc1 hc2 hc3 hc4 hc5 e1 e2
          have HSZ := Lib.hid (HE.out.nm (edAt es i) (by rw [edAt_eq hin]; exact List.getElem_mem hin))
          have HNM := Lib.hid (show strAt (es.map (·.d.nm)) i = (edAt es i).d.nm by rw [edAt_eq hin, strAt_eq (by simpa using hin)]; simp)
          generalize (edAt es i).d = ed at *
          obtain ⟨nm, src, dst, dir, els, eps⟩ := ed
          dsimp only at h0 h1 h2 h3 HSZ HNM
          go_wp2_with fail
          have HB := Lib.hid (HR.out.1.alloc HR.out.1.size (.cells #[.string nm, .int .i64 src, .int .i64 dst, .bool dir, .slice A1 n1 c1, .slice A2 n2 c2] 42)).drew
          refine region_tail 7 (by kernel_rfl) (by kernel_rfl) ?_
          intro Wd hWd
          rw [← hWd] at HB
          have hwb : Below wr.heap.size wr Wd := by rw [hWd]; exact ((Below.refl _ wr).alloc (Nat.le_refl _) _).drew
          have f1 : Wd.cell? ⟨p, 3, none⟩ = some (.map (some me)) := cell_below hwb HR.out.2.2.1.lt hx1
          have f2 : Wd.cell? ⟨wr.heap.size, 0, none⟩ = some (.string nm) := by rw [hWd]; simp [go_sem]
          have HM := Lib.hid (HR.out.2.2.2.2.below hwb HR.out.2.2.2.2.lt)
          have HWB := Lib.hid hwb
          clear hWd hwb
          simp only [List.take_succ_cons, List.take_zero, List.drop_succ_cons, List.drop_zero]
          repeat still_step
          refine wpStill_nil ?_
          go_wp2_with (at_mapUpdate; refine wpList_mapUpdate_own _ rfl _ _ _ 75 rfl 9 3 law9 Try.underlying75 _ me i _ rfl HM.out (by unfold maxLen; omega) _ _ _ rfl rfl (keyOf_string_mk Try.underlying9 HSZ.out) _ [] (plainElem_int Try.underlying3 (WalkArith.wf_i64 (by omega))) ?_; intro w1 hown1 hgrow1)
          have hsz : wr.heap.size ≤ Wd.heap.size := HWB.out.size
          have hlts := HPP.out
          have hm1 : MapAt w1 me (es.map (·.d.nm)) (i + 1) := by
            unfold MapAt; rw [mapK_succ, HNM.out]; exact hown1
          have HK := Lib.hid (show Below w.heap.size w w1 ∧ TwoAt w1 w.heap.size (.slice A xs.length c) (.slice (some ⟨b, o, none⟩) es.length c') ∧ IdxAt w1 p (.slice A xs.length c) (.slice (some ⟨b, o, none⟩) es.length c') mn me (.slice none 0 0) ∧ MapAt w1 mn (xs.map (·.d.nm)) xs.length ∧ MapAt w1 me (es.map (·.d.nm)) (i + 1) from
            ⟨HB.out.grown hgrow1 HB.out.size (fun k hk => by cases hk; omega), (HR.out.2.1.below HWB.out (World.block_lt_of_cell? wr _ HR.out.2.1.c0)).grown hgrow1 (by simp; omega), (HR.out.2.2.1.below HWB.out HR.out.2.2.1.lt).grown hgrow1 (by simp; omega),
              (HR.out.2.2.2.1.below HWB.out HR.out.2.2.2.1.lt).grown hgrow1 (by simp; omega), hm1⟩)
          clear hown1 hgrow1 hm1 f1 f2 hx1 h0 h1 h2 h3 h4 h5
          go_roundw
          case rel => exact ⟨i + 1, by go_num, by omega, HK⟩
          case measure => simp [intOf]; omega
        · have hni : (es.length : Int) ≤ (i : Int) := by omega
          obtain rfl : i = es.length := by omega
          go_wp2_with fail
          go_ret
          have hl := HPP.out
          exact ⟨p, mn, me, rfl, HR.out.2.2.1, HR.out.2.2.2.1, HR.out.2.2.2.2, by omega, by omega, by omega, HR.out.1⟩
end Go.Proofs.Ytbolojjnkkgehaa
