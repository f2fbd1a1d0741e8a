import Derived.Test.YtbolojjnkkgehaaNw0
namespace Go.Proofs.Ytbolojjnkkgehaa
open Go.RowKit Go.Shelf
attribute [local go_sem] Oper.semAt_some

/-- The first loop of a code. -/
def loopOf : Code → Option Code
  | .loop c => some (.loop c)
  | .seq a b => (loopOf a).or (loopOf b)
  | .block _ c => loopOf c
  | .cond _ a b => (loopOf a).or (loopOf b)
  | _ => none
noncomputable def loop10 : Option Code := Try.f10.body.bind loopOf

/-- What an edge's round keeps: the two boxes that leads made, the loop's own things. -/
structure NwRd (W0 W : World) (ob m eb ib : Nat) (q : List (Int × Ld)) (Ds : List Nat) (oe oi : Array Value) : Prop where
  inv : NwInv W0 W ob m q Ds
  he : W.heap[eb]? = some (.cells oe 42 (0, 0))
  hi : W.heap[ib]? = some (.cells oi 3 (0, 0))

theorem NwRd.own {W0 : World} {ob m eb ib B : Nat} {q : List (Int × Ld)} {Ds : List Nat} {oe oi : Array Value} (hB : W0.heap.size ≤ B) (hD : ∀ D ∈ Ds, D < B) : OwnFrom B (fun (pre : List (Fin m × Ld)) W => NwRd W0 W ob m eb ib (q ++ tokZ pre) Ds oe oi) := fun s X Y row hs hg hr => by
  have hcell : ∀ (k : Nat) (o : Obj), X.heap[k]? = some o → o.isCells = true → Y.heap[k]? = some o := fun k o hk hc =>
    (hg.block k (Array.getElem?_eq_some_iff.1 hk).1 (fun e => by obtain ⟨_, o', ho', hc'⟩ := hr k e.symm; rw [hk] at ho'; cases ho'; rw [hc] at hc'; cases hc')).trans hk
  refine ⟨⟨?_, ?_, fun D hd => ⟨(hs.inv.marks D hd).1, ?_⟩⟩, hcell _ _ hs.he rfl, hcell _ _ hs.hi rfl⟩
  · refine ⟨hg.os.trans hs.inv.g.os, hg.tape.trans hs.inv.g.tape, hg.output.trans hs.inv.g.output, Nat.le_trans hs.inv.g.size hg.size, fun k hk hne => ?_⟩
    exact (hg.block k (Nat.lt_of_lt_of_le hk hs.inv.g.size) (fun e => by have := (hr k e.symm).1; omega)).trans (hs.inv.g.block k hk hne)
  · obtain ⟨vs, hv, ho⟩ := hs.inv.out
    exact ⟨vs, hv, ho.cells hcell⟩
  · have h1 := (hs.inv.marks D hd).2
    exact (hg.block D (Array.getElem?_eq_some_iff.1 h1).1 (fun e => by have := (hr D e.symm).1; have := hD D hd; omega)).trans h1
theorem NwRd.next {W0 W W' : World} {ob m eb ib : Nat} {q : List (Int × Ld)} {Ds : List Nat} {oe oi : Array Value} (h : NwRd W0 W ob m eb ib q Ds oe oi) (hb : Below W.heap.size W W') : NwRd W0 W' ob m eb ib q Ds oe oi :=
  ⟨h.inv.next hb, (hb.block eb (Array.getElem?_eq_some_iff.1 h.he).1).trans h.he, (hb.block ib (Array.getElem?_eq_some_iff.1 h.hi).1).trans h.hi⟩
theorem keepTwo_b {w : World} {eb ib : Nat} (he : eb < w.heap.size) (hi : ib < w.heap.size) (W : World) (l : Nat) (o o' : Obj) (hl : w.heap.size ≤ l) (_ : W.heap[l]? = some o) (_ : o.isCells = false) (_ : o.isWalk = false) : KeepTwo eb ib W (W.putObj l o') :=
  ⟨World.putObj_heap_other (by omega), World.putObj_heap_other (by omega)⟩
theorem KeepTwo.trans {eb ib : Nat} {A B C : World} (h : KeepTwo eb ib A B) (k : KeepTwo eb ib B C) : KeepTwo eb ib A C := ⟨k.e.trans h.e, k.i.trans h.i⟩

set_option maxRecDepth 100000 in
set_option maxHeartbeats 8000000 in
/-- The loop of graph.New. -/
theorem loop10_in (w w3 W0 : World) (xb p ob m mn me : Nat) (nv : Value) (A2 : Option Addr) (nz c2 : Nat) (ys : List NX) (zs : List EX) (hnz : nz = zs.length) (hB : NwBase w w3 W0 xb p ob m mn me nv (.slice A2 nz c2) ys zs) (h0 : NwInv W0 W0 ob m [] [])
    (hm : m ≤ 1000) (hz : nz ≤ 1000) (hc2 : nz ≤ c2) (hc3 : c2 ≤ 9223372036854775807) (hr : ∀ i (h : i < zs.length), ∃ a b : Fin m, zs[i].d.src = a.val ∧ zs[i].d.dst = b.val) (x0 x1 x2 x3 x4 x8 x9 x10 x11 x12 x13 x14 x15 x16 x17 x18 x19 x20 x21 x22 x23 x24 x25 x26 x27 x28 x39 x40 x41 x42 x43 x44 x45 x46 x47 x48 x49 x50 x51 x52 x53 x54 x55 x56 x58 u6 u7 u32 u33 u34 u35 u36 u37 u38 u57 : Value) (Q : Exit → Act → World → Prop) (c : Code) (hc : loop10 = some c)
    (hQ : ∀ (i : Nat) (u6 u7 u32 u33 u34 u35 u36 u37 u38 u57 : Value) (Ds : List Nat) (W : World), NwInv W0 W ob m (tokT (zs.map (·.d)) zs.length) Ds → Ds.Nodup → Q (.exit 0) { tmps := #[x0, x1, x2, x3, x4, .pointer (some ⟨xb, 0, none⟩), u6, u7, x8, x9, x10, x11, x12, x13, x14, x15, x16, x17, x18, x19, x20, x21, x22, x23, x24, x25, x26, x27, x28, .slice A2 nz c2, .int .i64 (nz : Int), .int .i64 (i : Int), u32, u33, u34, u35, u36, u37, u38, x39, x40, x41, x42, x43, x44, x45, x46, x47, x48, x49, x50, x51, x52, x53, x54, x55, x56, u57, x58], defers := Ds.map fun D => { target := .collected D, args := #[] } } W) :
    c.wpIn Fence.wide 9 Try.prog Q { tmps := #[x0, x1, x2, x3, x4, .pointer (some ⟨xb, 0, none⟩), u6, u7, x8, x9, x10, x11, x12, x13, x14, x15, x16, x17, x18, x19, x20, x21, x22, x23, x24, x25, x26, x27, x28, .slice A2 nz c2, .int .i64 (nz : Int), .int .i64 0, u32, u33, u34, u35, u36, u37, u38, x39, x40, x41, x42, x43, x44, x45, x46, x47, x48, x49, x50, x51, x52, x53, x54, x55, x56, u57, x58], defers := [] } W0 := by
  cases hc
  have HB := Lib.hid hB
  have H0 := Lib.hid h0
  have HQ := Lib.hid hQ
  have HR := Lib.hid hr
  have HNZ := Lib.hid hnz
  clear hB h0 hQ hr hnz
  refine wpIn_loop (fun a W => ∃ (i : Nat) (Ds : List Nat) (u6 u7 u32 u33 u34 u35 u36 u37 u38 u57 : Value), a = { tmps := #[x0, x1, x2, x3, x4, .pointer (some ⟨xb, 0, none⟩), u6, u7, x8, x9, x10, x11, x12, x13, x14, x15, x16, x17, x18, x19, x20, x21, x22, x23, x24, x25, x26, x27, x28, .slice A2 nz c2, .int .i64 (nz : Int), .int .i64 (i : Int), u32, u33, u34, u35, u36, u37, u38, x39, x40, x41, x42, x43, x44, x45, x46, x47, x48, x49, x50, x51, x52, x53, x54, x55, x56, u57, x58], defers := Ds.map fun D => { target := .collected D, args := #[] } } ∧ i ≤ nz ∧ Hid (NwInv W0 W ob m (tokT (zs.map (·.d)) i) Ds ∧ Ds.Nodup)) (fun a _ => nz - (intOf (a.tmps.getD 31 undef)).toNat) ?_ ?_
  · exact ⟨0, [], u6, u7, u32, u33, u34, u35, u36, u37, u38, u57, rfl, by omega, Lib.hid ⟨H0.out, by simp⟩⟩
  · rintro a W ⟨i, Ds, u6, u7, u32, u33, u34, u35, u36, u37, u38, u57, rfl, hi, HI⟩
    have hx := HI.out.1.g.cell HB.out.xc (fun e => HB.out.nx (by cases e; rfl))
    by_cases hin : i < nz
    · have hin' : (i : Int) < (nz : Int) := by omega
      have hi0 : (0 : Int) ≤ (i : Int) := by omega
      have hiz : i < zs.length := by rw [← HNZ.out]; exact hin
      obtain ⟨A3, c3, e3, -, -, -, hrd⟩ := (HB.out.ez.below (HB.out.below HI.out.1.g) (Nat.le_refl _)).sl.form
      injection e3 with e3 e4 e5
      subst e3
      obtain ⟨g, o, hA, hgl, k0, k1, k2, k3, k4, k5⟩ := hrd.edge i hiz
      subst hA
      obtain ⟨B1, m1, d1, B2, m2, d2, el, ep⟩ := HB.out.ez.slices hiz
      rw [edAt_eq hiz] at el ep
      rw [el] at k4
      rw [ep] at k5
      obtain ⟨fa, fb, hs, hd⟩ := HR.out i hiz
      have HT := Lib.hid (show tokT (zs.map (·.d)) (i + 1) = tokT (zs.map (·.d)) i ++ tokZ (ledF (i : Int) fa fb zs[i].d.dir) by
        rw [tokT_succ, tokZ_led (i : Int) fa fb zs[i].d hs hd]
        congr 2
        simp [edD, List.getD_eq_getElem?_getD, hiz])
      rw [hs] at k1
      rw [hd] at k2
      clear hrd el ep e4 e5 hs hd
      generalize zs[i].d.dir = dir at *
      generalize zs[i].d.nm = nm at *
      gi_wp2
      refine ⟨trivial, ?_⟩
      refine (leads_in Fence.wide _ trivial rfl (i : Int) nm fa.val fb.val dir B1 m1 d1 B2 m2 d2 _).mono ?_
      rintro e W1 ⟨rfl, hW1⟩
      simp only [World.size_alloc]
      obtain ⟨eb, heb⟩ : ∃ eb, W.heap.size + 1 + 1 = eb := ⟨_, rfl⟩
      obtain ⟨ib, hib⟩ : ∃ ib, W.heap.size + 1 = ib := ⟨_, rfl⟩
      rw [heb, hib]
      have hbW : Below W.heap.size W W1 := by rw [hW1]; exact (((Below.refl _ _).alloc (Nat.le_refl _) _).alloc (by simp) _).alloc (by simp; omega) _
      have hz1 : W1.heap.size = W.heap.size + 3 := by rw [hW1]; simp
      have hoe : W1.heap[eb]? = some (.cells #[.string nm, .int .i64 (fa.val : Int), .int .i64 (fb.val : Int), .bool dir, .slice B1 m1 d1, .slice B2 m2 d2] 42 (0, 0)) := by
        rw [hW1, ← heb]
        have h := World.alloc_heap_new ((W.alloc (.cells #[.string nm, .int .i64 (fa.val : Int), .int .i64 (fb.val : Int), .bool dir, .slice B1 m1 d1, .slice B2 m2 d2] 42)).alloc (.cells #[.int .i64 (i : Int)] 3)) (.cells #[.string nm, .int .i64 (fa.val : Int), .int .i64 (fb.val : Int), .bool dir, .slice B1 m1 d1, .slice B2 m2 d2] 42)
        simpa using h
      have hoi : W1.heap[ib]? = some (.cells #[.int .i64 (i : Int)] 3 (0, 0)) := by
        rw [hW1, ← hib, Below.heap_alloc _ _ _ (by simp)]
        have h := World.alloc_heap_new (W.alloc (.cells #[.string nm, .int .i64 (fa.val : Int), .int .i64 (fb.val : Int), .bool dir, .slice B1 m1 d1, .slice B2 m2 d2] 42)) (.cells #[.int .i64 (i : Int)] 3)
        simpa using h
      have hbx : EdBox W1 eb fa.val fb.val dir := ⟨by rw [cell_of_row W1 eb _ _ _ _ hoe]; rfl, by rw [cell_of_row W1 eb _ _ _ _ hoe]; rfl, by rw [cell_of_row W1 eb _ _ _ _ hoe]; rfl⟩
      have hbi : W1.cell? ⟨ib, 0, none⟩ = some (.int .i64 (i : Int)) := by rw [cell_of_row W1 ib _ _ _ _ hoi]; rfl
      have HRD := Lib.hid (show NwRd W0 W1 ob m eb ib (tokT (zs.map (·.d)) i) Ds _ _ from ⟨HI.out.1.next hbW, hoe, hoi⟩)
      have hs01 : W0.heap.size ≤ W1.heap.size := Nat.le_trans HI.out.1.g.size hbW.size
      have hDs : ∀ D ∈ Ds, D < W1.heap.size := fun D hD => by
        have := (Array.getElem?_eq_some_iff.1 (HI.out.1.marks D hD).2).1
        omega
      have HDS := Lib.hid hDs
      have HBX := Lib.hid hbx
      have HBI := Lib.hid hbi
      clear hW1 hbW hoe hoi hbx hbi hDs k0 k1 k2 k3 k4 k5
      gi_wp2
      refine wpIn_rangeFunc_ownH rfl (by omega) (gf := 51) (lb := #[.pointer (some ⟨eb, 0, none⟩), .pointer (some ⟨ib, 0, none⟩)]) rfl trivial (enters_of Try.func51 (by kernel_rfl) rfl)
        (leads_stops Fence.wide _ trivial rfl (by omega) eb ib (i : Int) fa fb dir W1 HBX.out HBI.out) (fun h k => h.trans k) (keepTwo_b (by omega) (by omega)) (Below.refl _ _) (fun _ => rfl)
        (fun pre X => NwRd W0 X ob m eb ib (tokT (zs.map (·.d)) i ++ tokZ pre) Ds _ _) (fun _ _ _ => False) (NwRd.own hs01 HDS.out) (fun _ _ _ _ _ hs _ _ => hs) (by simpa [tokZ] using HRD.out)
        (fun x a' X => ∃ Bx, X.heap[Bx]? = some (.cells #[.int .i64 x.2.ed, .int .i64 x.2.nd, .int .i64 x.2.dir] 82 (0, 0)) ∧ a' = { tmps := #[x0, x1, x2, x3, x4, .pointer (some ⟨xb, 0, none⟩), .int .i64 (i : Int), .pointer (some ⟨W.heap.size, 0, none⟩), .int .i64 (x.1.val : Int), .pointer (some ⟨Bx, 0, none⟩), x10, x11, x12, x13, x14, x15, x16, x17, x18, x19, x20, x21, x22, x23, x24, x25, x26, x27, x28, .slice (some ⟨g, o, none⟩) nz c2, .int .i64 (nz : Int), .int .i64 (i : Int), .bool true, .int .i64 (i : Int), .pointer (some ⟨g, o + i * 6, none⟩), .agg #[.string nm, .int .i64 (fa.val : Int), .int .i64 (fb.val : Int), .bool dir, .slice B1 m1 d1, .slice B2 m2 d2], .int .i64 (i : Int), .agg #[.string nm, .int .i64 (fa.val : Int), .int .i64 (fb.val : Int), .bool dir, .slice B1 m1 d1, .slice B2 m2 d2], .func (.func 51) #[] #[.pointer (some ⟨eb, 0, none⟩), .pointer (some ⟨ib, 0, none⟩)], .int .i64 (x.1.val : Int), LEAD x.2, x41, x42, x43, x44, x45, x46, x47, x48, x49, x50, x51, x52, x53, x54, x55, x56, u57, x58], defers := [] })
        (fun x a' s X Y row hs hg hr => by
          obtain ⟨Bx, h1, h2⟩ := hs
          exact ⟨Bx, (hg.block Bx (Array.getElem?_eq_some_iff.1 h1).1 (fun e => by obtain ⟨_, o', ho', hc'⟩ := hr Bx e.symm; rw [h1] at ho'; cases ho'; cases hc')).trans h1, h2⟩)
        ?assign ?body ?done ?stop
      case assign =>
        rintro l pre x X K hrd hK
        gi_wp2
        exact hK _ _ ((KeepsOthers.alloc _ _).from _) ⟨Below.heap_alloc _ _ _ (Array.getElem?_eq_some_iff.1 hrd.he).1, Below.heap_alloc _ _ _ (Array.getElem?_eq_some_iff.1 hrd.hi).1⟩ (hrd.next ((Below.refl _ _).alloc (Nat.le_refl _) _)) ⟨X.heap.size, World.alloc_heap_new X _, rfl⟩
      case body =>
        rintro l pre x a' X hl - hrd ⟨Bx, hbox, rfl⟩ hlt
        dsimp only
        have hq : (tokT (zs.map (·.d)) i ++ tokZ pre).length ≤ 2000 := by
          have h1 := tokT_length (zs.map (·.d)) i
          have h2 : (tokZ pre).length = pre.length := by simp [tokZ]
          rw [List.length_append]; omega
        obtain ⟨vj, v', w2, r0, r1, r2, happ, hfz, hv, hinv, hko, hsm⟩ := hrd.inv.round HB.out x.1.isLt x.2 hq
        have hobl : ob < W0.heap.size := by
          obtain ⟨vs, _, ho⟩ := H0.out.out
          exact ho.lt
        have hws := HI.out.1.g.size
        gi_wp2
        refine body12 _ l X w2 X.heap.size xb p ob Bx m x.1.val x.2 vj v' _ _ _ _ _ _ _ _ _ _ _ _ _ _ _ _ _ _ _ _ _ _ _ _ _ _ _ _ _ _ _ _ _ _ _ _ _ _ _ _ _ _ _ _ _ _ _ _ _ _ _ _ _ _ _ _ _ rfl x.1.isLt hm _ rfl (by rw [cell_of_row X Bx _ _ _ _ hbox]; rfl) (by rw [cell_of_row X Bx _ _ _ _ hbox]; rfl) (by rw [cell_of_row X Bx _ _ _ _ hbox]; rfl) r0 r1 r2 happ hfz hv ?_
        refine ⟨hko.from _, ⟨hsm eb _ _ _ hrd.he (by decide) (by omega), hsm ib _ _ _ hrd.hi (by decide) (by omega)⟩, ⟨?_, (hsm eb _ _ _ hrd.he (by decide) (by omega)).trans hrd.he, (hsm ib _ _ _ hrd.hi (by decide) (by omega)).trans hrd.hi⟩⟩
        rw [tokZ_append, ← List.append_assoc]
        exact hinv
      case done =>
        rintro D xs X hD rfl hrd hK
        rw [← HT.out] at hrd
        have hK2 := Lib.hid hK
        have hrd2 := Lib.hid hrd
        clear hK hrd
        gi_wp2
        have e1 : ((i : Int) + 1) = ((i + 1 : Nat) : Int) := by omega
        rw [e1]
        refine ⟨⟨i + 1, D :: Ds, _, _, _, _, _, _, _, _, _, _, rfl, by omega, Lib.hid ⟨⟨hrd2.out.inv.g, hrd2.out.inv.out, fun D' hD' => ?_⟩, ?_⟩⟩, ?_⟩
        · rcases List.mem_cons.1 hD' with rfl | hD'
          · exact ⟨by omega, hK2.out⟩
          · exact hrd2.out.inv.marks D' hD'
        · exact List.nodup_cons.2 ⟨fun h => by have := HDS.out D h; omega, HI.out.2⟩
        · simp [intOf]; omega
      case stop =>
        rintro D c pre X _ _ h _
        exact h.elim
    · have hni : (nz : Int) ≤ (i : Int) := by omega
      gi_wp2
      obtain rfl : i = nz := by omega
      exact HQ.out _ _ _ _ _ _ _ _ _ _ _ Ds W (by have := HI.out.1; rwa [HNZ.out] at this) HI.out.2
end Go.Proofs.Ytbolojjnkkgehaa
