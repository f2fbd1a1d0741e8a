import Derived.Test.YtbcnokidnpnmhaaVr
namespace Go.Proofs.Ytbcnokidnpnmhaa
open Go.RowKit
attribute [local go_sem ↓] Go.wp_at_zero Go.wp_at_succ

theorem idle_val (a b c : Value) (w : World) :
    CallsD Try.prog 48 #[a, b, c] .returning w fun e u' w' => e = .returned (.tuple #[]) ∧ u' = .returning ∧ w' = w := by
  refine callsD_of_wpS Try.func48 rfl fun c₀ cs hu => ?_
  apply wpS_seq
  apply wpS_region
  simp [wpOpsS, go_sem, recoverD, hu, Try.ntmps48, Exit.thenS]
  apply wpS_seq
  apply wpS_region
  simp [wpOpsS, go_sem, Exit.thenS]
  refine wpS_cond (t := false) (by simp [Act.eval, Array.replicate]) ?_
  simp only [Bool.false_eq_true, if_false]
  refine wpS_of_wp (wp_skip ?_)
  cases c₀
  simp_all [bodyPostS, results, Try.results48]

/-- A value's four cells are set. -/
abbrev setVal (w : World) (b : Nat) (k n : Int) (f : Nat) (s : ByteArray) : World :=
  (((w.setCell ⟨b, 0, none⟩ (.int .i64 k)).setCell ⟨b, 1, none⟩ (.int .i64 n)).setCell ⟨b, 2, none⟩ (.float .f64 f)).setCell ⟨b, 3, none⟩ (.string s)

theorem caught_val (po ps pk : Nat) (xk xn : Int) (xf : Nat) (xs : ByteArray) (y z : Value) (t1 t2 : TypeId) (w : World) (h0 : ValAt w po xk xn xf xs) (h1 : w.heap[ps]? = some (.cells #[y] t1 (0, 0))) (h2 : w.heap[pk]? = some (.cells #[z] t2 (0, 0)))
    (n1 : po ≠ ps) (n2 : po ≠ pk) (n3 : ps ≠ pk) :
    CallsD Try.prog 48 #[.pointer (some ⟨po, 0, none⟩), .pointer (some ⟨ps, 0, none⟩), .pointer (some ⟨pk, 0, none⟩)] (.panicking [PE false]) w fun e u' w' =>
      e = .returned (.tuple #[]) ∧ u' = .panicking [PE true] ∧ w' = (((((setVal w po 0 0 0 ⟨#[]⟩).setCell ⟨ps, 0, none⟩ (.int .i64 0)).setCell ⟨pk, 0, none⟩ (.bool false)).alloc (.cells #[] 75)).alloc (VOBJ 0 0 0 ⟨#[]⟩)) := by
  have hta : ∀ w : World, (Instr.typeAssert (.iface 75 (.agg #[])) 20 75 true).run Try.prog w = .ok (.tuple #[.agg #[], .bool true]) w := fun w => by kernel_rfl
  refine callsD_of_wpS Try.func48 rfl fun c₀ cs hu => ?_
  apply wpS_seq
  apply wpS_region
  simp [wpOpsS, go_sem, recoverD, hu, Try.ntmps48, Exit.thenS]
  apply wpS_seq
  apply wpS_region
  simp [wpOpsS, go_sem, Exit.thenS]
  refine wpS_cond (t := true) (by simp [Act.eval, Array.replicate]) ?_
  simp only [if_true]
  refine wpS_of_wp ?_
  refine wp_at #[.pointer (some ⟨po, 0, none⟩), .pointer (some ⟨ps, 0, none⟩), .pointer (some ⟨pk, 0, none⟩), .iface 75 (.agg #[]), undef, undef, undef, .iface 75 (.agg #[]), .iface 75 (.agg #[]), .bool true, undef, undef, undef, undef, undef, undef, undef, undef, undef] (by rfl) ?_
  have HU := Lib.hid hu
  clear hu
  refine wp_post ?_
  intro Q hQ
  have HQ := Lib.hid hQ
  clear hQ
  have e0 := lt_of_block h0
  have e1 := lt_of_block h1
  have e2 := lt_of_block h2
  have c00 := h0.c0
  have c01 := h0.c1
  have c02 := h0.c2
  have c03 := h0.c3
  have f00 := h0.fz 0
  have f01 := h0.fz 1
  have f02 := h0.fz 2
  have f03 := h0.fz 3
  have c1 := cell_of_one h1
  have c2 := cell_of_one h2
  have f1 := free_of_one h1
  have f2 := free_of_one h2
  have H0 := Lib.hid h0
  have H1 := Lib.hid h1
  have H2 := Lib.hid h2
  clear h0 h1 h2
  go_wp2_with fail
  refine HQ.out _ _ _ ?_
  exact ⟨rfl, _, rfl, _, by simp [results, Try.results48, go_sem], rfl, rfl, rfl⟩

def getW (l : List UInt8) : Value := match valueB l with | none => .tuple #[VAL 0 0 0 ⟨#[]⟩, .int .i64 0, .bool false] | some (x, k) => .tuple #[VL x, .int .i64 k, .bool true]

theorem set_val_heap {w : World} {b k : Nat} (hne : k ≠ b) (x n : Int) (f : Nat) (s : ByteArray) : (setVal w b x n f s).heap[k]? = w.heap[k]? := by
  rw [Below.heap_setCell _ _ _ _ (by simpa using hne), Below.heap_setCell _ _ _ _ (by simpa using hne), Below.heap_setCell _ _ _ _ (by simpa using hne), Below.heap_setCell _ _ _ _ (by simpa using hne)]

theorem three_setv {w1 : World} {B : Nat} {k n : Int} {f : Nat} {s : ByteArray} {k' n' : Int} {f' : Nat} {s' : ByteArray} {y z b c : Value} {t1 t2 : TypeId} (k0 : ValAt w1 B k n f s) (k1 : w1.heap[B + 1]? = some (.cells #[y] t1 (0, 0))) (k2 : w1.heap[B + 1 + 1]? = some (.cells #[z] t2 (0, 0))) :
    ValAt (((setVal w1 B k' n' f' s').setCell ⟨B + 1, 0, none⟩ b).setCell ⟨B + 1 + 1, 0, none⟩ c) B k' n' f' s' ∧
    (((setVal w1 B k' n' f' s').setCell ⟨B + 1, 0, none⟩ b).setCell ⟨B + 1 + 1, 0, none⟩ c).heap[B + 1]? = some (.cells #[b] t1 (0, 0)) ∧
    (((setVal w1 B k' n' f' s').setCell ⟨B + 1, 0, none⟩ b).setCell ⟨B + 1 + 1, 0, none⟩ c).heap[B + 1 + 1]? = some (.cells #[c] t2 (0, 0)) := by
  refine ⟨?_, ?_, ?_⟩
  · unfold ValAt
    rw [Below.heap_setCell _ _ _ _ (by simp; omega), Below.heap_setCell _ _ _ _ (by simp)]
    exact four_set k0
  · rw [Below.heap_setCell _ _ _ _ (by simp)]
    exact one_setCell (by rw [set_val_heap (by omega)]; exact k1)
  · exact one_setCell (by rw [Below.heap_setCell _ _ _ _ (by simp), set_val_heap (by omega)]; exact k2)

theorem below_setVal {n B : Nat} {w W : World} (h : Below n w W) (hB : n ≤ B) (k x : Int) (f : Nat) (s : ByteArray) : Below n w (setVal W B k x f s) :=
  (((h.setCell (by simpa using hB) _).setCell (by simpa using hB) _).setCell (by simpa using hB) _).setCell (by simpa using hB) _

theorem read_val (v : Value) (l : List UInt8) (w : World) (hr : ReadsB w v l) (hv : ∀ b, v.ownBlock = some b → b < w.heap.size) :
    Calls Try.prog 38 #[v, .func (.func 39) #[] #[]] w fun e w' => e = .returned (getW l) ∧ Below w.heap.size w w' := by
  have hmf : ∀ (fn : Fn) (first cap : Array Value) (w : World), (Instr.makeFunc fn first cap).run Try.prog w = .ok (.func fn first cap) w := fun _ _ _ _ => rfl
  have HS := Lib.hid (read_start w v l (VOBJ 0 0 0 ⟨#[]⟩) hr hv)
  obtain ⟨A, c, rfl, hl⟩ := hr.form
  clear hr hv
  go_enter_defers Try.func38, Try.ntmps38
  go_wp2_with fail
  have hs := HS.out
  have g0 : ValAt ((((w.alloc (VOBJ 0 0 0 ⟨#[]⟩)).alloc (.cells #[.int .i64 0] 3)).alloc (.cells #[.bool false] 4)).alloc (.cells #[.slice A l.length c, .int .i64 0] 78)) w.heap.size 0 0 0 ⟨#[]⟩ := by
    unfold ValAt
    rw [Below.heap_alloc _ _ _ (by simp; omega), Below.heap_alloc _ _ _ (by simp; omega), Below.heap_alloc _ _ _ (by simp), heap_alloc_new]
  have g1 : ((((w.alloc (VOBJ 0 0 0 ⟨#[]⟩)).alloc (.cells #[.int .i64 0] 3)).alloc (.cells #[.bool false] 4)).alloc (.cells #[.slice A l.length c, .int .i64 0] 78)).heap[w.heap.size + 1]? = some (.cells #[.int .i64 0] 3) := by
    rw [Below.heap_alloc _ _ _ (by simp), Below.heap_alloc _ _ _ (by simp), show w.heap.size + 1 = (w.alloc (VOBJ 0 0 0 ⟨#[]⟩)).heap.size by simp]; exact heap_alloc_new _ _
  have g2 : ((((w.alloc (VOBJ 0 0 0 ⟨#[]⟩)).alloc (.cells #[.int .i64 0] 3)).alloc (.cells #[.bool false] 4)).alloc (.cells #[.slice A l.length c, .int .i64 0] 78)).heap[w.heap.size + 1 + 1]? = some (.cells #[.bool false] 4) := by
    rw [Below.heap_alloc _ _ _ (by simp), show w.heap.size + 1 + 1 = ((w.alloc (VOBJ 0 0 0 ⟨#[]⟩)).alloc (.cells #[.int .i64 0] 3)).heap.size by simp]; exact heap_alloc_new _ _
  have hb : Below w.heap.size w ((((w.alloc (VOBJ 0 0 0 ⟨#[]⟩)).alloc (.cells #[.int .i64 0] 3)).alloc (.cells #[.bool false] 4)).alloc (.cells #[.slice A l.length c, .int .i64 0] 78)) :=
    below_alloc (below_alloc (below_alloc (below_alloc (Below.refl _ _) _) _) _) _
  have hsz : ((((w.alloc (VOBJ 0 0 0 ⟨#[]⟩)).alloc (.cells #[.int .i64 0] 3)).alloc (.cells #[.bool false] 4)).alloc (.cells #[.slice A l.length c, .int .i64 0] 78)).heap.size = w.heap.size + 1 + 1 + 1 + 1 := by simp
  generalize (((w.alloc (VOBJ 0 0 0 ⟨#[]⟩)).alloc (.cells #[.int .i64 0] 3)).alloc (.cells #[.bool false] 4)).alloc (.cells #[.slice A l.length c, .int .i64 0] 78) = W at *
  refine valueR_any _ _ l 0 W hs _ ?_ ?_
  · intro hg w1 hgr
    have k0 := g0.grown hgr (by simp; omega)
    have k1 := (hgr.block (w.heap.size + 1) (by omega) (by simp)).trans g1
    have k2 := (hgr.block (w.heap.size + 1 + 1) (by omega) (by simp)).trans g2
    have hb1 : Below w.heap.size w w1 := hb.grown hgr (by omega) (by intro k hk; simp at hk; omega)
    refine leaves_cons (f := 48) (args := #[.pointer (some ⟨w.heap.size, 0, none⟩), .pointer (some ⟨w.heap.size + 1, 0, none⟩), .pointer (some ⟨w.heap.size + 1 + 1, 0, none⟩)]) (by simp) (by simp [go_sem]) ?_
    refine (caught_val w.heap.size (w.heap.size + 1) (w.heap.size + 1 + 1) _ _ _ _ _ _ _ _ w1 k0 k1 k2 (by omega) (by omega) (by omega)).mono ?_
    rintro e u' w2 ⟨rfl, rfl, rfl⟩
    obtain ⟨q0, q1, q2⟩ := three_setv (k' := 0) (n' := 0) (f' := 0) (s' := ⟨#[]⟩) (b := .int .i64 0) (c := .bool false) k0 k1 k2
    have hb2 : Below w.heap.size w (((setVal w1 w.heap.size 0 0 0 ⟨#[]⟩).setCell ⟨w.heap.size + 1, 0, none⟩ (.int .i64 0)).setCell ⟨w.heap.size + 1 + 1, 0, none⟩ (.bool false)) :=
      ((below_setVal hb1 (Nat.le_refl _) _ _ _ _).setCell (by simp) _).setCell (by simp; omega) _
    generalize ((setVal w1 w.heap.size 0 0 0 ⟨#[]⟩).setCell ⟨w.heap.size + 1, 0, none⟩ (.int .i64 0)).setCell ⟨w.heap.size + 1 + 1, 0, none⟩ (.bool false) = w2 at *
    have hs2 : w.heap.size + 1 + 1 < w2.heap.size := lt_of_block q2
    have c00 := q0.c0
    have c01 := q0.c1
    have c02 := q0.c2
    have c03 := q0.c3
    have c1 := cell_of_one q1
    have c2 := cell_of_one q2
    have e0 : w.heap.size < w2.heap.size := by omega
    have e1 : w.heap.size + 1 < w2.heap.size := by omega
    have e00 : w.heap.size < w2.heap.size + 1 := by omega
    have e11 : w.heap.size + 1 < w2.heap.size + 1 := by omega
    have e22 : w.heap.size + 1 + 1 < w2.heap.size + 1 := by omega
    simp [Leaves, settle, results, Try.results38, go_sem, c00, c01, c02, c03, c1, c2, e0, e1, hs2, e00, e11, e22]
    exact ⟨by simp at hg; simp [getW, hg], below_alloc (below_alloc hb2 _) _⟩
  · intro x k hg w1 hgr hr1
    have k0 := g0.grown hgr (by simp; omega)
    have k1 := (hgr.block (w.heap.size + 1) (by omega) (by simp)).trans g1
    have k2 := (hgr.block (w.heap.size + 1 + 1) (by omega) (by simp)).trans g2
    have hb1 : Below w.heap.size w w1 := hb.grown hgr (by omega) (by intro k hk; simp at hk; omega)
    have hsz1 : w.heap.size + 1 + 1 + 1 < w1.heap.size := by have := hgr.size; omega
    have e0 : w.heap.size < w1.heap.size := by omega
    have c00 := k0.c0
    have c01 := k0.c1
    have c02 := k0.c2
    have c03 := k0.c3
    have f00 := k0.fz 0
    have f01 := k0.fz 1
    have f02 := k0.fz 2
    have f03 := k0.fz 3
    have r1 := hr1.c1
    have HB := Lib.hid (And.intro k0 (And.intro k1 k2))
    clear g0 g1 g2 hb hsz hgr hs k0 k1 k2
    have HR1 := Lib.hid hr1
    clear hr1
    go_wp2_with fail
    have k0' : ValAt (setVal w1 w.heap.size x.k x.n x.f ⟨x.s.toArray⟩) w.heap.size x.k x.n x.f ⟨x.s.toArray⟩ := four_set HB.out.1
    have k1' : (setVal w1 w.heap.size x.k x.n x.f ⟨x.s.toArray⟩).heap[w.heap.size + 1]? = some (.cells #[.int .i64 0] 3) := by
      rw [set_val_heap (by omega)]; exact HB.out.2.1
    have k2' : (setVal w1 w.heap.size x.k x.n x.f ⟨x.s.toArray⟩).heap[w.heap.size + 1 + 1]? = some (.cells #[.bool false] 4) := by
      rw [set_val_heap (by omega)]; exact HB.out.2.2
    have r1' : (setVal w1 w.heap.size x.k x.n x.f ⟨x.s.toArray⟩).cell? ⟨w.heap.size + 1 + 1 + 1, 1, none⟩ = some (.int .i64 ((0 + k : Nat) : Int)) := by
      unfold setVal
      rw [World.cell?_setCell_other _ _ _ _ (by simp), World.cell?_setCell_other _ _ _ _ (by simp), World.cell?_setCell_other _ _ _ _ (by simp), World.cell?_setCell_other _ _ _ _ (by simp)]; exact r1
    have hb3 : Below w.heap.size w (setVal w1 w.heap.size x.k x.n x.f ⟨x.s.toArray⟩) := below_setVal hb1 (Nat.le_refl _) _ _ _ _
    have hsz3 : w.heap.size + 1 + 1 + 1 < (setVal w1 w.heap.size x.k x.n x.f ⟨x.s.toArray⟩).heap.size := by simpa using hsz1
    unfold setVal at k0' k1' k2' r1' hb3 hsz3
    generalize (((w1.setCell ⟨w.heap.size, 0, none⟩ (.int .i64 x.k)).setCell ⟨w.heap.size, 1, none⟩ (.int .i64 x.n)).setCell ⟨w.heap.size, 2, none⟩ (.float .f64 x.f)).setCell ⟨w.heap.size, 3, none⟩ (.string ⟨x.s.toArray⟩) = w3 at *
    clear c00 c01 c02 c03 f00 f01 f02 f03 r1 hb1 hsz1 HR1 HB e0
    have c00 := k0'.c0
    have c01 := k0'.c1
    have c02 := k0'.c2
    have c03 := k0'.c3
    have f00 := k0'.fz 0
    have f01 := k0'.fz 1
    have f02 := k0'.fz 2
    have f03 := k0'.fz 3
    have c1 := cell_of_one k1'
    have c2 := cell_of_one k2'
    have f1 := free_of_one k1'
    have f2 := free_of_one k2'
    have e0 : w.heap.size < w3.heap.size := by omega
    have HB := Lib.hid (And.intro k0' (And.intro k1' k2'))
    have HB3 := Lib.hid hb3
    clear k0' k1' k2' hb3
    go_region
    go_wp2_with fail
    clear c00 c01 c02 c03 f00 f01 f02 f03 c1 c2 f1 f2
    obtain ⟨k0, k1, k2⟩ := HB.out
    have hb3 := HB3.out
    obtain ⟨q0, q1, q2⟩ := three_setv (k' := x.k) (n' := x.n) (f' := x.f) (s' := ⟨x.s.toArray⟩) (b := .int .i64 k) (c := .bool true) k0 k1 k2
    have hb2 : Below w.heap.size w (((setVal w3 w.heap.size x.k x.n x.f ⟨x.s.toArray⟩).setCell ⟨w.heap.size + 1, 0, none⟩ (.int .i64 k)).setCell ⟨w.heap.size + 1 + 1, 0, none⟩ (.bool true)) :=
      ((below_setVal hb3 (Nat.le_refl _) _ _ _ _).setCell (by simp) _).setCell (by simp; omega) _
    unfold setVal at q0 q1 q2 hb2
    generalize ((((((w3.setCell ⟨w.heap.size, 0, none⟩ (.int .i64 x.k)).setCell ⟨w.heap.size, 1, none⟩ (.int .i64 x.n)).setCell ⟨w.heap.size, 2, none⟩ (.float .f64 x.f)).setCell ⟨w.heap.size, 3, none⟩ (.string ⟨x.s.toArray⟩))).setCell ⟨w.heap.size + 1, 0, none⟩ (.int .i64 k)).setCell ⟨w.heap.size + 1 + 1, 0, none⟩ (.bool true) = w4 at *
    refine leaves_cons (f := 48) (args := #[.pointer (some ⟨w.heap.size, 0, none⟩), .pointer (some ⟨w.heap.size + 1, 0, none⟩), .pointer (some ⟨w.heap.size + 1 + 1, 0, none⟩)]) (by simp) (by simp [go_sem]) ?_
    refine (idle_val _ _ _ _).mono ?_
    rintro e u' w2 ⟨rfl, rfl, rfl⟩
    have c00 := q0.c0
    have c01 := q0.c1
    have c02 := q0.c2
    have c03 := q0.c3
    have c1 := cell_of_one q1
    have c2 := cell_of_one q2
    simp [Leaves, settle, results, Try.results38, go_sem, c00, c01, c02, c03, c1, c2]
    exact ⟨by simp at hg; simp [getW, hg], hb2.drew⟩

theorem get_any (v : Value) (l : List UInt8) (w : World) (hr : ReadsB w v l) (hv : ∀ b, v.ownBlock = some b → b < w.heap.size) :
    Calls Try.prog 20 #[v] w fun e w' => e = .returned (getV l) ∧ Below w.heap.size w w' := by
  have hmf : ∀ (fn : Fn) (first cap : Array Value) (w : World), (Instr.makeFunc fn first cap).run Try.prog w = .ok (.func fn first cap) w := fun _ _ _ _ => rfl
  go_enter Try.func20, Try.ntmps20
  go_wp2_with fail
  refine (read_u64 v l w hr hv).mono ?_
  rintro e w1 ⟨rfl, hb⟩
  cases hg : getB l with
  | none => simp only [getV, hg]; go_wp2_with fail; go_ret3; exact ⟨by simp [getV, hg], hb⟩
  | some p => obtain ⟨n, k⟩ := p; simp only [getV, hg]; go_wp2_with fail; go_ret3; exact ⟨by simp [getV, hg], hb⟩

theorem textP_any (v : Value) (l : List UInt8) (w : World) (hr : ReadsB w v l) (hv : ∀ b, v.ownBlock = some b → b < w.heap.size) :
    Calls Try.prog 22 #[v] w fun e w' => e = .returned (getT l) ∧ Below w.heap.size w w' := by
  have hmf : ∀ (fn : Fn) (first cap : Array Value) (w : World), (Instr.makeFunc fn first cap).run Try.prog w = .ok (.func fn first cap) w := fun _ _ _ _ => rfl
  go_enter Try.func22, Try.ntmps22
  go_wp2_with fail
  refine (read_text v l w hr hv).mono ?_
  rintro e w1 ⟨rfl, hb⟩
  cases hg : textB l with
  | none => simp only [getT, hg]; go_wp2_with fail; go_ret3; exact ⟨by simp [getT, hg], hb⟩
  | some p => obtain ⟨n, k⟩ := p; simp only [getT, hg]; go_wp2_with fail; go_ret3; exact ⟨by simp [getT, hg], hb⟩

theorem valueP_any (v : Value) (l : List UInt8) (w : World) (hr : ReadsB w v l) (hv : ∀ b, v.ownBlock = some b → b < w.heap.size) :
    Calls Try.prog 24 #[v] w fun e w' => e = .returned (getW l) ∧ Below w.heap.size w w' := by
  have hmf : ∀ (fn : Fn) (first cap : Array Value) (w : World), (Instr.makeFunc fn first cap).run Try.prog w = .ok (.func fn first cap) w := fun _ _ _ _ => rfl
  have hr1 := hr.below (w' := w.alloc (VOBJ 0 0 0 ⟨#[]⟩)) (below_alloc (Below.refl _ _) _)
  have hv1 : ∀ b, v.ownBlock = some b → b < (w.alloc (VOBJ 0 0 0 ⟨#[]⟩)).heap.size := fun b h => by have := hv b h; simp; omega
  go_enter Try.func24, Try.ntmps24
  go_wp2_with fail
  refine (read_val v l _ hr1 hv1).mono ?_
  rintro e w1 ⟨rfl, hb⟩
  have e0 : w.heap.size < w1.heap.size := by have := hb.size; simp at this; omega
  have k0 : ValAt w1 w.heap.size 0 0 0 ⟨#[]⟩ := (hb.block w.heap.size (by simp)).trans (heap_alloc_new w _)
  have c00 := k0.c0
  have c01 := k0.c1
  have c02 := k0.c2
  have c03 := k0.c3
  have f00 := k0.fz 0
  have f01 := k0.fz 1
  have f02 := k0.fz 2
  have f03 := k0.fz 3
  have hb1 : Below w.heap.size w w1 := (below_alloc (Below.refl _ _) _).trans (hb.mono (by simp))
  have HB := Lib.hid hb1
  have K0 := Lib.hid k0
  clear hb1 hb k0
  cases hg : valueB l with
  | none =>
    simp only [getW, hg]
    go_wp2_with fail
    have q0 : ValAt (setVal w1 w.heap.size 0 0 0 ⟨#[]⟩) w.heap.size 0 0 0 ⟨#[]⟩ := four_set K0.out
    have hb2 := below_setVal HB.out (Nat.le_refl _) 0 0 0 ⟨#[]⟩
    unfold setVal at q0 hb2
    generalize (((w1.setCell ⟨w.heap.size, 0, none⟩ (.int .i64 0)).setCell ⟨w.heap.size, 1, none⟩ (.int .i64 0)).setCell ⟨w.heap.size, 2, none⟩ (.float .f64 0)).setCell ⟨w.heap.size, 3, none⟩ (.string ⟨#[]⟩) = w2 at *
    refine bodyPost_ret (v := .tuple #[VAL 0 0 0 ⟨#[]⟩, .int .i64 0, .bool false]) ?_ rfl ⟨by simp [getW, hg], hb2⟩
    have d0 := q0.c0
    have d1 := q0.c1
    have d2 := q0.c2
    have d3 := q0.c3
    simp [results, Try.results24, go_sem, d0, d1, d2, d3]
  | some p =>
    obtain ⟨x, k⟩ := p
    simp only [getW, hg]
    go_wp2_with fail
    have q0 : ValAt (setVal w1 w.heap.size x.k x.n x.f ⟨x.s.toArray⟩) w.heap.size x.k x.n x.f ⟨x.s.toArray⟩ := four_set K0.out
    have hb2 := below_setVal HB.out (Nat.le_refl _) x.k x.n x.f ⟨x.s.toArray⟩
    unfold setVal at q0 hb2
    generalize (((w1.setCell ⟨w.heap.size, 0, none⟩ (.int .i64 x.k)).setCell ⟨w.heap.size, 1, none⟩ (.int .i64 x.n)).setCell ⟨w.heap.size, 2, none⟩ (.float .f64 x.f)).setCell ⟨w.heap.size, 3, none⟩ (.string ⟨x.s.toArray⟩) = w2 at *
    refine bodyPost_ret (v := .tuple #[VL x, .int .i64 k, .bool true]) ?_ rfl ⟨by simp [getW, hg], hb2⟩
    have d0 := q0.c0
    have d1 := q0.c1
    have d2 := q0.c2
    have d3 := q0.c3
    simp [results, Try.results24, go_sem, d0, d1, d2, d3]
end Go.Proofs.Ytbcnokidnpnmhaa
