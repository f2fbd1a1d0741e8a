import Derived.Test.YtbcnokidnpnmhaaGet
namespace Go.Proofs.Ytbcnokidnpnmhaa
open Go.RowKit
attribute [local go_sem ↓] Go.wp_at_zero Go.wp_at_succ

theorem idle_text (a b c : Value) (w : World) :
    CallsD Try.prog 47 #[a, b, c] .returning w fun e u' w' => e = .returned (.tuple #[]) ∧ u' = .returning ∧ w' = w := by
  refine callsD_of_wpS Try.func47 rfl fun c₀ cs hu => ?_
  apply wpS_seq
  apply wpS_region
  simp [wpOpsS, go_sem, recoverD, hu, Try.ntmps47, Exit.thenS]
  apply wpS_seq
  apply wpS_region
  simp [wpOpsS, go_sem, Exit.thenS]
  refine wpS_cond (t := false) (by simp [Act.eval, Array.replicate]) ?_
  simp only [Bool.false_eq_true, if_false]
  refine wpS_of_wp (wp_skip ?_)
  cases c₀
  simp_all [bodyPostS, results, Try.results47]

theorem caught_text (po ps pk : Nat) (x y z : Value) (w : World) (h0 : w.cell? ⟨po, 0, none⟩ = some x) (h1 : w.cell? ⟨ps, 0, none⟩ = some y) (h2 : w.cell? ⟨pk, 0, none⟩ = some z)
    (f0 : w.frozen? ⟨po, 0, none⟩ = false) (f1 : w.frozen? ⟨ps, 0, none⟩ = false) (f2 : w.frozen? ⟨pk, 0, none⟩ = false) (n1 : po ≠ ps) (n2 : po ≠ pk) (n3 : ps ≠ pk) :
    CallsD Try.prog 47 #[.pointer (some ⟨po, 0, none⟩), .pointer (some ⟨ps, 0, none⟩), .pointer (some ⟨pk, 0, none⟩)] (.panicking [PE false]) w fun e u' w' =>
      e = .returned (.tuple #[]) ∧ u' = .panicking [PE true] ∧ w' = (((w.setCell ⟨po, 0, none⟩ (.string ⟨#[]⟩)).setCell ⟨ps, 0, none⟩ (.int .i64 0)).setCell ⟨pk, 0, none⟩ (.bool false)).alloc (.cells #[] 75) := by
  have hta : ∀ w : World, (Instr.typeAssert (.iface 75 (.agg #[])) 20 75 true).run Try.prog w = .ok (.tuple #[.agg #[], .bool true]) w := fun w => by kernel_rfl
  refine callsD_of_wpS Try.func47 rfl fun c₀ cs hu => ?_
  apply wpS_seq
  apply wpS_region
  simp [wpOpsS, go_sem, recoverD, hu, Try.ntmps47, Exit.thenS]
  apply wpS_seq
  apply wpS_region
  simp [wpOpsS, go_sem, Exit.thenS]
  refine wpS_cond (t := true) (by simp [Act.eval, Array.replicate]) ?_
  simp only [if_true]
  refine wpS_of_wp ?_
  refine wp_at #[.pointer (some ⟨po, 0, none⟩), .pointer (some ⟨ps, 0, none⟩), .pointer (some ⟨pk, 0, none⟩), .iface 75 (.agg #[]), undef, undef, undef, .iface 75 (.agg #[]), .iface 75 (.agg #[]), .bool true, undef, undef, undef, undef, undef, undef, undef, undef, undef] (by rfl) ?_
  have HU := Lib.hid hu
  clear hu
  refine wp_post ?_
  intro Q hQ
  have HQ := Lib.hid hQ
  clear hQ
  have e0 := World.block_lt_of_cell? w _ h0
  have e1 := World.block_lt_of_cell? w _ h1
  have e2 := World.block_lt_of_cell? w _ h2
  simp only at e0 e1 e2
  go_wp2_with fail
  refine HQ.out _ _ _ ?_
  exact ⟨rfl, _, rfl, _, by simp [results, Try.results47, go_sem], rfl, rfl, rfl⟩
def getT (l : List UInt8) : Value := match textB l with | none => .tuple #[.string ⟨#[]⟩, .int .i64 0, .bool false] | some (n, k) => .tuple #[.string ⟨n.toArray⟩, .int .i64 k, .bool true]


theorem read_text (v : Value) (l : List UInt8) (w : World) (hr : ReadsB w v l) (hv : ∀ b, v.ownBlock = some b → b < w.heap.size) :
    Calls Try.prog 36 #[v, .func (.func 37) #[] #[]] w fun e w' => e = .returned (getT l) ∧ Below w.heap.size w w' := by
  have hmf : ∀ (fn : Fn) (first cap : Array Value) (w : World), (Instr.makeFunc fn first cap).run Try.prog w = .ok (.func fn first cap) w := fun _ _ _ _ => rfl
  have HS := Lib.hid (read_start w v l (.cells #[.string ⟨#[]⟩] 9) hr hv)
  obtain ⟨A, c, rfl, hl⟩ := hr.form
  clear hr hv
  go_enter_defers Try.func36, Try.ntmps36
  go_wp2_with fail
  have hs := HS.out
  have g0 : ((((w.alloc (.cells #[.string ⟨#[]⟩] 9)).alloc (.cells #[.int .i64 0] 3)).alloc (.cells #[.bool false] 4)).alloc (.cells #[.slice A l.length c, .int .i64 0] 78)).heap[w.heap.size]? = some (.cells #[.string ⟨#[]⟩] 9) := by
    rw [Below.heap_alloc _ _ _ (by simp; omega), Below.heap_alloc _ _ _ (by simp; omega), Below.heap_alloc _ _ _ (by simp), heap_alloc_new]
  have g1 : ((((w.alloc (.cells #[.string ⟨#[]⟩] 9)).alloc (.cells #[.int .i64 0] 3)).alloc (.cells #[.bool false] 4)).alloc (.cells #[.slice A l.length c, .int .i64 0] 78)).heap[w.heap.size + 1]? = some (.cells #[.int .i64 0] 3) := by
    rw [Below.heap_alloc _ _ _ (by simp), Below.heap_alloc _ _ _ (by simp), show w.heap.size + 1 = (w.alloc (.cells #[.string ⟨#[]⟩] 9)).heap.size by simp]; exact heap_alloc_new _ _
  have g2 : ((((w.alloc (.cells #[.string ⟨#[]⟩] 9)).alloc (.cells #[.int .i64 0] 3)).alloc (.cells #[.bool false] 4)).alloc (.cells #[.slice A l.length c, .int .i64 0] 78)).heap[w.heap.size + 1 + 1]? = some (.cells #[.bool false] 4) := by
    rw [Below.heap_alloc _ _ _ (by simp), show w.heap.size + 1 + 1 = ((w.alloc (.cells #[.string ⟨#[]⟩] 9)).alloc (.cells #[.int .i64 0] 3)).heap.size by simp]; exact heap_alloc_new _ _
  have hb : Below w.heap.size w ((((w.alloc (.cells #[.string ⟨#[]⟩] 9)).alloc (.cells #[.int .i64 0] 3)).alloc (.cells #[.bool false] 4)).alloc (.cells #[.slice A l.length c, .int .i64 0] 78)) :=
    below_alloc (below_alloc (below_alloc (below_alloc (Below.refl _ _) _) _) _) _
  have hsz : ((((w.alloc (.cells #[.string ⟨#[]⟩] 9)).alloc (.cells #[.int .i64 0] 3)).alloc (.cells #[.bool false] 4)).alloc (.cells #[.slice A l.length c, .int .i64 0] 78)).heap.size = w.heap.size + 1 + 1 + 1 + 1 := by simp
  generalize (((w.alloc (.cells #[.string ⟨#[]⟩] 9)).alloc (.cells #[.int .i64 0] 3)).alloc (.cells #[.bool false] 4)).alloc (.cells #[.slice A l.length c, .int .i64 0] 78) = W at *
  refine text_any _ _ l 0 W hs _ ?_ ?_
  · intro hg w1 hgr
    have k0 := (hgr.block w.heap.size (by omega) (by simp; omega)).trans g0
    have k1 := (hgr.block (w.heap.size + 1) (by omega) (by simp)).trans g1
    have k2 := (hgr.block (w.heap.size + 1 + 1) (by omega) (by simp)).trans g2
    have hb1 : Below w.heap.size w w1 := hb.grown hgr (by omega) (by intro k hk; simp at hk; omega)
    refine leaves_cons (f := 47) (args := #[.pointer (some ⟨w.heap.size, 0, none⟩), .pointer (some ⟨w.heap.size + 1, 0, none⟩), .pointer (some ⟨w.heap.size + 1 + 1, 0, none⟩)]) (by simp) (by simp [go_sem]) ?_
    refine (caught_text w.heap.size (w.heap.size + 1) (w.heap.size + 1 + 1) _ _ _ w1 (cell_of_one k0) (cell_of_one k1) (cell_of_one k2) (free_of_one k0) (free_of_one k1) (free_of_one k2) (by omega) (by omega) (by omega)).mono ?_
    rintro e u' w2 ⟨rfl, rfl, rfl⟩
    obtain ⟨q0, q1, q2⟩ := three_set (a := .string ⟨#[]⟩) (b := .int .i64 0) (c := .bool false) k0 k1 k2
    have hb2 : Below w.heap.size w (((w1.setCell ⟨w.heap.size, 0, none⟩ (.string ⟨#[]⟩)).setCell ⟨w.heap.size + 1, 0, none⟩ (.int .i64 0)).setCell ⟨w.heap.size + 1 + 1, 0, none⟩ (.bool false)) :=
      ((hb1.setCell (by simp) _).setCell (by simp) _).setCell (by simp; omega) _
    generalize ((w1.setCell ⟨w.heap.size, 0, none⟩ (.string ⟨#[]⟩)).setCell ⟨w.heap.size + 1, 0, none⟩ (.int .i64 0)).setCell ⟨w.heap.size + 1 + 1, 0, none⟩ (.bool false) = w2 at *
    have hs2 : w.heap.size + 1 + 1 < w2.heap.size := lt_of_block q2
    have c0 := cell_of_one q0
    have c1 := cell_of_one q1
    have c2 := cell_of_one q2
    have e0 : w.heap.size < w2.heap.size := by omega
    have e1 : w.heap.size + 1 < w2.heap.size := by omega
    simp [Leaves, settle, results, Try.results36, go_sem, c0, c1, c2, e0, e1, hs2]
    exact ⟨by simp at hg; simp [getT, hg], below_alloc hb2 _⟩
  · intro n k hg w1 hgr hr1
    have k0 := (hgr.block w.heap.size (by omega) (by simp; omega)).trans g0
    have k1 := (hgr.block (w.heap.size + 1) (by omega) (by simp)).trans g1
    have k2 := (hgr.block (w.heap.size + 1 + 1) (by omega) (by simp)).trans g2
    have hb1 : Below w.heap.size w w1 := hb.grown hgr (by omega) (by intro k hk; simp at hk; omega)
    have hsz1 : w.heap.size + 1 + 1 + 1 < w1.heap.size := by have := hgr.size; omega
    have c0 := cell_of_one k0
    have c1 := cell_of_one k1
    have c2 := cell_of_one k2
    have f0 := free_of_one k0
    have f1 := free_of_one k1
    have f2 := free_of_one k2
    have r1 := hr1.c1
    have HB := Lib.hid (And.intro k0 (And.intro k1 k2))
    clear g0 g1 g2 hb hsz hgr hs k0 k1 k2
    have HR1 := Lib.hid hr1
    clear hr1
    go_wp2_with fail
    have k0' : (w1.setCell ⟨w.heap.size, 0, none⟩ (.string ⟨n.toArray⟩)).heap[w.heap.size]? = some (.cells #[.string ⟨n.toArray⟩] 9) := one_setCell HB.out.1
    have k1' : (w1.setCell ⟨w.heap.size, 0, none⟩ (.string ⟨n.toArray⟩)).heap[w.heap.size + 1]? = some (.cells #[.int .i64 0] 3) := by
      rw [Below.heap_setCell _ _ _ _ (by simp)]; exact HB.out.2.1
    have k2' : (w1.setCell ⟨w.heap.size, 0, none⟩ (.string ⟨n.toArray⟩)).heap[w.heap.size + 1 + 1]? = some (.cells #[.bool false] 4) := by
      rw [Below.heap_setCell _ _ _ _ (by simp; omega)]; exact HB.out.2.2
    have r1' : (w1.setCell ⟨w.heap.size, 0, none⟩ (.string ⟨n.toArray⟩)).cell? ⟨w.heap.size + 1 + 1 + 1, 1, none⟩ = some (.int .i64 ((0 + k : Nat) : Int)) :=
      (World.cell?_setCell_other w1 _ _ _ (by simp)).trans r1
    have hb3 : Below w.heap.size w (w1.setCell ⟨w.heap.size, 0, none⟩ (.string ⟨n.toArray⟩)) := hb1.setCell (by simp) _
    generalize w1.setCell ⟨w.heap.size, 0, none⟩ (.string ⟨n.toArray⟩) = w3 at *
    clear c0 c1 c2 f0 f1 f2 r1 hb1 hsz1 HR1 HB
    have c0 := cell_of_one k0'
    have c1 := cell_of_one k1'
    have c2 := cell_of_one k2'
    have f0 := free_of_one k0'
    have f1 := free_of_one k1'
    have f2 := free_of_one k2'
    have HB := Lib.hid (And.intro k0' (And.intro k1' k2'))
    have HB3 := Lib.hid hb3
    clear k0' k1' k2' hb3
    go_region
    all_goals go_wp2_with fail
    clear c0 c1 c2 f0 f1 f2
    obtain ⟨k0, k1, k2⟩ := HB.out
    have hb3 := HB3.out
    obtain ⟨q0, q1, q2⟩ := three_set (a := .string ⟨n.toArray⟩) (b := .int .i64 k) (c := .bool true) k0 k1 k2
    have hb2 : Below w.heap.size w (((w3.setCell ⟨w.heap.size, 0, none⟩ (.string ⟨n.toArray⟩)).setCell ⟨w.heap.size + 1, 0, none⟩ (.int .i64 k)).setCell ⟨w.heap.size + 1 + 1, 0, none⟩ (.bool true)) :=
      ((hb3.setCell (by simp) _).setCell (by simp) _).setCell (by simp; omega) _
    generalize ((w3.setCell ⟨w.heap.size, 0, none⟩ (.string ⟨n.toArray⟩)).setCell ⟨w.heap.size + 1, 0, none⟩ (.int .i64 k)).setCell ⟨w.heap.size + 1 + 1, 0, none⟩ (.bool true) = w4 at *
    refine leaves_cons (f := 47) (args := #[.pointer (some ⟨w.heap.size, 0, none⟩), .pointer (some ⟨w.heap.size + 1, 0, none⟩), .pointer (some ⟨w.heap.size + 1 + 1, 0, none⟩)]) (by simp) (by simp [go_sem]) ?_
    refine (idle_text _ _ _ _).mono ?_
    rintro e u' w2 ⟨rfl, rfl, rfl⟩
    have c0 := cell_of_one q0
    have c1 := cell_of_one q1
    have c2 := cell_of_one q2
    have hs2 : w.heap.size + 1 + 1 < w4.heap.size := lt_of_block q2
    have e0 : w.heap.size < w4.heap.size := by omega
    have e1 : w.heap.size + 1 < w4.heap.size := by omega
    simp [Leaves, settle, results, Try.results36, go_sem, c0, c1, c2]
    exact ⟨by simp at hg; simp [getT, hg], hb2.drew⟩
end Go.Proofs.Ytbcnokidnpnmhaa
