import Derived.RangeFuncNested
import Derived.RangeFuncBound
import Derived.RangeFuncCalls
import Derived.RangeFuncLeaves
import Derived.Shelf.Abstract
import Derived.Shelf.RegionOpen
import Derived.OwnWalkIn
import Derived.TacticsInMore
import Derived.LoopNIn
import Derived.LoopIn
import Derived.Test.YtbolojjnkkgehaaOw2
namespace Go.Proofs.Ytbolojjnkkgehaa
open Go.RowKit Go.Shelf
attribute [local go_sem] Oper.semAt_some

/-- A step, and by which direction. -/
structure Ld where
  ed : Int
  nd : Int
  dir : Int
abbrev LEAD (x : Ld) : Value := .agg #[.int .i64 x.ed, .int .i64 x.nd, .int .i64 x.dir]

/-- From which nodes an edge leads, and how. -/
def ledF {m : Nat} (i : Int) (a b : Fin m) (dir : Bool) : List (Fin m × Ld) :=
  if a = b then [(a, ⟨i, b.val, if dir then bits .or .i64 4 1 else bits .or .i64 2 2⟩)] else [(a, ⟨i, b.val, if dir then 4 else 2⟩), (b, ⟨i, a.val, if dir then 1 else 2⟩)]

/-- An edge's box: its six cells. -/
structure EdBox (w : World) (p : Nat) (src dst : Int) (dir : Bool) : Prop where
  c1 : w.cell? ⟨p, 1, none⟩ = some (.int .i64 src)
  c2 : w.cell? ⟨p, 2, none⟩ = some (.int .i64 dst)
  c3 : w.cell? ⟨p, 3, none⟩ = some (.bool dir)
/-- Two blocks lie as they lay. -/
structure KeepTwo (eb ib : Nat) (W W' : World) : Prop where
  e : W'.heap[eb]? = W.heap[eb]?
  i : W'.heap[ib]? = W.heap[ib]?
theorem EdBox.two {w w' : World} {p : Nat} {src dst : Int} {dir : Bool} (h : EdBox w p src dst dir) (hb : w'.heap[p]? = w.heap[p]?) : EdBox w' p src dst dir :=
  ⟨(World.cell?_of_block (a := ⟨p, 1, none⟩) hb).trans h.c1, (World.cell?_of_block (a := ⟨p, 2, none⟩) hb).trans h.c2, (World.cell?_of_block (a := ⟨p, 3, none⟩) hb).trans h.c3⟩
theorem EdBox.below {w w' : World} {p : Nat} {src dst : Int} {dir : Bool} {m : Nat} (h : EdBox w p src dst dir) (hb : Below m w w') (hm : p < m) : EdBox w' p src dst dir := ⟨cell_below hb hm h.c1, cell_below hb hm h.c2, cell_below hb hm h.c3⟩

set_option maxRecDepth 100000 in
set_option maxHeartbeats 2000000 in
/-- graph.leads$1 -/
theorem leads1_in (F : Fence) (n : Nat) (hF : F.fn 51) (hro : F.round = none) (hn : 1 ≤ n) (l eb ib : Nat) {m : Nat} (i : Int) (a b : Fin m) (dir : Bool) (J Jx : List (Fin m × Ld) → World → Prop)
    (hY : ∀ pre x W, J pre W → pre.length < 2 → YieldAt F (n - 1) Try.prog l #[.int .i64 (x.1.val : Int), LEAD x.2] W fun e W' =>
      (e = .returned (.bool true) ∧ J (pre ++ [x]) W' ∧ KeepTwo eb ib W W') ∨ (e = .returned (.bool false) ∧ Jx (pre ++ [x]) W'))
    (W : World) (he : EdBox W eb a.val b.val dir) (hi : W.cell? ⟨ib, 0, none⟩ = some (.int .i64 i))  (h0 : J [] W) :
    CallsIn F n Try.prog 51 #[.func (.yield l) #[] #[], .pointer (some ⟨eb, 0, none⟩), .pointer (some ⟨ib, 0, none⟩)] W fun e W' => (∃ v, e = .returned v) ∧
      ((∃ ys, ys = ledF i a b dir ∧ J ys W') ∨ (∃ pre, pre <+: ledF i a b dir ∧ Jx pre W')) := by
  have h1 := he.c1
  have h2 := he.c2
  have h3 := he.c3
  have HE := Lib.hid he
  have HI := Lib.hid hi
  clear he
  by_cases hab : a = b
  · subst hab
    have hl : ledF i a a dir = [(a, ⟨i, a.val, if dir then bits .or .i64 4 1 else bits .or .i64 2 2⟩)] := by unfold ledF; rw [if_pos rfl]
    have HL := Lib.hid hl
    clear hl
    cases dir with
    | true =>
      obtain ⟨f1, t1, a1, b1, hy1, hR1⟩ := hY [] (a, ⟨i, a.val, bits .or .i64 4 1⟩) W h0 (by simp)
      dsimp only at hy1
      refine callsIn_of_wp Try.func51 rfl hF ?_ hro
      simp only [Try.ntmps51, List.size_toArray, List.length_cons, List.length_nil, Nat.reduceAdd, Nat.reduceSub, Array.replicate_succ, Array.replicate_zero, List.push_toArray, List.append_toArray, List.nil_append, List.cons_append]
      gi_wp2
      refine hR1.mono ?_
      rintro e W1 (⟨rfl, hJ1, _⟩ | ⟨rfl, hx1⟩)
      · gi_wp2
        refine bodyPost_ret (results_none rfl _ _ _) rfl ?_
        exact ⟨⟨_, rfl⟩, .inl ⟨_, HL.out.symm, hJ1⟩⟩
      · gi_wp2
        refine bodyPost_ret (results_none rfl _ _ _) rfl ?_
        exact ⟨⟨_, rfl⟩, .inr ⟨_, by rw [HL.out]; exact List.prefix_refl _, hx1⟩⟩
    | false =>
      obtain ⟨f1, t1, a1, b1, hy1, hR1⟩ := hY [] (a, ⟨i, a.val, bits .or .i64 2 2⟩) W h0 (by simp)
      dsimp only at hy1
      refine callsIn_of_wp Try.func51 rfl hF ?_ hro
      simp only [Try.ntmps51, List.size_toArray, List.length_cons, List.length_nil, Nat.reduceAdd, Nat.reduceSub, Array.replicate_succ, Array.replicate_zero, List.push_toArray, List.append_toArray, List.nil_append, List.cons_append]
      gi_wp2
      refine hR1.mono ?_
      rintro e W1 (⟨rfl, hJ1, _⟩ | ⟨rfl, hx1⟩)
      · gi_wp2
        refine bodyPost_ret (results_none rfl _ _ _) rfl ?_
        exact ⟨⟨_, rfl⟩, .inl ⟨_, HL.out.symm, hJ1⟩⟩
      · gi_wp2
        refine bodyPost_ret (results_none rfl _ _ _) rfl ?_
        exact ⟨⟨_, rfl⟩, .inr ⟨_, by rw [HL.out]; exact List.prefix_refl _, hx1⟩⟩
  · have hl : ledF i a b dir = [(a, ⟨i, b.val, if dir then 4 else 2⟩), (b, ⟨i, a.val, if dir then 1 else 2⟩)] := by unfold ledF; rw [if_neg hab]
    have hab' : ((a.val : Int) == (b.val : Int)) = false := by rw [beq_eq_false_iff_ne]; intro e; exact hab (Fin.ext (by omega))
    have HL := Lib.hid hl
    clear hl hab
    cases dir with
    | true =>
      obtain ⟨f1, t1, a1, b1, hy1, hR1⟩ := hY [] (a, ⟨i, b.val, 4⟩) W h0 (by simp)
      dsimp only at hy1
      refine callsIn_of_wp Try.func51 rfl hF ?_ hro
      simp only [Try.ntmps51, List.size_toArray, List.length_cons, List.length_nil, Nat.reduceAdd, Nat.reduceSub, Array.replicate_succ, Array.replicate_zero, List.push_toArray, List.append_toArray, List.nil_append, List.cons_append]
      gi_wp2
      refine hR1.mono ?_
      rintro e W1 (⟨rfl, hJ1, hk1⟩ | ⟨rfl, hx1⟩)
      · obtain ⟨f2, t2, a2, b2, hy2, hR2⟩ := hY [(a, ⟨i, b.val, 4⟩)] (b, ⟨i, a.val, 1⟩) W1 hJ1 (by simp)
        dsimp only at hy2
        have he2 := HE.out.two hk1.e
        have g1 := he2.c1
        have g2 := he2.c2
        have g4 := (World.cell?_of_block (a := ⟨ib, 0, none⟩) hk1.i).trans HI.out
        gi_wp2
        refine hR2.mono ?_
        rintro e W2 (⟨rfl, hJ2, _⟩ | ⟨rfl, hx2⟩)
        · gi_wp2
          go_end0
          exact ⟨⟨_, rfl⟩, .inl ⟨_, HL.out.symm, hJ2⟩⟩
        · gi_wp2
          go_end0
          exact ⟨⟨_, rfl⟩, .inr ⟨_, by rw [HL.out]; exact List.prefix_refl _, hx2⟩⟩
      · gi_wp2
        go_end0
        exact ⟨⟨_, rfl⟩, .inr ⟨_, by rw [HL.out]; exact ⟨[_], rfl⟩, hx1⟩⟩
    | false =>
      obtain ⟨f1, t1, a1, b1, hy1, hR1⟩ := hY [] (a, ⟨i, b.val, 2⟩) W h0 (by simp)
      dsimp only at hy1
      refine callsIn_of_wp Try.func51 rfl hF ?_ hro
      simp only [Try.ntmps51, List.size_toArray, List.length_cons, List.length_nil, Nat.reduceAdd, Nat.reduceSub, Array.replicate_succ, Array.replicate_zero, List.push_toArray, List.append_toArray, List.nil_append, List.cons_append]
      gi_wp2
      refine hR1.mono ?_
      rintro e W1 (⟨rfl, hJ1, hk1⟩ | ⟨rfl, hx1⟩)
      · obtain ⟨f2, t2, a2, b2, hy2, hR2⟩ := hY [(a, ⟨i, b.val, 2⟩)] (b, ⟨i, a.val, 2⟩) W1 hJ1 (by simp)
        dsimp only at hy2
        have he2 := HE.out.two hk1.e
        have g1 := he2.c1
        have g2 := he2.c2
        have g4 := (World.cell?_of_block (a := ⟨ib, 0, none⟩) hk1.i).trans HI.out
        gi_wp2
        refine hR2.mono ?_
        rintro e W2 (⟨rfl, hJ2, _⟩ | ⟨rfl, hx2⟩)
        · gi_wp2
          go_end0
          exact ⟨⟨_, rfl⟩, .inl ⟨_, HL.out.symm, hJ2⟩⟩
        · gi_wp2
          go_end0
          exact ⟨⟨_, rfl⟩, .inr ⟨_, by rw [HL.out]; exact List.prefix_refl _, hx2⟩⟩
      · gi_wp2
        go_end0
        exact ⟨⟨_, rfl⟩, .inr ⟨_, by rw [HL.out]; exact ⟨[_], rfl⟩, hx1⟩⟩

/-- graph.leads -/
theorem leads_in (F : Fence) (n : Nat) (hF : F.fn 33) (hro : F.round = none) (i : Int) (nm : ByteArray) (src dst : Int) (dir : Bool) (A1 : Option Addr) (n1 c1 : Nat) (A2 : Option Addr) (n2 c2 : Nat) (w : World) :
    CallsIn F n Try.prog 33 #[.int .i64 i, .agg #[.string nm, .int .i64 src, .int .i64 dst, .bool dir, .slice A1 n1 c1, .slice A2 n2 c2]] w fun e w' =>
      e = .returned (.func (.func 51) #[] #[.pointer (some ⟨w.heap.size + 1, 0, none⟩), .pointer (some ⟨w.heap.size, 0, none⟩)]) ∧
      w' = (w.alloc (.cells #[.int .i64 i] 3)).alloc (.cells #[.string nm, .int .i64 src, .int .i64 dst, .bool dir, .slice A1 n1 c1, .slice A2 n2 c2] 42) := by
  refine callsIn_of_wp Try.func33 rfl hF ?_ hro
  simp only [Try.ntmps33, List.size_toArray, List.length_cons, List.length_nil, Nat.reduceAdd, Nat.reduceSub, Array.replicate_succ, Array.replicate_zero, List.push_toArray, List.append_toArray, List.nil_append, List.cons_append]
  gi_wp2
  go_ret
  exact ⟨rfl, rfl⟩

/-- The value that leads hands back gives the edge's ends, one by one. -/
theorem leads_stops (F : Fence) (n : Nat) (hF : F.fn 51) (hro : F.round = none) (hn : 1 ≤ n) (eb ib : Nat) {m : Nat} (i : Int) (a b : Fin m) (dir : Bool) (w : World) (he : EdBox w eb a.val b.val dir) (hi : w.cell? ⟨ib, 0, none⟩ = some (.int .i64 i)) :
    SeqStopsK F n Try.prog 51 #[.pointer (some ⟨eb, 0, none⟩), .pointer (some ⟨ib, 0, none⟩)] (fun x : Fin m × Ld => #[.int .i64 (x.1.val : Int), LEAD x.2]) (KeepTwo eb ib) (fun ys => ys = ledF i a b dir) (fun pre => pre <+: ledF i a b dir) 2 w := fun l J Jx W hW _ _ hY h0 =>
  leads1_in F n hF hro hn l eb ib i a b dir J Jx hY W (he.below hW (World.block_lt_of_cell? w _ he.c1)) (cell_below hW (World.block_lt_of_cell? w _ hi) hi) h0
end Go.Proofs.Ytbolojjnkkgehaa
