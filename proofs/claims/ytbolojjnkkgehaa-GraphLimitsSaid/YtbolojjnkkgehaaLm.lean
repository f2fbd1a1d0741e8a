import Derived.Test.YtbolojjnkkgehaaLmp
import Derived.Test.YtbolojjnkkgehaaFl
import Derived.Deep.RegionHeld3
import Derived.Deep.RegionLaw
import Derived.Deep.CutBlock
import Derived.Deep.DeepCutAuto
/-! GraphLimits: its walk. -/
namespace Go.Proofs.Ytbolojjnkkgehaa
open Go.RowKit

theorem and_low (x : Int) : ∃ k : Nat, k < 65536 ∧ bits .and .i64 x 65535 = (k : Int) := by
  refine ⟨(BitVec.ofInt 64 x &&& BitVec.ofInt 64 65535).toNat, ?_, ?_⟩
  · rw [BitVec.toNat_and]
    exact Nat.lt_of_le_of_lt Nat.and_le_right (by decide)
  · have h : (BitVec.ofInt 64 x &&& BitVec.ofInt 64 65535).toNat ≤ 65535 := by
      rw [BitVec.toNat_and]
      exact Nat.le_trans Nat.and_le_right (by decide)
    show IntKind.i64.wrap (((BitVec.ofInt 64 x &&& BitVec.ofInt 64 65535).toNat : Nat) : Int) = _
    generalize (BitVec.ofInt 64 x &&& BitVec.ofInt 64 65535).toNat = q at *
    rw [IntKind.wrap_i64]
    omega
theorem cellsN_append (a b : List NX) : cellsN (a ++ b) = cellsN a ++ cellsN b := by simp [cellsN]
theorem limN_succ (n : Nat) : limN (n + 1) = limN n ++ [⟨⟨nmL 110 n, [], []⟩, .slice none 0 0, .slice none 0 0⟩] := by simp [limN, List.range_succ]
theorem limE_succ (n m : Nat) : limE n (m + 1) = limE n m ++ [⟨⟨nmL 101 m, ((m % n : Nat) : Int), ((m * 7 % n : Nat) : Int), false, [], []⟩, .slice none 0 0, .slice none 0 0⟩] := by simp [limE, List.range_succ]

theorem enter_run {P : Program} {f : FuncId} {fn : Func} {c : Code} (hf : P.funcs[f]? = some fn) (hname : (fn.name == "runtime.NumGoroutine") = false) (hb : fn.body = some c) (args : Array Value) (w : World) : (callFunc f args).run P w = .ok (.enter f args) w := by
  have h1 : fn.name ≠ "runtime.NumGoroutine" := by simpa using hname
  simp [callFunc, hf, h1, hb]
theorem enter14 (args : Array Value) (w : World) : (callFunc 14 args).run Try.prog w = .ok (.enter 14 args) w := enter_run Try.func14 (by kernel_rfl) rfl args w
/-- A call of a function, as a step of a drawn region. -/
theorem step_call {P : Program} {w : World} {ops : Array Oper} {o : Oper} {a : Act} {K : Act → World → Prop} {Q : Exit → Act → World → Prop} {E : Prop} (hgd : o.guard = none) (f : FuncId) (x : Tmp) (ts : Array TypeId)
    (ho : o.op = .call { callee := .value (.func f), args := #[.tmp x], argTypes := ts }) (v0 : Value) (hx : a.eval (.tmp x) = v0) (he : (callFunc f #[v0]).run P w = .ok (.enter f #[v0]) w)
    {R : Value → World → Prop} (hc : Calls P f #[v0] w fun e w' => ∃ v, e = .returned v ∧ R v w') (h : ∀ v w', R v w' → K (a.put o.dst v) w') : if Region.wanted o (yielded ops a.tmps) = true then Oper.wp P o a w K Q else E := by
  have hw : Region.wanted o (yielded ops a.tmps) = true := by simp [Region.wanted, hgd]
  rw [if_pos hw]
  unfold Oper.wp execOp
  simp [Act.eval] at hx
  simp [ho, resolve, invoke, Deferred.ofValue, go_sem, hx, he]
  refine hc.mono ?_
  rintro e w' ⟨v, rfl, hr⟩
  exact h v w' hr
/-- append(s, x...) as a step of a drawn region. -/
theorem step_app {t e : TypeId} {size bytes : Nat} (hty : Ty t e size bytes) {w : World} {ops : Array Oper} {o : Oper} {a : Act} {K : Act → World → Prop} {Q : Exit → Act → World → Prop} {E : Prop} (hgd : o.guard = none) (s x : Operand)
    (ho : o.op = .call { callee := .builtin .append, args := #[s, x], argTypes := #[t, t] })
    {B : Nat} {v : Value} {n : Nat} {xs : List Value} (hs : a.eval s = v) (hown : w.ownsRow B e size v n xs)
    (b q : Nat) (m c : Nat) (news : List Value) (hx : a.eval x = .slice (some ⟨b, q, none⟩) m c) (hl : news.length = m * size) (hnews : ∀ j u, news[j]? = some u → w.cell? ⟨b, q + j, none⟩ = some u) (h1 : ∀ u ∈ news, u.oneCell' = true)
    (h63 : n + m ≤ 9223372036854775807) (hby : (n + m) * bytes ≤ 140737488355328) (hB : B ≤ w.heap.size)
    (h : ∀ v' w', w'.ownsRow B e size v' (n + m) (xs ++ news) → w.grownBy w' v.ownBlock → Near w v v' → K (a.put o.dst v') w') : if Region.wanted o (yielded ops a.tmps) = true then Oper.wp Try.prog o a w K Q else E := by
  have hw : Region.wanted o (yielded ops a.tmps) = true := by simp [Region.wanted, hgd]
  rw [if_pos hw]
  obtain ⟨i, z, hi, hz, hsz, hbt, hzc⟩ := hty.hi
  obtain ⟨v', w', hr, h2, h3, h4, h9⟩ := run_append_own_at (P := Try.prog) w B t o.type e i z size bytes hty.ht hi hz hsz hbt hzc hty.pos v n xs hown ⟨b, q, none⟩ m c news hl
    (fun j u hj => by
      rw [addr_add0]
      exact hnews j u hj) h1 (by unfold maxLen; omega) hby hB
  unfold Oper.wp execOp
  simp only [ho, resolve, invoke, builtin, Sem.run_bind, Sem.run_pure, Result.andThen_ok, List.map_toArray, List.map_cons, List.map_nil, hs, hx, hr]
  refine h v' w' h2 h3 ?_
  intro k hk
  rcases h9 with e9 | e9
  · exact .inl (by rw [← e9]; exact hk)
  · rw [hk] at e9; simp at e9; exact .inr (by omega)

/-- What the loops keep: the graph under way, of i nodes and j edges. -/
structure LmS (w wr : World) (b : Nat) (nv ev : Value) (n i j : Nat) : Prop where
  below : Below w.heap.size w wr
  two : TwoAt wr b nv ev
  z0 : wr.frozen? ⟨b, 0, none⟩ = false
  z1 : wr.frozen? ⟨b, 1, none⟩ = false
  own0 : wr.ownsRow (b + 1) 46 3 nv i (cellsN (limN i))
  own1 : wr.ownsRow (b + 1) 42 6 ev j (cellsE (limE n j))
  sep : ∀ k, nv.ownBlock = some k → ev.ownBlock ≠ some k
  lt : w.heap.size ≤ b ∧ b < wr.heap.size

section
variable {w wr : World} {b : Nat} {nv ev : Value} {n i j : Nat}
theorem undrew {w w' : World} (h : Below w.drew.heap.size w.drew w') : Below w.heap.size w w' := ⟨h.os, h.tape, h.output, h.size, h.block⟩
theorem LmS.keep (h : LmS w wr b nv ev n i j) {w' : World} (hb : Below wr.heap.size wr w') : LmS w w' b nv ev n i j :=
  ⟨below_trans' h.below hb, h.two.below hb h.lt.2, (hb.frozen (p := ⟨b, 0, none⟩) h.lt.2).trans h.z0, (hb.frozen (p := ⟨b, 1, none⟩) h.lt.2).trans h.z1, own_below h.own0 hb (Nat.le_refl _), own_below h.own1 hb (Nat.le_refl _), h.sep, h.lt.1, Nat.lt_of_lt_of_le h.lt.2 hb.size⟩
/-- g.Nodes = append(g.Nodes, ..) -/
theorem LmS.app0 (h : LmS w wr b nv ev n i j) {w2 : World} {v2 : Value} (hg : wr.grownBy w2 nv.ownBlock) (hn : Near wr nv v2) (ho : w2.ownsRow (b + 1) 46 3 v2 (i + 1) (cellsN (limN (i + 1)))) :
    LmS w (w2.setCell ⟨b, 0, none⟩ v2) b v2 ev n (i + 1) j := by
  have h1 := h.lt
  have hs := hg.size
  have o0 := own_lt h.own0
  have o1 := own_lt h.own1
  have o2 := own_lt ho
  have nb : some b ≠ nv.ownBlock := fun e => by have := o0 b e.symm; omega
  have hb1 : w2.ownsRow (b + 1) 42 6 ev j (cellsE (limE n j)) := by
    refine World.ownsRow.kept h.own1 hg ?_
    cases hv : ev.ownBlock with
    | none => exact .inl rfl
    | some k => exact .inr (fun e => h.sep k e.symm hv)
  refine ⟨(h.below.grown hg h.below.size (fun k hk => by have := o0 k hk; omega)).setCell (p := ⟨b, 0, none⟩) h1.1 _, ⟨World.cell?_setCell_same w2 ⟨b, 0, none⟩ v2 (hg.cell h.two.c0 nb), (World.cell?_setCell_other w2 ⟨b, 0, none⟩ ⟨b, 1, none⟩ v2 (by simp)).trans (hg.cell h.two.c1 nb)⟩, (World.frozen?_setCell _ _ _ _).trans ((frozen_grown hg 0 h1.2 nb).trans h.z0), (World.frozen?_setCell _ _ _ _).trans ((frozen_grown hg 1 h1.2 nb).trans h.z1), own_set ho (fun k hk => by have := o2 k hk; omega), own_set hb1 (fun k hk => by have := o1 k hk; omega), fun k hk e => ?_, h1.1, by simp; omega⟩
  rcases hn k hk with h2 | h2
  · exact h.sep k h2 e
  · have := o1 k e; omega
/-- g.Edges = append(g.Edges, ..) -/
theorem LmS.app1 (h : LmS w wr b nv ev n i j) {w2 : World} {v2 : Value} (hg : wr.grownBy w2 ev.ownBlock) (hn : Near wr ev v2) (ho : w2.ownsRow (b + 1) 42 6 v2 (j + 1) (cellsE (limE n (j + 1)))) :
    LmS w (w2.setCell ⟨b, 1, none⟩ v2) b nv v2 n i (j + 1) := by
  have h1 := h.lt
  have hs := hg.size
  have o0 := own_lt h.own0
  have o1 := own_lt h.own1
  have o2 := own_lt ho
  have nb : some b ≠ ev.ownBlock := fun e => by have := o1 b e.symm; omega
  have hb1 : w2.ownsRow (b + 1) 46 3 nv i (cellsN (limN i)) := by
    refine World.ownsRow.kept h.own0 hg ?_
    cases hv : nv.ownBlock with
    | none => exact .inl rfl
    | some k => exact .inr (fun e => h.sep k hv e.symm)
  refine ⟨(h.below.grown hg h.below.size (fun k hk => by have := o1 k hk; omega)).setCell (p := ⟨b, 1, none⟩) h1.1 _, ⟨(World.cell?_setCell_other w2 ⟨b, 1, none⟩ ⟨b, 0, none⟩ v2 (by simp)).trans (hg.cell h.two.c0 nb), World.cell?_setCell_same w2 ⟨b, 1, none⟩ v2 (hg.cell h.two.c1 nb)⟩, (World.frozen?_setCell _ _ _ _).trans ((frozen_grown hg 0 h1.2 nb).trans h.z0), (World.frozen?_setCell _ _ _ _).trans ((frozen_grown hg 1 h1.2 nb).trans h.z1), own_set hb1 (fun k hk => by have := o0 k hk; omega), own_set ho (fun k hk => by have := o2 k hk; omega), fun k hk e => ?_, h1.1, by simp; omega⟩
  rcases hn k e with h2 | h2
  · exact h.sep k hk h2
  · have := o0 k hk; omega
end

theorem nm0 : nmL 110 0 = ⟨#[110, 48]⟩ := by decide +kernel
theorem limT_last (K : Nat) : limT (K + 1) = limN K ++ [⟨⟨nmL 110 0, [], []⟩, .slice none 0 0, .slice none 0 0⟩] := by
  unfold limT limN
  rw [List.range_succ, List.map_append]
  congr 1
  · refine List.map_congr_left fun i hi => ?_
    rw [if_neg (by have := List.mem_range.1 hi; omega)]
  · simp
theorem cells_turn (K : Nat) : (cellsN (limN (K + 1))).set (K * 3) (.string ⟨#[110, 48]⟩) = cellsN (limT (K + 1)) := by
  rw [limN_succ, limT_last, cellsN_append, cellsN_append, nm0, List.set_append_right _ _ (by rw [cellsN_length, limN_length]; omega), cellsN_length, limN_length, Nat.sub_self]
  rfl
theorem nmL_len {c : UInt8} {i : Nat} : (nmL c i).size ≤ maxLen := by
  have h := decF_len 3 i
  have e : (nmL c i).size = (decF 3 i).length + 1 := by simp [nmL, ByteArray.size]
  rw [e]
  unfold maxLen
  omega
theorem limN_mem {n : Nat} {x : NX} (h : x ∈ limN n) : x.lv = .slice none 0 0 ∧ x.pv = .slice none 0 0 ∧ x.d.ls = [] ∧ x.d.ps = [] ∧ x.d.nm.size ≤ maxLen := by
  obtain ⟨i, _, rfl⟩ := List.mem_map.1 h
  exact ⟨rfl, rfl, rfl, rfl, nmL_len⟩
theorem limT_mem {n : Nat} {x : NX} (h : x ∈ limT n) : x.lv = .slice none 0 0 ∧ x.pv = .slice none 0 0 ∧ x.d.ls = [] ∧ x.d.ps = [] ∧ x.d.nm.size ≤ maxLen := by
  obtain ⟨i, _, rfl⟩ := List.mem_map.1 h
  refine ⟨rfl, rfl, rfl, rfl, ?_⟩
  show ByteArray.size (if i = n - 1 then nmL 110 0 else nmL 110 i) ≤ maxLen
  split <;> exact nmL_len
theorem limE_mem {n m : Nat} (h0 : 0 < n) (hn : n ≤ 1200) {x : EX} (h : x ∈ limE n m) : x.lv = .slice none 0 0 ∧ x.pv = .slice none 0 0 ∧ x.d.ls = [] ∧ x.d.ps = [] ∧ x.d.nm.size ≤ maxLen ∧ (-9223372036854775808 ≤ x.d.src ∧ x.d.src ≤ 9223372036854775807) ∧ (-9223372036854775808 ≤ x.d.dst ∧ x.d.dst ≤ 9223372036854775807) := by
  obtain ⟨i, _, rfl⟩ := List.mem_map.1 h
  have a := Nat.mod_lt i h0
  have b := Nat.mod_lt (i * 7) h0
  refine ⟨rfl, rfl, rfl, rfl, nmL_len, ?_, ?_⟩
  · show -9223372036854775808 ≤ ((i % n : Nat) : Int) ∧ ((i % n : Nat) : Int) ≤ 9223372036854775807
    omega
  · show -9223372036854775808 ≤ ((i * 7 % n : Nat) : Int) ∧ ((i * 7 % n : Nat) : Int) ≤ 9223372036854775807
    omega
theorem nodes_of {w : World} {v : Value} {l : List NX} {k : Nat} (hk : l.length = k) (hs : SliceR w v k (cellsN l)) (hl : k ≤ 1200) (h : ∀ x ∈ l, x.lv = .slice none 0 0 ∧ x.pv = .slice none 0 0 ∧ x.d.ls = [] ∧ x.d.ps = [] ∧ x.d.nm.size ≤ maxLen) : Nodes w v l := by
  subst hk
  refine ⟨hs, by omega, fun x hx => ?_, fun x hx => ?_, fun x hx => (h x hx).2.2.2.2⟩
  · obtain ⟨a, b, c, d, -⟩ := h x hx
    rw [a, c]; exact Strs.nil _
  · obtain ⟨a, b, c, d, -⟩ := h x hx
    rw [b, d]; exact Props.nil _
theorem edges_of {w : World} {v : Value} {n m : Nat} (h0 : 0 < n) (hn : n ≤ 1200) (hm : m ≤ 1200) (hs : SliceR w v m (cellsE (limE n m))) : Edges w v (limE n m) := by
  refine ⟨by rw [limE_length]; exact hs, by rw [limE_length]; omega, fun x hx => ?_, fun x hx => ?_, fun x hx => (limE_mem h0 hn hx).2.2.2.2.1, fun x hx => (limE_mem h0 hn hx).2.2.2.2.2.1, fun x hx => (limE_mem h0 hn hx).2.2.2.2.2.2⟩
  · obtain ⟨a, b, c, d, -⟩ := limE_mem h0 hn hx
    rw [a, c]; exact Strs.nil _
  · obtain ⟨a, b, c, d, -⟩ := limE_mem h0 hn hx
    rw [b, d]; exact Props.nil _
/-- What stands behind the loops. -/
theorem LmS.graph {w wr : World} {b : Nat} {nv ev : Value} {n j : Nat} (h : LmS w wr b nv ev n n j) (h0 : 0 < n) (hn : n ≤ 1200) (hj : j ≤ 1200) : Nodes wr nv (limN n) ∧ Edges wr ev (limE n j) :=
  ⟨nodes_of (limN_length n) (own_reads h.own0) hn fun x hx => limN_mem hx, edges_of h0 hn hj (own_reads h.own1)⟩
/-- With the last node's name another one. -/
theorem LmS.turn {w wr : World} {b : Nat} {nv ev : Value} {K j : Nat} (h : LmS w wr b nv ev (K + 1) (K + 1) j) (hn : K + 1 ≤ 1200) (hj : j ≤ 1200) : ∃ g c, nv = .slice (some ⟨g, 0, none⟩) (K + 1) c ∧ K + 1 ≤ c ∧ b < g ∧ g < wr.heap.size ∧ wr.cell? ⟨g, K * 3, none⟩ = some (.string (nmL 110 K)) ∧ wr.frozen? ⟨g, K * 3, none⟩ = false ∧
    Nodes (wr.setCell ⟨g, K * 3, none⟩ (.string ⟨#[110, 48]⟩)) nv (limT (K + 1)) ∧ Edges (wr.setCell ⟨g, K * 3, none⟩ (.string ⟨#[110, 48]⟩)) ev (limE (K + 1) j) ∧ TwoAt (wr.setCell ⟨g, K * 3, none⟩ (.string ⟨#[110, 48]⟩)) b nv ev ∧ Below w.heap.size w (wr.setCell ⟨g, K * 3, none⟩ (.string ⟨#[110, 48]⟩)) := by
  have h1 := h.own0
  rcases h1.2 with ⟨_, h2⟩ | ⟨g, cap, cur, rfl, hb, hg, hc, hm, hs, ht⟩
  · omega
  have hgl : g < wr.heap.size := (Array.getElem?_eq_some_iff.1 hg).1
  have hrow : RowAt wr g (cellsN (limN (K + 1))) := fun k u hk => by
    have := World.ownsRow.cells h1 (g := g) rfl k u hk
    rw [addr_add0, Nat.zero_add] at this
    exact this
  have hlen : K * 3 < (cellsN (limN (K + 1))).length := by rw [cellsN_length, limN_length]; omega
  have hcell : (cellsN (limN (K + 1)))[K * 3]? = some (.string (nmL 110 K)) := by
    rw [limN_succ, cellsN_append, List.getElem?_append_right (by rw [cellsN_length, limN_length]; omega), cellsN_length, limN_length, Nat.sub_self]
    rfl
  have hset := hrow.set (o := K * 3) (u := .string ⟨#[110, 48]⟩) hlen
  rw [cells_turn] at hset
  have hlt := h.lt
  have hsep : ∀ k, ev.ownBlock = some k → k ≠ g := fun k hk e => h.sep g rfl (e ▸ hk)
  refine ⟨g, cap, rfl, hc, by omega, hgl, hrow _ _ hcell, ?_, ?_, ?_, ⟨?_, ?_⟩, ?_⟩
  · simp [World.frozen?, hg]
  · refine nodes_of (limT_length _) ⟨some ⟨g, 0, none⟩, cap, rfl, hc, hm, by simp, fun k u hk => ⟨g, 0, rfl, ?_⟩⟩ hn fun x hx => limT_mem hx
    rw [Nat.zero_add]
    exact hset k u hk
  · exact edges_of (by omega) hn hj (own_reads (own_set h.own1 hsep))
  · exact (World.cell?_setCell_far wr ⟨g, K * 3, none⟩ ⟨b, 0, none⟩ _ (by simp; omega)).trans h.two.c0
  · exact (World.cell?_setCell_far wr ⟨g, K * 3, none⟩ ⟨b, 1, none⟩ _ (by simp; omega)).trans h.two.c1
  · exact h.below.setCell (p := ⟨g, K * 3, none⟩) (by simp; omega) _

theorem LmS.turn' {w wr : World} {b : Nat} {nv ev : Value} {n K j : Nat} (hK : n = K + 1) (h : LmS w wr b nv ev n n j) (hn : n ≤ 1200) (hj : j ≤ 1200) : ∃ g c, nv = .slice (some ⟨g, 0, none⟩) n c ∧ n ≤ c ∧ b < g ∧ g < wr.heap.size ∧ wr.cell? ⟨g, K * 3, none⟩ = some (.string (nmL 110 K)) ∧ wr.frozen? ⟨g, K * 3, none⟩ = false ∧
    Nodes (wr.setCell ⟨g, K * 3, none⟩ (.string ⟨#[110, 48]⟩)) nv (limT n) ∧ Edges (wr.setCell ⟨g, K * 3, none⟩ (.string ⟨#[110, 48]⟩)) ev (limE n j) ∧ TwoAt (wr.setCell ⟨g, K * 3, none⟩ (.string ⟨#[110, 48]⟩)) b nv ev ∧ Below w.heap.size w (wr.setCell ⟨g, K * 3, none⟩ (.string ⟨#[110, 48]⟩)) := by
  subst hK
  exact h.turn hn hj

set_option maxRecDepth 20000 in
set_option maxHeartbeats 8000000 in
theorem limits_any (n0 m0 : Int) (tw : Bool) (w : World) :
    Calls Try.prog 4 #[.int .i64 n0, .int .i64 m0, .bool tw] w fun e w' => e = .returned (.bool true) ∧ Below w.heap.size w w' := by
  obtain ⟨k1, hk1, e1⟩ := and_low n0
  obtain ⟨k2, hk2, e2⟩ := and_low m0
  obtain ⟨r, hr, hw⟩ : ∃ r : Nat, r < 1200 ∧ (k1 : Int).tmod 1200 = (r : Int) := ⟨k1 % 1200, by omega, by rw [Int.tmod_eq_emod_of_nonneg (by omega)]; omega⟩
  obtain ⟨N, hN, hN0, hw2⟩ : ∃ N : Nat, N ≤ 1200 ∧ 1 ≤ N ∧ 1 + (r : Int) = (N : Int) := ⟨1 + r, by omega, by omega, by omega⟩
  obtain ⟨M, hM, hm⟩ : ∃ M : Nat, M < 1200 ∧ (k2 : Int).tmod 1200 = (M : Int) := ⟨k2 % 1200, by omega, by rw [Int.tmod_eq_emod_of_nonneg (by omega)]; omega⟩
  go_enter Try.func4, Try.ntmps4
  go_wp2_with fail
  refine (shown_any _).mono ?_
  rintro e w1 ⟨rfl, hb1⟩
  have HB1 := Lib.hid hb1
  clear hb1
  go_wp2_with fail
  clear e1 e2 hw hw2 hm hk1 hk2 hr
  have hst : LmS w (w1.alloc (.cells #[.slice none 0 0, .slice none 0 0] 25)) w1.heap.size (.slice none 0 0) (.slice none 0 0) N 0 0 :=
    ⟨HB1.out.alloc HB1.out.size _, ⟨by simp [go_sem], by simp [go_sem]⟩, by simp [go_sem], by simp [go_sem], World.ownsRow_nil _ _ _ _, World.ownsRow_nil _ _ _ _, fun k hk => by simp [Value.ownBlock] at hk, HB1.out.size, by simp⟩
  have HST := Lib.hid hst
  clear hst
  generalize w1.alloc (.cells #[.slice none 0 0, .slice none 0 0] 25) = w2 at *
  go_loopw [9] (fun v9 wr => ∃ (i : Nat) (nv : Value), v9 = .int .i64 i ∧ i ≤ N ∧ Hid (LmS w wr w1.heap.size nv (.slice none 0 0) N i 0)) (fun v9 _ => N - (intOf v9).toNat)
  case atStart => exact ⟨0, _, rfl, by omega, HST⟩
  case round =>
    obtain ⟨i, nv, rfl, hi, HS⟩ := hrel
    clear HST
    by_cases hin : i < N
    · have hin' : (i : Int) < (N : Int) := by omega
      have c0 := HS.out.two.c0
      go_wp2_with fail
      have hi1 : i < 10 ^ (3 + 1) := by omega
      have hi2 : i < 9223372036854775808 := by omega
      have hi3 : 3 ≤ 20 := by omega
      have HCT := Lib.hid (int_any 3 i hi1 hi2 hi3)
      have hdl := decF_len 3 i
      have hadd : (Op.stringOp .add ⟨#[110]⟩ ⟨(decF 3 i).toArray⟩ : Sem Value) = pure (.string (nmL 110 i)) := str_cat [110] (decF 3 i) (110 :: decF 3 i) rfl (by simp; omega)
      have HO := Lib.hid HS.out.own0
      have hlt := HS.out.lt
      have hone : ∀ u ∈ [Value.string (nmL 110 i), .slice none 0 0, .slice none 0 0], u.oneCell' = true := by simp [Value.oneCell']
      have HONE := Lib.hid hone
      obtain ⟨D0, x0, hv0, -, -, -, -⟩ := (own_reads HS.out.own0).form
      subst hv0
      have hbnd : (i + 1) * 64 ≤ 140737488355328 := by omega
      have hbn2 : i + 1 ≤ 9223372036854775807 := by omega
      clear hi1 hi2 hi3 hdl hone
      have HOD : Hid (wr.drew.ownsRow (w1.heap.size + 1) 46 3 (.slice D0 i x0) i (cellsN (limN i))) := Lib.hid HO.out
      have HND := Lib.hid (fun k (hk : (Value.slice D0 i x0).ownBlock = some k) => own_lt HO.out k hk)
      have hne : some w1.heap.size ≠ (Value.slice D0 i x0).ownBlock := fun e => by have := HND.out _ e.symm; omega
      have hzd : wr.drew.frozen? ⟨w1.heap.size, 0, none⟩ = false := HS.out.z0
      have c0d : wr.drew.cell? ⟨w1.heap.size, 0, none⟩ = some (.slice D0 i x0) := c0
      have hltd : w1.heap.size < wr.drew.heap.size := hlt.2
      have HCT3 := Lib.hid (show ∀ W : World, Calls Try.prog 14 #[.int .i64 i] W fun e w' => ∃ v, e = .returned v ∧ (v = .string ⟨(decF 3 i).toArray⟩ ∧ Below W.heap.size W w') from fun W => (HCT.out W).mono fun e w' h => ⟨_, h.1, rfl, h.2⟩)
      go_region_law (first | (refine step_call (by rfl) 14 28 #[2] (by rfl) (.int .i64 i) (by rfl) (enter14 _ _) (HCT3.out wr.drew) ?_; rintro v w3 ⟨rfl, hb3⟩; have HB3 := Lib.hid hb3; have c3 := cell_b hb3 c0d; have hsz3 : wr.heap.size ≤ w3.heap.size := hb3.size; have hl3 : w1.heap.size < w3.heap.size := Nat.lt_of_lt_of_le hltd hb3.size; have hz3 : (w3.alloc (.cells #[.string (nmL 110 i), .slice none 0 0, .slice none 0 0] 46)).frozen? ⟨w1.heap.size, 0, none⟩ = false := (((Below.refl w3.heap.size w3).alloc (Nat.le_refl _) _).frozen (p := ⟨w1.heap.size, 0, none⟩) hl3).trans ((hb3.frozen (p := ⟨w1.heap.size, 0, none⟩) hltd).trans hzd); have HO3 := Lib.hid (World.ownsRow.alloc (own_below HOD.out hb3 (Nat.le_refl _)) (.cells #[.string (nmL 110 i), .slice none 0 0, .slice none 0 0] 46)); have HC3 := Lib.hid (new_cells2 w3 [.string (nmL 110 i), .slice none 0 0, .slice none 0 0] 46 _ rfl)) | (refine step_app tyN (by rfl) (.tmp 27) (.tmp 32) (by rfl) (v := .slice D0 i x0) (by rfl) HO3.out w3.heap.size 0 1 1 [.string (nmL 110 i), .slice none 0 0, .slice none 0 0] (by rfl) (by rfl) HC3.out HONE.out hbn2 hbnd (Nat.le_trans hl3 (by simp)) ?_; intro v4 w4 ho4 hg4 hn4; have c4 := hg4.cell (cell_b ((Below.refl _ _).alloc (Nat.le_refl _) _) c3) hne; have hz4 := (frozen_grown hg4 0 (Nat.lt_of_lt_of_le hl3 (by simp)) hne).trans hz3; have HO4 := Lib.hid ho4; have HG4 := Lib.hid hg4; have HN4 := Lib.hid hn4; obtain ⟨D4, x4, hv4, -, -, -, -⟩ := (own_reads ho4).form; subst hv4))
      all_goals go_wp2_with fail
      all_goals go_roundw
      all_goals first | (simp [intOf]; omega) | exact ⟨i + 1, _, by go_num, by omega, Lib.hid (((HS.out.keep (undrew HB3.out)).keep ((Below.refl _ _).alloc (Nat.le_refl _) _)).app0 HG4.out HN4.out (by rw [limN_succ, cellsN_append]; exact HO4.out))⟩
    · have hni : (N : Int) ≤ (i : Int) := by omega
      obtain rfl : i = N := by omega
      obtain ⟨D0, x0, hv0, -, -, -, -⟩ := (own_reads HS.out.own0).form
      subst hv0
      go_wp2_with fail
      go_loopw [10] (fun v10 wr => ∃ (j : Nat) (ev : Value), v10 = .int .i64 j ∧ j ≤ M ∧ Hid (LmS w wr w1.heap.size (.slice D0 i x0) ev i i j)) (fun v10 _ => M - (intOf v10).toNat)
      case atStart => exact ⟨0, _, rfl, by omega, HS⟩
      case round =>
        clear HS
        obtain ⟨j, ev, rfl, hj, HS⟩ := hrel
        by_cases hjn : j < M
        · have hjn' : (j : Int) < (M : Int) := by omega
          have c0 := HS.out.two.c1
          have hi1 : j < 10 ^ (3 + 1) := by omega
          have hi2 : j < 9223372036854775808 := by omega
          have hi3 : 3 ≤ 20 := by omega
          have HCT := Lib.hid (int_any 3 j hi1 hi2 hi3)
          have hdl := decF_len 3 j
          have hadd : (Op.stringOp .add ⟨#[101]⟩ ⟨(decF 3 j).toArray⟩ : Sem Value) = pure (.string (nmL 101 j)) := str_cat [101] (decF 3 j) (101 :: decF 3 j) rfl (by simp; omega)
          have HO := Lib.hid HS.out.own1
          have hlt := HS.out.lt
          obtain ⟨r1, hr1, hr1'⟩ : ∃ r1 : Int, (j : Int).tmod (i : Int) = r1 ∧ r1 = ((j % i : Nat) : Int) := ⟨_, rfl, by rw [Int.tmod_eq_emod_of_nonneg (by omega)]; rfl⟩
          obtain ⟨j7, hr3, hj7⟩ : ∃ j7 : Int, IntKind.i64.wrap ((j : Int) * 7) = j7 ∧ j7 = ((j * 7 : Nat) : Int) := ⟨_, rfl, by rw [IntKind.wrap_i64]; omega⟩
          obtain ⟨r2, hr2, hr2'⟩ : ∃ r2 : Int, j7.tmod (i : Int) = r2 ∧ r2 = ((j * 7 % i : Nat) : Int) := ⟨_, rfl, by rw [hj7, Int.tmod_eq_emod_of_nonneg (by omega)]; rfl⟩
          have HR1 := Lib.hid hr1'
          have HR2 := Lib.hid hr2'
          clear hr1' hr2' hj7
          have hone : ∀ u ∈ [Value.string (nmL 101 j), .int .i64 r1, .int .i64 r2, .bool false, .slice none 0 0, .slice none 0 0], u.oneCell' = true := by simp [Value.oneCell']
          have HONE := Lib.hid hone
          obtain ⟨E0, y0, hv1, -, -, -, -⟩ := (own_reads HS.out.own1).form
          subst hv1
          have hbnd : (j + 1) * 88 ≤ 140737488355328 := by omega
          have hbn2 : j + 1 ≤ 9223372036854775807 := by omega
          clear hi1 hi2 hi3 hdl hone
          have HOD : Hid (wr.drew.ownsRow (w1.heap.size + 1) 42 6 (.slice E0 j y0) j (cellsE (limE i j))) := Lib.hid HO.out
          have HND := Lib.hid (fun k (hk : (Value.slice E0 j y0).ownBlock = some k) => own_lt HO.out k hk)
          have hne : some w1.heap.size ≠ (Value.slice E0 j y0).ownBlock := fun e => by have := HND.out _ e.symm; omega
          have hzd : wr.drew.frozen? ⟨w1.heap.size, 1, none⟩ = false := HS.out.z1
          have c0d : wr.drew.cell? ⟨w1.heap.size, 1, none⟩ = some (.slice E0 j y0) := c0
          have hltd : w1.heap.size < wr.drew.heap.size := hlt.2
          have HCT3 := Lib.hid (show ∀ W : World, Calls Try.prog 14 #[.int .i64 j] W fun e w' => ∃ v, e = .returned v ∧ (v = .string ⟨(decF 3 j).toArray⟩ ∧ Below W.heap.size W w') from fun W => (HCT.out W).mono fun e w' h => ⟨_, h.1, rfl, h.2⟩)
          have hnz3 : ¬ i = 0 := by omega
          have hnz : ((i : Int) == 0) = false := by simp; omega
          have hnz2 : ¬ (i : Int) = 0 := by omega
          go_wp2_with fail
          go_region_law (first | (refine step_call (by rfl) 14 42 #[2] (by rfl) (.int .i64 j) (by kernel_rfl) (enter14 _ _) (HCT3.out wr.drew) ?_; rintro v w3 ⟨rfl, hb3⟩; have HB3 := Lib.hid hb3; have c3 := cell_b hb3 c0d; have hsz3 : wr.heap.size ≤ w3.heap.size := hb3.size; have hl3 : w1.heap.size < w3.heap.size := Nat.lt_of_lt_of_le hltd hb3.size; have hz3 : (w3.alloc (.cells #[.string (nmL 101 j), .int .i64 r1, .int .i64 r2, .bool false, .slice none 0 0, .slice none 0 0] 42)).frozen? ⟨w1.heap.size, 1, none⟩ = false := (((Below.refl w3.heap.size w3).alloc (Nat.le_refl _) _).frozen (p := ⟨w1.heap.size, 1, none⟩) hl3).trans ((hb3.frozen (p := ⟨w1.heap.size, 1, none⟩) hltd).trans hzd); have HO3 := Lib.hid (World.ownsRow.alloc (own_below HOD.out hb3 (Nat.le_refl _)) (.cells #[.string (nmL 101 j), .int .i64 r1, .int .i64 r2, .bool false, .slice none 0 0, .slice none 0 0] 42)); have HC3 := Lib.hid (new_cells2 w3 [.string (nmL 101 j), .int .i64 r1, .int .i64 r2, .bool false, .slice none 0 0, .slice none 0 0] 42 _ rfl)) | (refine step_app tyE (by rfl) (.tmp 41) (.tmp 53) (by rfl) (v := .slice E0 j y0) (by rfl) HO3.out w3.heap.size 0 1 1 [.string (nmL 101 j), .int .i64 r1, .int .i64 r2, .bool false, .slice none 0 0, .slice none 0 0] (by rfl) (by rfl) HC3.out HONE.out hbn2 hbnd (Nat.le_trans hl3 (by simp)) ?_; intro v4 w4 ho4 hg4 hn4; have c4 := hg4.cell (cell_b ((Below.refl _ _).alloc (Nat.le_refl _) _) c3) hne; have hz4 := (frozen_grown hg4 1 (Nat.lt_of_lt_of_le hl3 (by simp)) hne).trans hz3; have HO4 := Lib.hid ho4; have HG4 := Lib.hid hg4; have HN4 := Lib.hid hn4; obtain ⟨D4, x4, hv4, -, -, -, -⟩ := (own_reads ho4).form; subst hv4))
          all_goals go_wp2_with fail
          all_goals go_roundw
          all_goals first | (simp [intOf]; omega) | exact ⟨j + 1, _, by go_num, by omega, Lib.hid (((HS.out.keep (undrew HB3.out)).keep ((Below.refl _ _).alloc (Nat.le_refl _) _)).app1 HG4.out HN4.out (by rw [limE_succ, cellsE_append, ← HR1.out, ← HR2.out]; exact HO4.out))⟩
        · have hnj : (M : Int) ≤ (j : Int) := by omega
          obtain rfl : j = M := by omega
          have hM2 : j ≤ 1200 := by omega
          have HG := Lib.hid (HS.out.graph (by omega) hN hM2)
          obtain ⟨E0, y0, hv1, -, -, -, -⟩ := (own_reads HS.out.own1).form
          subst hv1
          have HBB := Lib.hid HS.out.below
          have k0 := HS.out.two.c0
          have k1 := HS.out.two.c1
          by_cases ht : tw = true ∧ 1 < i
          · obtain ⟨rfl, hi1⟩ := ht
            obtain ⟨K, hKi⟩ : ∃ K, i = K + 1 := ⟨i - 1, by omega⟩
            obtain ⟨g, cg, hv, hgc, hbg, hgl, hc, hz, hn2, he2, hT2, hB2⟩ := LmS.turn' hKi HS.out hN hM2
            have HN2 := Lib.hid hn2
            have HE2 := Lib.hid he2
            have HT2 := Lib.hid hT2
            have HBB := Lib.hid hB2
            clear hn2 he2 hT2 hB2 HS HG
            cases hv
            have hK1 : (i : Int) - 1 = (K : Int) := by omega
            have hK2 : (K : Int) < (i : Int) := by omega
            have hK3 : K < i := by omega
            have hi1' : (1 : Int) < (i : Int) := by omega
            have hn1 : ((i : Int) == 1) = false := by simp; omega
            clear hKi
            go_wp2_with fail
            generalize wr.setCell ⟨g, K * 3, none⟩ (.string ⟨#[110, 48]⟩) = w4 at *
            refine (graphRight_any _ (limT i) _ (limE i j) _ HN2.out HE2.out).mono ?_
            rintro e w5 ⟨rfl, hb5⟩
            by_cases hb1 : 1000 < i
            · have hb1' : (1000 : Int) < (i : Int) := by omega
              rw [lim_big (limT i) (limE i j) (by rw [limE_length, limT_length]; omega)]
              have HB5 := Lib.hid (HBB.out.trans (hb5.mono HBB.out.size))
              clear hb5
              go_wp2_with fail
              go_ret
              exact ⟨rfl, HB5.out⟩
            · have hb1' : (i : Int) ≤ 1000 := by omega
              by_cases hb2 : 1000 < j
              · have hb2' : (1000 : Int) < (j : Int) := by omega
                rw [lim_big (limT i) (limE i j) (by rw [limE_length, limT_length]; omega)]
                have HB5 := Lib.hid (HBB.out.trans (hb5.mono HBB.out.size))
                clear hb5
                go_wp2_with fail
                go_ret
                exact ⟨rfl, HB5.out⟩
              · have hb2' : (j : Int) ≤ 1000 := by omega
                rw [lim_twice i j (by omega) (by omega) (by omega)]
                have HB5 := Lib.hid (HBB.out.trans (hb5.mono HBB.out.size))
                clear hb5
                go_wp2_with fail
                go_ret
                exact ⟨rfl, HB5.out⟩
          · by_cases htw : tw = true
            · have hi1 : ¬ 1 < i := fun h => ht ⟨htw, h⟩
              subst htw
              obtain rfl : i = 1 := by omega
              go_wp2_with fail
              refine (graphRight_any _ (limN 1) _ (limE 1 j) _ HG.out.1 HG.out.2).mono ?_
              rintro e w5 ⟨rfl, hb5⟩
              by_cases hb2 : 1000 < j
              · have hb2' : (1000 : Int) < (j : Int) := by omega
                rw [lim_big (limN 1) (limE 1 j) (by rw [limE_length, limN_length]; omega)]
                have HB5 := Lib.hid (HBB.out.trans (hb5.mono HBB.out.size))
                clear hb5
                go_wp2_with fail
                go_ret
                exact ⟨rfl, HB5.out⟩
              · have hb2' : (j : Int) ≤ 1000 := by omega
                rw [lim_ok 1 j (by omega) (by omega) (by omega)]
                have HB5 := Lib.hid (HBB.out.trans (hb5.mono HBB.out.size))
                clear hb5
                go_wp2_with fail
                go_ret
                exact ⟨rfl, HB5.out⟩
            · have htw : tw = false := by simpa using htw
              subst htw
              go_wp2_with fail
              refine (graphRight_any _ (limN i) _ (limE i j) _ HG.out.1 HG.out.2).mono ?_
              rintro e w5 ⟨rfl, hb5⟩
              by_cases hb1 : 1000 < i
              · have hb1' : (1000 : Int) < (i : Int) := by omega
                rw [lim_big (limN i) (limE i j) (by rw [limE_length, limN_length]; omega)]
                have HB5 := Lib.hid (HBB.out.trans (hb5.mono HBB.out.size))
                clear hb5
                go_wp2_with fail
                go_ret
                exact ⟨rfl, HB5.out⟩
              · have hb1' : (i : Int) ≤ 1000 := by omega
                by_cases hb2 : 1000 < j
                · have hb2' : (1000 : Int) < (j : Int) := by omega
                  rw [lim_big (limN i) (limE i j) (by rw [limE_length, limN_length]; omega)]
                  have HB5 := Lib.hid (HBB.out.trans (hb5.mono HBB.out.size))
                  clear hb5
                  go_wp2_with fail
                  go_ret
                  exact ⟨rfl, HB5.out⟩
                · have hb2' : (j : Int) ≤ 1000 := by omega
                  rw [lim_ok i j (by omega) (by omega) (by omega)]
                  have HB5 := Lib.hid (HBB.out.trans (hb5.mono HBB.out.size))
                  clear hb5
                  go_wp2_with fail
                  go_ret
                  exact ⟨rfl, HB5.out⟩
end Go.Proofs.Ytbolojjnkkgehaa
