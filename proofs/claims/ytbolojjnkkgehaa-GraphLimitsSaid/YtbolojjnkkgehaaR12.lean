import Derived.Test.YtbolojjnkkgehaaOus
namespace Go.Proofs.Ytbolojjnkkgehaa
open Go.RowKit Go.Shelf

/-- The operations of a region, by its number. -/
def opsOf (n : Nat) : Code → Option (Array Oper)
  | .region i ops _ => if i = n then some ops else none
  | .seq a b => (opsOf n a).or (opsOf n b)
  | .block _ c => opsOf n c
  | .loop c => opsOf n c
  | .cond _ a b => (opsOf n a).or (opsOf n b)
  | .rangeFunc _ _ a b => (opsOf n a).or (opsOf n b)
  | _ => none
noncomputable def ops12 : Option (Array Oper) := Try.f10.body.bind (opsOf 12)

def A12 (H xb p ob lb m j : Nat) (x : Ld) (vj v' : Value) (x0 x1 x2 x3 x4 x6 x7 x10 x11 x12 x13 x14 x15 x16 x17 x18 x19 x20 x21 x22 x23 x24 x25 x26 x27 x28 x29 x30 x31 x32 x33 x34 x35 x36 x37 x38 x39 x40 x41 x42 x43 x44 x45 x46 x47 x48 x49 x50 x51 x52 x53 x54 x55 x56 x57 x58 : Value) (L : Nat → Bool) : Act := { tmps := #[x0, x1, x2, x3, x4, .pointer (some ⟨xb, 0, none⟩), x6, x7, .int .i64 (j : Int), .pointer (some ⟨lb, 0, none⟩), x10, x11, x12, x13, x14, x15, x16, x17, x18, x19, x20, x21, x22, x23, x24, x25, x26, x27, x28, x29, x30, x31, x32, x33, x34, x35, x36, x37, x38, x39, x40, if L 0 then .pointer (some ⟨p, 0, none⟩) else x41, if L 1 then .pointer (some ⟨p, 0, none⟩) else x42, if L 2 then .pointer (some ⟨p, 4, none⟩) else x43, if L 3 then .slice (some ⟨ob, 0, none⟩) m m else x44, if L 4 then .int .i64 (j : Int) else x45, if L 5 then .pointer (some ⟨p, 0, none⟩) else x46, if L 6 then .pointer (some ⟨p, 0, none⟩) else x47, if L 7 then .pointer (some ⟨p, 4, none⟩) else x48, if L 8 then .slice (some ⟨ob, 0, none⟩) m m else x49, if L 9 then .int .i64 (j : Int) else x50, if L 10 then .pointer (some ⟨ob, j, none⟩) else x51, if L 11 then vj else x52, if L 12 then LEAD x else x53, if L 13 then .slice (some ⟨H, 0, none⟩) 1 1 else x54, if L 14 then v' else x55, if L 15 then .pointer (some ⟨ob, j, none⟩) else x56, x57, x58], defers := [] }
def W12 (w0 w1 w2 w3 : World) (L : Nat → Bool) : World := if L 16 then w3 else if L 14 then w2 else if L 13 then w1 else w0

/-- What the region reads. -/
structure Rd12 (w : World) (xb p ob m j : Nat) (vj : Value) : Prop where
  x0 : w.cell? ⟨xb, 0, none⟩ = some (.pointer (some ⟨p, 0, none⟩))
  p4 : w.cell? ⟨p, 4, none⟩ = some (.slice (some ⟨ob, 0, none⟩) m m)
  oj : w.cell? ⟨ob, j, none⟩ = some vj

/-- One operation that yields a value. -/
theorem op_value {F : Fence} {n : Nat} {P : Program} {ops : Array Oper} {Q : Exit → Act → World → Prop} {i l : Nat} {o : Oper} {K : Act → World → Prop} {a : Act} {w w' : World} {v : Value} (hF : ∀ f, F.fn f) (ho : ops[i]? = some o) (hg : o.guard = none) (hd : ∀ c, o.op ≠ .defer c)
    (hr : (execOp a.eval o).run P w = .ok (.value v) w') (hK : K (a.put o.dst v) w') : wpOpIn (F.inRound l) n P ops Q i K a w := by
  unfold wpOpIn
  rw [ho]
  have hw : Region.wanted o (yielded ops a.tmps) = true := by simp [Region.wanted, hg]
  simp only [hw, if_true]
  refine ⟨fun f _ => hF f, ?_⟩
  rw [Oper.semAt_eq _ _ _ hd, hr]
  exact hK
/-- .. that yields none. -/
theorem op_skip {F : Fence} {n : Nat} {P : Program} {ops : Array Oper} {Q : Exit → Act → World → Prop} {i l : Nat} {o : Oper} {K : Act → World → Prop} {a : Act} {w w' : World} (hF : ∀ f, F.fn f) (ho : ops[i]? = some o) (hg : o.guard = none) (hd : ∀ c, o.op ≠ .defer c)
    (hr : (execOp a.eval o).run P w = .ok .skip w') (hK : K (a.put o.dst undef) w') : wpOpIn (F.inRound l) n P ops Q i K a w := by
  unfold wpOpIn
  rw [ho]
  have hw : Region.wanted o (yielded ops a.tmps) = true := by simp [Region.wanted, hg]
  simp only [hw, if_true]
  refine ⟨fun f _ => hF f, ?_⟩
  rw [Oper.semAt_eq _ _ _ hd, hr]
  exact hK

theorem put12_0 (H xb p ob lb m j : Nat) (x : Ld) (vj v' : Value) (x0 x1 x2 x3 x4 x6 x7 x10 x11 x12 x13 x14 x15 x16 x17 x18 x19 x20 x21 x22 x23 x24 x25 x26 x27 x28 x29 x30 x31 x32 x33 x34 x35 x36 x37 x38 x39 x40 x41 x42 x43 x44 x45 x46 x47 x48 x49 x50 x51 x52 x53 x54 x55 x56 x57 x58 : Value) (L : Nat → Bool) : (A12 H xb p ob lb m j x vj v' x0 x1 x2 x3 x4 x6 x7 x10 x11 x12 x13 x14 x15 x16 x17 x18 x19 x20 x21 x22 x23 x24 x25 x26 x27 x28 x29 x30 x31 x32 x33 x34 x35 x36 x37 x38 x39 x40 x41 x42 x43 x44 x45 x46 x47 x48 x49 x50 x51 x52 x53 x54 x55 x56 x57 x58 L).put (some 41) (.pointer (some ⟨p, 0, none⟩)) = A12 H xb p ob lb m j x vj v' x0 x1 x2 x3 x4 x6 x7 x10 x11 x12 x13 x14 x15 x16 x17 x18 x19 x20 x21 x22 x23 x24 x25 x26 x27 x28 x29 x30 x31 x32 x33 x34 x35 x36 x37 x38 x39 x40 x41 x42 x43 x44 x45 x46 x47 x48 x49 x50 x51 x52 x53 x54 x55 x56 x57 x58 (upd L 0) := by
  simp [A12, Act.put, upd]
theorem put12_1 (H xb p ob lb m j : Nat) (x : Ld) (vj v' : Value) (x0 x1 x2 x3 x4 x6 x7 x10 x11 x12 x13 x14 x15 x16 x17 x18 x19 x20 x21 x22 x23 x24 x25 x26 x27 x28 x29 x30 x31 x32 x33 x34 x35 x36 x37 x38 x39 x40 x41 x42 x43 x44 x45 x46 x47 x48 x49 x50 x51 x52 x53 x54 x55 x56 x57 x58 : Value) (L : Nat → Bool) : (A12 H xb p ob lb m j x vj v' x0 x1 x2 x3 x4 x6 x7 x10 x11 x12 x13 x14 x15 x16 x17 x18 x19 x20 x21 x22 x23 x24 x25 x26 x27 x28 x29 x30 x31 x32 x33 x34 x35 x36 x37 x38 x39 x40 x41 x42 x43 x44 x45 x46 x47 x48 x49 x50 x51 x52 x53 x54 x55 x56 x57 x58 L).put (some 42) (.pointer (some ⟨p, 0, none⟩)) = A12 H xb p ob lb m j x vj v' x0 x1 x2 x3 x4 x6 x7 x10 x11 x12 x13 x14 x15 x16 x17 x18 x19 x20 x21 x22 x23 x24 x25 x26 x27 x28 x29 x30 x31 x32 x33 x34 x35 x36 x37 x38 x39 x40 x41 x42 x43 x44 x45 x46 x47 x48 x49 x50 x51 x52 x53 x54 x55 x56 x57 x58 (upd L 1) := by
  simp [A12, Act.put, upd]
theorem put12_2 (H xb p ob lb m j : Nat) (x : Ld) (vj v' : Value) (x0 x1 x2 x3 x4 x6 x7 x10 x11 x12 x13 x14 x15 x16 x17 x18 x19 x20 x21 x22 x23 x24 x25 x26 x27 x28 x29 x30 x31 x32 x33 x34 x35 x36 x37 x38 x39 x40 x41 x42 x43 x44 x45 x46 x47 x48 x49 x50 x51 x52 x53 x54 x55 x56 x57 x58 : Value) (L : Nat → Bool) : (A12 H xb p ob lb m j x vj v' x0 x1 x2 x3 x4 x6 x7 x10 x11 x12 x13 x14 x15 x16 x17 x18 x19 x20 x21 x22 x23 x24 x25 x26 x27 x28 x29 x30 x31 x32 x33 x34 x35 x36 x37 x38 x39 x40 x41 x42 x43 x44 x45 x46 x47 x48 x49 x50 x51 x52 x53 x54 x55 x56 x57 x58 L).put (some 43) (.pointer (some ⟨p, 4, none⟩)) = A12 H xb p ob lb m j x vj v' x0 x1 x2 x3 x4 x6 x7 x10 x11 x12 x13 x14 x15 x16 x17 x18 x19 x20 x21 x22 x23 x24 x25 x26 x27 x28 x29 x30 x31 x32 x33 x34 x35 x36 x37 x38 x39 x40 x41 x42 x43 x44 x45 x46 x47 x48 x49 x50 x51 x52 x53 x54 x55 x56 x57 x58 (upd L 2) := by
  simp [A12, Act.put, upd]
theorem put12_3 (H xb p ob lb m j : Nat) (x : Ld) (vj v' : Value) (x0 x1 x2 x3 x4 x6 x7 x10 x11 x12 x13 x14 x15 x16 x17 x18 x19 x20 x21 x22 x23 x24 x25 x26 x27 x28 x29 x30 x31 x32 x33 x34 x35 x36 x37 x38 x39 x40 x41 x42 x43 x44 x45 x46 x47 x48 x49 x50 x51 x52 x53 x54 x55 x56 x57 x58 : Value) (L : Nat → Bool) : (A12 H xb p ob lb m j x vj v' x0 x1 x2 x3 x4 x6 x7 x10 x11 x12 x13 x14 x15 x16 x17 x18 x19 x20 x21 x22 x23 x24 x25 x26 x27 x28 x29 x30 x31 x32 x33 x34 x35 x36 x37 x38 x39 x40 x41 x42 x43 x44 x45 x46 x47 x48 x49 x50 x51 x52 x53 x54 x55 x56 x57 x58 L).put (some 44) (.slice (some ⟨ob, 0, none⟩) m m) = A12 H xb p ob lb m j x vj v' x0 x1 x2 x3 x4 x6 x7 x10 x11 x12 x13 x14 x15 x16 x17 x18 x19 x20 x21 x22 x23 x24 x25 x26 x27 x28 x29 x30 x31 x32 x33 x34 x35 x36 x37 x38 x39 x40 x41 x42 x43 x44 x45 x46 x47 x48 x49 x50 x51 x52 x53 x54 x55 x56 x57 x58 (upd L 3) := by
  simp [A12, Act.put, upd]
theorem put12_4 (H xb p ob lb m j : Nat) (x : Ld) (vj v' : Value) (x0 x1 x2 x3 x4 x6 x7 x10 x11 x12 x13 x14 x15 x16 x17 x18 x19 x20 x21 x22 x23 x24 x25 x26 x27 x28 x29 x30 x31 x32 x33 x34 x35 x36 x37 x38 x39 x40 x41 x42 x43 x44 x45 x46 x47 x48 x49 x50 x51 x52 x53 x54 x55 x56 x57 x58 : Value) (L : Nat → Bool) : (A12 H xb p ob lb m j x vj v' x0 x1 x2 x3 x4 x6 x7 x10 x11 x12 x13 x14 x15 x16 x17 x18 x19 x20 x21 x22 x23 x24 x25 x26 x27 x28 x29 x30 x31 x32 x33 x34 x35 x36 x37 x38 x39 x40 x41 x42 x43 x44 x45 x46 x47 x48 x49 x50 x51 x52 x53 x54 x55 x56 x57 x58 L).put (some 45) (.int .i64 (j : Int)) = A12 H xb p ob lb m j x vj v' x0 x1 x2 x3 x4 x6 x7 x10 x11 x12 x13 x14 x15 x16 x17 x18 x19 x20 x21 x22 x23 x24 x25 x26 x27 x28 x29 x30 x31 x32 x33 x34 x35 x36 x37 x38 x39 x40 x41 x42 x43 x44 x45 x46 x47 x48 x49 x50 x51 x52 x53 x54 x55 x56 x57 x58 (upd L 4) := by
  simp [A12, Act.put, upd]
theorem put12_5 (H xb p ob lb m j : Nat) (x : Ld) (vj v' : Value) (x0 x1 x2 x3 x4 x6 x7 x10 x11 x12 x13 x14 x15 x16 x17 x18 x19 x20 x21 x22 x23 x24 x25 x26 x27 x28 x29 x30 x31 x32 x33 x34 x35 x36 x37 x38 x39 x40 x41 x42 x43 x44 x45 x46 x47 x48 x49 x50 x51 x52 x53 x54 x55 x56 x57 x58 : Value) (L : Nat → Bool) : (A12 H xb p ob lb m j x vj v' x0 x1 x2 x3 x4 x6 x7 x10 x11 x12 x13 x14 x15 x16 x17 x18 x19 x20 x21 x22 x23 x24 x25 x26 x27 x28 x29 x30 x31 x32 x33 x34 x35 x36 x37 x38 x39 x40 x41 x42 x43 x44 x45 x46 x47 x48 x49 x50 x51 x52 x53 x54 x55 x56 x57 x58 L).put (some 46) (.pointer (some ⟨p, 0, none⟩)) = A12 H xb p ob lb m j x vj v' x0 x1 x2 x3 x4 x6 x7 x10 x11 x12 x13 x14 x15 x16 x17 x18 x19 x20 x21 x22 x23 x24 x25 x26 x27 x28 x29 x30 x31 x32 x33 x34 x35 x36 x37 x38 x39 x40 x41 x42 x43 x44 x45 x46 x47 x48 x49 x50 x51 x52 x53 x54 x55 x56 x57 x58 (upd L 5) := by
  simp [A12, Act.put, upd]
theorem put12_6 (H xb p ob lb m j : Nat) (x : Ld) (vj v' : Value) (x0 x1 x2 x3 x4 x6 x7 x10 x11 x12 x13 x14 x15 x16 x17 x18 x19 x20 x21 x22 x23 x24 x25 x26 x27 x28 x29 x30 x31 x32 x33 x34 x35 x36 x37 x38 x39 x40 x41 x42 x43 x44 x45 x46 x47 x48 x49 x50 x51 x52 x53 x54 x55 x56 x57 x58 : Value) (L : Nat → Bool) : (A12 H xb p ob lb m j x vj v' x0 x1 x2 x3 x4 x6 x7 x10 x11 x12 x13 x14 x15 x16 x17 x18 x19 x20 x21 x22 x23 x24 x25 x26 x27 x28 x29 x30 x31 x32 x33 x34 x35 x36 x37 x38 x39 x40 x41 x42 x43 x44 x45 x46 x47 x48 x49 x50 x51 x52 x53 x54 x55 x56 x57 x58 L).put (some 47) (.pointer (some ⟨p, 0, none⟩)) = A12 H xb p ob lb m j x vj v' x0 x1 x2 x3 x4 x6 x7 x10 x11 x12 x13 x14 x15 x16 x17 x18 x19 x20 x21 x22 x23 x24 x25 x26 x27 x28 x29 x30 x31 x32 x33 x34 x35 x36 x37 x38 x39 x40 x41 x42 x43 x44 x45 x46 x47 x48 x49 x50 x51 x52 x53 x54 x55 x56 x57 x58 (upd L 6) := by
  simp [A12, Act.put, upd]
theorem put12_7 (H xb p ob lb m j : Nat) (x : Ld) (vj v' : Value) (x0 x1 x2 x3 x4 x6 x7 x10 x11 x12 x13 x14 x15 x16 x17 x18 x19 x20 x21 x22 x23 x24 x25 x26 x27 x28 x29 x30 x31 x32 x33 x34 x35 x36 x37 x38 x39 x40 x41 x42 x43 x44 x45 x46 x47 x48 x49 x50 x51 x52 x53 x54 x55 x56 x57 x58 : Value) (L : Nat → Bool) : (A12 H xb p ob lb m j x vj v' x0 x1 x2 x3 x4 x6 x7 x10 x11 x12 x13 x14 x15 x16 x17 x18 x19 x20 x21 x22 x23 x24 x25 x26 x27 x28 x29 x30 x31 x32 x33 x34 x35 x36 x37 x38 x39 x40 x41 x42 x43 x44 x45 x46 x47 x48 x49 x50 x51 x52 x53 x54 x55 x56 x57 x58 L).put (some 48) (.pointer (some ⟨p, 4, none⟩)) = A12 H xb p ob lb m j x vj v' x0 x1 x2 x3 x4 x6 x7 x10 x11 x12 x13 x14 x15 x16 x17 x18 x19 x20 x21 x22 x23 x24 x25 x26 x27 x28 x29 x30 x31 x32 x33 x34 x35 x36 x37 x38 x39 x40 x41 x42 x43 x44 x45 x46 x47 x48 x49 x50 x51 x52 x53 x54 x55 x56 x57 x58 (upd L 7) := by
  simp [A12, Act.put, upd]
theorem put12_8 (H xb p ob lb m j : Nat) (x : Ld) (vj v' : Value) (x0 x1 x2 x3 x4 x6 x7 x10 x11 x12 x13 x14 x15 x16 x17 x18 x19 x20 x21 x22 x23 x24 x25 x26 x27 x28 x29 x30 x31 x32 x33 x34 x35 x36 x37 x38 x39 x40 x41 x42 x43 x44 x45 x46 x47 x48 x49 x50 x51 x52 x53 x54 x55 x56 x57 x58 : Value) (L : Nat → Bool) : (A12 H xb p ob lb m j x vj v' x0 x1 x2 x3 x4 x6 x7 x10 x11 x12 x13 x14 x15 x16 x17 x18 x19 x20 x21 x22 x23 x24 x25 x26 x27 x28 x29 x30 x31 x32 x33 x34 x35 x36 x37 x38 x39 x40 x41 x42 x43 x44 x45 x46 x47 x48 x49 x50 x51 x52 x53 x54 x55 x56 x57 x58 L).put (some 49) (.slice (some ⟨ob, 0, none⟩) m m) = A12 H xb p ob lb m j x vj v' x0 x1 x2 x3 x4 x6 x7 x10 x11 x12 x13 x14 x15 x16 x17 x18 x19 x20 x21 x22 x23 x24 x25 x26 x27 x28 x29 x30 x31 x32 x33 x34 x35 x36 x37 x38 x39 x40 x41 x42 x43 x44 x45 x46 x47 x48 x49 x50 x51 x52 x53 x54 x55 x56 x57 x58 (upd L 8) := by
  simp [A12, Act.put, upd]
theorem put12_9 (H xb p ob lb m j : Nat) (x : Ld) (vj v' : Value) (x0 x1 x2 x3 x4 x6 x7 x10 x11 x12 x13 x14 x15 x16 x17 x18 x19 x20 x21 x22 x23 x24 x25 x26 x27 x28 x29 x30 x31 x32 x33 x34 x35 x36 x37 x38 x39 x40 x41 x42 x43 x44 x45 x46 x47 x48 x49 x50 x51 x52 x53 x54 x55 x56 x57 x58 : Value) (L : Nat → Bool) : (A12 H xb p ob lb m j x vj v' x0 x1 x2 x3 x4 x6 x7 x10 x11 x12 x13 x14 x15 x16 x17 x18 x19 x20 x21 x22 x23 x24 x25 x26 x27 x28 x29 x30 x31 x32 x33 x34 x35 x36 x37 x38 x39 x40 x41 x42 x43 x44 x45 x46 x47 x48 x49 x50 x51 x52 x53 x54 x55 x56 x57 x58 L).put (some 50) (.int .i64 (j : Int)) = A12 H xb p ob lb m j x vj v' x0 x1 x2 x3 x4 x6 x7 x10 x11 x12 x13 x14 x15 x16 x17 x18 x19 x20 x21 x22 x23 x24 x25 x26 x27 x28 x29 x30 x31 x32 x33 x34 x35 x36 x37 x38 x39 x40 x41 x42 x43 x44 x45 x46 x47 x48 x49 x50 x51 x52 x53 x54 x55 x56 x57 x58 (upd L 9) := by
  simp [A12, Act.put, upd]
theorem put12_10 (H xb p ob lb m j : Nat) (x : Ld) (vj v' : Value) (x0 x1 x2 x3 x4 x6 x7 x10 x11 x12 x13 x14 x15 x16 x17 x18 x19 x20 x21 x22 x23 x24 x25 x26 x27 x28 x29 x30 x31 x32 x33 x34 x35 x36 x37 x38 x39 x40 x41 x42 x43 x44 x45 x46 x47 x48 x49 x50 x51 x52 x53 x54 x55 x56 x57 x58 : Value) (L : Nat → Bool) : (A12 H xb p ob lb m j x vj v' x0 x1 x2 x3 x4 x6 x7 x10 x11 x12 x13 x14 x15 x16 x17 x18 x19 x20 x21 x22 x23 x24 x25 x26 x27 x28 x29 x30 x31 x32 x33 x34 x35 x36 x37 x38 x39 x40 x41 x42 x43 x44 x45 x46 x47 x48 x49 x50 x51 x52 x53 x54 x55 x56 x57 x58 L).put (some 51) (.pointer (some ⟨ob, j, none⟩)) = A12 H xb p ob lb m j x vj v' x0 x1 x2 x3 x4 x6 x7 x10 x11 x12 x13 x14 x15 x16 x17 x18 x19 x20 x21 x22 x23 x24 x25 x26 x27 x28 x29 x30 x31 x32 x33 x34 x35 x36 x37 x38 x39 x40 x41 x42 x43 x44 x45 x46 x47 x48 x49 x50 x51 x52 x53 x54 x55 x56 x57 x58 (upd L 10) := by
  simp [A12, Act.put, upd]
theorem put12_11 (H xb p ob lb m j : Nat) (x : Ld) (vj v' : Value) (x0 x1 x2 x3 x4 x6 x7 x10 x11 x12 x13 x14 x15 x16 x17 x18 x19 x20 x21 x22 x23 x24 x25 x26 x27 x28 x29 x30 x31 x32 x33 x34 x35 x36 x37 x38 x39 x40 x41 x42 x43 x44 x45 x46 x47 x48 x49 x50 x51 x52 x53 x54 x55 x56 x57 x58 : Value) (L : Nat → Bool) : (A12 H xb p ob lb m j x vj v' x0 x1 x2 x3 x4 x6 x7 x10 x11 x12 x13 x14 x15 x16 x17 x18 x19 x20 x21 x22 x23 x24 x25 x26 x27 x28 x29 x30 x31 x32 x33 x34 x35 x36 x37 x38 x39 x40 x41 x42 x43 x44 x45 x46 x47 x48 x49 x50 x51 x52 x53 x54 x55 x56 x57 x58 L).put (some 52) (vj) = A12 H xb p ob lb m j x vj v' x0 x1 x2 x3 x4 x6 x7 x10 x11 x12 x13 x14 x15 x16 x17 x18 x19 x20 x21 x22 x23 x24 x25 x26 x27 x28 x29 x30 x31 x32 x33 x34 x35 x36 x37 x38 x39 x40 x41 x42 x43 x44 x45 x46 x47 x48 x49 x50 x51 x52 x53 x54 x55 x56 x57 x58 (upd L 11) := by
  simp [A12, Act.put, upd]
theorem put12_12 (H xb p ob lb m j : Nat) (x : Ld) (vj v' : Value) (x0 x1 x2 x3 x4 x6 x7 x10 x11 x12 x13 x14 x15 x16 x17 x18 x19 x20 x21 x22 x23 x24 x25 x26 x27 x28 x29 x30 x31 x32 x33 x34 x35 x36 x37 x38 x39 x40 x41 x42 x43 x44 x45 x46 x47 x48 x49 x50 x51 x52 x53 x54 x55 x56 x57 x58 : Value) (L : Nat → Bool) : (A12 H xb p ob lb m j x vj v' x0 x1 x2 x3 x4 x6 x7 x10 x11 x12 x13 x14 x15 x16 x17 x18 x19 x20 x21 x22 x23 x24 x25 x26 x27 x28 x29 x30 x31 x32 x33 x34 x35 x36 x37 x38 x39 x40 x41 x42 x43 x44 x45 x46 x47 x48 x49 x50 x51 x52 x53 x54 x55 x56 x57 x58 L).put (some 53) (LEAD x) = A12 H xb p ob lb m j x vj v' x0 x1 x2 x3 x4 x6 x7 x10 x11 x12 x13 x14 x15 x16 x17 x18 x19 x20 x21 x22 x23 x24 x25 x26 x27 x28 x29 x30 x31 x32 x33 x34 x35 x36 x37 x38 x39 x40 x41 x42 x43 x44 x45 x46 x47 x48 x49 x50 x51 x52 x53 x54 x55 x56 x57 x58 (upd L 12) := by
  simp [A12, Act.put, upd]
theorem put12_13 (H xb p ob lb m j : Nat) (x : Ld) (vj v' : Value) (x0 x1 x2 x3 x4 x6 x7 x10 x11 x12 x13 x14 x15 x16 x17 x18 x19 x20 x21 x22 x23 x24 x25 x26 x27 x28 x29 x30 x31 x32 x33 x34 x35 x36 x37 x38 x39 x40 x41 x42 x43 x44 x45 x46 x47 x48 x49 x50 x51 x52 x53 x54 x55 x56 x57 x58 : Value) (L : Nat → Bool) : (A12 H xb p ob lb m j x vj v' x0 x1 x2 x3 x4 x6 x7 x10 x11 x12 x13 x14 x15 x16 x17 x18 x19 x20 x21 x22 x23 x24 x25 x26 x27 x28 x29 x30 x31 x32 x33 x34 x35 x36 x37 x38 x39 x40 x41 x42 x43 x44 x45 x46 x47 x48 x49 x50 x51 x52 x53 x54 x55 x56 x57 x58 L).put (some 54) (.slice (some ⟨H, 0, none⟩) 1 1) = A12 H xb p ob lb m j x vj v' x0 x1 x2 x3 x4 x6 x7 x10 x11 x12 x13 x14 x15 x16 x17 x18 x19 x20 x21 x22 x23 x24 x25 x26 x27 x28 x29 x30 x31 x32 x33 x34 x35 x36 x37 x38 x39 x40 x41 x42 x43 x44 x45 x46 x47 x48 x49 x50 x51 x52 x53 x54 x55 x56 x57 x58 (upd L 13) := by
  simp [A12, Act.put, upd]
theorem put12_14 (H xb p ob lb m j : Nat) (x : Ld) (vj v' : Value) (x0 x1 x2 x3 x4 x6 x7 x10 x11 x12 x13 x14 x15 x16 x17 x18 x19 x20 x21 x22 x23 x24 x25 x26 x27 x28 x29 x30 x31 x32 x33 x34 x35 x36 x37 x38 x39 x40 x41 x42 x43 x44 x45 x46 x47 x48 x49 x50 x51 x52 x53 x54 x55 x56 x57 x58 : Value) (L : Nat → Bool) : (A12 H xb p ob lb m j x vj v' x0 x1 x2 x3 x4 x6 x7 x10 x11 x12 x13 x14 x15 x16 x17 x18 x19 x20 x21 x22 x23 x24 x25 x26 x27 x28 x29 x30 x31 x32 x33 x34 x35 x36 x37 x38 x39 x40 x41 x42 x43 x44 x45 x46 x47 x48 x49 x50 x51 x52 x53 x54 x55 x56 x57 x58 L).put (some 55) (v') = A12 H xb p ob lb m j x vj v' x0 x1 x2 x3 x4 x6 x7 x10 x11 x12 x13 x14 x15 x16 x17 x18 x19 x20 x21 x22 x23 x24 x25 x26 x27 x28 x29 x30 x31 x32 x33 x34 x35 x36 x37 x38 x39 x40 x41 x42 x43 x44 x45 x46 x47 x48 x49 x50 x51 x52 x53 x54 x55 x56 x57 x58 (upd L 14) := by
  simp [A12, Act.put, upd]
theorem put12_15 (H xb p ob lb m j : Nat) (x : Ld) (vj v' : Value) (x0 x1 x2 x3 x4 x6 x7 x10 x11 x12 x13 x14 x15 x16 x17 x18 x19 x20 x21 x22 x23 x24 x25 x26 x27 x28 x29 x30 x31 x32 x33 x34 x35 x36 x37 x38 x39 x40 x41 x42 x43 x44 x45 x46 x47 x48 x49 x50 x51 x52 x53 x54 x55 x56 x57 x58 : Value) (L : Nat → Bool) : (A12 H xb p ob lb m j x vj v' x0 x1 x2 x3 x4 x6 x7 x10 x11 x12 x13 x14 x15 x16 x17 x18 x19 x20 x21 x22 x23 x24 x25 x26 x27 x28 x29 x30 x31 x32 x33 x34 x35 x36 x37 x38 x39 x40 x41 x42 x43 x44 x45 x46 x47 x48 x49 x50 x51 x52 x53 x54 x55 x56 x57 x58 L).put (some 56) (.pointer (some ⟨ob, j, none⟩)) = A12 H xb p ob lb m j x vj v' x0 x1 x2 x3 x4 x6 x7 x10 x11 x12 x13 x14 x15 x16 x17 x18 x19 x20 x21 x22 x23 x24 x25 x26 x27 x28 x29 x30 x31 x32 x33 x34 x35 x36 x37 x38 x39 x40 x41 x42 x43 x44 x45 x46 x47 x48 x49 x50 x51 x52 x53 x54 x55 x56 x57 x58 (upd L 15) := by
  simp [A12, Act.put, upd]
theorem get12_5 (H xb p ob lb m j : Nat) (x : Ld) (vj v' : Value) (x0 x1 x2 x3 x4 x6 x7 x10 x11 x12 x13 x14 x15 x16 x17 x18 x19 x20 x21 x22 x23 x24 x25 x26 x27 x28 x29 x30 x31 x32 x33 x34 x35 x36 x37 x38 x39 x40 x41 x42 x43 x44 x45 x46 x47 x48 x49 x50 x51 x52 x53 x54 x55 x56 x57 x58 : Value) (L : Nat → Bool) : (A12 H xb p ob lb m j x vj v' x0 x1 x2 x3 x4 x6 x7 x10 x11 x12 x13 x14 x15 x16 x17 x18 x19 x20 x21 x22 x23 x24 x25 x26 x27 x28 x29 x30 x31 x32 x33 x34 x35 x36 x37 x38 x39 x40 x41 x42 x43 x44 x45 x46 x47 x48 x49 x50 x51 x52 x53 x54 x55 x56 x57 x58 L).tmps[5]?.getD undef = .pointer (some ⟨xb, 0, none⟩) := rfl
theorem get12_8 (H xb p ob lb m j : Nat) (x : Ld) (vj v' : Value) (x0 x1 x2 x3 x4 x6 x7 x10 x11 x12 x13 x14 x15 x16 x17 x18 x19 x20 x21 x22 x23 x24 x25 x26 x27 x28 x29 x30 x31 x32 x33 x34 x35 x36 x37 x38 x39 x40 x41 x42 x43 x44 x45 x46 x47 x48 x49 x50 x51 x52 x53 x54 x55 x56 x57 x58 : Value) (L : Nat → Bool) : (A12 H xb p ob lb m j x vj v' x0 x1 x2 x3 x4 x6 x7 x10 x11 x12 x13 x14 x15 x16 x17 x18 x19 x20 x21 x22 x23 x24 x25 x26 x27 x28 x29 x30 x31 x32 x33 x34 x35 x36 x37 x38 x39 x40 x41 x42 x43 x44 x45 x46 x47 x48 x49 x50 x51 x52 x53 x54 x55 x56 x57 x58 L).tmps[8]?.getD undef = .int .i64 (j : Int) := rfl
theorem get12_9 (H xb p ob lb m j : Nat) (x : Ld) (vj v' : Value) (x0 x1 x2 x3 x4 x6 x7 x10 x11 x12 x13 x14 x15 x16 x17 x18 x19 x20 x21 x22 x23 x24 x25 x26 x27 x28 x29 x30 x31 x32 x33 x34 x35 x36 x37 x38 x39 x40 x41 x42 x43 x44 x45 x46 x47 x48 x49 x50 x51 x52 x53 x54 x55 x56 x57 x58 : Value) (L : Nat → Bool) : (A12 H xb p ob lb m j x vj v' x0 x1 x2 x3 x4 x6 x7 x10 x11 x12 x13 x14 x15 x16 x17 x18 x19 x20 x21 x22 x23 x24 x25 x26 x27 x28 x29 x30 x31 x32 x33 x34 x35 x36 x37 x38 x39 x40 x41 x42 x43 x44 x45 x46 x47 x48 x49 x50 x51 x52 x53 x54 x55 x56 x57 x58 L).tmps[9]?.getD undef = .pointer (some ⟨lb, 0, none⟩) := rfl
theorem get12_41 (H xb p ob lb m j : Nat) (x : Ld) (vj v' : Value) (x0 x1 x2 x3 x4 x6 x7 x10 x11 x12 x13 x14 x15 x16 x17 x18 x19 x20 x21 x22 x23 x24 x25 x26 x27 x28 x29 x30 x31 x32 x33 x34 x35 x36 x37 x38 x39 x40 x41 x42 x43 x44 x45 x46 x47 x48 x49 x50 x51 x52 x53 x54 x55 x56 x57 x58 : Value) (L : Nat → Bool) (h : L 0 = true) : (A12 H xb p ob lb m j x vj v' x0 x1 x2 x3 x4 x6 x7 x10 x11 x12 x13 x14 x15 x16 x17 x18 x19 x20 x21 x22 x23 x24 x25 x26 x27 x28 x29 x30 x31 x32 x33 x34 x35 x36 x37 x38 x39 x40 x41 x42 x43 x44 x45 x46 x47 x48 x49 x50 x51 x52 x53 x54 x55 x56 x57 x58 L).tmps[41]?.getD undef = .pointer (some ⟨p, 0, none⟩) := by
  show (if L 0 then _ else _) = _
  rw [h]; rfl
theorem get12_42 (H xb p ob lb m j : Nat) (x : Ld) (vj v' : Value) (x0 x1 x2 x3 x4 x6 x7 x10 x11 x12 x13 x14 x15 x16 x17 x18 x19 x20 x21 x22 x23 x24 x25 x26 x27 x28 x29 x30 x31 x32 x33 x34 x35 x36 x37 x38 x39 x40 x41 x42 x43 x44 x45 x46 x47 x48 x49 x50 x51 x52 x53 x54 x55 x56 x57 x58 : Value) (L : Nat → Bool) (h : L 1 = true) : (A12 H xb p ob lb m j x vj v' x0 x1 x2 x3 x4 x6 x7 x10 x11 x12 x13 x14 x15 x16 x17 x18 x19 x20 x21 x22 x23 x24 x25 x26 x27 x28 x29 x30 x31 x32 x33 x34 x35 x36 x37 x38 x39 x40 x41 x42 x43 x44 x45 x46 x47 x48 x49 x50 x51 x52 x53 x54 x55 x56 x57 x58 L).tmps[42]?.getD undef = .pointer (some ⟨p, 0, none⟩) := by
  show (if L 1 then _ else _) = _
  rw [h]; rfl
theorem get12_43 (H xb p ob lb m j : Nat) (x : Ld) (vj v' : Value) (x0 x1 x2 x3 x4 x6 x7 x10 x11 x12 x13 x14 x15 x16 x17 x18 x19 x20 x21 x22 x23 x24 x25 x26 x27 x28 x29 x30 x31 x32 x33 x34 x35 x36 x37 x38 x39 x40 x41 x42 x43 x44 x45 x46 x47 x48 x49 x50 x51 x52 x53 x54 x55 x56 x57 x58 : Value) (L : Nat → Bool) (h : L 2 = true) : (A12 H xb p ob lb m j x vj v' x0 x1 x2 x3 x4 x6 x7 x10 x11 x12 x13 x14 x15 x16 x17 x18 x19 x20 x21 x22 x23 x24 x25 x26 x27 x28 x29 x30 x31 x32 x33 x34 x35 x36 x37 x38 x39 x40 x41 x42 x43 x44 x45 x46 x47 x48 x49 x50 x51 x52 x53 x54 x55 x56 x57 x58 L).tmps[43]?.getD undef = .pointer (some ⟨p, 4, none⟩) := by
  show (if L 2 then _ else _) = _
  rw [h]; rfl
theorem get12_44 (H xb p ob lb m j : Nat) (x : Ld) (vj v' : Value) (x0 x1 x2 x3 x4 x6 x7 x10 x11 x12 x13 x14 x15 x16 x17 x18 x19 x20 x21 x22 x23 x24 x25 x26 x27 x28 x29 x30 x31 x32 x33 x34 x35 x36 x37 x38 x39 x40 x41 x42 x43 x44 x45 x46 x47 x48 x49 x50 x51 x52 x53 x54 x55 x56 x57 x58 : Value) (L : Nat → Bool) (h : L 3 = true) : (A12 H xb p ob lb m j x vj v' x0 x1 x2 x3 x4 x6 x7 x10 x11 x12 x13 x14 x15 x16 x17 x18 x19 x20 x21 x22 x23 x24 x25 x26 x27 x28 x29 x30 x31 x32 x33 x34 x35 x36 x37 x38 x39 x40 x41 x42 x43 x44 x45 x46 x47 x48 x49 x50 x51 x52 x53 x54 x55 x56 x57 x58 L).tmps[44]?.getD undef = .slice (some ⟨ob, 0, none⟩) m m := by
  show (if L 3 then _ else _) = _
  rw [h]; rfl
theorem get12_45 (H xb p ob lb m j : Nat) (x : Ld) (vj v' : Value) (x0 x1 x2 x3 x4 x6 x7 x10 x11 x12 x13 x14 x15 x16 x17 x18 x19 x20 x21 x22 x23 x24 x25 x26 x27 x28 x29 x30 x31 x32 x33 x34 x35 x36 x37 x38 x39 x40 x41 x42 x43 x44 x45 x46 x47 x48 x49 x50 x51 x52 x53 x54 x55 x56 x57 x58 : Value) (L : Nat → Bool) (h : L 4 = true) : (A12 H xb p ob lb m j x vj v' x0 x1 x2 x3 x4 x6 x7 x10 x11 x12 x13 x14 x15 x16 x17 x18 x19 x20 x21 x22 x23 x24 x25 x26 x27 x28 x29 x30 x31 x32 x33 x34 x35 x36 x37 x38 x39 x40 x41 x42 x43 x44 x45 x46 x47 x48 x49 x50 x51 x52 x53 x54 x55 x56 x57 x58 L).tmps[45]?.getD undef = .int .i64 (j : Int) := by
  show (if L 4 then _ else _) = _
  rw [h]; rfl
theorem get12_46 (H xb p ob lb m j : Nat) (x : Ld) (vj v' : Value) (x0 x1 x2 x3 x4 x6 x7 x10 x11 x12 x13 x14 x15 x16 x17 x18 x19 x20 x21 x22 x23 x24 x25 x26 x27 x28 x29 x30 x31 x32 x33 x34 x35 x36 x37 x38 x39 x40 x41 x42 x43 x44 x45 x46 x47 x48 x49 x50 x51 x52 x53 x54 x55 x56 x57 x58 : Value) (L : Nat → Bool) (h : L 5 = true) : (A12 H xb p ob lb m j x vj v' x0 x1 x2 x3 x4 x6 x7 x10 x11 x12 x13 x14 x15 x16 x17 x18 x19 x20 x21 x22 x23 x24 x25 x26 x27 x28 x29 x30 x31 x32 x33 x34 x35 x36 x37 x38 x39 x40 x41 x42 x43 x44 x45 x46 x47 x48 x49 x50 x51 x52 x53 x54 x55 x56 x57 x58 L).tmps[46]?.getD undef = .pointer (some ⟨p, 0, none⟩) := by
  show (if L 5 then _ else _) = _
  rw [h]; rfl
theorem get12_47 (H xb p ob lb m j : Nat) (x : Ld) (vj v' : Value) (x0 x1 x2 x3 x4 x6 x7 x10 x11 x12 x13 x14 x15 x16 x17 x18 x19 x20 x21 x22 x23 x24 x25 x26 x27 x28 x29 x30 x31 x32 x33 x34 x35 x36 x37 x38 x39 x40 x41 x42 x43 x44 x45 x46 x47 x48 x49 x50 x51 x52 x53 x54 x55 x56 x57 x58 : Value) (L : Nat → Bool) (h : L 6 = true) : (A12 H xb p ob lb m j x vj v' x0 x1 x2 x3 x4 x6 x7 x10 x11 x12 x13 x14 x15 x16 x17 x18 x19 x20 x21 x22 x23 x24 x25 x26 x27 x28 x29 x30 x31 x32 x33 x34 x35 x36 x37 x38 x39 x40 x41 x42 x43 x44 x45 x46 x47 x48 x49 x50 x51 x52 x53 x54 x55 x56 x57 x58 L).tmps[47]?.getD undef = .pointer (some ⟨p, 0, none⟩) := by
  show (if L 6 then _ else _) = _
  rw [h]; rfl
theorem get12_48 (H xb p ob lb m j : Nat) (x : Ld) (vj v' : Value) (x0 x1 x2 x3 x4 x6 x7 x10 x11 x12 x13 x14 x15 x16 x17 x18 x19 x20 x21 x22 x23 x24 x25 x26 x27 x28 x29 x30 x31 x32 x33 x34 x35 x36 x37 x38 x39 x40 x41 x42 x43 x44 x45 x46 x47 x48 x49 x50 x51 x52 x53 x54 x55 x56 x57 x58 : Value) (L : Nat → Bool) (h : L 7 = true) : (A12 H xb p ob lb m j x vj v' x0 x1 x2 x3 x4 x6 x7 x10 x11 x12 x13 x14 x15 x16 x17 x18 x19 x20 x21 x22 x23 x24 x25 x26 x27 x28 x29 x30 x31 x32 x33 x34 x35 x36 x37 x38 x39 x40 x41 x42 x43 x44 x45 x46 x47 x48 x49 x50 x51 x52 x53 x54 x55 x56 x57 x58 L).tmps[48]?.getD undef = .pointer (some ⟨p, 4, none⟩) := by
  show (if L 7 then _ else _) = _
  rw [h]; rfl
theorem get12_49 (H xb p ob lb m j : Nat) (x : Ld) (vj v' : Value) (x0 x1 x2 x3 x4 x6 x7 x10 x11 x12 x13 x14 x15 x16 x17 x18 x19 x20 x21 x22 x23 x24 x25 x26 x27 x28 x29 x30 x31 x32 x33 x34 x35 x36 x37 x38 x39 x40 x41 x42 x43 x44 x45 x46 x47 x48 x49 x50 x51 x52 x53 x54 x55 x56 x57 x58 : Value) (L : Nat → Bool) (h : L 8 = true) : (A12 H xb p ob lb m j x vj v' x0 x1 x2 x3 x4 x6 x7 x10 x11 x12 x13 x14 x15 x16 x17 x18 x19 x20 x21 x22 x23 x24 x25 x26 x27 x28 x29 x30 x31 x32 x33 x34 x35 x36 x37 x38 x39 x40 x41 x42 x43 x44 x45 x46 x47 x48 x49 x50 x51 x52 x53 x54 x55 x56 x57 x58 L).tmps[49]?.getD undef = .slice (some ⟨ob, 0, none⟩) m m := by
  show (if L 8 then _ else _) = _
  rw [h]; rfl
theorem get12_50 (H xb p ob lb m j : Nat) (x : Ld) (vj v' : Value) (x0 x1 x2 x3 x4 x6 x7 x10 x11 x12 x13 x14 x15 x16 x17 x18 x19 x20 x21 x22 x23 x24 x25 x26 x27 x28 x29 x30 x31 x32 x33 x34 x35 x36 x37 x38 x39 x40 x41 x42 x43 x44 x45 x46 x47 x48 x49 x50 x51 x52 x53 x54 x55 x56 x57 x58 : Value) (L : Nat → Bool) (h : L 9 = true) : (A12 H xb p ob lb m j x vj v' x0 x1 x2 x3 x4 x6 x7 x10 x11 x12 x13 x14 x15 x16 x17 x18 x19 x20 x21 x22 x23 x24 x25 x26 x27 x28 x29 x30 x31 x32 x33 x34 x35 x36 x37 x38 x39 x40 x41 x42 x43 x44 x45 x46 x47 x48 x49 x50 x51 x52 x53 x54 x55 x56 x57 x58 L).tmps[50]?.getD undef = .int .i64 (j : Int) := by
  show (if L 9 then _ else _) = _
  rw [h]; rfl
theorem get12_51 (H xb p ob lb m j : Nat) (x : Ld) (vj v' : Value) (x0 x1 x2 x3 x4 x6 x7 x10 x11 x12 x13 x14 x15 x16 x17 x18 x19 x20 x21 x22 x23 x24 x25 x26 x27 x28 x29 x30 x31 x32 x33 x34 x35 x36 x37 x38 x39 x40 x41 x42 x43 x44 x45 x46 x47 x48 x49 x50 x51 x52 x53 x54 x55 x56 x57 x58 : Value) (L : Nat → Bool) (h : L 10 = true) : (A12 H xb p ob lb m j x vj v' x0 x1 x2 x3 x4 x6 x7 x10 x11 x12 x13 x14 x15 x16 x17 x18 x19 x20 x21 x22 x23 x24 x25 x26 x27 x28 x29 x30 x31 x32 x33 x34 x35 x36 x37 x38 x39 x40 x41 x42 x43 x44 x45 x46 x47 x48 x49 x50 x51 x52 x53 x54 x55 x56 x57 x58 L).tmps[51]?.getD undef = .pointer (some ⟨ob, j, none⟩) := by
  show (if L 10 then _ else _) = _
  rw [h]; rfl
theorem get12_52 (H xb p ob lb m j : Nat) (x : Ld) (vj v' : Value) (x0 x1 x2 x3 x4 x6 x7 x10 x11 x12 x13 x14 x15 x16 x17 x18 x19 x20 x21 x22 x23 x24 x25 x26 x27 x28 x29 x30 x31 x32 x33 x34 x35 x36 x37 x38 x39 x40 x41 x42 x43 x44 x45 x46 x47 x48 x49 x50 x51 x52 x53 x54 x55 x56 x57 x58 : Value) (L : Nat → Bool) (h : L 11 = true) : (A12 H xb p ob lb m j x vj v' x0 x1 x2 x3 x4 x6 x7 x10 x11 x12 x13 x14 x15 x16 x17 x18 x19 x20 x21 x22 x23 x24 x25 x26 x27 x28 x29 x30 x31 x32 x33 x34 x35 x36 x37 x38 x39 x40 x41 x42 x43 x44 x45 x46 x47 x48 x49 x50 x51 x52 x53 x54 x55 x56 x57 x58 L).tmps[52]?.getD undef = vj := by
  show (if L 11 then _ else _) = _
  rw [h]; rfl
theorem get12_53 (H xb p ob lb m j : Nat) (x : Ld) (vj v' : Value) (x0 x1 x2 x3 x4 x6 x7 x10 x11 x12 x13 x14 x15 x16 x17 x18 x19 x20 x21 x22 x23 x24 x25 x26 x27 x28 x29 x30 x31 x32 x33 x34 x35 x36 x37 x38 x39 x40 x41 x42 x43 x44 x45 x46 x47 x48 x49 x50 x51 x52 x53 x54 x55 x56 x57 x58 : Value) (L : Nat → Bool) (h : L 12 = true) : (A12 H xb p ob lb m j x vj v' x0 x1 x2 x3 x4 x6 x7 x10 x11 x12 x13 x14 x15 x16 x17 x18 x19 x20 x21 x22 x23 x24 x25 x26 x27 x28 x29 x30 x31 x32 x33 x34 x35 x36 x37 x38 x39 x40 x41 x42 x43 x44 x45 x46 x47 x48 x49 x50 x51 x52 x53 x54 x55 x56 x57 x58 L).tmps[53]?.getD undef = LEAD x := by
  show (if L 12 then _ else _) = _
  rw [h]; rfl
theorem get12_54 (H xb p ob lb m j : Nat) (x : Ld) (vj v' : Value) (x0 x1 x2 x3 x4 x6 x7 x10 x11 x12 x13 x14 x15 x16 x17 x18 x19 x20 x21 x22 x23 x24 x25 x26 x27 x28 x29 x30 x31 x32 x33 x34 x35 x36 x37 x38 x39 x40 x41 x42 x43 x44 x45 x46 x47 x48 x49 x50 x51 x52 x53 x54 x55 x56 x57 x58 : Value) (L : Nat → Bool) (h : L 13 = true) : (A12 H xb p ob lb m j x vj v' x0 x1 x2 x3 x4 x6 x7 x10 x11 x12 x13 x14 x15 x16 x17 x18 x19 x20 x21 x22 x23 x24 x25 x26 x27 x28 x29 x30 x31 x32 x33 x34 x35 x36 x37 x38 x39 x40 x41 x42 x43 x44 x45 x46 x47 x48 x49 x50 x51 x52 x53 x54 x55 x56 x57 x58 L).tmps[54]?.getD undef = .slice (some ⟨H, 0, none⟩) 1 1 := by
  show (if L 13 then _ else _) = _
  rw [h]; rfl
theorem get12_55 (H xb p ob lb m j : Nat) (x : Ld) (vj v' : Value) (x0 x1 x2 x3 x4 x6 x7 x10 x11 x12 x13 x14 x15 x16 x17 x18 x19 x20 x21 x22 x23 x24 x25 x26 x27 x28 x29 x30 x31 x32 x33 x34 x35 x36 x37 x38 x39 x40 x41 x42 x43 x44 x45 x46 x47 x48 x49 x50 x51 x52 x53 x54 x55 x56 x57 x58 : Value) (L : Nat → Bool) (h : L 14 = true) : (A12 H xb p ob lb m j x vj v' x0 x1 x2 x3 x4 x6 x7 x10 x11 x12 x13 x14 x15 x16 x17 x18 x19 x20 x21 x22 x23 x24 x25 x26 x27 x28 x29 x30 x31 x32 x33 x34 x35 x36 x37 x38 x39 x40 x41 x42 x43 x44 x45 x46 x47 x48 x49 x50 x51 x52 x53 x54 x55 x56 x57 x58 L).tmps[55]?.getD undef = v' := by
  show (if L 14 then _ else _) = _
  rw [h]; rfl
theorem get12_56 (H xb p ob lb m j : Nat) (x : Ld) (vj v' : Value) (x0 x1 x2 x3 x4 x6 x7 x10 x11 x12 x13 x14 x15 x16 x17 x18 x19 x20 x21 x22 x23 x24 x25 x26 x27 x28 x29 x30 x31 x32 x33 x34 x35 x36 x37 x38 x39 x40 x41 x42 x43 x44 x45 x46 x47 x48 x49 x50 x51 x52 x53 x54 x55 x56 x57 x58 : Value) (L : Nat → Bool) (h : L 15 = true) : (A12 H xb p ob lb m j x vj v' x0 x1 x2 x3 x4 x6 x7 x10 x11 x12 x13 x14 x15 x16 x17 x18 x19 x20 x21 x22 x23 x24 x25 x26 x27 x28 x29 x30 x31 x32 x33 x34 x35 x36 x37 x38 x39 x40 x41 x42 x43 x44 x45 x46 x47 x48 x49 x50 x51 x52 x53 x54 x55 x56 x57 x58 L).tmps[56]?.getD undef = .pointer (some ⟨ob, j, none⟩) := by
  show (if L 15 then _ else _) = _
  rw [h]; rfl

set_option maxRecDepth 100000 in
set_option maxHeartbeats 4000000 in
/-- The region, whatever order is drawn. -/
theorem body12 (n l : Nat) (W w2 : World) (H xb p ob lb m j : Nat) (x : Ld) (vj v' : Value) (x0 x1 x2 x3 x4 x6 x7 x10 x11 x12 x13 x14 x15 x16 x17 x18 x19 x20 x21 x22 x23 x24 x25 x26 x27 x28 x29 x30 x31 x32 x33 x34 x35 x36 x37 x38 x39 x40 x41 x42 x43 x44 x45 x46 x47 x48 x49 x50 x51 x52 x53 x54 x55 x56 x57 x58 : Value) (Q : Exit → Act → World → Prop) (hH : W.heap.size = H) (hj : j < m) (hm : m ≤ 1000) (ops : Array Oper) (hops : ops12 = some ops)
    (l0 : W.cell? ⟨lb, 0, none⟩ = some (.int .i64 x.ed)) (l1 : W.cell? ⟨lb, 1, none⟩ = some (.int .i64 x.nd)) (l2 : W.cell? ⟨lb, 2, none⟩ = some (.int .i64 x.dir)) (r0 : Rd12 W.drew xb p ob m j vj) (r1 : Rd12 (W.drew.alloc (.cells #[.int .i64 x.ed, .int .i64 x.nd, .int .i64 x.dir] 82)) xb p ob m j vj) (r2 : Rd12 w2 xb p ob m j vj)
    (happ : (Builtin.append_ #[83, 83] 83 #[vj, .slice (some ⟨H, 0, none⟩) 1 1]).run Try.prog (W.drew.alloc (.cells #[.int .i64 x.ed, .int .i64 x.nd, .int .i64 x.dir] 82)) = .ok v' w2)
    (hfz : w2.frozen? ⟨ob, j, none⟩ = false) (hv : ∃ g k c, v' = .slice (some ⟨g, 0, none⟩) k c)
    (hQ : Q .normal { tmps := #[x0, x1, x2, x3, x4, .pointer (some ⟨xb, 0, none⟩), x6, x7, .int .i64 (j : Int), .pointer (some ⟨lb, 0, none⟩), x10, x11, x12, x13, x14, x15, x16, x17, x18, x19, x20, x21, x22, x23, x24, x25, x26, x27, x28, x29, x30, x31, x32, x33, x34, x35, x36, x37, x38, x39, x40, .pointer (some ⟨p, 0, none⟩), .pointer (some ⟨p, 0, none⟩), .pointer (some ⟨p, 4, none⟩), .slice (some ⟨ob, 0, none⟩) m m, .int .i64 (j : Int), .pointer (some ⟨p, 0, none⟩), .pointer (some ⟨p, 0, none⟩), .pointer (some ⟨p, 4, none⟩), .slice (some ⟨ob, 0, none⟩) m m, .int .i64 (j : Int), .pointer (some ⟨ob, j, none⟩), vj, LEAD x, .slice (some ⟨H, 0, none⟩) 1 1, v', .pointer (some ⟨ob, j, none⟩), x57, x58], defers := [] } (w2.setCell ⟨ob, j, none⟩ v')) :
    (Code.region 12 ops true).wpIn (Fence.wide.inRound l) n Try.prog Q { tmps := #[x0, x1, x2, x3, x4, .pointer (some ⟨xb, 0, none⟩), x6, x7, .int .i64 (j : Int), .pointer (some ⟨lb, 0, none⟩), x10, x11, x12, x13, x14, x15, x16, x17, x18, x19, x20, x21, x22, x23, x24, x25, x26, x27, x28, x29, x30, x31, x32, x33, x34, x35, x36, x37, x38, x39, x40, x41, x42, x43, x44, x45, x46, x47, x48, x49, x50, x51, x52, x53, x54, x55, x56, x57, x58], defers := [] } W := by
  have hF : ∀ f, Fence.wide.fn f := fun _ => trivial
  cases hops
  refine wpIn_region_free (by kernel_rfl) (by kernel_rfl) (A12 H xb p ob lb m j x vj v' x0 x1 x2 x3 x4 x6 x7 x10 x11 x12 x13 x14 x15 x16 x17 x18 x19 x20 x21 x22 x23 x24 x25 x26 x27 x28 x29 x30 x31 x32 x33 x34 x35 x36 x37 x38 x39 x40 x41 x42 x43 x44 x45 x46 x47 x48 x49 x50 x51 x52 x53 x54 x55 x56 x57 x58) (W12 W.drew (W.drew.alloc (.cells #[.int .i64 x.ed, .int .i64 x.nd, .int .i64 x.dir] 82)) w2 (w2.setCell ⟨ob, j, none⟩ v')) rfl rfl ?_ ?_
  · intro L i o ho hLi hdep hc K hK
    have hi : i < 17 := (Array.getElem?_eq_some_iff.1 ho).1
    have c14 : L 14 = true → L 13 = true := fun h => by
      have := hc 14 _ rfl h
      simp [Region.binds] at this
      exact this.2
    have c13 : L 13 = true → L 12 = true := fun h => by
      have := hc 13 _ rfl h
      simp [Region.binds] at this
      exact this
    have c16 : L 16 = true → ∀ k, k < 16 → L k = true := fun h k hk => by
      have := hc 16 _ rfl h
      simp [Region.binds] at this
      have hcs : k = 0 ∨ k = 1 ∨ k = 2 ∨ k = 3 ∨ k = 4 ∨ k = 5 ∨ k = 6 ∨ k = 7 ∨ k = 8 ∨ k = 9 ∨ k = 10 ∨ k = 11 ∨ k = 12 ∨ k = 13 ∨ k = 14 ∨ k = 15 := by omega
      rcases hcs with rfl | rfl | rfl | rfl | rfl | rfl | rfl | rfl | rfl | rfl | rfl | rfl | rfl | rfl | rfl | rfl <;> simp [this]
    clear hc
    have hcs : i = 0 ∨ i = 1 ∨ i = 2 ∨ i = 3 ∨ i = 4 ∨ i = 5 ∨ i = 6 ∨ i = 7 ∨ i = 8 ∨ i = 9 ∨ i = 10 ∨ i = 11 ∨ i = 12 ∨ i = 13 ∨ i = 14 ∨ i = 15 ∨ i = 16 := by omega
    have h16 : i ≠ 16 → L 16 = false := fun h => by
      cases e : L 16 with
      | false => rfl
      | true => have := c16 e i (by omega); rw [hLi] at this; cases this
    have hrd : L 16 = false → ∃ Wc, W12 W.drew (W.drew.alloc (.cells #[.int .i64 x.ed, .int .i64 x.nd, .int .i64 x.dir] 82)) w2 (w2.setCell ⟨ob, j, none⟩ v') L = Wc ∧ Rd12 Wc xb p ob m j vj := fun h => by
      refine ⟨_, rfl, ?_⟩
      unfold W12
      rw [h]
      simp only [Bool.false_eq_true, if_false]
      split
      · exact r2
      · split
        · exact r1
        · exact r0
    rcases hcs with rfl | rfl | rfl | rfl | rfl | rfl | rfl | rfl | rfl | rfl | rfl | rfl | rfl | rfl | rfl | rfl | rfl
    · -- 0
      have hop := ho
      cases hop
      have g5 := get12_5 H xb p ob lb m j x vj v' x0 x1 x2 x3 x4 x6 x7 x10 x11 x12 x13 x14 x15 x16 x17 x18 x19 x20 x21 x22 x23 x24 x25 x26 x27 x28 x29 x30 x31 x32 x33 x34 x35 x36 x37 x38 x39 x40 x41 x42 x43 x44 x45 x46 x47 x48 x49 x50 x51 x52 x53 x54 x55 x56 x57 x58 L
      obtain ⟨Wc, hWc, rc⟩ := hrd (h16 (by omega))
      have hWu : W12 W.drew (W.drew.alloc (.cells #[.int .i64 x.ed, .int .i64 x.nd, .int .i64 x.dir] 82)) w2 (w2.setCell ⟨ob, j, none⟩ v') (upd L 0) = Wc := by rw [← hWc]; simp [W12, upd]
      rw [hWc]
      rw [hWu, ← put12_0] at hK
      have q0 := rc.x0; have q1 := rc.p4; have q2 := rc.oj
      refine op_value (F := Fence.wide) (v := .pointer (some ⟨p, 0, none⟩)) (w' := Wc) hF ho rfl (fun _ => by simp) ?_ hK
      clear hK ho hrd h16 c13 c14 c16 hWc hWu
      generalize A12 H xb p ob lb m j x vj v' x0 x1 x2 x3 x4 x6 x7 x10 x11 x12 x13 x14 x15 x16 x17 x18 x19 x20 x21 x22 x23 x24 x25 x26 x27 x28 x29 x30 x31 x32 x33 x34 x35 x36 x37 x38 x39 x40 x41 x42 x43 x44 x45 x46 x47 x48 x49 x50 x51 x52 x53 x54 x55 x56 x57 x58 L = a at *
      go_simp
    · -- 1
      have hop := ho
      cases hop
      simp [Region.binds] at hdep
      have d0 : L 0 = true := by simp [hdep]
      have g41 := get12_41 H xb p ob lb m j x vj v' x0 x1 x2 x3 x4 x6 x7 x10 x11 x12 x13 x14 x15 x16 x17 x18 x19 x20 x21 x22 x23 x24 x25 x26 x27 x28 x29 x30 x31 x32 x33 x34 x35 x36 x37 x38 x39 x40 x41 x42 x43 x44 x45 x46 x47 x48 x49 x50 x51 x52 x53 x54 x55 x56 x57 x58 L d0
      obtain ⟨Wc, hWc, rc⟩ := hrd (h16 (by omega))
      have hWu : W12 W.drew (W.drew.alloc (.cells #[.int .i64 x.ed, .int .i64 x.nd, .int .i64 x.dir] 82)) w2 (w2.setCell ⟨ob, j, none⟩ v') (upd L 1) = Wc := by rw [← hWc]; simp [W12, upd]
      rw [hWc]
      rw [hWu, ← put12_1] at hK
      have q0 := rc.x0; have q1 := rc.p4; have q2 := rc.oj
      refine op_value (F := Fence.wide) (v := .pointer (some ⟨p, 0, none⟩)) (w' := Wc) hF ho rfl (fun _ => by simp) ?_ hK
      clear hK hdep ho hrd h16 c13 c14 c16 hWc hWu
      generalize A12 H xb p ob lb m j x vj v' x0 x1 x2 x3 x4 x6 x7 x10 x11 x12 x13 x14 x15 x16 x17 x18 x19 x20 x21 x22 x23 x24 x25 x26 x27 x28 x29 x30 x31 x32 x33 x34 x35 x36 x37 x38 x39 x40 x41 x42 x43 x44 x45 x46 x47 x48 x49 x50 x51 x52 x53 x54 x55 x56 x57 x58 L = a at *
      go_simp
    · -- 2
      have hop := ho
      cases hop
      simp [Region.binds] at hdep
      have d1 : L 1 = true := by simp [hdep]
      have g42 := get12_42 H xb p ob lb m j x vj v' x0 x1 x2 x3 x4 x6 x7 x10 x11 x12 x13 x14 x15 x16 x17 x18 x19 x20 x21 x22 x23 x24 x25 x26 x27 x28 x29 x30 x31 x32 x33 x34 x35 x36 x37 x38 x39 x40 x41 x42 x43 x44 x45 x46 x47 x48 x49 x50 x51 x52 x53 x54 x55 x56 x57 x58 L d1
      obtain ⟨Wc, hWc, rc⟩ := hrd (h16 (by omega))
      have hWu : W12 W.drew (W.drew.alloc (.cells #[.int .i64 x.ed, .int .i64 x.nd, .int .i64 x.dir] 82)) w2 (w2.setCell ⟨ob, j, none⟩ v') (upd L 2) = Wc := by rw [← hWc]; simp [W12, upd]
      rw [hWc]
      rw [hWu, ← put12_2] at hK
      have q0 := rc.x0; have q1 := rc.p4; have q2 := rc.oj
      refine op_value (F := Fence.wide) (v := .pointer (some ⟨p, 4, none⟩)) (w' := Wc) hF ho rfl (fun _ => by simp) ?_ hK
      clear hK hdep ho hrd h16 c13 c14 c16 hWc hWu
      generalize A12 H xb p ob lb m j x vj v' x0 x1 x2 x3 x4 x6 x7 x10 x11 x12 x13 x14 x15 x16 x17 x18 x19 x20 x21 x22 x23 x24 x25 x26 x27 x28 x29 x30 x31 x32 x33 x34 x35 x36 x37 x38 x39 x40 x41 x42 x43 x44 x45 x46 x47 x48 x49 x50 x51 x52 x53 x54 x55 x56 x57 x58 L = a at *
      go_simp
    · -- 3
      have hop := ho
      cases hop
      simp [Region.binds] at hdep
      have d2 : L 2 = true := by simp [hdep]
      have g43 := get12_43 H xb p ob lb m j x vj v' x0 x1 x2 x3 x4 x6 x7 x10 x11 x12 x13 x14 x15 x16 x17 x18 x19 x20 x21 x22 x23 x24 x25 x26 x27 x28 x29 x30 x31 x32 x33 x34 x35 x36 x37 x38 x39 x40 x41 x42 x43 x44 x45 x46 x47 x48 x49 x50 x51 x52 x53 x54 x55 x56 x57 x58 L d2
      obtain ⟨Wc, hWc, rc⟩ := hrd (h16 (by omega))
      have hWu : W12 W.drew (W.drew.alloc (.cells #[.int .i64 x.ed, .int .i64 x.nd, .int .i64 x.dir] 82)) w2 (w2.setCell ⟨ob, j, none⟩ v') (upd L 3) = Wc := by rw [← hWc]; simp [W12, upd]
      rw [hWc]
      rw [hWu, ← put12_3] at hK
      have q0 := rc.x0; have q1 := rc.p4; have q2 := rc.oj
      refine op_value (F := Fence.wide) (v := .slice (some ⟨ob, 0, none⟩) m m) (w' := Wc) hF ho rfl (fun _ => by simp) ?_ hK
      clear hK hdep ho hrd h16 c13 c14 c16 hWc hWu
      generalize A12 H xb p ob lb m j x vj v' x0 x1 x2 x3 x4 x6 x7 x10 x11 x12 x13 x14 x15 x16 x17 x18 x19 x20 x21 x22 x23 x24 x25 x26 x27 x28 x29 x30 x31 x32 x33 x34 x35 x36 x37 x38 x39 x40 x41 x42 x43 x44 x45 x46 x47 x48 x49 x50 x51 x52 x53 x54 x55 x56 x57 x58 L = a at *
      go_simp
    · -- 4
      have hop := ho
      cases hop
      have g8 := get12_8 H xb p ob lb m j x vj v' x0 x1 x2 x3 x4 x6 x7 x10 x11 x12 x13 x14 x15 x16 x17 x18 x19 x20 x21 x22 x23 x24 x25 x26 x27 x28 x29 x30 x31 x32 x33 x34 x35 x36 x37 x38 x39 x40 x41 x42 x43 x44 x45 x46 x47 x48 x49 x50 x51 x52 x53 x54 x55 x56 x57 x58 L
      obtain ⟨Wc, hWc, rc⟩ := hrd (h16 (by omega))
      have hWu : W12 W.drew (W.drew.alloc (.cells #[.int .i64 x.ed, .int .i64 x.nd, .int .i64 x.dir] 82)) w2 (w2.setCell ⟨ob, j, none⟩ v') (upd L 4) = Wc := by rw [← hWc]; simp [W12, upd]
      rw [hWc]
      rw [hWu, ← put12_4] at hK
      have q0 := rc.x0; have q1 := rc.p4; have q2 := rc.oj
      refine op_value (F := Fence.wide) (v := .int .i64 (j : Int)) (w' := Wc) hF ho rfl (fun _ => by simp) ?_ hK
      clear hK ho hrd h16 c13 c14 c16 hWc hWu
      generalize A12 H xb p ob lb m j x vj v' x0 x1 x2 x3 x4 x6 x7 x10 x11 x12 x13 x14 x15 x16 x17 x18 x19 x20 x21 x22 x23 x24 x25 x26 x27 x28 x29 x30 x31 x32 x33 x34 x35 x36 x37 x38 x39 x40 x41 x42 x43 x44 x45 x46 x47 x48 x49 x50 x51 x52 x53 x54 x55 x56 x57 x58 L = a at *
      go_simp
    · -- 5
      have hop := ho
      cases hop
      have g5 := get12_5 H xb p ob lb m j x vj v' x0 x1 x2 x3 x4 x6 x7 x10 x11 x12 x13 x14 x15 x16 x17 x18 x19 x20 x21 x22 x23 x24 x25 x26 x27 x28 x29 x30 x31 x32 x33 x34 x35 x36 x37 x38 x39 x40 x41 x42 x43 x44 x45 x46 x47 x48 x49 x50 x51 x52 x53 x54 x55 x56 x57 x58 L
      obtain ⟨Wc, hWc, rc⟩ := hrd (h16 (by omega))
      have hWu : W12 W.drew (W.drew.alloc (.cells #[.int .i64 x.ed, .int .i64 x.nd, .int .i64 x.dir] 82)) w2 (w2.setCell ⟨ob, j, none⟩ v') (upd L 5) = Wc := by rw [← hWc]; simp [W12, upd]
      rw [hWc]
      rw [hWu, ← put12_5] at hK
      have q0 := rc.x0; have q1 := rc.p4; have q2 := rc.oj
      refine op_value (F := Fence.wide) (v := .pointer (some ⟨p, 0, none⟩)) (w' := Wc) hF ho rfl (fun _ => by simp) ?_ hK
      clear hK ho hrd h16 c13 c14 c16 hWc hWu
      generalize A12 H xb p ob lb m j x vj v' x0 x1 x2 x3 x4 x6 x7 x10 x11 x12 x13 x14 x15 x16 x17 x18 x19 x20 x21 x22 x23 x24 x25 x26 x27 x28 x29 x30 x31 x32 x33 x34 x35 x36 x37 x38 x39 x40 x41 x42 x43 x44 x45 x46 x47 x48 x49 x50 x51 x52 x53 x54 x55 x56 x57 x58 L = a at *
      go_simp
    · -- 6
      have hop := ho
      cases hop
      simp [Region.binds] at hdep
      have d5 : L 5 = true := by simp [hdep]
      have g46 := get12_46 H xb p ob lb m j x vj v' x0 x1 x2 x3 x4 x6 x7 x10 x11 x12 x13 x14 x15 x16 x17 x18 x19 x20 x21 x22 x23 x24 x25 x26 x27 x28 x29 x30 x31 x32 x33 x34 x35 x36 x37 x38 x39 x40 x41 x42 x43 x44 x45 x46 x47 x48 x49 x50 x51 x52 x53 x54 x55 x56 x57 x58 L d5
      obtain ⟨Wc, hWc, rc⟩ := hrd (h16 (by omega))
      have hWu : W12 W.drew (W.drew.alloc (.cells #[.int .i64 x.ed, .int .i64 x.nd, .int .i64 x.dir] 82)) w2 (w2.setCell ⟨ob, j, none⟩ v') (upd L 6) = Wc := by rw [← hWc]; simp [W12, upd]
      rw [hWc]
      rw [hWu, ← put12_6] at hK
      have q0 := rc.x0; have q1 := rc.p4; have q2 := rc.oj
      refine op_value (F := Fence.wide) (v := .pointer (some ⟨p, 0, none⟩)) (w' := Wc) hF ho rfl (fun _ => by simp) ?_ hK
      clear hK hdep ho hrd h16 c13 c14 c16 hWc hWu
      generalize A12 H xb p ob lb m j x vj v' x0 x1 x2 x3 x4 x6 x7 x10 x11 x12 x13 x14 x15 x16 x17 x18 x19 x20 x21 x22 x23 x24 x25 x26 x27 x28 x29 x30 x31 x32 x33 x34 x35 x36 x37 x38 x39 x40 x41 x42 x43 x44 x45 x46 x47 x48 x49 x50 x51 x52 x53 x54 x55 x56 x57 x58 L = a at *
      go_simp
    · -- 7
      have hop := ho
      cases hop
      simp [Region.binds] at hdep
      have d6 : L 6 = true := by simp [hdep]
      have g47 := get12_47 H xb p ob lb m j x vj v' x0 x1 x2 x3 x4 x6 x7 x10 x11 x12 x13 x14 x15 x16 x17 x18 x19 x20 x21 x22 x23 x24 x25 x26 x27 x28 x29 x30 x31 x32 x33 x34 x35 x36 x37 x38 x39 x40 x41 x42 x43 x44 x45 x46 x47 x48 x49 x50 x51 x52 x53 x54 x55 x56 x57 x58 L d6
      obtain ⟨Wc, hWc, rc⟩ := hrd (h16 (by omega))
      have hWu : W12 W.drew (W.drew.alloc (.cells #[.int .i64 x.ed, .int .i64 x.nd, .int .i64 x.dir] 82)) w2 (w2.setCell ⟨ob, j, none⟩ v') (upd L 7) = Wc := by rw [← hWc]; simp [W12, upd]
      rw [hWc]
      rw [hWu, ← put12_7] at hK
      have q0 := rc.x0; have q1 := rc.p4; have q2 := rc.oj
      refine op_value (F := Fence.wide) (v := .pointer (some ⟨p, 4, none⟩)) (w' := Wc) hF ho rfl (fun _ => by simp) ?_ hK
      clear hK hdep ho hrd h16 c13 c14 c16 hWc hWu
      generalize A12 H xb p ob lb m j x vj v' x0 x1 x2 x3 x4 x6 x7 x10 x11 x12 x13 x14 x15 x16 x17 x18 x19 x20 x21 x22 x23 x24 x25 x26 x27 x28 x29 x30 x31 x32 x33 x34 x35 x36 x37 x38 x39 x40 x41 x42 x43 x44 x45 x46 x47 x48 x49 x50 x51 x52 x53 x54 x55 x56 x57 x58 L = a at *
      go_simp
    · -- 8
      have hop := ho
      cases hop
      simp [Region.binds] at hdep
      have d7 : L 7 = true := by simp [hdep]
      have g48 := get12_48 H xb p ob lb m j x vj v' x0 x1 x2 x3 x4 x6 x7 x10 x11 x12 x13 x14 x15 x16 x17 x18 x19 x20 x21 x22 x23 x24 x25 x26 x27 x28 x29 x30 x31 x32 x33 x34 x35 x36 x37 x38 x39 x40 x41 x42 x43 x44 x45 x46 x47 x48 x49 x50 x51 x52 x53 x54 x55 x56 x57 x58 L d7
      obtain ⟨Wc, hWc, rc⟩ := hrd (h16 (by omega))
      have hWu : W12 W.drew (W.drew.alloc (.cells #[.int .i64 x.ed, .int .i64 x.nd, .int .i64 x.dir] 82)) w2 (w2.setCell ⟨ob, j, none⟩ v') (upd L 8) = Wc := by rw [← hWc]; simp [W12, upd]
      rw [hWc]
      rw [hWu, ← put12_8] at hK
      have q0 := rc.x0; have q1 := rc.p4; have q2 := rc.oj
      refine op_value (F := Fence.wide) (v := .slice (some ⟨ob, 0, none⟩) m m) (w' := Wc) hF ho rfl (fun _ => by simp) ?_ hK
      clear hK hdep ho hrd h16 c13 c14 c16 hWc hWu
      generalize A12 H xb p ob lb m j x vj v' x0 x1 x2 x3 x4 x6 x7 x10 x11 x12 x13 x14 x15 x16 x17 x18 x19 x20 x21 x22 x23 x24 x25 x26 x27 x28 x29 x30 x31 x32 x33 x34 x35 x36 x37 x38 x39 x40 x41 x42 x43 x44 x45 x46 x47 x48 x49 x50 x51 x52 x53 x54 x55 x56 x57 x58 L = a at *
      go_simp
    · -- 9
      have hop := ho
      cases hop
      have g8 := get12_8 H xb p ob lb m j x vj v' x0 x1 x2 x3 x4 x6 x7 x10 x11 x12 x13 x14 x15 x16 x17 x18 x19 x20 x21 x22 x23 x24 x25 x26 x27 x28 x29 x30 x31 x32 x33 x34 x35 x36 x37 x38 x39 x40 x41 x42 x43 x44 x45 x46 x47 x48 x49 x50 x51 x52 x53 x54 x55 x56 x57 x58 L
      obtain ⟨Wc, hWc, rc⟩ := hrd (h16 (by omega))
      have hWu : W12 W.drew (W.drew.alloc (.cells #[.int .i64 x.ed, .int .i64 x.nd, .int .i64 x.dir] 82)) w2 (w2.setCell ⟨ob, j, none⟩ v') (upd L 9) = Wc := by rw [← hWc]; simp [W12, upd]
      rw [hWc]
      rw [hWu, ← put12_9] at hK
      have q0 := rc.x0; have q1 := rc.p4; have q2 := rc.oj
      refine op_value (F := Fence.wide) (v := .int .i64 (j : Int)) (w' := Wc) hF ho rfl (fun _ => by simp) ?_ hK
      clear hK ho hrd h16 c13 c14 c16 hWc hWu
      generalize A12 H xb p ob lb m j x vj v' x0 x1 x2 x3 x4 x6 x7 x10 x11 x12 x13 x14 x15 x16 x17 x18 x19 x20 x21 x22 x23 x24 x25 x26 x27 x28 x29 x30 x31 x32 x33 x34 x35 x36 x37 x38 x39 x40 x41 x42 x43 x44 x45 x46 x47 x48 x49 x50 x51 x52 x53 x54 x55 x56 x57 x58 L = a at *
      go_simp
    · -- 10
      have hop := ho
      cases hop
      simp [Region.binds] at hdep
      have d8 : L 8 = true := by simp [hdep]
      have d9 : L 9 = true := by simp [hdep]
      have g49 := get12_49 H xb p ob lb m j x vj v' x0 x1 x2 x3 x4 x6 x7 x10 x11 x12 x13 x14 x15 x16 x17 x18 x19 x20 x21 x22 x23 x24 x25 x26 x27 x28 x29 x30 x31 x32 x33 x34 x35 x36 x37 x38 x39 x40 x41 x42 x43 x44 x45 x46 x47 x48 x49 x50 x51 x52 x53 x54 x55 x56 x57 x58 L d8
      have g50 := get12_50 H xb p ob lb m j x vj v' x0 x1 x2 x3 x4 x6 x7 x10 x11 x12 x13 x14 x15 x16 x17 x18 x19 x20 x21 x22 x23 x24 x25 x26 x27 x28 x29 x30 x31 x32 x33 x34 x35 x36 x37 x38 x39 x40 x41 x42 x43 x44 x45 x46 x47 x48 x49 x50 x51 x52 x53 x54 x55 x56 x57 x58 L d9
      obtain ⟨Wc, hWc, rc⟩ := hrd (h16 (by omega))
      have hWu : W12 W.drew (W.drew.alloc (.cells #[.int .i64 x.ed, .int .i64 x.nd, .int .i64 x.dir] 82)) w2 (w2.setCell ⟨ob, j, none⟩ v') (upd L 10) = Wc := by rw [← hWc]; simp [W12, upd]
      rw [hWc]
      rw [hWu, ← put12_10] at hK
      have q0 := rc.x0; have q1 := rc.p4; have q2 := rc.oj
      refine op_value (F := Fence.wide) (v := .pointer (some ⟨ob, j, none⟩)) (w' := Wc) hF ho rfl (fun _ => by simp) ?_ hK
      clear hK hdep ho hrd h16 c13 c14 c16 hWc hWu
      generalize A12 H xb p ob lb m j x vj v' x0 x1 x2 x3 x4 x6 x7 x10 x11 x12 x13 x14 x15 x16 x17 x18 x19 x20 x21 x22 x23 x24 x25 x26 x27 x28 x29 x30 x31 x32 x33 x34 x35 x36 x37 x38 x39 x40 x41 x42 x43 x44 x45 x46 x47 x48 x49 x50 x51 x52 x53 x54 x55 x56 x57 x58 L = a at *
      go_simp
    · -- 11
      have hop := ho
      cases hop
      simp [Region.binds] at hdep
      have d10 : L 10 = true := by simp [hdep]
      have g51 := get12_51 H xb p ob lb m j x vj v' x0 x1 x2 x3 x4 x6 x7 x10 x11 x12 x13 x14 x15 x16 x17 x18 x19 x20 x21 x22 x23 x24 x25 x26 x27 x28 x29 x30 x31 x32 x33 x34 x35 x36 x37 x38 x39 x40 x41 x42 x43 x44 x45 x46 x47 x48 x49 x50 x51 x52 x53 x54 x55 x56 x57 x58 L d10
      obtain ⟨Wc, hWc, rc⟩ := hrd (h16 (by omega))
      have hWu : W12 W.drew (W.drew.alloc (.cells #[.int .i64 x.ed, .int .i64 x.nd, .int .i64 x.dir] 82)) w2 (w2.setCell ⟨ob, j, none⟩ v') (upd L 11) = Wc := by rw [← hWc]; simp [W12, upd]
      rw [hWc]
      rw [hWu, ← put12_11] at hK
      have q0 := rc.x0; have q1 := rc.p4; have q2 := rc.oj
      refine op_value (F := Fence.wide) (v := vj) (w' := Wc) hF ho rfl (fun _ => by simp) ?_ hK
      clear hK hdep ho hrd h16 c13 c14 c16 hWc hWu
      generalize A12 H xb p ob lb m j x vj v' x0 x1 x2 x3 x4 x6 x7 x10 x11 x12 x13 x14 x15 x16 x17 x18 x19 x20 x21 x22 x23 x24 x25 x26 x27 x28 x29 x30 x31 x32 x33 x34 x35 x36 x37 x38 x39 x40 x41 x42 x43 x44 x45 x46 x47 x48 x49 x50 x51 x52 x53 x54 x55 x56 x57 x58 L = a at *
      go_simp
    · -- 12
      have hop := ho
      cases hop
      have g9 := get12_9 H xb p ob lb m j x vj v' x0 x1 x2 x3 x4 x6 x7 x10 x11 x12 x13 x14 x15 x16 x17 x18 x19 x20 x21 x22 x23 x24 x25 x26 x27 x28 x29 x30 x31 x32 x33 x34 x35 x36 x37 x38 x39 x40 x41 x42 x43 x44 x45 x46 x47 x48 x49 x50 x51 x52 x53 x54 x55 x56 x57 x58 L
      have e13 : L 13 = false := by
        cases e : L 13 with
        | false => rfl
        | true => rw [c13 e] at hLi; cases hLi
      have e14 : L 14 = false := by
        cases e : L 14 with
        | false => rfl
        | true => rw [c13 (c14 e)] at hLi; cases hLi
      have e16 := h16 (by omega)
      have hWc : W12 W.drew (W.drew.alloc (.cells #[.int .i64 x.ed, .int .i64 x.nd, .int .i64 x.dir] 82)) w2 (w2.setCell ⟨ob, j, none⟩ v') L = W.drew := by simp [W12, e14, e16, e13]
      have hWu : W12 W.drew (W.drew.alloc (.cells #[.int .i64 x.ed, .int .i64 x.nd, .int .i64 x.dir] 82)) w2 (w2.setCell ⟨ob, j, none⟩ v') (upd L 12) = W.drew := by simp [W12, upd, e14, e16, e13]
      rw [hWc]
      rw [hWu, ← put12_12] at hK
      refine op_value (F := Fence.wide) (v := LEAD x) (w' := W.drew) hF ho rfl (fun _ => by simp) ?_ hK
      clear hK ho hrd h16 c13 c14 c16 hWc hWu
      generalize A12 H xb p ob lb m j x vj v' x0 x1 x2 x3 x4 x6 x7 x10 x11 x12 x13 x14 x15 x16 x17 x18 x19 x20 x21 x22 x23 x24 x25 x26 x27 x28 x29 x30 x31 x32 x33 x34 x35 x36 x37 x38 x39 x40 x41 x42 x43 x44 x45 x46 x47 x48 x49 x50 x51 x52 x53 x54 x55 x56 x57 x58 L = a at *
      go_simp
    · -- 13
      have hop := ho
      cases hop
      simp [Region.binds] at hdep
      have d12 : L 12 = true := by simp [hdep]
      have g53 := get12_53 H xb p ob lb m j x vj v' x0 x1 x2 x3 x4 x6 x7 x10 x11 x12 x13 x14 x15 x16 x17 x18 x19 x20 x21 x22 x23 x24 x25 x26 x27 x28 x29 x30 x31 x32 x33 x34 x35 x36 x37 x38 x39 x40 x41 x42 x43 x44 x45 x46 x47 x48 x49 x50 x51 x52 x53 x54 x55 x56 x57 x58 L d12
      have e14 : L 14 = false := by
        cases e : L 14 with
        | false => rfl
        | true => rw [c14 e] at hLi; cases hLi
      have e16 := h16 (by omega)
      have hWc : W12 W.drew (W.drew.alloc (.cells #[.int .i64 x.ed, .int .i64 x.nd, .int .i64 x.dir] 82)) w2 (w2.setCell ⟨ob, j, none⟩ v') L = W.drew := by simp [W12, e14, e16, hLi]
      have hWu : W12 W.drew (W.drew.alloc (.cells #[.int .i64 x.ed, .int .i64 x.nd, .int .i64 x.dir] 82)) w2 (w2.setCell ⟨ob, j, none⟩ v') (upd L 13) = W.drew.alloc (.cells #[.int .i64 x.ed, .int .i64 x.nd, .int .i64 x.dir] 82) := by simp [W12, upd, e14, e16]
      rw [hWc]
      rw [hWu, ← put12_13] at hK
      refine op_value (F := Fence.wide) (v := .slice (some ⟨H, 0, none⟩) 1 1) hF ho rfl (fun _ => by simp) ?_ hK
      clear hK hdep ho hrd h16 c13 c14 c16 hWc hWu
      generalize A12 H xb p ob lb m j x vj v' x0 x1 x2 x3 x4 x6 x7 x10 x11 x12 x13 x14 x15 x16 x17 x18 x19 x20 x21 x22 x23 x24 x25 x26 x27 x28 x29 x30 x31 x32 x33 x34 x35 x36 x37 x38 x39 x40 x41 x42 x43 x44 x45 x46 x47 x48 x49 x50 x51 x52 x53 x54 x55 x56 x57 x58 L = a at *
      subst hH
      go_simp
    · -- 14
      have hop := ho
      cases hop
      simp [Region.binds] at hdep
      have d11 : L 11 = true := by simp [hdep]
      have d13 : L 13 = true := by simp [hdep]
      have g52 := get12_52 H xb p ob lb m j x vj v' x0 x1 x2 x3 x4 x6 x7 x10 x11 x12 x13 x14 x15 x16 x17 x18 x19 x20 x21 x22 x23 x24 x25 x26 x27 x28 x29 x30 x31 x32 x33 x34 x35 x36 x37 x38 x39 x40 x41 x42 x43 x44 x45 x46 x47 x48 x49 x50 x51 x52 x53 x54 x55 x56 x57 x58 L d11
      have g54 := get12_54 H xb p ob lb m j x vj v' x0 x1 x2 x3 x4 x6 x7 x10 x11 x12 x13 x14 x15 x16 x17 x18 x19 x20 x21 x22 x23 x24 x25 x26 x27 x28 x29 x30 x31 x32 x33 x34 x35 x36 x37 x38 x39 x40 x41 x42 x43 x44 x45 x46 x47 x48 x49 x50 x51 x52 x53 x54 x55 x56 x57 x58 L d13
      have d13' : L 13 = true := by simp [hdep]
      have e16 := h16 (by omega)
      have hWc : W12 W.drew (W.drew.alloc (.cells #[.int .i64 x.ed, .int .i64 x.nd, .int .i64 x.dir] 82)) w2 (w2.setCell ⟨ob, j, none⟩ v') L = W.drew.alloc (.cells #[.int .i64 x.ed, .int .i64 x.nd, .int .i64 x.dir] 82) := by simp [W12, e16, hLi, d13']
      have hWu : W12 W.drew (W.drew.alloc (.cells #[.int .i64 x.ed, .int .i64 x.nd, .int .i64 x.dir] 82)) w2 (w2.setCell ⟨ob, j, none⟩ v') (upd L 14) = w2 := by simp [W12, upd, e16]
      rw [hWc]
      rw [hWu, ← put12_14] at hK
      refine op_value (F := Fence.wide) (v := v') hF ho rfl (fun _ => by simp) ?_ hK
      clear hK hdep ho hrd h16 c13 c14 c16 hWc hWu
      generalize A12 H xb p ob lb m j x vj v' x0 x1 x2 x3 x4 x6 x7 x10 x11 x12 x13 x14 x15 x16 x17 x18 x19 x20 x21 x22 x23 x24 x25 x26 x27 x28 x29 x30 x31 x32 x33 x34 x35 x36 x37 x38 x39 x40 x41 x42 x43 x44 x45 x46 x47 x48 x49 x50 x51 x52 x53 x54 x55 x56 x57 x58 L = a at *
      generalize W.drew.alloc (.cells #[.int .i64 x.ed, .int .i64 x.nd, .int .i64 x.dir] 82) = w1 at *
      have k52 : a.eval (.tmp 52) = vj := by simpa [Act.eval] using g52
      have k54 : a.eval (.tmp 54) = .slice (some ⟨H, 0, none⟩) 1 1 := by simpa [Act.eval] using g54
      simp [execOp, resolve, invoke, builtin, k52, k54, happ, Sem.run_bind, Sem.run_pure, Result.andThen_ok]
    · -- 15
      have hop := ho
      cases hop
      simp [Region.binds] at hdep
      have d3 : L 3 = true := by simp [hdep]
      have d4 : L 4 = true := by simp [hdep]
      have g44 := get12_44 H xb p ob lb m j x vj v' x0 x1 x2 x3 x4 x6 x7 x10 x11 x12 x13 x14 x15 x16 x17 x18 x19 x20 x21 x22 x23 x24 x25 x26 x27 x28 x29 x30 x31 x32 x33 x34 x35 x36 x37 x38 x39 x40 x41 x42 x43 x44 x45 x46 x47 x48 x49 x50 x51 x52 x53 x54 x55 x56 x57 x58 L d3
      have g45 := get12_45 H xb p ob lb m j x vj v' x0 x1 x2 x3 x4 x6 x7 x10 x11 x12 x13 x14 x15 x16 x17 x18 x19 x20 x21 x22 x23 x24 x25 x26 x27 x28 x29 x30 x31 x32 x33 x34 x35 x36 x37 x38 x39 x40 x41 x42 x43 x44 x45 x46 x47 x48 x49 x50 x51 x52 x53 x54 x55 x56 x57 x58 L d4
      have d14 : L 14 = true := by simp [hdep]
      have e16 := h16 (by omega)
      have hWc : W12 W.drew (W.drew.alloc (.cells #[.int .i64 x.ed, .int .i64 x.nd, .int .i64 x.dir] 82)) w2 (w2.setCell ⟨ob, j, none⟩ v') L = w2 := by simp [W12, e16, d14]
      have hWu : W12 W.drew (W.drew.alloc (.cells #[.int .i64 x.ed, .int .i64 x.nd, .int .i64 x.dir] 82)) w2 (w2.setCell ⟨ob, j, none⟩ v') (upd L 15) = w2 := by simp [W12, upd, e16, d14]
      rw [hWc]
      rw [hWu, ← put12_15] at hK
      refine op_value (F := Fence.wide) (v := .pointer (some ⟨ob, j, none⟩)) (w' := w2) hF ho rfl (fun _ => by simp) ?_ hK
      clear hK hdep ho hrd h16 c13 c14 c16 hWc hWu
      generalize A12 H xb p ob lb m j x vj v' x0 x1 x2 x3 x4 x6 x7 x10 x11 x12 x13 x14 x15 x16 x17 x18 x19 x20 x21 x22 x23 x24 x25 x26 x27 x28 x29 x30 x31 x32 x33 x34 x35 x36 x37 x38 x39 x40 x41 x42 x43 x44 x45 x46 x47 x48 x49 x50 x51 x52 x53 x54 x55 x56 x57 x58 L = a at *
      go_simp
    · -- 16
      have hop := ho
      cases hop
      simp [Region.binds] at hdep
      have d15 : L 15 = true := by simp [hdep]
      have d14 : L 14 = true := by simp [hdep]
      have g56 := get12_56 H xb p ob lb m j x vj v' x0 x1 x2 x3 x4 x6 x7 x10 x11 x12 x13 x14 x15 x16 x17 x18 x19 x20 x21 x22 x23 x24 x25 x26 x27 x28 x29 x30 x31 x32 x33 x34 x35 x36 x37 x38 x39 x40 x41 x42 x43 x44 x45 x46 x47 x48 x49 x50 x51 x52 x53 x54 x55 x56 x57 x58 L d15
      have g55 := get12_55 H xb p ob lb m j x vj v' x0 x1 x2 x3 x4 x6 x7 x10 x11 x12 x13 x14 x15 x16 x17 x18 x19 x20 x21 x22 x23 x24 x25 x26 x27 x28 x29 x30 x31 x32 x33 x34 x35 x36 x37 x38 x39 x40 x41 x42 x43 x44 x45 x46 x47 x48 x49 x50 x51 x52 x53 x54 x55 x56 x57 x58 L d14
      have hWc : W12 W.drew (W.drew.alloc (.cells #[.int .i64 x.ed, .int .i64 x.nd, .int .i64 x.dir] 82)) w2 (w2.setCell ⟨ob, j, none⟩ v') L = w2 := by simp [W12, hLi, d14]
      have hWu : W12 W.drew (W.drew.alloc (.cells #[.int .i64 x.ed, .int .i64 x.nd, .int .i64 x.dir] 82)) w2 (w2.setCell ⟨ob, j, none⟩ v') (upd L 16) = w2.setCell ⟨ob, j, none⟩ v' := by simp [W12, upd]
      have hAu : A12 H xb p ob lb m j x vj v' x0 x1 x2 x3 x4 x6 x7 x10 x11 x12 x13 x14 x15 x16 x17 x18 x19 x20 x21 x22 x23 x24 x25 x26 x27 x28 x29 x30 x31 x32 x33 x34 x35 x36 x37 x38 x39 x40 x41 x42 x43 x44 x45 x46 x47 x48 x49 x50 x51 x52 x53 x54 x55 x56 x57 x58 (upd L 16) = A12 H xb p ob lb m j x vj v' x0 x1 x2 x3 x4 x6 x7 x10 x11 x12 x13 x14 x15 x16 x17 x18 x19 x20 x21 x22 x23 x24 x25 x26 x27 x28 x29 x30 x31 x32 x33 x34 x35 x36 x37 x38 x39 x40 x41 x42 x43 x44 x45 x46 x47 x48 x49 x50 x51 x52 x53 x54 x55 x56 x57 x58 L := by simp [A12, upd]
      rw [hWc]
      rw [hWu, hAu] at hK
      have q0 := r2.x0; have q1 := r2.p4; have q2 := r2.oj
      refine op_skip (F := Fence.wide) hF ho rfl (fun _ => by simp) ?_ hK
      clear hK hdep ho hrd h16 c13 c14 c16 hWc hWu hAu
      generalize A12 H xb p ob lb m j x vj v' x0 x1 x2 x3 x4 x6 x7 x10 x11 x12 x13 x14 x15 x16 x17 x18 x19 x20 x21 x22 x23 x24 x25 x26 x27 x28 x29 x30 x31 x32 x33 x34 x35 x36 x37 x38 x39 x40 x41 x42 x43 x44 x45 x46 x47 x48 x49 x50 x51 x52 x53 x54 x55 x56 x57 x58 L = a at *
      obtain ⟨g, k, c, rfl⟩ := hv
      go_simp
  · intro L hall
    have e : ∀ k, k < 17 → L k = true := fun k hk => hall k hk
    have hW : W12 W.drew (W.drew.alloc (.cells #[.int .i64 x.ed, .int .i64 x.nd, .int .i64 x.dir] 82)) w2 (w2.setCell ⟨ob, j, none⟩ v') L = w2.setCell ⟨ob, j, none⟩ v' := by simp [W12, e 16 (by omega)]
    have hA : A12 H xb p ob lb m j x vj v' x0 x1 x2 x3 x4 x6 x7 x10 x11 x12 x13 x14 x15 x16 x17 x18 x19 x20 x21 x22 x23 x24 x25 x26 x27 x28 x29 x30 x31 x32 x33 x34 x35 x36 x37 x38 x39 x40 x41 x42 x43 x44 x45 x46 x47 x48 x49 x50 x51 x52 x53 x54 x55 x56 x57 x58 L = { tmps := #[x0, x1, x2, x3, x4, .pointer (some ⟨xb, 0, none⟩), x6, x7, .int .i64 (j : Int), .pointer (some ⟨lb, 0, none⟩), x10, x11, x12, x13, x14, x15, x16, x17, x18, x19, x20, x21, x22, x23, x24, x25, x26, x27, x28, x29, x30, x31, x32, x33, x34, x35, x36, x37, x38, x39, x40, .pointer (some ⟨p, 0, none⟩), .pointer (some ⟨p, 0, none⟩), .pointer (some ⟨p, 4, none⟩), .slice (some ⟨ob, 0, none⟩) m m, .int .i64 (j : Int), .pointer (some ⟨p, 0, none⟩), .pointer (some ⟨p, 0, none⟩), .pointer (some ⟨p, 4, none⟩), .slice (some ⟨ob, 0, none⟩) m m, .int .i64 (j : Int), .pointer (some ⟨ob, j, none⟩), vj, LEAD x, .slice (some ⟨H, 0, none⟩) 1 1, v', .pointer (some ⟨ob, j, none⟩), x57, x58], defers := [] } := by
      simp [A12, e 0 (by omega), e 1 (by omega), e 2 (by omega), e 3 (by omega), e 4 (by omega), e 5 (by omega), e 6 (by omega), e 7 (by omega), e 8 (by omega), e 9 (by omega), e 10 (by omega), e 11 (by omega), e 12 (by omega), e 13 (by omega), e 14 (by omega), e 15 (by omega)]
    rw [hW, hA]
    exact hQ
end Go.Proofs.Ytbolojjnkkgehaa
