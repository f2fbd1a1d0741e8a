import Derived.WalkKit
import Derived.WalkLawsBesides
import Derived.WalkSmall
import Derived.Lib.Hide
import Derived.Maps.AppendAt
import Derived.Lib.AppendStr
import Derived.Laws.AppendOwnNone
import Derived.Laws.BytesArg
/-! Byte slices that a call owns. -/
namespace Go.Proofs.Ytbcnokidnpnmhaa
open Go.RowKit

def cellsU (l : List UInt8) : List Value := l.map fun c => .int .u8 (c.toNat : Int)
theorem cellsU_length (l : List UInt8) : (cellsU l).length = l.length := by simp [cellsU]
theorem cellsU_append (l m : List UInt8) : cellsU (l ++ m) = cellsU l ++ cellsU m := by simp [cellsU]

/-- The slice v, among the blocks from B on, is a row of its own with these bytes. (5: the type byte's number.) -/
def OwnB (w : World) (B : Nat) (v : Value) (l : List UInt8) : Prop := w.ownsRow B 5 1 v l.length (cellsU l)

/-- v' lies where v lay, or in a new block. -/
def Near (w : World) (v v' : Value) : Prop := ∀ k, v'.ownBlock = some k → v.ownBlock = some k ∨ w.heap.size ≤ k

theorem Near.refl (w : World) (v : Value) : Near w v v := fun _ h => .inl h
theorem OwnB.alloc {w : World} {B : Nat} {v : Value} {l : List UInt8} (h : OwnB w B v l) (o : Obj) : OwnB (w.alloc o) B v l := World.ownsRow.alloc h o
theorem OwnB.nil (w : World) (B : Nat) : OwnB w B (.slice none 0 0) [] := World.ownsRow_nil _ _ _ _
theorem OwnB.lt {w : World} {B : Nat} {v : Value} {l : List UInt8} (h : OwnB w B v l) : ∀ k, v.ownBlock = some k → B ≤ k ∧ k < w.heap.size := World.ownsRow.lt h
theorem OwnB.kept {w w' : World} {B : Nat} {v : Value} {l : List UInt8} {row : Option Nat} (h : OwnB w B v l) (hg : w.grownBy w' row) (hne : v.ownBlock = none ∨ v.ownBlock ≠ row) : OwnB w' B v l := World.ownsRow.kept h hg hne

theorem grown_refl (w : World) (r : Option Nat) : w.grownBy w r := ⟨rfl, rfl, rfl, Nat.le_refl _, fun _ _ _ => rfl⟩
theorem grown_trans {w w1 w2 : World} {r r2 : Option Nat} (h1 : w.grownBy w1 r) (h2 : w1.grownBy w2 r2) (hr : ∀ k, r2 = some k → r = some k ∨ w.heap.size ≤ k) : w.grownBy w2 r :=
  ⟨h2.os.trans h1.os, h2.tape.trans h1.tape, h2.output.trans h1.output, Nat.le_trans h1.size h2.size, fun k hk hne => by
    rw [h2.block k (Nat.lt_of_lt_of_le hk h1.size) (fun e => by rcases hr k e.symm with h | h; exact hne h.symm; omega), h1.block k hk hne]⟩
theorem grown_alloc {w w1 : World} {r : Option Nat} (h : w.grownBy w1 r) (o : Obj) : w.grownBy (w1.alloc o) r := grown_trans h (World.grownBy_alloc w1 o none) (fun k hk => by cases hk)
theorem below_grown {w w1 : World} {r : Option Nat} (h : w.grownBy w1 r) {B : Nat} (hB : B ≤ w.heap.size) (hr : ∀ k, r = some k → B ≤ k) : Below B w w1 :=
  (Below.refl B w).grown h hB hr
theorem grown_below {w w1 : World} (h : Below w.heap.size w w1) (r : Option Nat) : w.grownBy w1 r := ⟨h.os, h.tape, h.output, h.size, fun i hi _ => h.block i hi⟩
theorem below_trans' {w w1 w2 : World} (h : Below w.heap.size w w1) (k : Below w1.heap.size w1 w2) : Below w.heap.size w w2 :=
  h.trans (k.mono h.size)
theorem Near.trans {w w1 : World} {v v1 v2 : Value} (hs : w.heap.size ≤ w1.heap.size) (h1 : Near w v v1) (h2 : Near w1 v1 v2) : Near w v v2 := fun k hk => by
  rcases h2 k hk with h | h
  · exact h1 k h
  · exact .inr (by omega)

/-- What a writer leaves: of what was there only its own row has turned; the slice lies near. -/
structure Wrote (w : World) (v : Value) (w' : World) (v' : Value) : Prop where
  grown : w.grownBy w' v.ownBlock
  near : Near w v v'
theorem Wrote.refl (w : World) (v : Value) : Wrote w v w v := ⟨grown_refl w _, Near.refl w v⟩
theorem Wrote.trans {w w1 w2 : World} {v v1 v2 : Value} (h1 : Wrote w v w1 v1) (h2 : Wrote w1 v1 w2 v2) : Wrote w v w2 v2 :=
  ⟨grown_trans h1.grown h2.grown h1.near, h1.near.trans h1.grown.size h2.near⟩
theorem Wrote.alloc {w w1 : World} {v v1 : Value} (h1 : Wrote w v w1 v1) (o : Obj) : Wrote w v (w1.alloc o) v1 := ⟨grown_alloc h1.grown o, h1.near⟩
theorem Wrote.then_alloc {w w1 : World} {v v1 : Value} {o : Obj} (h1 : Wrote (w.alloc o) v w1 v1) : Wrote w v w1 v1 :=
  ⟨grown_trans (w1 := w.alloc o) (World.grownBy_alloc w o _) h1.grown (fun k hk => .inl hk), fun k hk => by rcases h1.near k hk with h | h; exact .inl h; exact .inr (by simp at h; omega)⟩
theorem Wrote.below {w w1 : World} {v v1 : Value} {B : Nat} (h : Wrote w v w1 v1) (hB : B ≤ w.heap.size) (hr : ∀ k, v.ownBlock = some k → B ≤ k) : Below B w w1 := below_grown h.grown hB hr

/-- The byte type's row of the program's table. -/
structure Byte5 (P : Program) : Prop where
  ht : P.underlying 22 = some (.slice 5)
  he : P.underlying 5 = some (.int .u8)
  hs : P.underlying 9 = some .string
  hi : (P.info? 5).map (fun i => (i.zero, i.size, i.bytes)) = some (some (.int .u8 0), 1, 1)

/-- append(b, c): one byte onto a slice of the call's own. -/
theorem wpList_app1 {P : Program} (h5 : Byte5 P) {w : World} {ops : Array Oper} {rest : List Oper} {o : Oper} {a : Act} {Q : Exit → Act → World → Prop} (hgd : o.guard = none) (s x : Operand)
    (ho : o.op = .call { callee := .builtin .append, args := #[s, x], argTypes := #[22, 22] })
    {B : Nat} {v : Value} {l : List UInt8} (hs : a.eval s = v) (hown : OwnB w B v l) (ad : Addr) (c : UInt8) (y : Int) (hx : a.eval x = .slice (some ad) 1 1) (hc : w.cell? ad = some (.int .u8 y)) (hxc : y = (c.toNat : Int))
    (hl : l.length < 140737488355328) (hB : B ≤ w.heap.size)
    (h : ∀ v' w', OwnB w' B v' (l ++ [c]) → Wrote w v w' v' → wpList P ops Q rest (a.put o.dst v') w') : wpList P ops Q (o :: rest) a w := by
  subst hxc
  obtain ⟨i5, hi, hz, hsz, hby⟩ := info_parts h5.hi
  refine wpList_append_own_at w hgd s x 22 ho B 5 i5 (.int .u8 0) 1 1 h5.ht hi hz hsz hby rfl (by decide) v l.length (cellsU l) hs hown ad 1 1 [.int .u8 (c.toNat : Int)] hx rfl
    (fun j u hj => by
      match j, hj with
      | 0, hj => simp at hj; subst hj; simpa [Addr.add] using hc)
    (fun u hu => by simp at hu; subst hu; rfl) (by unfold maxLen; omega) (by omega) hB ?_
  intro v' w' h2 h3 h4 h5'
  refine h v' w' ?_ ⟨h3, ?_⟩
  · unfold OwnB
    rw [cellsU_append, List.length_append]
    exact h2
  · intro k hk
    rcases h5' with e | e
    · exact .inl (by rw [← e]; exact hk)
    · rw [hk] at e; simp at e; exact .inr (by omega)

theorem Near.of {w : World} {v v' : Value} (h : v'.ownBlock = v.ownBlock ∨ v'.ownBlock = some w.heap.size) : Near w v v' := by
  intro k hk
  rcases h with e | e
  · exact .inl (by rw [← e]; exact hk)
  · rw [hk] at e; simp at e; exact .inr (by omega)

/-- Where a string's bytes are appended the row lies near. -/
theorem append_string_near {P : Program} (h5 : Byte5 P) {w : World} {B : Nat} {v : Value} {l : List UInt8} (hown : OwnB w B v l) (s : ByteArray) (hl : l.length + s.size ≤ 140737488355328) (ty : TypeId)
    (v' : Value) (w' : World) (hr : (Builtin.append_ #[22, 9] ty #[v, .string s]).run P w = .ok v' w') : v'.ownBlock = v.ownBlock ∨ v'.ownBlock = some w.heap.size := by
  obtain ⟨i5, hi, hz, hsz, hby⟩ := info_parts h5.hi
  rcases hown.2 with ⟨rfl, h0⟩ | ⟨g, cap, cur, rfl, hbg, hg, hnc, hcm, hcs, htake⟩
  · by_cases hm : s.size = 0
    · have hf := Lib.run_firstCells_string (P := P) w 1 s
      rw [hm] at hf
      have : (Builtin.append_ #[22, 9] ty #[.slice none 0 0, .string s]).run P w = .ok (.slice none 0 0) w := by
        simp [Builtin.append_, run_underlying h5.ht, run_underlying h5.hs, sizeOf, typeInfo, hi, hsz, Builtin.lenOf, hm, hf]
      rw [this] at hr
      injection hr with e1 e2
      subst e1
      exact .inl rfl
    · have h := run_append_nil_string (P := P) w 22 9 ty 5 i5 (.int .u8 0) h5.ht h5.hs hi hz s (by omega) (by omega) (by rw [hby]; omega)
      rw [h] at hr
      injection hr with e1 e2
      subst e1
      exact .inr rfl
  · by_cases hroom : l.length + s.size ≤ cap
    · have hcs' : cur.size = cap := by simpa using hcs
      have h := Lib.run_append_room_string (P := P) w 22 9 ty 5 i5 h5.ht h5.hs hi hsz g l.length cap cur hg s hroom (by omega)
      rw [h] at hr
      injection hr with e1 e2
      subst e1
      exact .inl rfl
    · have holds : ∀ j u, (cellsU l)[j]? = some u → w.cell? ((⟨g, 0, none⟩ : Addr).add j) = some u := World.ownsRow.cells hown (g := g) rfl
      have h := Lib.run_append_grow_string (P := P) w 22 9 ty 5 i5 (.int .u8 0) h5.ht h5.hs hi hz ⟨g, 0, none⟩ l.length cap (cellsU l) (by rw [hsz, cellsU_length]; omega) holds s (by omega) (by omega) (by rw [hby]; exact growslice_fits (by omega) (by omega))
      rw [h] at hr
      injection hr with e1 e2
      subst e1
      exact .inr rfl

theorem strCells_eq (s : ByteArray) : Lib.strCells s = cellsU s.data.toList := rfl

/-- append(b, s...): a string's bytes onto a slice of the call's own. -/
theorem wpList_appS {P : Program} (h5 : Byte5 P) {w : World} {ops : Array Oper} {rest : List Oper} {o : Oper} {a : Act} {Q : Exit → Act → World → Prop} (hgd : o.guard = none) (sl x : Operand)
    (ho : o.op = .call { callee := .builtin .append, args := #[sl, x], argTypes := #[22, 9] })
    {B : Nat} {v : Value} {l : List UInt8} (hs : a.eval sl = v) (hown : OwnB w B v l) (s : ByteArray) (hx : a.eval x = .string s)
    (hl : l.length + s.size ≤ 140737488355328) (hB : B ≤ w.heap.size)
    (h : ∀ v' w', OwnB w' B v' (l ++ s.data.toList) → Wrote w v w' v' → wpList P ops Q rest (a.put o.dst v') w') : wpList P ops Q (o :: rest) a w := by
  refine wpList_plain hgd fun K hK => ?_
  obtain ⟨i5, hi, hz, hsz, hby⟩ := info_parts h5.hi
  obtain ⟨v', w', hr, h2, h3, h4⟩ := Lib.run_append_own_string (P := P) w B 22 9 o.type 5 i5 h5.ht h5.hs hi hz hsz hby v l.length (cellsU l) hown s (by unfold maxLen; omega) hl hB
  have hn := append_string_near h5 hown s hl o.type v' w' hr
  unfold Oper.wp execOp
  simp only [ho, resolve, invoke, builtin, Sem.run_bind, Sem.run_pure, Result.andThen_ok, List.map_toArray, List.map_cons, List.map_nil, hs, hx, hr]
  refine hK _ _ (h v' w' ?_ ⟨h3, Near.of hn⟩)
  unfold OwnB
  rw [cellsU_append, List.length_append]
  exact h2

/-- The slice v reads as these bytes (nil or not). -/
def ReadsB (w : World) (v : Value) (l : List UInt8) : Prop :=
  (v = .slice none 0 0 ∧ l = []) ∨ ∃ ad c, v = .slice (some ad) l.length c ∧ l.length ≤ c ∧ c ≤ maxLen ∧ ad.spot = none ∧ ∀ j, j < l.length → w.cell? ⟨ad.block, ad.off + j, none⟩ = some (.int .u8 (l.getD j 0).toNat)

theorem addr_add {ad : Addr} (h : ad.spot = none) (j : Nat) : ad.add j = ⟨ad.block, ad.off + j, none⟩ := by
  obtain ⟨b, o, s⟩ := ad
  simp at h; subst h
  unfold Addr.add
  split
  · rename_i e; subst e; rfl
  · rfl
theorem cellsU_get {l : List UInt8} {j : Nat} {u : Value} (h : (cellsU l)[j]? = some u) : j < l.length ∧ u = .int .u8 (l.getD j 0).toNat := by
  have hj : j < (cellsU l).length := by
    rcases Nat.lt_or_ge j (cellsU l).length with h1 | h1
    · exact h1
    · rw [List.getElem?_eq_none h1] at h; cases h
  rw [cellsU_length] at hj
  refine ⟨hj, ?_⟩
  simp [cellsU, List.getElem?_map, List.getElem?_eq_getElem hj] at h
  rw [← h]
  simp [List.getD_eq_getElem?_getD, List.getElem?_eq_getElem hj]
theorem cellsU_at {l : List UInt8} {j : Nat} (h : j < l.length) : (cellsU l)[j]? = some (.int .u8 (l.getD j 0).toNat) := by
  simp [cellsU, List.getElem?_map, List.getElem?_eq_getElem h, List.getD_eq_getElem?_getD]

theorem OwnB.reads {w : World} {B : Nat} {v : Value} {l : List UInt8} (h : OwnB w B v l) : ReadsB w v l := by
  rcases h.2 with ⟨rfl, h0⟩ | ⟨g, cap, cur, rfl, hbg, hg, hnc, hcm, hcs, htake⟩
  · exact .inl ⟨rfl, List.eq_nil_of_length_eq_zero h0⟩
  · refine .inr ⟨⟨g, 0, none⟩, cap, rfl, hnc, hcm, rfl, fun j hj => ?_⟩
    have := World.ownsRow.cells h (g := g) rfl j _ (cellsU_at hj)
    rw [addr_add rfl] at this
    exact this
theorem ReadsB.kept {w w' : World} {v : Value} {l : List UInt8} (h : ReadsB w v l) (hc : ∀ b o u, w.cell? ⟨b, o, none⟩ = some u → v.ownBlock = some b → w'.cell? ⟨b, o, none⟩ = some u) : ReadsB w' v l := by
  rcases h with h | ⟨ad, c, rfl, h1, h2, h3, h4⟩
  · exact .inl h
  · exact .inr ⟨ad, c, rfl, h1, h2, h3, fun j hj => hc _ _ _ (h4 j hj) rfl⟩
theorem ReadsB.below {w w' : World} {v : Value} {l : List UInt8} (h : ReadsB w v l) (hb : Below w.heap.size w w') : ReadsB w' v l :=
  h.kept fun b o _ hx _ => (hb.cell (p := ⟨b, o, none⟩) (World.block_lt_of_cell? w _ hx)).trans hx
theorem ReadsB.grown {w w' : World} {v : Value} {l : List UInt8} {r : Option Nat} (h : ReadsB w v l) (hg : w.grownBy w' r) (hne : v.ownBlock = none ∨ v.ownBlock ≠ r) : ReadsB w' v l :=
  h.kept fun b o _ hx hb => hg.cell hx (by rcases hne with e | e <;> simp_all)

/-- append(b, x...): bytes that lie somewhere onto a slice of the call's own. -/
theorem wpList_appB {P : Program} (h5 : Byte5 P) {w : World} {ops : Array Oper} {rest : List Oper} {o : Oper} {a : Act} {Q : Exit → Act → World → Prop} (hgd : o.guard = none) (s x : Operand)
    (ho : o.op = .call { callee := .builtin .append, args := #[s, x], argTypes := #[22, 22] })
    {B : Nat} {v y : Value} {l m : List UInt8} (hs : a.eval s = v) (hown : OwnB w B v l) (hx : a.eval x = y) (hr : ReadsB w y m)
    (hl : l.length + m.length ≤ 140737488355328) (hB : B ≤ w.heap.size)
    (h : ∀ v' w', OwnB w' B v' (l ++ m) → Wrote w v w' v' → wpList P ops Q rest (a.put o.dst v') w') : wpList P ops Q (o :: rest) a w := by
  obtain ⟨i5, hi, hz, hsz, hby⟩ := info_parts h5.hi
  rcases hr with ⟨rfl, rfl⟩ | ⟨ad, c, rfl, h1, h2, h3, h4⟩
  · refine wpList_append_own_none hgd s x 22 ho B 5 i5 1 h5.ht hi v l.length (cellsU l) hs hown hx (h v w (by rw [List.append_nil]; exact hown) (Wrote.refl w v))
  · refine wpList_append_own_at w hgd s x 22 ho B 5 i5 (.int .u8 0) 1 1 h5.ht hi hz hsz hby rfl (by decide) v l.length (cellsU l) hs hown ad m.length c (cellsU m) hx (by rw [cellsU_length]; omega)
      (fun j u hj => by
        obtain ⟨hj1, rfl⟩ := cellsU_get hj
        rw [addr_add h3]; exact h4 j hj1)
      (fun u hu => by simp only [cellsU, List.mem_map] at hu; obtain ⟨_, _, rfl⟩ := hu; rfl) (by unfold maxLen; omega) (by omega) hB ?_
    intro v' w' h6 h7 h8 h9
    refine h v' w' ?_ ⟨h7, Near.of h9⟩
    unfold OwnB
    rw [cellsU_append, List.length_append]
    exact h6

/-- string(b) -/
theorem reads_string {P : Program} (h5 : Byte5 P) {w : World} {v : Value} {l : List UInt8} (h : ReadsB w v l) : (convert 22 9 v).run P w = .ok (.string ⟨l.toArray⟩) w := by
  rcases h with ⟨rfl, rfl⟩ | ⟨ad, c, rfl, h1, h2, h3, h4⟩
  · exact run_convert_bytes_nil w 22 5 h5.ht h5.he 0 0 9 h5.hs
  · obtain ⟨b, o, sp⟩ := ad
    simp at h3
    subst h3
    have e : strOfNums (l.map fun c => (c.toNat : Int)) = ⟨l.toArray⟩ := by
      unfold strOfNums
      congr 2
      rw [List.map_map]
      have e2 : ((fun n : Int => UInt8.ofNat n.toNat) ∘ fun c : UInt8 => (c.toNat : Int)) = id := by funext c; simp
      rw [e2, List.map_id]
    rw [← e]
    refine run_convert_bytes_arg w 22 5 h5.ht h5.he b o l.length c (l.map fun c => (c.toNat : Int)) (by simp) (fun i hi => ?_) 9 h5.hs
    rw [h4 i hi]
    simp [List.getD_eq_getElem?_getD, List.getElem?_eq_getElem hi]

theorem bcell {W w1 : World} (hb : Below W.heap.size W w1) : (∀ b o, b < W.heap.size → w1.cell? ⟨b, o, none⟩ = W.cell? ⟨b, o, none⟩) ∧ (∀ b o, b < W.heap.size → w1.frozen? ⟨b, o, none⟩ = W.frozen? ⟨b, o, none⟩) :=
  ⟨fun b o h => hb.cell (p := ⟨b, o, none⟩) h, fun b o h => hb.frozen (p := ⟨b, o, none⟩) h⟩

theorem OwnB.drew {w : World} {B : Nat} {v : Value} {l : List UInt8} (h : OwnB w B v l) : OwnB w.drew B v l := h

/-- append(b, c) as one step of a region that draws its order. -/
theorem step_app1 {P : Program} (h5 : Byte5 P) {w : World} {ops : Array Oper} {o : Oper} {a : Act} {K : Act → World → Prop} {Q : Exit → Act → World → Prop} {E : Prop} (hgd : o.guard = none) (s x : Operand)
    (ho : o.op = .call { callee := .builtin .append, args := #[s, x], argTypes := #[22, 22] })
    {B : Nat} {v : Value} {l : List UInt8} (hs : a.eval s = v) (hown : OwnB w B v l) (ad : Addr) (c : UInt8) (y : Int) (hx : a.eval x = .slice (some ad) 1 1) (hc : w.cell? ad = some (.int .u8 y)) (hxc : y = (c.toNat : Int))
    (hl : l.length < 140737488355328) (hB : B ≤ w.heap.size)
    (h : ∀ v' w', OwnB w' B v' (l ++ [c]) → Wrote w v w' v' → K (a.put o.dst v') w') : if Region.wanted o (yielded ops a.tmps) = true then Oper.wp P o a w K Q else E := by
  have hw : Region.wanted o (yielded ops a.tmps) = true := by simp [Region.wanted, hgd]
  rw [if_pos hw]
  subst hxc
  obtain ⟨i5, hi, hz, hsz, hby⟩ := info_parts h5.hi
  obtain ⟨v', w', hr, h2, h3, h4, h9⟩ := run_append_own_at (P := P) w B 22 o.type 5 i5 (.int .u8 0) 1 1 h5.ht hi hz hsz hby rfl (by decide) v l.length (cellsU l) hown ad 1 1 [.int .u8 (c.toNat : Int)] rfl
    (fun j u hj => by
      match j, hj with
      | 0, hj => simp at hj; subst hj; simpa [Addr.add] using hc)
    (fun u hu => by simp at hu; subst hu; rfl) (by unfold maxLen; omega) (by omega) hB
  unfold Oper.wp execOp
  simp only [ho, resolve, invoke, builtin, Sem.run_bind, Sem.run_pure, Result.andThen_ok, List.map_toArray, List.map_cons, List.map_nil, hs, hx, hr]
  refine h v' w' ?_ ⟨h3, Near.of h9⟩
  unfold OwnB
  rw [cellsU_append, List.length_append]
  exact h2

theorem Near.ne {w : World} {v v' : Value} (h : Near w v v') {k : Nat} (h1 : some k ≠ v.ownBlock) (h2 : k < w.heap.size) : some k ≠ v'.ownBlock := fun e => by
  rcases h k e.symm with h3 | h3
  · exact h1 h3.symm
  · omega
theorem Wrote.then_drew {w w1 : World} {v v1 : Value} (h : Wrote w.drew v w1 v1) : Wrote w v w1 v1 := ⟨⟨h.grown.os, h.grown.tape, h.grown.output, h.grown.size, h.grown.block⟩, h.near⟩
theorem Wrote.of_below {w w1 : World} {v : Value} (h : Below w.heap.size w w1) : Wrote w v w1 v := ⟨grown_below h _, fun _ hk => .inl hk⟩
theorem Wrote.then_below {w w1 w2 : World} {v v1 : Value} (h : Wrote w v w1 v1) (hb : Below w1.heap.size w1 w2) : Wrote w v w2 v1 := h.trans (Wrote.of_below hb)

theorem cell_alloc {w : World} {a : Addr} {v : Value} (h : w.cell? a = some v) (o : Obj) : (w.alloc o).cell? a = some v := (World.grownBy_alloc w o none).cell h (by simp)

end Go.Proofs.Ytbcnokidnpnmhaa
