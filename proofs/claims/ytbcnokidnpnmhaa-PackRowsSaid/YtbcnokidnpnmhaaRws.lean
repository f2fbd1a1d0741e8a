/- Proved: 'bridlewaylaw03.PackRows' returns true for any numbers and texts, and leaves its input as it was. No condition. -/
import Derived.Test.YtbcnokidnpnmhaaLst
import Derived.Test.YtbcnokidnpnmhaaRef
import Derived.Deep.LoopGhost
import Derived.Deep.CutBlock
import Derived.Deep.RegionHeld3
namespace Go.Proofs.Ytbcnokidnpnmhaa
open Go.ChangeShapes Go.WideShapes Go.ChangeAt Go.RowKit
attribute [local go_sem ↓] Go.wp_at_zero Go.wp_at_succ

def fB (z : Nat) : Nat := if nanB z = true then 0 else z
def intV (z : Nat) : Vl := ⟨2, wrap64 z, 0, []⟩
def floV (z : Nat) : Vl := ⟨3, 0, fB z, []⟩
def valsOf (zs : List Nat) : List Vl := zs.flatMap fun z => [intV z, floV z]
def flatN (zs : List Nat) : List UInt8 := zs.flatMap putB
theorem valsOf_snoc (zs : List Nat) (z : Nat) : valsOf (zs ++ [z]) = valsOf zs ++ [intV z, floV z] := by simp [valsOf]
theorem flatN_snoc (zs : List Nat) (z : Nat) : flatN (zs ++ [z]) = flatN zs ++ putB z := by simp [flatN]
theorem valsOf_length (zs : List Nat) : (valsOf zs).length = 2 * zs.length := by
  induction zs with
  | nil => rfl
  | cons z zs ih => simp only [valsOf, List.flatMap_cons, List.length_append, List.length_cons, List.length_nil] at ih ⊢; omega
theorem flatN_length (zs : List Nat) (h : ∀ z ∈ zs, z < 18446744073709551616) : (flatN zs).length ≤ 9 * zs.length := by
  induction zs with
  | nil => simp [flatN]
  | cons z zs ih =>
    have h1 := putB_len z (h z (by simp))
    have h2 := ih fun y hy => h y (by simp [hy])
    simp only [flatN, List.flatMap_cons, List.length_append, List.length_cons] at h2 ⊢
    omega

def cutS (s : ByteArray) : ByteArray := s.extract 0 (min s.size 100)
def txt (s : ByteArray) : List UInt8 := putTextB (cutS s).data.toList
def flatT (ss : List ByteArray) : List UInt8 := ss.flatMap txt
theorem flatT_snoc (ss : List ByteArray) (s : ByteArray) : flatT (ss ++ [s]) = flatT ss ++ txt s := by simp [flatT]
theorem cutS_size (s : ByteArray) : (cutS s).size ≤ 100 := by unfold cutS; simp; omega
theorem txt_length (s : ByteArray) : (txt s).length ≤ 109 := by
  have h1 : (cutS s).data.toList.length ≤ 100 := cutS_size s
  have h2 := putB_len (cutS s).data.toList.length (by omega)
  unfold txt putTextB
  rw [List.length_append]; omega
theorem flatT_length (ss : List ByteArray) : (flatT ss).length ≤ 109 * ss.length := by
  induction ss with
  | nil => simp [flatT]
  | cons s ss ih =>
    have h1 := txt_length s
    simp only [flatT, List.flatMap_cons, List.length_append, List.length_cons] at ih ⊢
    omega
theorem cut_q (s : ByteArray) : ∃ q : Nat, (if (100 : Int) < (s.size : Int) then (100 : Int) else (s.size : Int)) = (q : Int) ∧ (0 : Int) ≤ (q : Int) ∧ (q : Int) ≤ (s.size : Int) ∧ s.extract 0 q = cutS s := by
  unfold cutS
  split
  · exact ⟨100, rfl, by omega, by omega, by rw [show min s.size 100 = 100 by omega]⟩
  · exact ⟨s.size, rfl, by omega, by omega, by rw [show min s.size 100 = s.size by omega]⟩

/-- After so many rounds of the first loop. -/
structure RowsA (w1 wr : World) (B : Nat) (vb vv : Value) (l : List UInt8) (L : List Vl) : Prop where
  b : OwnB wr B vb l
  v : OwnV wr B vv L
  ap : vv.ownBlock = none ∨ vv.ownBlock ≠ vb.ownBlock
  be : Below B w1 wr
  sz : B ≤ wr.heap.size

theorem RowsA.put {w1 wr w2 : World} {B : Nat} {vb vv vb' : Value} {l l' : List UInt8} {L : List Vl} (h : RowsA w1 wr B vb vv l L) (ho : OwnB w2 B vb' l') (hw : Wrote wr vb w2 vb') : RowsA w1 w2 B vb' vv l' L := by
  refine ⟨ho, h.v.kept hw.grown h.ap, ?_, h.be.trans (hw.below h.sz fun k hk => (h.b.lt k hk).1), Nat.le_trans h.sz hw.grown.size⟩
  rcases h.ap with e | e
  · exact .inl e
  · cases hv : vv.ownBlock with
    | none => exact .inl rfl
    | some k =>
      refine .inr fun e2 => ?_
      rcases hw.near k e2.symm with e3 | e3
      · exact e (hv.trans e3.symm)
      · have := (h.v.lt k hv).2
        omega
theorem RowsA.app {w1 wr w2 : World} {B : Nat} {vb vv vv' : Value} {l : List UInt8} {L L' : List Vl} (h : RowsA w1 wr B vb vv l L) (ho : OwnV w2 B vv' L') (hw : Wrote wr vv w2 vv') : RowsA w1 w2 B vb vv' l L' := by
  have hap : vb.ownBlock = none ∨ vb.ownBlock ≠ vv.ownBlock := by
    rcases h.ap with e | e
    · rw [e]; exact Classical.em _
    · exact .inr fun e2 => e e2.symm
  refine ⟨h.b.kept hw.grown hap, ho, ?_, h.be.trans (hw.below h.sz fun k hk => (h.v.lt k hk).1), Nat.le_trans h.sz hw.grown.size⟩
  cases hv : vv'.ownBlock with
  | none => exact .inl rfl
  | some k =>
    refine .inr fun e2 => ?_
    rcases hw.near k hv with e3 | e3
    · rcases hap with e4 | e4
      · rw [e4] at e2; cases e2
      · exact e4 (e2.symm.trans e3.symm)
    · have := (h.b.lt k e2.symm).2
      omega

theorem OwnV.form {w : World} {B : Nat} {v : Value} {L : List Vl} (h : OwnV w B v L) : ∃ A c, v = .slice A L.length c ∧ L.length ≤ c := by
  rcases h.2 with ⟨rfl, h0⟩ | ⟨g, cap, cur, rfl, hbg, hg, hnc, hcm, hcs, htake⟩
  · exact ⟨none, 0, by rw [h0], by omega⟩
  · exact ⟨_, cap, rfl, hnc⟩
theorem OwnV.at {w : World} {B n c : Nat} {A : Option Addr} {L : List Vl} (h : OwnV w B (.slice A n c) L) (i : Nat) (hi : i < L.length) : ∃ g, A = some ⟨g, 0, none⟩ ∧ w.cell? ⟨g, i * 4, none⟩ = some (.int .i64 L[i].k) ∧ w.cell? ⟨g, i * 4 + 1, none⟩ = some (.int .i64 L[i].n) ∧ w.cell? ⟨g, i * 4 + 2, none⟩ = some (.float .f64 L[i].f) ∧ w.cell? ⟨g, i * 4 + 3, none⟩ = some (.string ⟨L[i].s.toArray⟩) ∧ B ≤ g ∧ g < w.heap.size := by
  have hc : ∀ (M : List Vl) (k : Nat) (hk : k < M.length), (cellsV M)[k * 4]? = some (.int .i64 M[k].k) ∧ (cellsV M)[k * 4 + 1]? = some (.int .i64 M[k].n) ∧ (cellsV M)[k * 4 + 2]? = some (.float .f64 M[k].f) ∧ (cellsV M)[k * 4 + 3]? = some (.string ⟨M[k].s.toArray⟩) := by
    intro M
    induction M with
    | nil => intro k hk; simp at hk
    | cons x M ih =>
      intro k hk
      cases k with
      | zero => simp [cellsV]
      | succ k =>
        have h1 := ih k (by simpa using hk)
        have e : cellsV (x :: M) = [.int .i64 x.k, .int .i64 x.n, .float .f64 x.f, .string ⟨x.s.toArray⟩] ++ cellsV M := by simp [cellsV]
        rw [e, show (k + 1) * 4 = 4 + k * 4 by omega]
        refine ⟨?_, ?_, ?_, ?_⟩
        · rw [List.getElem?_append_right (by simp)]; simpa using h1.1
        · rw [List.getElem?_append_right (by simp; omega)]; simpa [Nat.add_assoc, Nat.add_sub_cancel_left] using h1.2.1
        · rw [List.getElem?_append_right (by simp; omega)]; simpa [Nat.add_assoc, Nat.add_sub_cancel_left] using h1.2.2.1
        · rw [List.getElem?_append_right (by simp; omega)]; simpa [Nat.add_assoc, Nat.add_sub_cancel_left] using h1.2.2.2
  have hl := World.ownsRow.lt h
  have hcl := cellsV_length L
  rcases h.2 with ⟨e, h0⟩ | ⟨g, cap, cur, e, hbg, hg, hnc, hcm, hcs, htake⟩
  · omega
  · injection e with e1 e2 e3
    subst e1
    obtain ⟨h1, h2, h3, h4⟩ := hc L i hi
    have hcell : ∀ j u, (cellsV L)[j]? = some u → w.cell? ⟨g, j, none⟩ = some u := fun j u hj => by
      have := World.ownsRow.cells h (g := g) rfl j u hj
      rwa [addr_add rfl, Nat.zero_add] at this
    exact ⟨g, rfl, hcell _ _ h1, hcell _ _ h2, hcell _ _ h3, hcell _ _ h4, (hl g rfl).1, (hl g rfl).2⟩

def flatV (L : List Vl) : List UInt8 := L.flatMap putValueB
theorem flatV_snoc (L : List Vl) (x : Vl) : flatV (L ++ [x]) = flatV L ++ putValueB x := by simp [flatV]
theorem fB_lt {z : Nat} (h : z < 18446744073709551616) : fB z < 18446744073709551616 := by unfold fB; split <;> omega
theorem fB_canon (z : Nat) : canonB (fB z) = fB z := by
  unfold fB
  split
  · exact canonB_num ((nanB_false 0).2 (by omega))
  · rename_i h; exact canonB_num (by simpa using h)
theorem putV_len {x : Vl} (hx : Fits x) (hs : x.s = []) : (putValueB x).length ≤ 20 := by
  have hp : ∀ n, n < 18446744073709551616 → (putB n).length ≤ 9 := putB_len
  rcases right_cases hx.right with e | (e | e) | e | ⟨e, _⟩ | e
  · rw [e]; simp [putValueB]
  · rw [e]; have := hp 0 (by omega); simp [putValueB]; omega
  · rw [e]; have := hp 1 (by omega); simp [putValueB]; omega
  · have h0 := hx.n0
    have h1 := hx.n1
    rw [e]
    by_cases hn : x.n < 0
    · have := hp (-1 - x.n).toNat (by omega); simp [putValueB, hn]; omega
    · have := hp x.n.toNat (by omega); simp [putValueB, hn]; omega
  · rw [e]; simp [putValueB, fixB_length]
  · rw [e, hs]; have := hp 0 (by omega); simp [putValueB, putTextB]; omega
theorem flatV_length (L : List Vl) (h : ∀ x ∈ L, Fits x ∧ x.s = []) : (flatV L).length ≤ 20 * L.length := by
  induction L with
  | nil => simp [flatV]
  | cons x L ih =>
    have h1 := putV_len (h x (by simp)).1 (h x (by simp)).2
    have h2 := ih fun y hy => h y (by simp [hy])
    simp only [flatV, List.flatMap_cons, List.length_append, List.length_cons] at h2 ⊢
    omega
theorem vals_fit {zs : List Nat} (h : ∀ z ∈ zs, z < 18446744073709551616) : ∀ x ∈ valsOf zs, Fits x ∧ x.s = [] := by
  intro x hx
  simp only [valsOf, List.mem_flatMap, List.mem_cons, List.not_mem_nil, or_false] at hx
  obtain ⟨z, hz, rfl | rfl⟩ := hx
  · have hw : -9223372036854775808 ≤ wrap64 (z : Int) ∧ wrap64 (z : Int) ≤ 9223372036854775807 := by unfold wrap64; omega
    exact ⟨⟨hw.1, hw.2, by simp [intV], rightB_2 _⟩, rfl⟩
  · exact ⟨⟨by simp [floV], by simp [floV], fB_lt (h z hz), rightB_3 _ (fB_canon z)⟩, rfl⟩
theorem putValue_fit (B : Nat) (v : Value) (l : List UInt8) (x : Vl) (hx : Fits x) (hs : x.s = []) (w : World) (ho : OwnB w B v l) (hB : B ≤ w.heap.size) (hl : l.length < 100000) :
    Calls Try.prog 14 #[v, VL x] w fun e w' => ∃ v', e = .returned (.tuple #[v', .int .i64 0]) ∧ OwnB w' B v' (l ++ putValueB x) ∧ Wrote w v w' v' := by
  refine (putValue_any B v l x.k x.n x.f ⟨x.s.toArray⟩ w ho hB (by omega) (by rw [hs]; show l.length + 0 < _; omega) hx.n0 hx.n1 hx.f).mono ?_
  rintro e w' ⟨v', h1, h2, h3⟩
  rw [hx.right] at h1 h2
  exact ⟨v', h1, h2, h3⟩

/-- Between the rounds of the reading loops. -/
def RowsR (w1 wr : World) (B : Nat) (vv : Value) (L : List Vl) : Prop := Below B w1 wr ∧ OwnV wr B vv L
theorem RowsR.next {w1 wr w2 : World} {B : Nat} {vv : Value} {L : List Vl} (h : RowsR w1 wr B vv L) (hs : B ≤ wr.heap.size) (hb : Below wr.heap.size wr w2) : RowsR w1 w2 B vv L :=
  ⟨h.1.trans (hb.mono hs), h.2.kept (grown_below hb none) (Classical.em _)⟩
theorem RowsR.drew {w1 wr : World} {B : Nat} {vv : Value} {L : List Vl} (h : RowsR w1 wr B vv L) : RowsR w1 wr.drew B vv L := ⟨h.1.drew, h.2⟩

theorem reads_from {w : World} {A : Option Addr} {n c : Nat} {l : List UInt8} (h : ReadsB w (.slice A n c) l) (k : Nat) (hk : k ≤ l.length) :
    ReadsB w (.slice (if c = k then A else A.map fun x => x.add k) (l.length - k) (c - k)) (l.drop k) := by
  rcases h with ⟨h1, rfl⟩ | ⟨ad, c', h1, h2, h3, h4, h5⟩
  · injection h1 with e1 e2 e3
    subst e1; subst e3
    exact .inl ⟨by split <;> simp, by simp⟩
  · injection h1 with e1 e2 e3
    subst e1; subst e3
    have hl : (l.drop k).length = l.length - k := by simp
    split
    · rename_i hck
      exact .inr ⟨ad, c - k, by rw [hl], by rw [hl]; omega, by omega, h4, fun j hj => by rw [hl] at hj; omega⟩
    · rw [Option.map_some, addr_add h4]
      refine .inr ⟨⟨ad.block, ad.off + k, none⟩, c - k, by rw [hl], by rw [hl]; omega, by omega, rfl, fun j hj => ?_⟩
      rw [hl] at hj
      have := h5 (k + j) (by omega)
      rw [List.getD_eq_getElem?_getD, List.getElem?_drop, ← List.getD_eq_getElem?_getD]
      simpa [Nat.add_assoc] using this
theorem own_from {A : Option Addr} {n c k m d : Nat} {w : World} (h : ∀ q, (Value.slice A n c).ownBlock = some q → q < w.heap.size) : ∀ q, (Value.slice (if c = k then A else A.map fun x => x.add k) m d).ownBlock = some q → q < w.heap.size := by
  intro q hq
  refine h q ?_
  cases A with
  | none => split at hq <;> exact hq
  | some a =>
    split at hq
    · exact hq
    · unfold Addr.add at hq
      simp only [Option.map_some, Value.ownBlock] at hq ⊢
      split at hq <;> exact hq

theorem cell_below {w w' : World} (hb : Below w.heap.size w w') {p : Addr} {v : Value} (h : w.cell? p = some v) : w'.cell? p = some v :=
  (hb.cell (World.block_lt_of_cell? w _ h)).trans h
set_option maxHeartbeats 8000000 in
set_option maxRecDepth 100000 in
theorem rows_walk (A1 : Option Addr) (c1 : Nat) (zs : List Nat) (A2 : Option Addr) (c2 : Nat) (ss : List ByteArray) (w : World)
    (hz : ∀ z ∈ zs, z < 18446744073709551616) (hrz : ReadsL w A1 (zs.map fun n => .int .u64 (n : Nat))) (hrs : ReadsL w A2 (ss.map fun s => .string s)) :
    Calls Try.prog 9 #[.slice A1 zs.length c1, .slice A2 ss.length c2] w fun e w' => e = .returned (.bool true) ∧ Below w.heap.size w w' := by
  obtain ⟨n, hn, hnl, hn10⟩ : ∃ n : Nat, (if (10 : Int) < (zs.length : Int) then (10 : Int) else (zs.length : Int)) = (n : Int) ∧ n ≤ zs.length ∧ n ≤ 10 := by
    split
    · exact ⟨10, rfl, by omega, by omega⟩
    · exact ⟨zs.length, rfl, by omega, by omega⟩
  obtain ⟨m, hm, hml, hm10⟩ : ∃ n : Nat, (if (10 : Int) < (ss.length : Int) then (10 : Int) else (ss.length : Int)) = (n : Int) ∧ n ≤ ss.length ∧ n ≤ 10 := by
    split
    · exact ⟨10, rfl, by omega, by omega⟩
    · exact ⟨ss.length, rfl, by omega, by omega⟩
  have HZ := Lib.hid hz
  have HRZ := Lib.hid hrz
  have HRS := Lib.hid hrs
  clear hz hrz hrs
  go_enter Try.func9, Try.ntmps9
  go_wp2_with fail
  refine (shown_any w).mono ?_
  rintro e w1 ⟨rfl, hb1⟩
  have hs1 := hb1.size
  have HB1 := Lib.hid hb1
  have HRZ1 := Lib.hid (HRZ.out.below hb1)
  have HRS1 := Lib.hid (HRS.out.below hb1)
  clear hb1
  go_upto_block 0 with (fail)
  go_cut [8, 9] (fun v8 v9 wc => Hid (RowsA w1 wc w1.heap.size v8 v9 (flatN (zs.take n)) (valsOf (zs.take n))))
  case first =>
    go_wp2_with fail
    go_loopw [8, 9, 10, 11] (fun v8 v9 v10 _ wr => ∃ i : Nat, i ≤ n ∧ v10 = .int .i64 i ∧ Hid (RowsA w1 wr w1.heap.size v8 v9 (flatN (zs.take i)) (valsOf (zs.take i)))) (fun _ _ v10 _ _ => n - (intOf v10).toNat)
    case atStart => exact ⟨0, by omega, rfl, Lib.hid ⟨own_lit w1 w1.heap.size (Nat.le_refl _) [] (by simp), OwnV.nil _ _, .inl rfl, below_alloc (Below.refl _ _) _, by simp⟩⟩
    case round =>
      obtain ⟨i, hi, rfl, HRA⟩ := hrel
      by_cases hin : i < n
      · have hin' : (i : Int) < (n : Int) := by omega
        have hi0 : (0 : Int) ≤ (i : Int) := by omega
        have hil : (i : Int) < (zs.length : Int) := by omega
        obtain ⟨b, o, hA, hcz1⟩ := HRZ1.out i (.int .u64 (zs[i]'(by omega) : Nat)) (by rw [List.getElem?_map, List.getElem?_eq_getElem (by omega)]; rfl)
        subst hA
        have hblt : b < w1.heap.size := World.block_lt_of_cell? w1 _ hcz1
        have hcz := (HRA.out.be.cell (p := ⟨b, o + i, none⟩) hblt).trans hcz1
        have hz64 := HZ.out zs[i] (List.getElem_mem _)
        have htake : zs.take (i + 1) = zs.take i ++ [zs[i]] := List.take_succ_eq_append_getElem (by omega)
        generalize zs[i]'(by omega) = z at *
        have HT := Lib.hid htake
        have HZ64 := Lib.hid hz64
        have hx := run_f64from
        clear htake hz64
        have HC1 := Lib.hid hcz1
        have hfl := flatN_length (zs.take i) (fun y hy => HZ.out y (List.mem_of_mem_take hy))
        have HFL := Lib.hid (show (flatN (zs.take i)).length ≤ 90 by simp at hfl; omega)
        clear hcz1 hfl
        go_wp2_with fail
        refine (put_any w1.heap.size u8 _ z HZ64.out wr HRA.out.b HRA.out.sz (by have := HFL.out; omega)).mono ?_
        rintro e w2 ⟨v2, rfl, ho2, hw2⟩
        have hra2 := HRA.out.put ho2 hw2
        have hcz2 := (hra2.be.cell (p := ⟨b, o + i, none⟩) hblt).trans HC1.out
        have HRA2 := Lib.hid hra2
        have hsz2 := hra2.sz
        clear ho2 hw2 hra2 hcz
        cases hnan : nanB z with
        | true =>
          have ho := order_nan hnan
          have hf : fB z = 0 := if_pos hnan
          have hcell : (w2.alloc (.cells #[.int .i64 2, .int .i64 (wrap64 (z : Int)), .float .f64 0, .string ⟨#[]⟩, .int .i64 3, .int .i64 0, .float .f64 0, .string ⟨#[]⟩] 29)).heap[w2.heap.size]? = some (.cells (cellsV [intV z, floV z]).toArray 29 (0, 0)) := by
            rw [heap_alloc_new]; simp [cellsV, intV, floV, hf]
          have HCL := Lib.hid hcell
          have HVL := Lib.hid (show (valsOf (zs.take i)).length ≤ 20 by rw [valsOf_length]; simp; omega)
          clear hnan hf hcell
          go_wp2_with (at_builtin; refine wpList_appV rfl (.tmp 55) (.tmp 64) rfl (B := w1.heap.size) (v := u9) (L := valsOf (zs.take i)) (M := [intV z, floV z]) rfl (HRA2.out.v.alloc _) w2.heap.size rfl HCL.out ?_ ?_ ?_; (have := HVL.out; simp; omega); (simp; omega); intro v3 w3 ho3 hw3)
          go_roundw
          case rel =>
            refine ⟨i + 1, by omega, by go_num, Lib.hid ?_⟩
            have h := HRA2.out.app ho3 hw3.then_alloc
            rw [HT.out, flatN_snoc, valsOf_snoc]
            exact h
          case measure => simp [intOf]; omega
        | false =>
          have ho := order_num hnan
          have hf : fB z = z := if_neg (by simp [hnan])
          have hcell : (w2.alloc (.cells #[.int .i64 2, .int .i64 (wrap64 (z : Int)), .float .f64 0, .string ⟨#[]⟩, .int .i64 3, .int .i64 0, .float .f64 z, .string ⟨#[]⟩] 29)).heap[w2.heap.size]? = some (.cells (cellsV [intV z, floV z]).toArray 29 (0, 0)) := by
            rw [heap_alloc_new]; simp [cellsV, intV, floV, hf]
          have HCL := Lib.hid hcell
          have HVL := Lib.hid (show (valsOf (zs.take i)).length ≤ 20 by rw [valsOf_length]; simp; omega)
          clear hnan hf hcell
          go_wp2_with (at_builtin; refine wpList_appV rfl (.tmp 55) (.tmp 64) rfl (B := w1.heap.size) (v := u9) (L := valsOf (zs.take i)) (M := [intV z, floV z]) rfl (HRA2.out.v.alloc _) w2.heap.size rfl HCL.out ?_ ?_ ?_; (have := HVL.out; simp; omega); (simp; omega); intro v3 w3 ho3 hw3)
          go_roundw
          case rel =>
            refine ⟨i + 1, by omega, by go_num, Lib.hid ?_⟩
            have h := HRA2.out.app ho3 hw3.then_alloc
            rw [HT.out, flatN_snoc, valsOf_snoc]
            exact h
          case measure => simp [intOf]; omega
      · have hni : (n : Int) ≤ (i : Int) := by omega
        go_wp2_with fail
        go_meet
        obtain rfl : i = n := by omega
        exact HRA
  case rest =>
    have HLN := Lib.hid (show (flatN (zs.take n)).length ≤ 90 by
      have h := flatN_length (zs.take n) (fun y hy => HZ.out y (List.mem_of_mem_take hy))
      simp at h; omega)
    generalize hLN : flatN (zs.take n) = LN at *
    generalize hLV : valsOf (zs.take n) = LV at *
    go_upto_block 2 with (fail)
    go_cut [8] (fun v8 wc' => Hid (RowsA w1 wc' w1.heap.size v8 u9 (LN ++ flatT (ss.take m)) LV))
    case first =>
      go_wp2_with fail
      go_loopw [8, 12] (fun v8 v12 wr => ∃ i : Nat, i ≤ m ∧ v12 = .int .i64 i ∧ Hid (RowsA w1 wr w1.heap.size v8 u9 (LN ++ flatT (ss.take i)) LV)) (fun _ v12 _ => m - (intOf v12).toNat)
      case atStart => exact ⟨0, by omega, rfl, by simpa [flatT] using hcut⟩
      case round =>
        obtain ⟨i, hi, rfl, HRA⟩ := hrel
        by_cases hin : i < m
        · have hin' : (i : Int) < (m : Int) := by omega
          have hi0 : (0 : Int) ≤ (i : Int) := by omega
          have hil : (i : Int) < (ss.length : Int) := by omega
          obtain ⟨b, o, hA, hcz1⟩ := HRS1.out i (.string (ss[i]'(by omega))) (by rw [List.getElem?_map, List.getElem?_eq_getElem (by omega)]; rfl)
          subst hA
          have hblt : b < w1.heap.size := World.block_lt_of_cell? w1 _ hcz1
          have hcz := (HRA.out.be.cell (p := ⟨b, o + i, none⟩) hblt).trans hcz1
          have htake : ss.take (i + 1) = ss.take i ++ [ss[i]] := List.take_succ_eq_append_getElem (by omega)
          generalize ss[i]'(by omega) = st at *
          obtain ⟨q, hq, hq0, hqs, hqe⟩ := cut_q st
          have HT := Lib.hid htake
          have HQE := Lib.hid hqe
          have hne : some b ≠ u8.ownBlock := fun e => by have := (HRA.out.b.lt b e.symm).1; omega
          have hft := flatT_length (ss.take i)
          have HFT := Lib.hid (show (LN ++ flatT (ss.take i)).length < 3000 by have := HLN.out; rw [List.length_append]; simp at hft; omega)
          have HPL := Lib.hid (show (LN ++ flatT (ss.take i)).length + (cutS st).size < 140737488350000 by have h1 := HFT.out; have h2 := cutS_size st; omega)
          have HPL2 := Lib.hid (show (LN ++ flatT (ss.take i)).length + (st.extract 0 q).size < 140737488350000 by rw [hqe]; exact HPL.out)
          clear htake hqe hcz1 hft
          go_wp2_with fail
          go_region_held (fun w' => w'.cell? ⟨b, o + i, none⟩ = some (.string st)) (first | go_keep | (exact hw3.grown.cell hcz hne)) (first | ((go_at_call 12; refine (putText_any w1.heap.size u8 (LN ++ flatT (ss.take i)) (st.extract 0 q) _ HRA.out.b.drew HRA.out.sz HPL2.out).mono ?_; rintro e w3 ⟨v3, rfl, ho3, hw3⟩)))
          go_wp2
          go_roundw
          case rel =>
            refine ⟨i + 1, by omega, by go_num, Lib.hid ?_⟩
            have h := HRA.out.put ho3 hw3.then_drew
            rw [HQE.out] at h
            rw [HT.out, flatT_snoc, ← List.append_assoc]
            exact h
          case measure => simp [intOf]; omega
        · have hni : (m : Int) ≤ (i : Int) := by omega
          go_wp2_with fail
          go_meet
          obtain rfl : i = m := by omega
          exact HRA
    case rest =>
      have HLT := Lib.hid (show (LN ++ flatT (ss.take m)).length < 3000 by
        have h := flatT_length (ss.take m)
        have := HLN.out
        rw [List.length_append]; simp at h; omega)
      have HFV := Lib.hid (show ∀ x ∈ LV, Fits x ∧ x.s = [] by rw [← hLV]; exact vals_fit (fun y hy => HZ.out y (List.mem_of_mem_take hy)))
      have HLVL := Lib.hid (show LV.length ≤ 20 by rw [← hLV, valsOf_length]; simp; omega)
      generalize hLT : flatT (ss.take m) = LT at *
      have HCU := hcut
      obtain ⟨A9, c9, e9, hc9⟩ := hcut.out.v.form
      subst e9
      clear hcut
      generalize hLNT : LN ++ LT = LNT at *
      go_upto_block 4 with (fail)
      go_cut [8] (fun v8 wc' => Hid (RowsA w1 wc' w1.heap.size v8 (.slice A9 LV.length c9) (LNT ++ flatV LV) LV))
      case first =>
        go_wp2_with fail
        go_loopw [8, 13, 14, 15] (fun v8 v13 _ _ wr => ∃ i : Nat, i ≤ LV.length ∧ v13 = .int .i64 i ∧ Hid (RowsA w1 wr w1.heap.size v8 (.slice A9 LV.length c9) (LNT ++ flatV (LV.take i)) LV)) (fun _ v13 _ _ _ => LV.length - (intOf v13).toNat)
        case atStart => exact ⟨0, by omega, rfl, by simpa [flatV] using HCU⟩
        case round =>
          obtain ⟨i, hi, rfl, HRA⟩ := hrel
          by_cases hin : i < LV.length
          · have hin' : (i : Int) < (LV.length : Int) := by omega
            have hi0 : (0 : Int) ≤ (i : Int) := by omega
            have hi20 : (i : Int) ≤ 20 := by have := HLVL.out; omega
            obtain ⟨g, hA, d0, d1, d2, d3, hBg, hgl⟩ := HRA.out.v.at i hin
            subst hA
            have htake : LV.take (i + 1) = LV.take i ++ [LV[i]] := List.take_succ_eq_append_getElem hin
            have hfx := HFV.out LV[i] (List.getElem_mem _)
            generalize LV[i]'hin = x at *
            have HT := Lib.hid htake
            have HFX := Lib.hid hfx
            have hfl := flatV_length (LV.take i) (fun y hy => HFV.out y (List.mem_of_mem_take hy))
            have HPL := Lib.hid (show (LNT ++ flatV (LV.take i)).length < 100000 by have h1 := HLT.out; have h2 := HLVL.out; rw [List.length_append]; simp at hfl; omega)
            clear htake hfx hfl
            go_wp2_with fail
            refine (putValue_fit w1.heap.size u8 _ x HFX.out.1 HFX.out.2 wr HRA.out.b HRA.out.sz HPL.out).mono ?_
            rintro e w2 ⟨v2, rfl, ho2, hw2⟩
            go_wp2_with fail
            go_roundw
            case rel =>
              refine ⟨i + 1, by omega, by go_num, Lib.hid ?_⟩
              have h := HRA.out.put ho2 hw2
              rw [HT.out, flatV_snoc, ← List.append_assoc]
              exact h
            case measure => simp [intOf]; omega
          · have hni : (LV.length : Int) ≤ (i : Int) := by omega
            go_wp2_with fail
            go_meet
            obtain rfl : i = LV.length := by omega
            rw [List.take_length] at HRA
            exact HRA
      case rest =>
        have HFN := Lib.hid (show ∀ y ∈ zs.take n, y < 18446744073709551616 from fun y hy => HZ.out y (List.mem_of_mem_take hy))
        have HC4 := hcut
        obtain ⟨LR, hLR⟩ : ∃ LR, LT ++ flatV LV = LR := ⟨_, rfl⟩
        have hst4 : LNT ++ flatV LV = flatN (zs.take n) ++ LR := by rw [← hLNT, ← hLN, List.append_assoc, hLR]
        rw [hst4] at HC4
        clear hcut hst4
        go_upto_block 6 with (fail)
        go_cut [8] (fun v8 wc' => Hid (ReadsB wc' v8 LR ∧ (∀ b, v8.ownBlock = some b → b < wc'.heap.size) ∧ RowsR w1 wc' w1.heap.size (.slice A9 LV.length c9) LV))
        case first =>
          go_wp2_with fail
          go_loopw [8, 16, 17, 18, 19] (fun v8 v16 _ _ _ wr => ∃ i : Nat, i ≤ n ∧ v16 = .int .i64 i ∧ Hid (ReadsB wr v8 (flatN ((zs.take n).drop i) ++ LR) ∧ (∀ b, v8.ownBlock = some b → b < wr.heap.size) ∧ RowsR w1 wr w1.heap.size (.slice A9 LV.length c9) LV)) (fun _ v16 _ _ _ _ => n - (intOf v16).toNat)
          case atStart => exact ⟨0, by omega, rfl, Lib.hid ⟨HC4.out.b.reads, ReadsB.lt' HC4.out.b, ⟨HC4.out.be, HC4.out.v⟩⟩⟩
          case round =>
            obtain ⟨i, hi, rfl, HRA⟩ := hrel
            by_cases hin : i < n
            · have hin' : (i : Int) < (n : Int) := by omega
              have hi0 : (0 : Int) ≤ (i : Int) := by omega
              have hil : (i : Int) < (zs.length : Int) := by omega
              obtain ⟨b, o, hA, hcz1⟩ := HRZ1.out i (.int .u64 (zs[i]'(by omega) : Nat)) (by rw [List.getElem?_map, List.getElem?_eq_getElem (by omega)]; rfl)
              subst hA
              have hblt : b < w1.heap.size := World.block_lt_of_cell? w1 _ hcz1
              have hdrop : (zs.take n).drop i = zs[i] :: (zs.take n).drop (i + 1) := by
                rw [List.drop_eq_getElem_cons (by simp; omega)]
                simp
              have hz64 := HZ.out zs[i] (List.getElem_mem _)
              generalize zs[i]'(by omega) = z at *
              obtain ⟨M, hM⟩ : ∃ M, flatN ((zs.take n).drop (i + 1)) ++ LR = M := ⟨_, rfl⟩
              have hbytes : flatN ((zs.take n).drop i) ++ LR = putB z ++ M := by rw [hdrop, ← hM]; simp [flatN]
              obtain ⟨Lb, hLb⟩ : ∃ L, putB z ++ M = L := ⟨_, rfl⟩
              rw [hbytes, hLb] at HRA
              have hgv : getV Lb = .tuple #[.int .u64 z, .int .i64 ((putB z).length : Nat), .bool true] := by rw [← hLb]; unfold getV; rw [getB_putB z hz64 M]
              have HDR := Lib.hid (show Lb.drop (putB z).length = M by rw [← hLb]; exact List.drop_left)
              have hkl : (putB z).length ≤ Lb.length := by rw [← hLb, List.length_append]; omega
              obtain ⟨A8, c8, e8, hl8⟩ := HRA.out.1.form
              subst e8
              have hc8 := HRA.out.1.cap.2
              have HGV := Lib.hid hgv
              have HC1 := Lib.hid hcz1
              have HM := Lib.hid hM
              have HPB := Lib.hid (putB_len z hz64)
              clear hdrop hz64 hbytes hLb hgv hcz1 hM hl8
              go_wp2_with fail
              refine (get_any _ Lb wr HRA.out.1 HRA.out.2.1).mono ?_
              rintro e w2 ⟨rfl, hb⟩
              rw [HGV.out]
              have HB2 := Lib.hid (HRA.out.2.2.next HRA.out.2.2.1.size hb)
              have hcz := (HB2.out.1.cell (p := ⟨b, o + i, none⟩) hblt).trans HC1.out
              have HRD := Lib.hid (HRA.out.1.below hb)
              have HLTT := Lib.hid (show ∀ q, (Value.slice A8 Lb.length c8).ownBlock = some q → q < w2.heap.size from fun q hq => Nat.lt_of_lt_of_le (HRA.out.2.1 q hq) hb.size)
              clear hb HRA
              have hk1 : ((putB z).length : Int) ≤ (Lb.length : Int) := by omega
              have hk0 : (0 : Int) ≤ ((putB z).length : Int) := by omega
              go_wp2_with fail
              go_roundw
              case rel =>
                refine ⟨i + 1, by omega, by go_num, Lib.hid ⟨?_, own_from HLTT.out, HB2.out⟩⟩
                have h := reads_from HRD.out (putB z).length hkl
                rw [HDR.out] at h
                rw [HM.out]
                exact h
              case measure => simp [intOf]; omega
            · have hni : (n : Int) ≤ (i : Int) := by omega
              go_wp2_with fail
              go_meet
              obtain rfl : i = n := by omega
              have h := HRA.out
              rw [List.drop_eq_nil_of_le (by simp; omega)] at h
              exact Lib.hid h
        case rest =>
          have HC5 := hcut
          clear hcut
          obtain ⟨LW, hLW⟩ : ∃ LW, flatV LV = LW := ⟨_, rfl⟩
          have hst5 : LR = flatT (ss.take m) ++ LW := by rw [← hLR, ← hLT, hLW]
          rw [hst5] at HC5
          clear hst5
          go_upto_block 8 with (fail)
          go_cut [8] (fun v8 wc' => Hid (ReadsB wc' v8 LW ∧ (∀ b, v8.ownBlock = some b → b < wc'.heap.size) ∧ RowsR w1 wc' w1.heap.size (.slice A9 LV.length c9) LV))
          case first =>
            go_wp2_with fail
            go_loopw [8, 20, 21, 22, 23] (fun v8 v20 _ _ _ wr => ∃ i : Nat, i ≤ m ∧ v20 = .int .i64 i ∧ Hid (ReadsB wr v8 (flatT ((ss.take m).drop i) ++ LW) ∧ (∀ b, v8.ownBlock = some b → b < wr.heap.size) ∧ RowsR w1 wr w1.heap.size (.slice A9 LV.length c9) LV)) (fun _ v20 _ _ _ _ => m - (intOf v20).toNat)
            case atStart => exact ⟨0, by omega, rfl, HC5⟩
            case round =>
              obtain ⟨i, hi, rfl, HRA⟩ := hrel
              by_cases hin : i < m
              · have hin' : (i : Int) < (m : Int) := by omega
                have hi0 : (0 : Int) ≤ (i : Int) := by omega
                have hil : (i : Int) < (ss.length : Int) := by omega
                obtain ⟨b, o, hA, hcz1⟩ := HRS1.out i (.string (ss[i]'(by omega))) (by rw [List.getElem?_map, List.getElem?_eq_getElem (by omega)]; rfl)
                subst hA
                have hblt : b < w1.heap.size := World.block_lt_of_cell? w1 _ hcz1
                have hdrop : (ss.take m).drop i = ss[i] :: (ss.take m).drop (i + 1) := by
                  rw [List.drop_eq_getElem_cons (by simp; omega)]
                  simp
                generalize ss[i]'(by omega) = st at *
                obtain ⟨q, hq, hq0, hqs, hqe⟩ := cut_q st
                obtain ⟨M, hM⟩ : ∃ M, flatT ((ss.take m).drop (i + 1)) ++ LW = M := ⟨_, rfl⟩
                have hbytes : flatT ((ss.take m).drop i) ++ LW = txt st ++ M := by rw [hdrop, ← hM]; simp [flatT]
                obtain ⟨Lb, hLb⟩ : ∃ L, txt st ++ M = L := ⟨_, rfl⟩
                rw [hbytes, hLb] at HRA
                have hcs : (cutS st).data.toList.length < 18446744073709551616 := by have h : (cutS st).data.toList.length ≤ 100 := cutS_size st; omega
                have hgv : getT Lb = .tuple #[.string (cutS st), .int .i64 ((txt st).length : Nat), .bool true] := by
                  rw [← hLb]; unfold getT txt; rw [textB_put _ hcs M]
                have HDR := Lib.hid (show Lb.drop (txt st).length = M by rw [← hLb]; exact List.drop_left)
                have hkl : (txt st).length ≤ Lb.length := by rw [← hLb, List.length_append]; omega
                obtain ⟨A8, c8, e8, hl8⟩ := HRA.out.1.form
                subst e8
                have hc8 := HRA.out.1.cap.2
                have HGV := Lib.hid hgv
                have HC1 := Lib.hid hcz1
                have HM := Lib.hid hM
                have HPB := Lib.hid (txt_length st)
                generalize txt st = TX at *
                clear hdrop hbytes hLb hgv hcz1 hM hl8 hcs
                go_wp2_with fail
                refine (textP_any _ Lb wr HRA.out.1 HRA.out.2.1).mono ?_
                rintro e w2 ⟨rfl, hb⟩
                rw [HGV.out]
                have HB2 := Lib.hid (HRA.out.2.2.next HRA.out.2.2.1.size hb)
                have hcz := (HB2.out.1.cell (p := ⟨b, o + i, none⟩) hblt).trans HC1.out
                have HRD := Lib.hid (HRA.out.1.below hb)
                have HLTT := Lib.hid (show ∀ q, (Value.slice A8 Lb.length c8).ownBlock = some q → q < w2.heap.size from fun q hq => Nat.lt_of_lt_of_le (HRA.out.2.1 q hq) hb.size)
                clear hb HRA
                have hk1 : (TX.length : Int) ≤ (Lb.length : Int) := by omega
                have hk0 : (0 : Int) ≤ (TX.length : Int) := by omega
                go_wp2_with fail
                go_region_held (fun w' => w'.cell? ⟨b, o + i, none⟩ = some (.string st)) (go_keep) (fail)
                go_wp2
                go_roundw
                case rel =>
                  refine ⟨i + 1, by omega, by go_num, Lib.hid ⟨?_, own_from HLTT.out, HB2.out.drew⟩⟩
                  have h := reads_from HRD.out TX.length hkl
                  rw [HDR.out] at h
                  rw [HM.out]
                  exact h.kept fun _ _ _ hx _ => hx
                case measure => simp [intOf]; omega
              · have hni : (m : Int) ≤ (i : Int) := by omega
                go_wp2_with fail
                go_meet
                obtain rfl : i = m := by omega
                have h := HRA.out
                rw [List.drop_eq_nil_of_le (by simp; omega)] at h
                exact Lib.hid h
          case rest =>
            have HC6 := hcut
            clear hcut
            go_upto_block 10 with (fail)
            go_cut [8] (fun v8 wc' => Hid (ReadsB wc' v8 [] ∧ (∀ b, v8.ownBlock = some b → b < wc'.heap.size) ∧ Below w1.heap.size w1 wc'))
            case first =>
              go_wp2_with fail
              go_loopw [8, 24, 25, 26, 27] (fun v8 v24 _ _ _ wr => ∃ i : Nat, i ≤ LV.length ∧ v24 = .int .i64 i ∧ Hid (ReadsB wr v8 (flatV (LV.drop i)) ∧ (∀ b, v8.ownBlock = some b → b < wr.heap.size) ∧ RowsR w1 wr w1.heap.size (.slice A9 LV.length c9) LV)) (fun _ v24 _ _ _ _ => LV.length - (intOf v24).toNat)
              case atStart =>
                rw [← hLW] at HC6
                exact ⟨0, by omega, rfl, HC6⟩
              case round =>
                obtain ⟨i, hi, rfl, HRA⟩ := hrel
                by_cases hin : i < LV.length
                · have hin' : (i : Int) < (LV.length : Int) := by omega
                  have hi0 : (0 : Int) ≤ (i : Int) := by omega
                  have hi20 : (i : Int) ≤ 20 := by have := HLVL.out; omega
                  obtain ⟨g, hA, d0, d1, d2, d3, hBg, hgl⟩ := HRA.out.2.2.2.at i hin
                  subst hA
                  have hdrop : LV.drop i = LV[i] :: LV.drop (i + 1) := List.drop_eq_getElem_cons hin
                  have hfx := HFV.out LV[i] (List.getElem_mem _)
                  generalize LV[i]'hin = x at *
                  obtain ⟨M, hM⟩ : ∃ M, flatV (LV.drop (i + 1)) = M := ⟨_, rfl⟩
                  have hbytes : flatV (LV.drop i) = putValueB x ++ M := by rw [hdrop, ← hM]; simp [flatV]
                  obtain ⟨Lb, hLb⟩ : ∃ L, putValueB x ++ M = L := ⟨_, rfl⟩
                  rw [hbytes, hLb] at HRA
                  have hgv : getW Lb = .tuple #[VL x, .int .i64 ((putValueB x).length : Nat), .bool true] := by
                    rw [← hLb]; unfold getW; rw [valueB_put x hfx.1 (by rw [hfx.2]; simp) M]
                  have HDR := Lib.hid (show Lb.drop (putValueB x).length = M by rw [← hLb]; exact List.drop_left)
                  have hkl : (putValueB x).length ≤ Lb.length := by rw [← hLb, List.length_append]; omega
                  have hsame : sameB x.k x.n x.f ⟨x.s.toArray⟩ x.k x.n x.f ⟨x.s.toArray⟩ = true := by unfold sameB; simp
                  obtain ⟨A8, c8, e8, hl8⟩ := HRA.out.1.form
                  subst e8
                  have hc8 := HRA.out.1.cap.2
                  have HGV := Lib.hid hgv
                  have HM := Lib.hid hM
                  have HPB := Lib.hid (putV_len hfx.1 hfx.2)
                  have HFX := Lib.hid hfx.1.f
                  have HSM := Lib.hid hsame
                  generalize putValueB x = TX at *
                  obtain ⟨xk, xn, xf, xs⟩ := x
                  have HD0 := Lib.hid d0
                  have HD1 := Lib.hid d1
                  have HD2 := Lib.hid d2
                  have HD3 := Lib.hid d3
                  clear hdrop hbytes hLb hgv hM hl8 hfx hsame d0 d1 d2 d3
                  go_wp2_with fail
                  refine (valueP_any _ Lb wr HRA.out.1 HRA.out.2.1).mono ?_
                  rintro e w2 ⟨rfl, hb⟩
                  rw [HGV.out]
                  have HB2 := Lib.hid (HRA.out.2.2.next HRA.out.2.2.1.size hb)
                  have h0 := (hb.cell (p := ⟨g, i * 4, none⟩) hgl).trans HD0.out
                  have h1 := (hb.cell (p := ⟨g, i * 4 + 1, none⟩) hgl).trans HD1.out
                  have h2 := (hb.cell (p := ⟨g, i * 4 + 2, none⟩) hgl).trans HD2.out
                  have h3 := (hb.cell (p := ⟨g, i * 4 + 3, none⟩) hgl).trans HD3.out
                  have hgl2 : g < w2.heap.size := Nat.lt_of_lt_of_le hgl hb.size
                  have HRD := Lib.hid (HRA.out.1.below hb)
                  have HLTT := Lib.hid (show ∀ q, (Value.slice A8 Lb.length c8).ownBlock = some q → q < w2.heap.size from fun q hq => Nat.lt_of_lt_of_le (HRA.out.2.1 q hq) hb.size)
                  clear hb HRA
                  have hk1 : (TX.length : Int) ≤ (Lb.length : Int) := by omega
                  have hk0 : (0 : Int) ≤ (TX.length : Int) := by omega
                  go_wp2_with fail
                  have q4 : (w2.alloc (.cells #[.int .i64 xk, .int .i64 xn, .float .f64 xf, .string ⟨xs.toArray⟩] 29)).cell? ⟨w2.heap.size, 0, none⟩ = some (.int .i64 xk) := by simp [go_sem]
                  have q5 : (w2.alloc (.cells #[.int .i64 xk, .int .i64 xn, .float .f64 xf, .string ⟨xs.toArray⟩] 29)).cell? ⟨w2.heap.size, 1, none⟩ = some (.int .i64 xn) := by simp [go_sem]
                  have q6 : (w2.alloc (.cells #[.int .i64 xk, .int .i64 xn, .float .f64 xf, .string ⟨xs.toArray⟩] 29)).cell? ⟨w2.heap.size, 2, none⟩ = some (.float .f64 xf) := by simp [go_sem]
                  have q7 : (w2.alloc (.cells #[.int .i64 xk, .int .i64 xn, .float .f64 xf, .string ⟨xs.toArray⟩] 29)).cell? ⟨w2.heap.size, 3, none⟩ = some (.string ⟨xs.toArray⟩) := by simp [go_sem]
                  have q0 := cell_below (below_alloc (Below.refl w2.heap.size w2) (.cells #[.int .i64 xk, .int .i64 xn, .float .f64 xf, .string ⟨xs.toArray⟩] 29)) h0
                  have q1 := cell_below (below_alloc (Below.refl w2.heap.size w2) (.cells #[.int .i64 xk, .int .i64 xn, .float .f64 xf, .string ⟨xs.toArray⟩] 29)) h1
                  have q2 := cell_below (below_alloc (Below.refl w2.heap.size w2) (.cells #[.int .i64 xk, .int .i64 xn, .float .f64 xf, .string ⟨xs.toArray⟩] 29)) h2
                  have q3 := cell_below (below_alloc (Below.refl w2.heap.size w2) (.cells #[.int .i64 xk, .int .i64 xn, .float .f64 xf, .string ⟨xs.toArray⟩] 29)) h3
                  clear h0 h1 h2 h3
                  go_region_held (fun w' => w'.cell? ⟨g, i * 4, none⟩ = some (.int .i64 xk) ∧ w'.cell? ⟨g, i * 4 + 1, none⟩ = some (.int .i64 xn) ∧ w'.cell? ⟨g, i * 4 + 2, none⟩ = some (.float .f64 xf) ∧ w'.cell? ⟨g, i * 4 + 3, none⟩ = some (.string ⟨xs.toArray⟩) ∧ w'.cell? ⟨w2.heap.size, 0, none⟩ = some (.int .i64 xk) ∧ w'.cell? ⟨w2.heap.size, 1, none⟩ = some (.int .i64 xn) ∧ w'.cell? ⟨w2.heap.size, 2, none⟩ = some (.float .f64 xf) ∧ w'.cell? ⟨w2.heap.size, 3, none⟩ = some (.string ⟨xs.toArray⟩)) (first | go_keep | (go_split_ands; refine ⟨?_, ?_, ?_, ?_, ?_, ?_, ?_, ?_⟩ <;> (refine cell_below hb3 ?_; assumption))) (first | ((go_at_call 19; refine (same_any xk xn xf ⟨xs.toArray⟩ xk xn xf ⟨xs.toArray⟩ _ HFX.out HFX.out).mono ?_; rintro e w3 ⟨rfl, hb3⟩; rw [HSM.out])))
                  have hb23 := ((below_alloc (Below.refl w2.heap.size w2) _).drew).trans (hb3.mono (by simp))
                  have HB3 := Lib.hid hb23
                  clear hb3 hb23 q0 q1 q2 q3 q4 q5 q6 q7
                  go_wp2_with fail
                  go_roundw
                  case rel =>
                    refine ⟨i + 1, by omega, by go_num, Lib.hid ⟨?_, own_from (fun q hq => Nat.lt_of_lt_of_le (HLTT.out q hq) HB3.out.size), HB2.out.next HB2.out.1.size HB3.out⟩⟩
                    have h := reads_from (HRD.out.below HB3.out) TX.length hkl
                    rw [HDR.out] at h
                    rw [HM.out]
                    exact h
                  case measure => simp [intOf]; omega
                · have hni : (LV.length : Int) ≤ (i : Int) := by omega
                  go_wp2_with fail
                  go_meet
                  obtain rfl : i = LV.length := by omega
                  have h := HRA.out
                  rw [List.drop_eq_nil_of_le (by omega)] at h
                  exact Lib.hid ⟨h.1, h.2.1, h.2.2.1⟩
            case rest =>
              obtain ⟨A8, c8, e8, hl8⟩ := hcut.out.1.form
              subst e8
              have hb := (HB1.out.trans (hcut.out.2.2.mono hs1))
              have hl0 : ([] : List UInt8).length = 0 := rfl
              go_wp2_with fail
              go_ret
              exact ⟨rfl, hb⟩

set_option maxRecDepth 100000 in
theorem rows_lifted (os : Os) (started : os.Started) (H : Type) (enc : TypeId × Value → H) :
    ReturnsInHanded {} Try.checked os 9 .any (Rows.packRowsSpec.pre6 enc Try.prog Try.f9 Rows.packRowsRow.domain false) (Rows.packRowsSpec.post enc Try.prog Try.f9 false true false false) := by
  refine returnsInHanded_of_change (C := Try.checked) own started (by kernel_rfl) Try.func9
    (ChangeSpec.witness6 (enc := enc) (C := Try.checked) false ⟨#[], #[.slice none 0 0, .slice none 0 0], []⟩ 8 (by kernel_rfl) (by kernel_rfl) (by kernel_rfl) (by kernel_rfl)) ?_
  intro W base args ds gs before hval0 hW hcnd _
  have hval : ∀ (j : Nat) t v, Try.f9.params[j]? = some t → args[j]? = some v → Value.okWide Try.prog W .any base t v := hval0
  have hW' := hW
  obtain ⟨p, q, hA0, hV, rfl, hfz, hnd⟩ := hW
  have hA : DataW.TrodAll enc Try.prog W 0 (fun _ => true) true Try.f9.params.toList args.toList ds p := hA0
  rw [Try.params9] at hA hval
  obtain ⟨rfl, rfl⟩ := trodVars_none hV
  have hlt : ∀ x ∈ p, x.block < W.heap.size := fun x hx => hW'.lt x (by simp [hx])
  have hrd53 : Try.prog.readableRec 53 = true ∧ 53 < Try.prog.types.size := ⟨by kernel_rfl, of_decide_eq_true (by kernel_rfl)⟩
  have hrd54 : Try.prog.readableRec 54 = true ∧ 54 < Try.prog.types.size := ⟨by kernel_rfl, of_decide_eq_true (by kernel_rfl)⟩
  have hargs := fun (W' : World) (hb : Below W.heap.size W W') => trodAll_below laidOut hb (by simp only [List.mem_cons, List.not_mem_nil, or_false]; rintro t (rfl | rfl) <;> first | exact hrd53 | exact hrd54) hA hlt
  obtain ⟨v0, vs0, d0, ds0, p0, q0, hargs0, rfl, rfl, h0, r0⟩ := trodAll_cons hA
  obtain ⟨v1, vs1, d1, ds1, p1, q1, rfl, rfl, rfl, h1, r1⟩ := trodAll_cons r0
  obtain ⟨rfl, rfl, rfl⟩ := trodAll_nil r1
  obtain rfl : args = #[v0, v1] := by cases args; simp_all
  obtain ⟨A0, c0, l0, rfl, hlc0, hlm0, hb0, hr0⟩ := open_u64s (hval 0 53 v0 rfl rfl) h0
  obtain ⟨A1, c1, l1, rfl, hlc1, hlm1, hb1, hr1⟩ := open_strs (hval 1 54 v1 rfl rfl) h1
  clear hA0 hval0
  refine (rows_walk A0 c0 l0 A1 c1 l1 W hb0 hr0 hr1).mono fun e W' ⟨he, hb⟩ => ?_
  subst he
  exact ⟨_, rfl, ⟨_, _, _, [], _, [], hW', trodAll_mk1 (shut_bool Try.underlying4 _), hargs W' hb, rfl, hb.frame _, fun h => by cases h⟩⟩

theorem rows_over : Rows.packRowsRow.holds Try.pinned (OpenSpec.ofChange Rows.packRowsSpec) :=
  OpenClaim.holds_of_wide 9 Try.f9 rfl rfl rfl rfl rfl rfl rfl ⟨rfl, rfl, rfl, rfl, rfl⟩ rfl rfl rfl rfl rfl (by kernel_rfl) Try.func9 (by kernel_rfl)
    (of_decide_eq_true (by kernel_rfl)) (by unfold Func.isWrapper; first | (rw [if_pos (by decide +kernel)]; kernel_rfl) | (rw [if_neg (by decide +kernel)]; exact ⟨rfl, rfl⟩))
    (fun os started H enc _ => rows_lifted os started H enc)

theorem rows_proved : Rows.PackRowsSaid := rows_over
end Go.Proofs.Ytbcnokidnpnmhaa
