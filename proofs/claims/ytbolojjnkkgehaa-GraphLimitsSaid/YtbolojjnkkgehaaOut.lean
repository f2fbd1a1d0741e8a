import Derived.Test.YtbolojjnkkgehaaNw1
namespace Go.Proofs.Ytbolojjnkkgehaa
open Go.RowKit

def cellsT (l : List (Int × Int)) : List Value := l.flatMap fun x => [.int .i64 x.1, .int .i64 x.2]
theorem cellsT_length (l : List (Int × Int)) : (cellsT l).length = l.length * 2 := flat_length 2 _ (fun _ => rfl) l
theorem cellsT_append (a b : List (Int × Int)) : cellsT (a ++ b) = cellsT a ++ cellsT b := by simp [cellsT]
def OwnT (w : World) (B : Nat) (v : Value) (l : List (Int × Int)) : Prop := w.ownsRow B 38 2 v l.length (cellsT l)
/-- The slice v holds these steps. -/
def Steps (w : World) (v : Value) (l : List (Int × Int)) : Prop := SliceR w v l.length (cellsT l)
theorem Steps.below {w w' : World} {v : Value} {l : List (Int × Int)} (h : Steps w v l) (hb : Below w.heap.size w w') : Steps w' v l := SliceR.below h hb (Nat.le_refl _)

def goes (dir : Int) (x : Ld) : Bool := bits .and .i64 x.dir dir != 0
def pickL (dir : Int) (l : List Ld) : List (Int × Int) := (l.filter (goes dir)).map fun x => (x.ed, x.nd)
/-- All edges that lead from a node. -/
def outL (m : Nat) (es : List Ed) (node dir : Int) : List (Int × Int) := if inB m node then pickL dir (lstZ (tokT es es.length) node) else []
def ldAt (l : List Ld) (i : Nat) : Ld := l.getD i ⟨0, 0, 0⟩
theorem ldAt_eq {l : List Ld} {i : Nat} (h : i < l.length) : ldAt l i = l[i] := by simp [ldAt, List.getD_eq_getElem?_getD, List.getElem?_eq_getElem h]
theorem pickL_length (dir : Int) (l : List Ld) : (pickL dir l).length ≤ l.length := by unfold pickL; rw [List.length_map]; exact List.length_filter_le _ _
theorem pickL_take {dir : Int} {l : List Ld} {i : Nat} (h : i < l.length) : pickL dir (l.take (i + 1)) = pickL dir (l.take i) ++ if goes dir (ldAt l i) then [((ldAt l i).ed, (ldAt l i).nd)] else [] := by
  rw [List.take_succ_eq_append_getElem h, pickL, List.filter_append, List.map_append, ldAt_eq h]
  congr 1
  by_cases hg : goes dir l[i] = true <;> simp [hg]

theorem ReadsL.lead {w : World} {A : Option Addr} {l : List Ld} (h : ReadsL w A (cellsL l)) (i : Nat) (hi : i < l.length) :
    ∃ b o, A = some ⟨b, o, none⟩ ∧ b < w.heap.size ∧ w.cell? ⟨b, o + i * 3, none⟩ = some (.int .i64 (ldAt l i).ed) ∧ w.cell? ⟨b, o + i * 3 + 1, none⟩ = some (.int .i64 (ldAt l i).nd) ∧ w.cell? ⟨b, o + i * 3 + 2, none⟩ = some (.int .i64 (ldAt l i).dir) := by
  rw [ldAt_eq hi]
  have key : ∀ j u, j < 3 → [Value.int .i64 l[i].ed, .int .i64 l[i].nd, .int .i64 l[i].dir][j]? = some u → ∃ b o, A = some ⟨b, o, none⟩ ∧ w.cell? ⟨b, o + i * 3 + j, none⟩ = some u := fun j u hj hu => by
    obtain ⟨b, o, h1, h2⟩ := h (i * 3 + j) u (by rw [cellsL, flat_at 3 _ (fun _ => rfl) l i j hi hj]; exact hu)
    exact ⟨b, o, h1, by rw [Nat.add_assoc]; exact h2⟩
  obtain ⟨b, o, e0, h0⟩ := key 0 _ (by omega) rfl
  subst e0
  have fin : ∀ j u, j < 3 → [Value.int .i64 l[i].ed, .int .i64 l[i].nd, .int .i64 l[i].dir][j]? = some u → w.cell? ⟨b, o + i * 3 + j, none⟩ = some u := fun j u hj hu => by
    obtain ⟨b', o', e1, h1⟩ := key j u hj hu
    cases e1; exact h1
  exact ⟨b, o, rfl, World.block_lt_of_cell? w _ h0, h0, fin 1 _ (by omega) rfl, fin 2 _ (by omega) rfl⟩

theorem new_cells2 (w : World) (cs : List Value) (e : TypeId) (H : Nat) (h : w.heap.size = H) : ∀ j u, cs[j]? = some u → (w.alloc (.cells cs.toArray e)).cell? ⟨H, 0 + j, none⟩ = some u := h ▸ new_cells w cs e

/-- What Out reads. -/
theorem IndexR.at {w : World} {p : Nat} {nv ev : Value} {mn me : Nat} {ov : Value} {xs : List NX} {zs : List EX} {vs : List Value} (h : IndexR w p nv ev mn me ov xs zs vs) {j : Nat} (hj : j < xs.length) :
    ∃ b o c A n c', ov = .slice (some ⟨b, o, none⟩) xs.length c ∧ b < w.heap.size ∧ w.cell? ⟨b, o + j, none⟩ = some (.slice A n c') ∧ n = (lstZ (tokT (zs.map (·.d)) zs.length) j).length ∧ n ≤ c' ∧ c' ≤ 9223372036854775807 ∧ ReadsL w A (cellsL (lstZ (tokT (zs.map (·.d)) zs.length) j)) := by
  obtain ⟨A0, c0, e0, -, -, -, h0⟩ := h.ov.form
  have hj2 : j < vs.length := by rw [h.vl]; exact hj
  obtain ⟨b, o, eA, hc⟩ := h0 j vs[j] (by simp [hj2])
  subst eA
  obtain ⟨A, c', e1, h1, h2, -, h3⟩ := (h.vr j hj2).form
  exact ⟨b, o, c0, A, _, c', e0, World.block_lt_of_cell? w _ hc, by rw [hc, e1], rfl, h1, h2, h3⟩

set_option maxHeartbeats 1000000 in
/-- (*Index).Out -/
theorem out_any (p : Nat) (ns : List Nd) (es : List Ed) (node dir : Int) (w : World) (hx : Index w p ns es) :
    Calls Try.prog 12 #[.pointer (some ⟨p, 0, none⟩), .int .i64 node, .int .i64 dir] w fun e w' => ∃ v, e = .returned v ∧ Steps w' v (outL ns.length es node dir) ∧ Below w.heap.size w w' := by
  obtain ⟨nv, ev, mn, me, ov, xs, zs, vs, hns, hes, hi⟩ := hx
  have hlx : ns.length = xs.length := by rw [← hns]; simp
  have hlz : es.length = zs.length := by rw [← hes]; simp
  obtain ⟨A0, c0, e0, -, -, -, -⟩ := hi.ny.sl.form
  have h0 := hi.ix.c0
  rw [e0] at h0
  have hp := hi.ix.lt
  cases hin : inB xs.length node with
  | false =>
    have HO := Lib.hid (show outL ns.length es node dir = [] by unfold outL; rw [hlx, hin]; rfl)
    have HI := Lib.hid (show (decide (0 ≤ node) && decide (node < (xs.length : Int))) = false from hin)
    clear hin hi
    go_enter Try.func12, Try.ntmps12
    go_wp2_with (go_at_call 35; refine (is_any p A0 xs.length c0 node _ h0).mono ?_; rintro e w3 ⟨rfl, rfl⟩; rw [HI.out])
    go_ret
    exact ⟨_, rfl, by rw [HO.out]; exact SliceR.nil _, Below.refl _ _⟩
  | true =>
    have HI := Lib.hid (show (decide (0 ≤ node) && decide (node < (xs.length : Int))) = true from hin)
    have hin2 : 0 ≤ node ∧ node < (xs.length : Int) := by simpa [inB] using hin
    obtain ⟨j, rfl⟩ : ∃ j : Nat, node = (j : Int) := ⟨node.toNat, by omega⟩
    have hj : j < xs.length := by omega
    have hji : (j : Int) < (xs.length : Int) := by omega
    have hj0 : (0 : Int) ≤ (j : Int) := by omega
    obtain ⟨b, o, c, A, n, c', eo, hbl, hcj, hn, hnc, hcm, hrd⟩ := hi.at hj
    have h4 := hi.ix.c4
    rw [eo] at h4
    have HO := Lib.hid (show outL ns.length es (j : Int) dir = pickL dir (lstZ (tokT es es.length) (j : Int)) by unfold outL; rw [hlx, hin]; rfl)
    rw [← hlz, hes] at hn hrd
    have HLEN := Lib.hid (show (lstZ (tokT es es.length) (j : Int)).length * 16 ≤ 140737488355300 by
      have h1 := lstZ_length (tokT es es.length) (j : Int)
      have h2 := tokT_length es es.length
      have h3 := hi.ez.len
      omega)
    clear hin hin2 hi eo
    generalize lstZ (tokT es es.length) (j : Int) = l at *
    subst hn
    have HRD := Lib.hid hrd
    clear hrd
    go_enter Try.func12, Try.ntmps12
    go_wp2_with (go_at_call 35; refine (is_any p A0 xs.length c0 (j : Int) _ h0).mono ?_; rintro e w3 ⟨rfl, rfl⟩; rw [HI.out])
    go_loopw [7, 22] (fun v7 v22 wr => ∃ i : Nat, v22 = .int .i64 i ∧ i ≤ l.length ∧ Hid (Below w3.heap.size w3 wr ∧ OwnT wr w3.heap.size v7 (pickL dir (l.take i)))) (fun _ v22 _ => l.length - (intOf v22).toNat)
    case atStart => exact ⟨0, rfl, by omega, Lib.hid ⟨Below.refl _ _, World.ownsRow_nil _ _ _ _⟩⟩
    case round =>
      obtain ⟨i, rfl, hi, HR⟩ := hrel
      by_cases hil : i < l.length
      · have hil' : (i : Int) < (l.length : Int) := by omega
        have hi0 : (0 : Int) ≤ (i : Int) := by omega
        obtain ⟨g, q, hA, hgl, k0, k1, k2⟩ := HRD.out.lead i hil
        subst hA
        have m0 := cell_below HR.out.1 hgl k0
        have m1 := cell_below HR.out.1 hgl k1
        have m2 := cell_below HR.out.1 hgl k2
        have HT := Lib.hid (pickL_take (dir := dir) hil)
        have HPL := Lib.hid (show (pickL dir (l.take i)).length ≤ l.length from Nat.le_trans (pickL_length _ _) (by simp; omega))
        clear k0 k1 k2
        generalize ldAt l i = x at *
        obtain ⟨xe, xn, xd⟩ := x
        dsimp only at m0 m1 m2
        have HB1 := Lib.hid (HR.out.1.alloc HR.out.1.size (.cells #[.int .i64 xe, .int .i64 xn, .int .i64 xd] 82))
        cases hg : (bits .and .i64 xd dir != 0) with
        | false =>
          have HT2 := Lib.hid (show pickL dir (l.take (i + 1)) = pickL dir (l.take i) by rw [HT.out]; simp [goes, hg])
          go_wp2_with fail
          go_roundw
          case rel => exact ⟨i + 1, by go_num, by omega, Lib.hid ⟨HB1.out, by rw [HT2.out]; exact World.ownsRow.alloc HR.out.2 _⟩⟩
          case measure => simp [intOf]; omega
        | true =>
          have HT2 := Lib.hid (show pickL dir (l.take (i + 1)) = pickL dir (l.take i) ++ [(xe, xn)] by rw [HT.out]; simp [goes, hg])
          have HS := Lib.hid HB1.out.size
          go_wp2_with (at_builtin; refine wpList_app tySt rfl (.tmp 31) (.tmp 34) rfl (v := u7) rfl (World.ownsRow.alloc (World.ownsRow.alloc HR.out.2 _) _) ⟨wr.heap.size + 1, 0, none⟩ 1 1 [.int .i64 xe, .int .i64 xn] rfl rfl rfl (new_cells2 (wr.alloc (.cells #[.int .i64 xe, .int .i64 xn, .int .i64 xd] 82)) [.int .i64 xe, .int .i64 xn] 38 _ (World.size_alloc _ _)) (by simp [Value.oneCell']) ?_ ?_ ?_ ?_; (have := HPL.out; have := HLEN.out; omega); (have := HPL.out; have := HLEN.out; omega); (have := HR.out.1.size; simp; omega); intro v2 w2 ho2 hg2 hn2)
          have HB2 := Lib.hid ((HB1.out.alloc HB1.out.size (.cells #[.int .i64 xe, .int .i64 xn] 38)).grown hg2 (by have := HR.out.1.size; simp; omega) (fun k hk => (own_lt HR.out.2 k hk).1))
          go_roundw
          case rel => exact ⟨i + 1, by go_num, by omega, Lib.hid ⟨HB2.out, by rw [HT2.out]; unfold OwnT; rw [List.length_append, cellsT_append]; exact ho2⟩⟩
          case measure => simp [intOf]; omega
      · have hni : (l.length : Int) ≤ (i : Int) := by omega
        go_wp2_with fail
        go_ret
        have h := HR.out.2
        rw [List.take_of_length_le (by omega)] at h
        exact ⟨_, rfl, by rw [HO.out]; exact own_reads h, HR.out.1⟩
end Go.Proofs.Ytbolojjnkkgehaa
