import Derived.Test.YtbcnokidnpnmhaaRef3
import Derived.Test.YtbcnokidnpnmhaaHold
import Derived.Deep.CutBlock
namespace Go.Proofs.Ytbcnokidnpnmhaa
open Go.RowKit
attribute [local go_sem ↓] Go.wp_at_zero Go.wp_at_succ

theorem refValue_nil (w : World) : Calls Try.prog 25 #[.string ⟨([] : List UInt8).toArray⟩] w fun e w' => e = .returned (getW []) ∧ Below w.heap.size w w' := by
  go_enter Try.func25, Try.ntmps25
  go_wp2_with fail
  refine bodyPost_ret (v := .tuple #[VAL 0 0 0 ⟨#[]⟩, .int .i64 0, .bool false]) ?_ rfl ⟨rfl, below_alloc (below_alloc (Below.refl _ _) _) _⟩
  simp [results, Try.results25, go_sem]

theorem boxed2 {w w1 : World} {k n : Int} {f : Nat} {s : ByteArray} (hb : Below ((w.alloc (VOBJ 0 0 0 ⟨#[]⟩)).alloc (VOBJ k n f s)).heap.size ((w.alloc (VOBJ 0 0 0 ⟨#[]⟩)).alloc (VOBJ k n f s)) w1) :
    ValAt w1 w.heap.size 0 0 0 ⟨#[]⟩ ∧ ValAt w1 (w.heap.size + 1) k n f s ∧ Below w.heap.size w w1 := by
  have h1 : ValAt ((w.alloc (VOBJ 0 0 0 ⟨#[]⟩)).alloc (VOBJ k n f s)) (w.heap.size + 1) k n f s := by
    unfold ValAt
    rw [show w.heap.size + 1 = (w.alloc (VOBJ 0 0 0 ⟨#[]⟩)).heap.size by simp]; exact heap_alloc_new _ _
  have h2 : ValAt ((w.alloc (VOBJ 0 0 0 ⟨#[]⟩)).alloc (VOBJ k n f s)) w.heap.size 0 0 0 ⟨#[]⟩ := by
    unfold ValAt
    rw [Below.heap_alloc _ _ _ (by simp)]; exact heap_alloc_new _ _
  exact ⟨h2.below hb, h1.below hb, (below_alloc (below_alloc (Below.refl _ _) _) _).trans (hb.mono (by simp; omega))⟩

/-- Midway in ref03.Value: a value in its block, so many bytes. -/
def RefMid (l : List UInt8) (w wc : World) (x : Vl) (k : Nat) : Prop :=
  ValAt wc (w.heap.size + 1) x.k x.n x.f ⟨x.s.toArray⟩ ∧ ValAt wc w.heap.size 0 0 0 ⟨#[]⟩ ∧ Below w.heap.size w wc ∧ k ≤ l.length ∧ x.s.length ≤ 1000 ∧
    (-9223372036854775808 ≤ x.n ∧ x.n ≤ 9223372036854775807 ∧ x.f < 18446744073709551616) ∧ (valueB l = none ∨ valueB l = some (x, k))

set_option maxHeartbeats 4000000 in
set_option maxRecDepth 100000 in
theorem refValue_any (c : UInt8) (r : List UInt8) (hl : (c :: r).length ≤ 300) (w : World) :
    Calls Try.prog 25 #[.string ⟨(c :: r).toArray⟩] w fun e w' => e = .returned (getW (c :: r)) ∧ Below w.heap.size w w' := by
  obtain ⟨k0, hk0⟩ : ∃ k, c.toNat = k := ⟨_, rfl⟩
  have he : ((⟨(c :: r).toArray⟩ : ByteArray)[0]'(by show 0 < (c :: r).toArray.size; simp)).toNat = k0 := hk0
  have hex1 : (⟨(c :: r).toArray⟩ : ByteArray).extract 1 (r.length + 1) = ⟨r.toArray⟩ := by
    apply ByteArray.ext
    simp [ByteArray.data_extract]
  have hk256 : k0 < 256 := by rw [← hk0]; exact c.toNat_lt
  have hw64 : wrap64 (k0 : Int) = (k0 : Int) := by unfold wrap64; omega
  have hlr : r.length ≤ 300 := by simp at hl; omega
  go_enter Try.func25, Try.ntmps25
  go_upto_block 0 with (fail)
  go_cut [6] (fun v6 wc => ∃ (x : Vl) (k : Nat), v6 = .int .i64 k ∧ Hid (RefMid (c :: r) w wc x k))
  case first =>
    by_cases e0 : k0 = 0
    · subst e0
      have hvl : valueB (c :: r) = some (⟨0, 0, 0, []⟩, 1) := by simp [valueB, hk0]
      have HVL := Lib.hid hvl
      clear hvl
      go_wp2_with fail
      go_meet
      obtain ⟨vb, va, hb1⟩ := boxed2 (Below.refl _ ((w.alloc (VOBJ 0 0 0 ⟨#[]⟩)).alloc (VOBJ 0 0 0 ⟨#[]⟩)))
      exact ⟨⟨0, 0, 0, []⟩, 1, rfl, Lib.hid ⟨va, vb, hb1, by simp, by simp, ⟨by simp, by simp, by simp⟩, .inr HVL.out⟩⟩
    by_cases e1 : k0 = 1
    · subst e1
      have hvl : valueB (c :: r) = match getB r with | none => none | some (n, k) => if n < 2 then some (⟨1, n, 0, []⟩, 1 + k) else none := by simp [valueB, hk0]; cases getB r <;> rfl
      cases hg : getB r with
      | none =>
        have hn : valueB (c :: r) = none := by rw [hvl, hg]
        have hv : getV r = .tuple #[.int .u64 0, .int .i64 0, .bool false] := by simp [getV, hg]
        clear hvl hg
        go_wp2_with fail
        refine (refGet_any r hlr _).mono ?_
        rintro e w1 ⟨rfl, hb⟩
        rw [hv]
        obtain ⟨vb, va, hb1⟩ := boxed2 hb
        have la : w.heap.size + 1 < w1.heap.size := lt_of_block va
        have lb : w.heap.size < w1.heap.size := lt_of_block vb
        have a0 := va.c0
        have a1 := va.c1
        have a2 := va.c2
        have a3 := va.c3
        have g0 := va.fz 0
        have g1 := va.fz 1
        have g2 := va.fz 2
        have g3 := va.fz 3
        have b0 := vb.c0
        have b1 := vb.c1
        have b2 := vb.c2
        have b3 := vb.c3
        have f0 := vb.fz 0
        have f1 := vb.fz 1
        have f2 := vb.fz 2
        have f3 := vb.fz 3
        have HVA := Lib.hid va
        have HVB := Lib.hid vb
        have HB1 := Lib.hid hb1
        clear hb va vb hb1
        go_wp2_with fail
        have q0 : ValAt (setVal w1 w.heap.size 0 0 0 ⟨#[]⟩) w.heap.size 0 0 0 ⟨#[]⟩ := four_set HVB.out
        have hb2 := below_setVal HB1.out (Nat.le_refl _) 0 0 0 ⟨#[]⟩
        unfold setVal at q0 hb2
        generalize (((w1.setCell ⟨w.heap.size, 0, none⟩ (.int .i64 0)).setCell ⟨w.heap.size, 1, none⟩ (.int .i64 0)).setCell ⟨w.heap.size, 2, none⟩ (.float .f64 0)).setCell ⟨w.heap.size, 3, none⟩ (.string ⟨#[]⟩) = w2 at *
        refine bodyPost_ret (v := .tuple #[VAL 0 0 0 ⟨#[]⟩, .int .i64 0, .bool false]) ?_ rfl ⟨by simp [getW, hn], hb2⟩
        have d0 := q0.c0
        have d1 := q0.c1
        have d2 := q0.c2
        have d3 := q0.c3
        simp [results, Try.results25, go_sem, d0, d1, d2, d3]
      | some p =>
        obtain ⟨n, j⟩ := p
        have hv : getV r = .tuple #[.int .u64 n, .int .i64 j, .bool true] := by simp [getV, hg]
        obtain ⟨hn64, hj, hj1⟩ := getB_some hg
        rw [hg] at hvl
        simp only at hvl
        have HVL := Lib.hid hvl
        clear hg hvl
        by_cases hbig : 9223372036854775807 < n
        · have hn : valueB (c :: r) = none := by rw [HVL.out, if_neg (by omega)]
          have hbi : (9223372036854775807 : Int) < (n : Int) := by omega
          have HN64 := Lib.hid hn64
          have HBIG := Lib.hid hbig
          clear hn64 hbig
          go_wp2_with fail
          refine (refGet_any r hlr _).mono ?_
          rintro e w1 ⟨rfl, hb⟩
          rw [hv]
          obtain ⟨vb, va, hb1⟩ := boxed2 hb
          have la : w.heap.size + 1 < w1.heap.size := lt_of_block va
          have lb : w.heap.size < w1.heap.size := lt_of_block vb
          have a0 := va.c0
          have a1 := va.c1
          have a2 := va.c2
          have a3 := va.c3
          have g0 := va.fz 0
          have g1 := va.fz 1
          have g2 := va.fz 2
          have g3 := va.fz 3
          have b0 := vb.c0
          have b1 := vb.c1
          have b2 := vb.c2
          have b3 := vb.c3
          have f0 := vb.fz 0
          have f1 := vb.fz 1
          have f2 := vb.fz 2
          have f3 := vb.fz 3
          have HVA := Lib.hid va
          have HVB := Lib.hid vb
          have HB1 := Lib.hid hb1
          clear hb va vb hb1
          go_wp2_with fail
          have q0 : ValAt (setVal w1 w.heap.size 0 0 0 ⟨#[]⟩) w.heap.size 0 0 0 ⟨#[]⟩ := four_set HVB.out
          have hb2 := below_setVal HB1.out (Nat.le_refl _) 0 0 0 ⟨#[]⟩
          unfold setVal at q0 hb2
          generalize (((w1.setCell ⟨w.heap.size, 0, none⟩ (.int .i64 0)).setCell ⟨w.heap.size, 1, none⟩ (.int .i64 0)).setCell ⟨w.heap.size, 2, none⟩ (.float .f64 0)).setCell ⟨w.heap.size, 3, none⟩ (.string ⟨#[]⟩) = w2 at *
          refine bodyPost_ret (v := .tuple #[VAL 0 0 0 ⟨#[]⟩, .int .i64 0, .bool false]) ?_ rfl ⟨by simp [getW, hn], hb2⟩
          have d0 := q0.c0
          have d1 := q0.c1
          have d2 := q0.c2
          have d3 := q0.c3
          simp [results, Try.results25, go_sem, d0, d1, d2, d3]
        · have hbi : (n : Int) ≤ 9223372036854775807 := by omega
          have hwn : wrap64 (n : Int) = (n : Int) := by unfold wrap64; omega
          have hwm : wrap64 (-1 - (n : Int)) = -1 - (n : Int) := by unfold wrap64; omega
          have HN64 := Lib.hid hn64
          have HBIG := Lib.hid hbig
          clear hn64 hbig
          go_wp2_with fail
          refine (refGet_any r hlr _).mono ?_
          rintro e w1 ⟨rfl, hb⟩
          rw [hv]
          obtain ⟨vb, va, hb1⟩ := boxed2 hb
          have la : w.heap.size + 1 < w1.heap.size := lt_of_block va
          have lb : w.heap.size < w1.heap.size := lt_of_block vb
          have a0 := va.c0
          have a1 := va.c1
          have a2 := va.c2
          have a3 := va.c3
          have g0 := va.fz 0
          have g1 := va.fz 1
          have g2 := va.fz 2
          have g3 := va.fz 3
          have b0 := vb.c0
          have b1 := vb.c1
          have b2 := vb.c2
          have b3 := vb.c3
          have f0 := vb.fz 0
          have f1 := vb.fz 1
          have f2 := vb.fz 2
          have f3 := vb.fz 3
          have HVA := Lib.hid va
          have HVB := Lib.hid vb
          have HB1 := Lib.hid hb1
          clear hb va vb hb1
          go_wp2_with fail
          go_meet
          have hlo : -9223372036854775808 ≤ (n : Int) := by omega
          have hhi : (n : Int) ≤ 9223372036854775807 := by omega
          refine ⟨⟨1, n, 0, []⟩, 1 + j, by go_num, Lib.hid ⟨ValAt.set1 HVA.out n, HVB.out.grown (grown_set w1 (w.heap.size + 1) 1 _ 0) (by simp), HB1.out.setCell (by simp) _, by simp; omega, by simp, ⟨hlo, hhi, by simp⟩, ?_⟩⟩
          rw [HVL.out]
          split
          · exact .inr rfl
          · exact .inl rfl
    by_cases e2 : k0 = 2
    · subst e2
      have hvl : valueB (c :: r) = match getB r with | none => none | some (n, k) => if n < 9223372036854775808 then some (⟨2, n, 0, []⟩, 1 + k) else none := by simp [valueB, hk0]; cases getB r <;> rfl
      cases hg : getB r with
      | none =>
        have hn : valueB (c :: r) = none := by rw [hvl, hg]
        have hv : getV r = .tuple #[.int .u64 0, .int .i64 0, .bool false] := by simp [getV, hg]
        clear hvl hg
        go_wp2_with fail
        refine (refGet_any r hlr _).mono ?_
        rintro e w1 ⟨rfl, hb⟩
        rw [hv]
        obtain ⟨vb, va, hb1⟩ := boxed2 hb
        have la : w.heap.size + 1 < w1.heap.size := lt_of_block va
        have lb : w.heap.size < w1.heap.size := lt_of_block vb
        have a0 := va.c0
        have a1 := va.c1
        have a2 := va.c2
        have a3 := va.c3
        have g0 := va.fz 0
        have g1 := va.fz 1
        have g2 := va.fz 2
        have g3 := va.fz 3
        have b0 := vb.c0
        have b1 := vb.c1
        have b2 := vb.c2
        have b3 := vb.c3
        have f0 := vb.fz 0
        have f1 := vb.fz 1
        have f2 := vb.fz 2
        have f3 := vb.fz 3
        have HVA := Lib.hid va
        have HVB := Lib.hid vb
        have HB1 := Lib.hid hb1
        clear hb va vb hb1
        go_wp2_with fail
        have q0 : ValAt (setVal w1 w.heap.size 0 0 0 ⟨#[]⟩) w.heap.size 0 0 0 ⟨#[]⟩ := four_set HVB.out
        have hb2 := below_setVal HB1.out (Nat.le_refl _) 0 0 0 ⟨#[]⟩
        unfold setVal at q0 hb2
        generalize (((w1.setCell ⟨w.heap.size, 0, none⟩ (.int .i64 0)).setCell ⟨w.heap.size, 1, none⟩ (.int .i64 0)).setCell ⟨w.heap.size, 2, none⟩ (.float .f64 0)).setCell ⟨w.heap.size, 3, none⟩ (.string ⟨#[]⟩) = w2 at *
        refine bodyPost_ret (v := .tuple #[VAL 0 0 0 ⟨#[]⟩, .int .i64 0, .bool false]) ?_ rfl ⟨by simp [getW, hn], hb2⟩
        have d0 := q0.c0
        have d1 := q0.c1
        have d2 := q0.c2
        have d3 := q0.c3
        simp [results, Try.results25, go_sem, d0, d1, d2, d3]
      | some p =>
        obtain ⟨n, j⟩ := p
        have hv : getV r = .tuple #[.int .u64 n, .int .i64 j, .bool true] := by simp [getV, hg]
        obtain ⟨hn64, hj, hj1⟩ := getB_some hg
        rw [hg] at hvl
        simp only at hvl
        have HVL := Lib.hid hvl
        clear hg hvl
        by_cases hbig : 9223372036854775807 < n
        · have hn : valueB (c :: r) = none := by rw [HVL.out, if_neg (by omega)]
          have hbi : (9223372036854775807 : Int) < (n : Int) := by omega
          have HN64 := Lib.hid hn64
          have HBIG := Lib.hid hbig
          clear hn64 hbig
          go_wp2_with fail
          refine (refGet_any r hlr _).mono ?_
          rintro e w1 ⟨rfl, hb⟩
          rw [hv]
          obtain ⟨vb, va, hb1⟩ := boxed2 hb
          have la : w.heap.size + 1 < w1.heap.size := lt_of_block va
          have lb : w.heap.size < w1.heap.size := lt_of_block vb
          have a0 := va.c0
          have a1 := va.c1
          have a2 := va.c2
          have a3 := va.c3
          have g0 := va.fz 0
          have g1 := va.fz 1
          have g2 := va.fz 2
          have g3 := va.fz 3
          have b0 := vb.c0
          have b1 := vb.c1
          have b2 := vb.c2
          have b3 := vb.c3
          have f0 := vb.fz 0
          have f1 := vb.fz 1
          have f2 := vb.fz 2
          have f3 := vb.fz 3
          have HVA := Lib.hid va
          have HVB := Lib.hid vb
          have HB1 := Lib.hid hb1
          clear hb va vb hb1
          go_wp2_with fail
          have q0 : ValAt (setVal w1 w.heap.size 0 0 0 ⟨#[]⟩) w.heap.size 0 0 0 ⟨#[]⟩ := four_set HVB.out
          have hb2 := below_setVal HB1.out (Nat.le_refl _) 0 0 0 ⟨#[]⟩
          unfold setVal at q0 hb2
          generalize (((w1.setCell ⟨w.heap.size, 0, none⟩ (.int .i64 0)).setCell ⟨w.heap.size, 1, none⟩ (.int .i64 0)).setCell ⟨w.heap.size, 2, none⟩ (.float .f64 0)).setCell ⟨w.heap.size, 3, none⟩ (.string ⟨#[]⟩) = w2 at *
          refine bodyPost_ret (v := .tuple #[VAL 0 0 0 ⟨#[]⟩, .int .i64 0, .bool false]) ?_ rfl ⟨by simp [getW, hn], hb2⟩
          have d0 := q0.c0
          have d1 := q0.c1
          have d2 := q0.c2
          have d3 := q0.c3
          simp [results, Try.results25, go_sem, d0, d1, d2, d3]
        · have hbi : (n : Int) ≤ 9223372036854775807 := by omega
          have hwn : wrap64 (n : Int) = (n : Int) := by unfold wrap64; omega
          have hwm : wrap64 (-1 - (n : Int)) = -1 - (n : Int) := by unfold wrap64; omega
          have HN64 := Lib.hid hn64
          have HBIG := Lib.hid hbig
          clear hn64 hbig
          go_wp2_with fail
          refine (refGet_any r hlr _).mono ?_
          rintro e w1 ⟨rfl, hb⟩
          rw [hv]
          obtain ⟨vb, va, hb1⟩ := boxed2 hb
          have la : w.heap.size + 1 < w1.heap.size := lt_of_block va
          have lb : w.heap.size < w1.heap.size := lt_of_block vb
          have a0 := va.c0
          have a1 := va.c1
          have a2 := va.c2
          have a3 := va.c3
          have g0 := va.fz 0
          have g1 := va.fz 1
          have g2 := va.fz 2
          have g3 := va.fz 3
          have b0 := vb.c0
          have b1 := vb.c1
          have b2 := vb.c2
          have b3 := vb.c3
          have f0 := vb.fz 0
          have f1 := vb.fz 1
          have f2 := vb.fz 2
          have f3 := vb.fz 3
          have HVA := Lib.hid va
          have HVB := Lib.hid vb
          have HB1 := Lib.hid hb1
          clear hb va vb hb1
          go_wp2_with fail
          go_meet
          have hlo : -9223372036854775808 ≤ (n : Int) := by omega
          have hhi : (n : Int) ≤ 9223372036854775807 := by omega
          refine ⟨⟨2, n, 0, []⟩, 1 + j, by go_num, Lib.hid ⟨ValAt.set1 HVA.out n, HVB.out.grown (grown_set w1 (w.heap.size + 1) 1 _ 0) (by simp), HB1.out.setCell (by simp) _, by simp; omega, by simp, ⟨hlo, hhi, by simp⟩, ?_⟩⟩
          rw [HVL.out]
          split
          · exact .inr rfl
          · exact .inl rfl
    by_cases e18 : k0 = 18
    · subst e18
      have hvl : valueB (c :: r) = match getB r with | none => none | some (n, k) => if n < 9223372036854775808 then some (⟨2, -1 - n, 0, []⟩, 1 + k) else none := by simp [valueB, hk0]; cases getB r <;> rfl
      cases hg : getB r with
      | none =>
        have hn : valueB (c :: r) = none := by rw [hvl, hg]
        have hv : getV r = .tuple #[.int .u64 0, .int .i64 0, .bool false] := by simp [getV, hg]
        clear hvl hg
        go_wp2_with fail
        refine (refGet_any r hlr _).mono ?_
        rintro e w1 ⟨rfl, hb⟩
        rw [hv]
        obtain ⟨vb, va, hb1⟩ := boxed2 hb
        have la : w.heap.size + 1 < w1.heap.size := lt_of_block va
        have lb : w.heap.size < w1.heap.size := lt_of_block vb
        have a0 := va.c0
        have a1 := va.c1
        have a2 := va.c2
        have a3 := va.c3
        have g0 := va.fz 0
        have g1 := va.fz 1
        have g2 := va.fz 2
        have g3 := va.fz 3
        have b0 := vb.c0
        have b1 := vb.c1
        have b2 := vb.c2
        have b3 := vb.c3
        have f0 := vb.fz 0
        have f1 := vb.fz 1
        have f2 := vb.fz 2
        have f3 := vb.fz 3
        have HVA := Lib.hid va
        have HVB := Lib.hid vb
        have HB1 := Lib.hid hb1
        clear hb va vb hb1
        go_wp2_with fail
        have q0 : ValAt (setVal w1 w.heap.size 0 0 0 ⟨#[]⟩) w.heap.size 0 0 0 ⟨#[]⟩ := four_set HVB.out
        have hb2 := below_setVal HB1.out (Nat.le_refl _) 0 0 0 ⟨#[]⟩
        unfold setVal at q0 hb2
        generalize (((w1.setCell ⟨w.heap.size, 0, none⟩ (.int .i64 0)).setCell ⟨w.heap.size, 1, none⟩ (.int .i64 0)).setCell ⟨w.heap.size, 2, none⟩ (.float .f64 0)).setCell ⟨w.heap.size, 3, none⟩ (.string ⟨#[]⟩) = w2 at *
        refine bodyPost_ret (v := .tuple #[VAL 0 0 0 ⟨#[]⟩, .int .i64 0, .bool false]) ?_ rfl ⟨by simp [getW, hn], hb2⟩
        have d0 := q0.c0
        have d1 := q0.c1
        have d2 := q0.c2
        have d3 := q0.c3
        simp [results, Try.results25, go_sem, d0, d1, d2, d3]
      | some p =>
        obtain ⟨n, j⟩ := p
        have hv : getV r = .tuple #[.int .u64 n, .int .i64 j, .bool true] := by simp [getV, hg]
        obtain ⟨hn64, hj, hj1⟩ := getB_some hg
        rw [hg] at hvl
        simp only at hvl
        have HVL := Lib.hid hvl
        clear hg hvl
        by_cases hbig : 9223372036854775807 < n
        · have hn : valueB (c :: r) = none := by rw [HVL.out, if_neg (by omega)]
          have hbi : (9223372036854775807 : Int) < (n : Int) := by omega
          have HN64 := Lib.hid hn64
          have HBIG := Lib.hid hbig
          clear hn64 hbig
          go_wp2_with fail
          refine (refGet_any r hlr _).mono ?_
          rintro e w1 ⟨rfl, hb⟩
          rw [hv]
          obtain ⟨vb, va, hb1⟩ := boxed2 hb
          have la : w.heap.size + 1 < w1.heap.size := lt_of_block va
          have lb : w.heap.size < w1.heap.size := lt_of_block vb
          have a0 := va.c0
          have a1 := va.c1
          have a2 := va.c2
          have a3 := va.c3
          have g0 := va.fz 0
          have g1 := va.fz 1
          have g2 := va.fz 2
          have g3 := va.fz 3
          have b0 := vb.c0
          have b1 := vb.c1
          have b2 := vb.c2
          have b3 := vb.c3
          have f0 := vb.fz 0
          have f1 := vb.fz 1
          have f2 := vb.fz 2
          have f3 := vb.fz 3
          have HVA := Lib.hid va
          have HVB := Lib.hid vb
          have HB1 := Lib.hid hb1
          clear hb va vb hb1
          go_wp2_with fail
          have q0 : ValAt (setVal w1 w.heap.size 0 0 0 ⟨#[]⟩) w.heap.size 0 0 0 ⟨#[]⟩ := four_set HVB.out
          have hb2 := below_setVal HB1.out (Nat.le_refl _) 0 0 0 ⟨#[]⟩
          unfold setVal at q0 hb2
          generalize (((w1.setCell ⟨w.heap.size, 0, none⟩ (.int .i64 0)).setCell ⟨w.heap.size, 1, none⟩ (.int .i64 0)).setCell ⟨w.heap.size, 2, none⟩ (.float .f64 0)).setCell ⟨w.heap.size, 3, none⟩ (.string ⟨#[]⟩) = w2 at *
          refine bodyPost_ret (v := .tuple #[VAL 0 0 0 ⟨#[]⟩, .int .i64 0, .bool false]) ?_ rfl ⟨by simp [getW, hn], hb2⟩
          have d0 := q0.c0
          have d1 := q0.c1
          have d2 := q0.c2
          have d3 := q0.c3
          simp [results, Try.results25, go_sem, d0, d1, d2, d3]
        · have hbi : (n : Int) ≤ 9223372036854775807 := by omega
          have hwn : wrap64 (n : Int) = (n : Int) := by unfold wrap64; omega
          have hwm : wrap64 (-1 - (n : Int)) = -1 - (n : Int) := by unfold wrap64; omega
          have HN64 := Lib.hid hn64
          have HBIG := Lib.hid hbig
          clear hn64 hbig
          go_wp2_with fail
          refine (refGet_any r hlr _).mono ?_
          rintro e w1 ⟨rfl, hb⟩
          rw [hv]
          obtain ⟨vb, va, hb1⟩ := boxed2 hb
          have la : w.heap.size + 1 < w1.heap.size := lt_of_block va
          have lb : w.heap.size < w1.heap.size := lt_of_block vb
          have a0 := va.c0
          have a1 := va.c1
          have a2 := va.c2
          have a3 := va.c3
          have g0 := va.fz 0
          have g1 := va.fz 1
          have g2 := va.fz 2
          have g3 := va.fz 3
          have b0 := vb.c0
          have b1 := vb.c1
          have b2 := vb.c2
          have b3 := vb.c3
          have f0 := vb.fz 0
          have f1 := vb.fz 1
          have f2 := vb.fz 2
          have f3 := vb.fz 3
          have HVA := Lib.hid va
          have HVB := Lib.hid vb
          have HB1 := Lib.hid hb1
          clear hb va vb hb1
          go_wp2_with fail
          go_meet
          have hlo : -9223372036854775808 ≤ (-1 - (n : Int)) := by omega
          have hhi : (-1 - (n : Int)) ≤ 9223372036854775807 := by omega
          refine ⟨⟨2, -1 - n, 0, []⟩, 1 + j, by go_num, Lib.hid ⟨ValAt.set1 (ValAt.set0 (ValAt.set1 HVA.out n) 2) (-1 - n), (((HVB.out.grown (grown_set w1 (w.heap.size + 1) 1 _ 0) (by simp)).grown (grown_set _ (w.heap.size + 1) 0 _ 0) (by simp)).grown (grown_set _ (w.heap.size + 1) 1 _ 0) (by simp)), ((HB1.out.setCell (by simp) _).setCell (by simp) _).setCell (by simp) _, by simp; omega, by simp, ⟨hlo, hhi, by simp⟩, ?_⟩⟩
          rw [HVL.out]
          split
          · exact .inr rfl
          · exact .inl rfl
    by_cases e3 : k0 = 3
    · subst e3
      have hvl : valueB (c :: r) = if r.length < 8 then none else if keyB (ofKeyB (valB (r.take 8))) = valB (r.take 8) then some (⟨3, 0, ofKeyB (valB (r.take 8)), []⟩, 9) else none := by simp [valueB, hk0]
      by_cases h9 : r.length < 8
      · have hn : valueB (c :: r) = none := by rw [hvl, if_pos h9]
        have h9' : (r.length : Int) + 1 < 9 := by omega
        obtain ⟨vb, va, hb1⟩ := boxed2 (Below.refl _ ((w.alloc (VOBJ 0 0 0 ⟨#[]⟩)).alloc (VOBJ 3 0 0 ⟨#[]⟩)))
        have HVB := Lib.hid vb
        have HB1 := Lib.hid hb1
        clear hvl vb va hb1
        go_wp2_with fail
        refine bodyPost_ret (v := .tuple #[VAL 0 0 0 ⟨#[]⟩, .int .i64 0, .bool false]) ?_ rfl ⟨by simp [getW, hn], HB1.out⟩
        simp [results, Try.results25, go_sem]
      · have h9' : 9 ≤ (r.length : Int) + 1 := by omega
        obtain ⟨K, hK⟩ : ∃ K, valB (r.take 8) = K := ⟨_, rfl⟩
        have hK64 : K < 18446744073709551616 := by rw [← hK]; exact valB_lt8 _ (by simp; omega)
        have hex9 : (⟨(c :: r).toArray⟩ : ByteArray).extract 1 9 = ⟨(r.take 8).toArray⟩ := by
          apply ByteArray.ext
          simp [ByteArray.data_extract]
        rw [hK, if_neg h9] at hvl
        have HVL := Lib.hid hvl
        have HK := Lib.hid hK
        have HK64 := Lib.hid hK64
        have H8 := Lib.hid (show (r.take 8).length ≤ 8 by simp; omega)
        have H9 := Lib.hid h9
        clear hvl hK hK64
        obtain ⟨vb, va, hb1⟩ := boxed2 (Below.refl _ ((w.alloc (VOBJ 0 0 0 ⟨#[]⟩)).alloc (VOBJ 3 0 0 ⟨#[]⟩)))
        have HVA := Lib.hid va
        have HVB := Lib.hid vb
        have HB1 := Lib.hid hb1
        clear va vb hb1
        go_wp2_with fail
        refine (refNumber_any (r.take 8) H8.out _).mono ?_
        rintro e w1 ⟨rfl, rfl⟩
        rw [HK.out]
        go_wp2_with fail
        refine (refFloat_any K HK64.out _).mono ?_
        rintro e w1 ⟨rfl, rfl⟩
        go_wp2_with fail
        go_meet
        obtain ⟨vb, va, hb1⟩ := boxed2 (Below.refl _ ((w.alloc (VOBJ 0 0 0 ⟨#[]⟩)).alloc (VOBJ 3 0 (ofKeyB K) ⟨#[]⟩)))
        refine ⟨⟨3, 0, ofKeyB K, []⟩, 9, rfl, Lib.hid ⟨va, vb, hb1, by have := H9.out; simp; omega, by simp, ⟨by simp, by simp, ofKeyB_lt K HK64.out⟩, ?_⟩⟩
        rw [HVL.out]
        split
        · exact .inr rfl
        · exact .inl rfl
    by_cases e4 : k0 = 4
    · subst e4
      have hvl : valueB (c :: r) = match textB r with | none => none | some (s, k) => some (⟨4, 0, 0, s⟩, 1 + k) := by simp [valueB, hk0]; cases textB r <;> rfl
      cases hg : textB r with
      | none =>
        have hn : valueB (c :: r) = none := by rw [hvl, hg]
        have hv : getT r = .tuple #[.string ⟨#[]⟩, .int .i64 0, .bool false] := by simp [getT, hg]
        clear hvl hg
        go_wp2_with fail
        refine (refText_any r hlr _).mono ?_
        rintro e w1 ⟨rfl, hb⟩
        rw [hv]
        obtain ⟨vb, va, hb1⟩ := boxed2 hb
        have la : w.heap.size + 1 < w1.heap.size := lt_of_block va
        have lb : w.heap.size < w1.heap.size := lt_of_block vb
        have a0 := va.c0
        have a1 := va.c1
        have a2 := va.c2
        have a3 := va.c3
        have g0 := va.fz 0
        have g1 := va.fz 1
        have g2 := va.fz 2
        have g3 := va.fz 3
        have b0 := vb.c0
        have b1 := vb.c1
        have b2 := vb.c2
        have b3 := vb.c3
        have f0 := vb.fz 0
        have f1 := vb.fz 1
        have f2 := vb.fz 2
        have f3 := vb.fz 3
        have HVA := Lib.hid va
        have HVB := Lib.hid vb
        have HB1 := Lib.hid hb1
        clear hb va vb hb1
        go_wp2_with fail
        have q0 : ValAt (setVal w1 w.heap.size 0 0 0 ⟨#[]⟩) w.heap.size 0 0 0 ⟨#[]⟩ := four_set HVB.out
        have hb2 := below_setVal HB1.out (Nat.le_refl _) 0 0 0 ⟨#[]⟩
        unfold setVal at q0 hb2
        generalize (((w1.setCell ⟨w.heap.size, 0, none⟩ (.int .i64 0)).setCell ⟨w.heap.size, 1, none⟩ (.int .i64 0)).setCell ⟨w.heap.size, 2, none⟩ (.float .f64 0)).setCell ⟨w.heap.size, 3, none⟩ (.string ⟨#[]⟩) = w2 at *
        refine bodyPost_ret (v := .tuple #[VAL 0 0 0 ⟨#[]⟩, .int .i64 0, .bool false]) ?_ rfl ⟨by simp [getW, hn], hb2⟩
        have d0 := q0.c0
        have d1 := q0.c1
        have d2 := q0.c2
        have d3 := q0.c3
        simp [results, Try.results25, go_sem, d0, d1, d2, d3]
      | some p =>
        obtain ⟨t, j⟩ := p
        have hv : getT r = .tuple #[.string ⟨t.toArray⟩, .int .i64 j, .bool true] := by simp [getT, hg]
        obtain ⟨_, hj, hj1⟩ := textB_one hg
        have htl : t.length ≤ 300 := by unfold putTextB at hj1; rw [List.length_append] at hj1; omega
        rw [hg] at hvl
        simp only at hvl
        have HVL := Lib.hid hvl
        have HJ1 := Lib.hid hj1
        clear hg hvl hj1
        go_wp2_with fail
        refine (refText_any r hlr _).mono ?_
        rintro e w1 ⟨rfl, hb⟩
        rw [hv]
        obtain ⟨vb, va, hb1⟩ := boxed2 hb
        have la : w.heap.size + 1 < w1.heap.size := lt_of_block va
        have lb : w.heap.size < w1.heap.size := lt_of_block vb
        have a0 := va.c0
        have a1 := va.c1
        have a2 := va.c2
        have a3 := va.c3
        have g0 := va.fz 0
        have g1 := va.fz 1
        have g2 := va.fz 2
        have g3 := va.fz 3
        have b0 := vb.c0
        have b1 := vb.c1
        have b2 := vb.c2
        have b3 := vb.c3
        have f0 := vb.fz 0
        have f1 := vb.fz 1
        have f2 := vb.fz 2
        have f3 := vb.fz 3
        have HVA := Lib.hid va
        have HVB := Lib.hid vb
        have HB1 := Lib.hid hb1
        clear hb va vb hb1
        go_wp2_with fail
        go_meet
        exact ⟨⟨4, 0, 0, t⟩, 1 + j, by go_num, Lib.hid ⟨ValAt.set3 HVA.out _, HVB.out.grown (grown_set w1 (w.heap.size + 1) 3 _ 0) (by simp), HB1.out.setCell (by simp) _, by simp; omega, by show t.length ≤ 1000; omega, ⟨by simp, by simp, by simp⟩, .inr HVL.out⟩⟩
    have hn : valueB (c :: r) = none := by simp [valueB, hk0, e0, e1, e2, e18, e3, e4]
    have d1 : ((k0 : Int) == 1) = false := by rw [beq_eq_false_iff_ne]; omega
    have d2 : ((k0 : Int) == 2) = false := by rw [beq_eq_false_iff_ne]; omega
    have d3 : ((k0 : Int) == 3) = false := by rw [beq_eq_false_iff_ne]; omega
    have d4 : ((k0 : Int) == 4) = false := by rw [beq_eq_false_iff_ne]; omega
    have d18 : ((k0 : Int) == 18) = false := by rw [beq_eq_false_iff_ne]; omega
    have HNN := Lib.hid hn
    clear hn
    go_wp2_with fail
    go_meet
    obtain ⟨vb, va, hb1⟩ := boxed2 (Below.refl _ ((w.alloc (VOBJ 0 0 0 ⟨#[]⟩)).alloc (VOBJ k0 0 0 ⟨#[]⟩)))
    exact ⟨⟨k0, 0, 0, []⟩, 1, rfl, Lib.hid ⟨va, vb, hb1, by simp, by simp, ⟨by simp, by simp, by simp⟩, .inl HNN.out⟩⟩
  case rest =>
    obtain ⟨x, k, rfl, HM⟩ := hcut
    obtain ⟨va, vb, hb, hk, hs, ⟨h0, h1, hf⟩, hcase⟩ := HM.out
    obtain ⟨L, hL⟩ : ∃ L, (c :: r).take k = L := ⟨_, rfl⟩
    have hex0 : (⟨(c :: r).toArray⟩ : ByteArray).extract 0 k = ⟨L.toArray⟩ := by
      apply ByteArray.ext
      simp [ByteArray.data_extract, ← hL]
    have hk0' : (0 : Int) ≤ (k : Int) := by omega
    have hkl : (k : Int) ≤ (((c :: r).length : Nat) : Int) := by omega
    have hkl2 : (k : Int) ≤ (r.length : Int) + 1 := by simp at hk; omega
    obtain ⟨R, hR⟩ : ∃ R, rightB x.k x.n x.f ⟨x.s.toArray⟩ = R := ⟨_, rfl⟩
    obtain ⟨G, hG⟩ : ∃ G : Bool, (R && (putValueB x == L)) = G := ⟨_, rfl⟩
    have hgw : getW (c :: r) = if G = true then .tuple #[VL x, .int .i64 k, .bool true] else .tuple #[VAL 0 0 0 ⟨#[]⟩, .int .i64 0, .bool false] := by
      cases G with
      | true =>
        simp only [Bool.and_eq_true, beq_iff_eq] at hG
        have hx : Fits x := ⟨h0, h1, hf, hR.trans hG.1⟩
        have h2 := valueB_put x hx (by omega) ((c :: r).drop k)
        rw [hG.2, ← hL, List.take_append_drop] at h2
        have h3 : ((c :: r).take k).length = k := by rw [List.length_take]; omega
        rw [h3] at h2
        simp [getW, h2]
      | false =>
        have hn : valueB (c :: r) = none := by
          rcases hcase with e | e
          · exact e
          · obtain ⟨hx, ht, _⟩ := valueB_one e
            have h2 := hx.right
            rw [hR] at h2
            rw [h2, ← ht, ← hL] at hG
            simp at hG
        simp [getW, hn]
    have HGW := Lib.hid hgw
    have HR := Lib.hid hR
    have HG := Lib.hid hG
    have HF := Lib.hid hf
    have HB := Lib.hid hb
    have HVA := Lib.hid va
    have HVB := Lib.hid vb
    have HFX := Lib.hid (show R = true → Fits x from fun e => ⟨h0, h1, hf, hR.trans e⟩)
    have HS := Lib.hid hs
    have a0 := va.c0
    have a1 := va.c1
    have a2 := va.c2
    have a3 := va.c3
    have la : w.heap.size + 1 < wc.heap.size := lt_of_block va
    clear HM va vb hb hs h0 h1 hf hcase hL hR hG hgw
    go_wp2_with fail
    refine (refRight_any x.k x.n x.f ⟨x.s.toArray⟩ wc HF.out).mono ?_
    rintro e w3 ⟨rfl, hb3⟩
    rw [HR.out]
    have HB3 := Lib.hid (HB.out.trans (hb3.mono HB.out.size))
    have va3 := HVA.out.below hb3
    have HVB3 := Lib.hid (HVB.out.below hb3)
    have hs3 := HB3.out.size
    have la3 : w.heap.size + 1 < w3.heap.size := lt_of_block va3
    clear a0 a1 a2 a3 la hb3 HB HVA HVB
    have a0 := va3.c0
    have a1 := va3.c1
    have a2 := va3.c2
    have a3 := va3.c3
    have HVA3 := Lib.hid va3
    clear va3
    go_upto_region 30 with fail
    go_cut [95] (fun r wx => r = .bool (!G) ∧ Below w3.heap.size w3 wx)
    case first =>
      cases R with
      | false =>
        obtain rfl : G = false := by have := HG.out; simpa using this.symm
        go_quiet (fail)
        go_wp2
        go_meet
        exact ⟨rfl, below_drewN (Below.refl _ _) _⟩
      | true =>
        obtain ⟨b, hbq⟩ : ∃ b, (putValueB x == L) = b := ⟨_, rfl⟩
        obtain rfl : b = G := by have := HG.out; rw [hbq] at this; simpa using this
        have hbn : (putValueB x != L) = !b := by rw [← hbq]; rfl
        have HPV := Lib.hid (refPV_any x (HFX.out rfl) HS.out)
        generalize putValueB x = PV at *
        go_region_held (fun w' => (w'.cell? ⟨w.heap.size + 1, 0, none⟩ = some (.int .i64 x.k) ∧ w'.cell? ⟨w.heap.size + 1, 1, none⟩ = some (.int .i64 x.n)) ∧ (w'.cell? ⟨w.heap.size + 1, 2, none⟩ = some (.float .f64 x.f) ∧ w'.cell? ⟨w.heap.size + 1, 3, none⟩ = some (.string ⟨x.s.toArray⟩))) (first | go_keep | (go_split_ands; refine ⟨⟨(hb15.cell hl15).trans ?_, (hb15.cell hl15).trans ?_⟩, ⟨(hb15.cell hl15).trans ?_, (hb15.cell hl15).trans ?_⟩⟩ <;> assumption)) (first | ((go_at_call 18; refine (HPV.out _).mono ?_; rintro e w15 ⟨rfl, hb15⟩; have hl15 : w.heap.size + 1 < w3.drew.heap.size := la3)))
        go_wp2
        go_meet
        exact ⟨rfl, (Below.refl w3.heap.size w3).drew.trans hb15⟩
    case rest =>
      obtain ⟨rfl, hb4⟩ := hcut
      have HB4 := Lib.hid (HB3.out.trans (hb4.mono hs3))
      have va4 := HVA3.out.below hb4
      have vb4 := HVB3.out.below hb4
      have la4 : w.heap.size + 1 < wc.heap.size := lt_of_block va4
      have lb4 : w.heap.size < wc.heap.size := lt_of_block vb4
      clear a0 a1 a2 a3 la3 hb4 HB3 HVA3 HVB3 hs3
      have a0 := va4.c0
      have a1 := va4.c1
      have a2 := va4.c2
      have a3 := va4.c3
      have b0 := vb4.c0
      have b1 := vb4.c1
      have b2 := vb4.c2
      have b3 := vb4.c3
      have f0 := vb4.fz 0
      have f1 := vb4.fz 1
      have f2 := vb4.fz 2
      have f3 := vb4.fz 3
      have HVB4 := Lib.hid vb4
      clear va4 vb4
      cases G with
      | true =>
        have HW := Lib.hid (HGW.out.trans (if_pos rfl))
        go_wp2_with fail
        have q0 : ValAt (setVal wc w.heap.size x.k x.n x.f ⟨x.s.toArray⟩) w.heap.size x.k x.n x.f ⟨x.s.toArray⟩ := four_set HVB4.out
        have hb2 := below_setVal HB4.out (Nat.le_refl _) x.k x.n x.f ⟨x.s.toArray⟩
        unfold setVal at q0 hb2
        generalize (((wc.setCell ⟨w.heap.size, 0, none⟩ (.int .i64 x.k)).setCell ⟨w.heap.size, 1, none⟩ (.int .i64 x.n)).setCell ⟨w.heap.size, 2, none⟩ (.float .f64 x.f)).setCell ⟨w.heap.size, 3, none⟩ (.string ⟨x.s.toArray⟩) = w2 at *
        refine bodyPost_ret (v := .tuple #[VL x, .int .i64 k, .bool true]) ?_ rfl ⟨by rw [HW.out], hb2⟩
        have d0 := q0.c0
        have d1 := q0.c1
        have d2 := q0.c2
        have d3 := q0.c3
        simp [results, Try.results25, go_sem, d0, d1, d2, d3]
      | false =>
        have HW := Lib.hid (HGW.out.trans (if_neg (by simp)))
        go_wp2_with fail
        have q0 : ValAt (setVal wc w.heap.size 0 0 0 ⟨#[]⟩) w.heap.size 0 0 0 ⟨#[]⟩ := four_set HVB4.out
        have hb2 := below_setVal HB4.out (Nat.le_refl _) 0 0 0 ⟨#[]⟩
        unfold setVal at q0 hb2
        generalize (((wc.setCell ⟨w.heap.size, 0, none⟩ (.int .i64 0)).setCell ⟨w.heap.size, 1, none⟩ (.int .i64 0)).setCell ⟨w.heap.size, 2, none⟩ (.float .f64 0)).setCell ⟨w.heap.size, 3, none⟩ (.string ⟨#[]⟩) = w2 at *
        refine bodyPost_ret (v := .tuple #[VAL 0 0 0 ⟨#[]⟩, .int .i64 0, .bool false]) ?_ rfl ⟨by rw [HW.out], hb2⟩
        have d0 := q0.c0
        have d1 := q0.c1
        have d2 := q0.c2
        have d3 := q0.c3
        simp [results, Try.results25, go_sem, d0, d1, d2, d3]
end Go.Proofs.Ytbcnokidnpnmhaa
