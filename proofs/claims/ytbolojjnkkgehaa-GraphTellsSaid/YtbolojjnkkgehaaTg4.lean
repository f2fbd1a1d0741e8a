import Derived.Test.YtbolojjnkkgehaaTg3
import Derived.Test.YtbolojjnkkgehaaFl
/-! The reference's Out: the walk. -/
namespace Go.Proofs.Ytbolojjnkkgehaa
open Go.RowKit

theorem tyRs : Ty 61 98 2 16 := ty_of (z := .agg #[.int .i64 0, .int .i64 0]) Try.underlying61 (by kernel_rfl) rfl (by omega)

set_option maxHeartbeats 1000000 in
/-- ref07.Out -/
theorem refOut_any (nv : Value) (xs : List NX) (ev : Value) (zs : List EX) (node q : Int) (w : World) (hn : Nodes w nv xs) (he : Edges w ev zs) (hx : xs.length ≤ 1000) (hz : zs.length ≤ 1000)
    (hr : ∀ k, k < zs.length → inB xs.length (edD (zs.map (·.d)) k).src = true ∧ inB xs.length (edD (zs.map (·.d)) k).dst = true) :
    Calls Try.prog 21 #[GR nv ev, .int .i64 node, .int .i64 q] w fun e w' => ∃ v, e = .returned v ∧ Steps w' v (outL xs.length (zs.map (·.d)) node q) ∧ Below w.heap.size w w' := by
  obtain ⟨A, c, rfl, hlc, hcm, -, hrd⟩ := hn.sl.form
  obtain ⟨A', c', rfl, hlc', hcm', -, hrd'⟩ := he.sl.form
  have HE := Lib.hid he
  have HRD' := Lib.hid hrd'
  have HRR := Lib.hid hr
  clear hn he hrd hrd' hr
  have hb0 := ((Below.refl w.heap.size w).alloc (Nat.le_refl _) (.cells #[.slice A xs.length c, .slice A' zs.length c'] 25)).alloc (by simp) (.cells #[] 98)
  have HT0 := Lib.hid (show TwoAt ((w.alloc (.cells #[.slice A xs.length c, .slice A' zs.length c'] 25)).alloc (.cells #[] 98)) w.heap.size (.slice A xs.length c) (.slice A' zs.length c') from ⟨by simp [go_sem], by simp [go_sem]⟩)
  have HO0 := Lib.hid (show ((w.alloc (.cells #[.slice A xs.length c, .slice A' zs.length c'] 25)).alloc (.cells #[] 98)).ownsRow (w.heap.size + 1) 98 2 (.slice (some ⟨w.heap.size + 1, 0, none⟩) 0 0) 0 [] from by have h := World.ownsRow_made (base := w.heap.size + 1) (e := 98) (size := 2) (w.alloc (.cells #[.slice A xs.length c, .slice A' zs.length c'] 25)) #[] 0 (by simp) (by unfold maxLen; omega) rfl; rw [World.size_alloc] at h; exact h)
  have hlt0 : w.heap.size + 1 < ((w.alloc (.cells #[.slice A xs.length c, .slice A' zs.length c'] 25)).alloc (.cells #[] 98)).heap.size := by simp
  have HB0 := Lib.hid hb0
  clear hb0
  have hl : (zs.map (·.d)).length = zs.length := by simp
  cases hin : inB xs.length node with
  | false =>
    have HO := Lib.hid (show outL xs.length (zs.map (·.d)) node q = [] by unfold outL; rw [hin]; rfl)
    by_cases h0 : 0 ≤ node
    · have h1 : (xs.length : Int) ≤ node := by
        have : ¬ (0 ≤ node ∧ node < (xs.length : Int)) := fun h => by simp [inB, h.1, h.2] at hin
        omega
      clear hin
      go_enter Try.func21, Try.ntmps21
      go_wp2_with fail
      go_ret
      exact ⟨_, rfl, by rw [HO.out]; exact own_reads HO0.out, HB0.out⟩
    · have h1 : node < 0 := by omega
      clear hin
      go_enter Try.func21, Try.ntmps21
      go_wp2_with fail
      go_ret
      exact ⟨_, rfl, by rw [HO.out]; exact own_reads HO0.out, HB0.out⟩
  | true =>
    have hin2 : 0 ≤ node ∧ node < (xs.length : Int) := by simpa [inB] using hin
    obtain ⟨j, rfl⟩ : ∃ j : Nat, node = (j : Int) := ⟨node.toNat, by omega⟩
    have hji : (j : Int) < (xs.length : Int) := by omega
    have hj0 : (0 : Int) ≤ (j : Int) := by omega
    have HO := Lib.hid (show outL xs.length (zs.map (·.d)) (j : Int) q = pickN q (zs.map (·.d)) zs.length (j : Int) by rw [outL_in hin, hl])
    clear hin hin2
    go_enter Try.func21, Try.ntmps21
    go_wp2_with fail
    generalize (w.alloc (.cells #[.slice A xs.length c, .slice A' zs.length c'] 25)).alloc (.cells #[] 98) = w0 at *
    go_loopw [7, 8] (fun v7 v8 wr => ∃ k : Nat, v8 = .int .i64 k ∧ k ≤ zs.length ∧ Hid (Below w.heap.size w wr ∧ TwoAt wr w.heap.size (.slice A xs.length c) (.slice A' zs.length c') ∧ wr.ownsRow (w.heap.size + 1) 98 2 v7 (pickN q (zs.map (·.d)) k (j : Int)).length (cellsT (pickN q (zs.map (·.d)) k (j : Int))))) (fun _ v8 _ => zs.length - (intOf v8).toNat)
    case atStart => exact ⟨0, rfl, by omega, Lib.hid ⟨HB0.out, HT0.out, HO0.out⟩⟩
    case round =>
      obtain ⟨k, rfl, hk, HR⟩ := hrel
      have t0 := HR.out.2.1.c0
      have t1 := HR.out.2.1.c1
      have hltr : w.heap.size < wr.heap.size := World.block_lt_of_cell? wr _ t0
      by_cases hkn : k < zs.length
      · have hkn' : (k : Int) < (zs.length : Int) := by omega
        have hk0 : (0 : Int) ≤ (k : Int) := by omega
        obtain ⟨b, o, hA, hbl, e0, e1, e2, e3, e4, e5⟩ := HRD'.out.edgeA k hkn
        subst hA
        have hbr : b < wr.heap.size := Nat.lt_of_lt_of_le hbl HR.out.1.size
        have r0 := cell_below HR.out.1 hbl e0
        have r1 := cell_below HR.out.1 hbl e1
        have r2 := cell_below HR.out.1 hbl e2
        have r3 := cell_below HR.out.1 hbl e3
        have r4 := cell_below HR.out.1 hbl e4
        have r5 := cell_below HR.out.1 hbl e5
        obtain ⟨A1, n1, c1, A2, n2, c2, s4, s5⟩ := HE.out.slices hkn
        rw [s4] at r4
        rw [s5] at r5
        have hrk := HRR.out k hkn
        have HSU := Lib.hid (pickN_succ q (zs.map (·.d)) k (j : Int))
        rw [edD_map hkn] at hrk
        rw [edD_map hkn, ref_one] at HSU
        have HPL := Lib.hid (pickN_len q (zs.map (·.d)) k (j : Int))
        clear e0 e1 e2 e3 e4 e5 s4 s5
        generalize (edAt zs k).d = d at *
        obtain ⟨nm, s, t, dir, ls, ps⟩ := d
        dsimp only at r0 r1 r2 r3 hrk HSU
        have hs2 : 0 ≤ s ∧ s < (xs.length : Int) := by simpa [inB] using hrk.1
        have ht2 : 0 ≤ t ∧ t < (xs.length : Int) := by simpa [inB] using hrk.2
        obtain ⟨hs0, hs1⟩ := hs2
        obtain ⟨ht0, ht1⟩ := ht2
        have HB1 := Lib.hid ((Below.refl wr.heap.size wr).alloc (Nat.le_refl _) (.cells #[.string nm, .int .i64 s, .int .i64 t, .bool dir, .slice A1 n1 c1, .slice A2 n2 c2] 42))
        have HO1 := Lib.hid (World.ownsRow.alloc HR.out.2.2 (.cells #[.string nm, .int .i64 s, .int .i64 t, .bool dir, .slice A1 n1 c1, .slice A2 n2 c2] 42))
        clear hrk
        generalize hP : pickN q (zs.map (·.d)) k (j : Int) = P at *
        by_cases hi : s = (j : Int) ∨ t = (j : Int)
        · rw [if_pos hi] at HSU
          have HC := Lib.hid (show (s = (j : Int) ∧ s + t - (j : Int) = t) ∨ (t = (j : Int) ∧ s + t - (j : Int) = s) by omega)
          cases hlb : leadB s t dir (j : Int) (s + t - (j : Int)) q with
          | true =>
            rw [hlb, if_pos rfl] at HSU
            have HLB := Lib.hid hlb
            clear hlb
            by_cases hs : s = (j : Int)
            · have hs3 : (s == (j : Int)) = true := by simpa using hs
              have hs4 : (s != (j : Int)) = false := by simpa using hs
              clear hs hi
              go_wp2_with fail
              refine (refLeads_any nm s t dir _ _ (j : Int) (s + t - (j : Int)) q _ HC.out).mono ?_
              rintro e w5 ⟨rfl, hb5⟩
              rw [HLB.out]
              have HB5 := Lib.hid (below_trans' HB1.out hb5)
              have HO5 := Lib.hid (own_below HO1.out hb5 (Nat.le_refl _))
              clear hb5
              have hs5 := HB5.out.size
              go_wp2_with (at_builtin; refine wpList_app tyRs rfl (.tmp 58) (.tmp 62) rfl (v := u7) rfl (World.ownsRow.alloc HO5.out _) ⟨w5.heap.size, 0, none⟩ 1 1 [.int .i64 k, .int .i64 (s + t - (j : Int))] rfl rfl rfl (new_cells w5 [.int .i64 k, .int .i64 (s + t - (j : Int))] 98) (by simp [Value.oneCell']) ?_ ?_ ?_ ?_; (have := HPL.out; omega); (have := HPL.out; omega); (simp; omega); intro v2 w2 ho2 hg2 hn2)
              have hnb : some w.heap.size ≠ u7.ownBlock := fun e => by have := own_lt HO5.out _ e.symm; omega
              have HB6 := Lib.hid ((below_trans' HR.out.1 (HB5.out.alloc hs5 (.cells #[.int .i64 k, .int .i64 (s + t - (j : Int))] 98))).grown hg2 (by simp; omega) (fun k hk => by have := own_lt HO5.out k hk; omega))
              have hT5 := (HR.out.2.1.below HB5.out hltr).below ((Below.refl w5.heap.size w5).alloc (Nat.le_refl _) (.cells #[.int .i64 k, .int .i64 (s + t - (j : Int))] 98)) (by omega)
              have HT6 := Lib.hid (show TwoAt w2 w.heap.size (.slice A xs.length c) _ from ⟨hg2.cell hT5.c0 hnb, hg2.cell hT5.c1 hnb⟩)
              clear hT5
              go_roundw
              case rel => exact ⟨k + 1, by go_num, by omega, Lib.hid ⟨HB6.out, HT6.out, by rw [HSU.out, List.length_append, cellsT_append]; exact ho2⟩⟩
              case measure => simp [intOf]; omega
            · have ht : t = (j : Int) := by rcases hi with h | h; exact absurd h hs; exact h
              have hs3 : (s == (j : Int)) = false := by simpa using hs
              have hs4 : (s != (j : Int)) = true := by simpa using hs
              have ht3 : (t == (j : Int)) = true := by simpa using ht
              have ht4 : (t != (j : Int)) = false := by simpa using ht
              clear hs ht hi
              go_wp2_with fail
              refine (refLeads_any nm s t dir _ _ (j : Int) (s + t - (j : Int)) q _ HC.out).mono ?_
              rintro e w5 ⟨rfl, hb5⟩
              rw [HLB.out]
              have HB5 := Lib.hid (below_trans' HB1.out hb5)
              have HO5 := Lib.hid (own_below HO1.out hb5 (Nat.le_refl _))
              clear hb5
              have hs5 := HB5.out.size
              go_wp2_with (at_builtin; refine wpList_app tyRs rfl (.tmp 58) (.tmp 62) rfl (v := u7) rfl (World.ownsRow.alloc HO5.out _) ⟨w5.heap.size, 0, none⟩ 1 1 [.int .i64 k, .int .i64 (s + t - (j : Int))] rfl rfl rfl (new_cells w5 [.int .i64 k, .int .i64 (s + t - (j : Int))] 98) (by simp [Value.oneCell']) ?_ ?_ ?_ ?_; (have := HPL.out; omega); (have := HPL.out; omega); (simp; omega); intro v2 w2 ho2 hg2 hn2)
              have hnb : some w.heap.size ≠ u7.ownBlock := fun e => by have := own_lt HO5.out _ e.symm; omega
              have HB6 := Lib.hid ((below_trans' HR.out.1 (HB5.out.alloc hs5 (.cells #[.int .i64 k, .int .i64 (s + t - (j : Int))] 98))).grown hg2 (by simp; omega) (fun k hk => by have := own_lt HO5.out k hk; omega))
              have hT5 := (HR.out.2.1.below HB5.out hltr).below ((Below.refl w5.heap.size w5).alloc (Nat.le_refl _) (.cells #[.int .i64 k, .int .i64 (s + t - (j : Int))] 98)) (by omega)
              have HT6 := Lib.hid (show TwoAt w2 w.heap.size (.slice A xs.length c) _ from ⟨hg2.cell hT5.c0 hnb, hg2.cell hT5.c1 hnb⟩)
              clear hT5
              go_roundw
              case rel => exact ⟨k + 1, by go_num, by omega, Lib.hid ⟨HB6.out, HT6.out, by rw [HSU.out, List.length_append, cellsT_append]; exact ho2⟩⟩
              case measure => simp [intOf]; omega
          | false =>
            rw [hlb, if_neg (by simp)] at HSU
            have HLB := Lib.hid hlb
            clear hlb
            by_cases hs : s = (j : Int)
            · have hs3 : (s == (j : Int)) = true := by simpa using hs
              have hs4 : (s != (j : Int)) = false := by simpa using hs
              clear hs hi
              go_wp2_with fail
              refine (refLeads_any nm s t dir _ _ (j : Int) (s + t - (j : Int)) q _ HC.out).mono ?_
              rintro e w5 ⟨rfl, hb5⟩
              rw [HLB.out]
              have HB5 := Lib.hid (below_trans' HB1.out hb5)
              have HO5 := Lib.hid (own_below HO1.out hb5 (Nat.le_refl _))
              clear hb5
              go_wp2_with fail
              go_roundw
              case rel => exact ⟨k + 1, by go_num, by omega, Lib.hid ⟨below_trans' HR.out.1 HB5.out, HR.out.2.1.below HB5.out hltr, by rw [HSU.out, List.append_nil]; exact HO5.out⟩⟩
              case measure => simp [intOf]; omega
            · have ht : t = (j : Int) := by rcases hi with h | h; exact absurd h hs; exact h
              have hs3 : (s == (j : Int)) = false := by simpa using hs
              have hs4 : (s != (j : Int)) = true := by simpa using hs
              have ht3 : (t == (j : Int)) = true := by simpa using ht
              have ht4 : (t != (j : Int)) = false := by simpa using ht
              clear hs ht hi
              go_wp2_with fail
              refine (refLeads_any nm s t dir _ _ (j : Int) (s + t - (j : Int)) q _ HC.out).mono ?_
              rintro e w5 ⟨rfl, hb5⟩
              rw [HLB.out]
              have HB5 := Lib.hid (below_trans' HB1.out hb5)
              have HO5 := Lib.hid (own_below HO1.out hb5 (Nat.le_refl _))
              clear hb5
              go_wp2_with fail
              go_roundw
              case rel => exact ⟨k + 1, by go_num, by omega, Lib.hid ⟨below_trans' HR.out.1 HB5.out, HR.out.2.1.below HB5.out hltr, by rw [HSU.out, List.append_nil]; exact HO5.out⟩⟩
              case measure => simp [intOf]; omega
        · have hs3 : (s == (j : Int)) = false := by simpa using fun h => hi (.inl h)
          have hs4 : (s != (j : Int)) = true := by simpa using fun h => hi (.inl h)
          have ht3 : (t == (j : Int)) = false := by simpa using fun h => hi (.inr h)
          have ht4 : (t != (j : Int)) = true := by simpa using fun h => hi (.inr h)
          rw [if_neg hi] at HSU
          clear hi
          go_wp2_with fail
          go_roundw
          case rel => exact ⟨k + 1, by go_num, by omega, Lib.hid ⟨below_trans' HR.out.1 HB1.out, HR.out.2.1.below HB1.out hltr, by rw [HSU.out, List.append_nil]; exact HO1.out⟩⟩
          case measure => simp [intOf]; omega
      · have hni : (zs.length : Int) ≤ (k : Int) := by omega
        obtain rfl : k = zs.length := by omega
        go_wp2_with fail
        go_ret
        exact ⟨_, rfl, by rw [HO.out]; exact own_reads HR.out.2.2, HR.out.1⟩
end Go.Proofs.Ytbolojjnkkgehaa
