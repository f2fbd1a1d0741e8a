import Derived.Test.YtbcnokidnpnmhaaPutv
import Derived.Test.YtbcnokidnpnmhaaGetv
namespace Go.Proofs.Ytbcnokidnpnmhaa
open Go.RowKit
attribute [local go_sem ↓] Go.wp_at_zero Go.wp_at_succ

theorem own_lit (w : World) (B : Nat) (hB : B ≤ w.heap.size) (l : List UInt8) (hl : l.length ≤ 1000) :
    OwnB (w.alloc (.cells (cellsU l).toArray 5)) B (.slice (some ⟨w.heap.size, 0, none⟩) l.length l.length) l := by
  have := World.ownsRow_lit (base := B) (e := 5) (size := 1) w (cellsU l).toArray l.length hB (by unfold maxLen; omega) (by simp [cellsU_length])
  exact this

/-- PutValue, of any value: the bytes of a right one are added. -/
theorem putValue_any (B : Nat) (v : Value) (l : List UInt8) (k n : Int) (f : Nat) (s : ByteArray) (w : World) (ho : OwnB w B v l) (hB : B ≤ w.heap.size)
    (hl : l.length < 140737488340000) (hls : l.length + s.size < 140737488340000) (hn0 : -9223372036854775808 ≤ n) (hn1 : n ≤ 9223372036854775807) (hf : f < 18446744073709551616) :
    Calls Try.prog 14 #[v, VAL k n f s] w fun e w' => ∃ v', e = .returned (.tuple #[v', .int .i64 (if rightB k n f s then 0 else 1)]) ∧
      OwnB w' B v' (l ++ if rightB k n f s then putValueB ⟨k, n, f, s.data.toList⟩ else []) ∧ Wrote w v w' v' := by
  have HR : Hid (∀ w, Calls Try.prog 27 #[VAL k n f s] w fun e w' => e = .returned (.bool (rightB k n f s)) ∧ Below w.heap.size w w') := Lib.hid (right_any k n f s)
  cases hr : rightB k n f s with
  | false =>
    rw [hr] at HR
    refine (putValue_err B v l k n f s w ho HR).mono ?_
    rintro e w' ⟨v', h1, h2, h3⟩
    exact ⟨v', by simpa using h1, by simpa using h2, h3⟩
  | true =>
    rw [hr] at HR
    simp only [if_true]
    by_cases h0 : k = 0
    · subst h0
      refine (putValue_null B v l n f s w ho hB hl HR).mono ?_
      rintro e w' ⟨v', h1, h2, h3⟩
      exact ⟨v', h1, by simpa [putValueB] using h2, h3⟩
    by_cases h1 : k = 1
    · subst h1
      have h01 : n = 0 ∨ n = 1 := by
        rw [rightB] at hr
        simp at hr
        exact hr.1
      refine (putValue_pos1 B v l n f s w ho hB hl (by omega) hn1 HR).mono ?_
      rintro e w' ⟨v', h1, h2, h3⟩
      refine ⟨v', h1, ?_, h3⟩
      have : putValueB ⟨1, n, f, s.data.toList⟩ = [1] ++ putB n.toNat := by simp [putValueB]; omega
      rw [this]; exact h2
    by_cases h2 : k = 2
    · subst h2
      by_cases hneg : n < 0
      · refine (putValue_neg B v l n f s w ho hB hl hn0 hneg HR).mono ?_
        rintro e w' ⟨v', h1, h2, h3⟩
        refine ⟨v', h1, ?_, h3⟩
        have : putValueB ⟨2, n, f, s.data.toList⟩ = [18] ++ putB (-1 - n).toNat := by simp [putValueB, hneg]
        rw [this]; exact h2
      · refine (putValue_pos2 B v l n f s w ho hB hl (by omega) hn1 HR).mono ?_
        rintro e w' ⟨v', h1, h2, h3⟩
        refine ⟨v', h1, ?_, h3⟩
        have : putValueB ⟨2, n, f, s.data.toList⟩ = [2] ++ putB n.toNat := by simp [putValueB, hneg]
        rw [this]; exact h2
    by_cases h3 : k = 3
    · subst h3
      refine (putValue_float B v l n f s w ho hB hl hf HR).mono ?_
      rintro e w' ⟨v', h1, h2, h3⟩
      exact ⟨v', h1, by simpa [putValueB] using h2, h3⟩
    by_cases h4 : k = 4
    · subst h4
      refine (putValue_text B v l n f s w ho hB hl hls HR).mono ?_
      rintro e w' ⟨v', h1, h2, h3⟩
      exact ⟨v', h1, by simpa [putValueB] using h2, h3⟩
    · rw [rightB] at hr
      simp [h0, h1, h2, h3, h4] at hr

theorem ReadsB.lt' {w : World} {B : Nat} {v : Value} {l : List UInt8} (h : OwnB w B v l) : ∀ b, v.ownBlock = some b → b < w.heap.size := fun b hb => (h.lt b hb).2

theorem below_alloc' {n : Nat} {w W : World} (h : Below n w W) (o : Obj) (hn : n ≤ W.heap.size := by omega) : Below n w (W.alloc o) := h.alloc hn o

theorem wrote_below {w0 w w' : World} {B : Nat} {v v' : Value} {l : List UInt8} (hb : Below B w0 w) (hB : B ≤ w.heap.size) (ho : OwnB w B v l) (h : Wrote w v w' v') : Below B w0 w' :=
  hb.trans (h.below hB fun k hk => (ho.lt k hk).1)

/-- A row of its own lies elsewhere than what came later. -/
theorem apart {w w' : World} {B : Nat} {v v' u : Value} {l : List UInt8} (h : OwnB w B v l) (hn : Near w' u v') (hs : w.heap.size ≤ w'.heap.size) (hu : u.ownBlock = none) : v.ownBlock = none ∨ v.ownBlock ≠ v'.ownBlock := by
  cases hv : v.ownBlock with
  | none => exact .inl rfl
  | some k =>
    refine .inr fun e => ?_
    have h1 := (h.lt k hv).2
    rcases hn k e.symm with h2 | h2
    · rw [hu] at h2; cases h2
    · omega

theorem OwnB.form {w : World} {B : Nat} {v : Value} {l : List UInt8} (h : OwnB w B v l) (hl : l ≠ []) : ∃ g cap, v = .slice (some ⟨g, 0, none⟩) l.length cap ∧ B ≤ g ∧ g < w.heap.size ∧ l.length ≤ cap ∧ cap ≤ 9223372036854775807 := by
  rcases h.2 with ⟨rfl, h0⟩ | ⟨g, cap, cur, rfl, hbg, hg, hnc, hcm, hcs, htake⟩
  · exact absurd (List.length_eq_zero_iff.1 h0) hl
  · exact ⟨g, cap, rfl, hbg, lt_of_block hg, hnc, by unfold maxLen at hcm; omega⟩

theorem reads_drop {w : World} {g o c n : Nat} {l : List UInt8} (h : ReadsB w (.slice (some ⟨g, o, none⟩) n c) l) (i : Nat) (hi : i ≤ n) : ReadsB w (.slice (some ⟨g, o + i, none⟩) (n - i) (c - i)) (l.drop i) := by
  rcases h with ⟨h1, _⟩ | ⟨ad, c', h1, h2, h3, h4, h5⟩
  · cases h1
  · injection h1 with e1 e2 e3
    injection e1 with e1
    subst e1; subst e2; subst e3
    refine .inr ⟨⟨g, o + i, none⟩, c - i, by simp, by simp; omega, by omega, rfl, fun j hj => ?_⟩
    simp at hj
    have := h5 (i + j) (by omega)
    rw [List.getD_eq_getElem?_getD, List.getElem?_drop, ← List.getD_eq_getElem?_getD]
    simpa [Nat.add_assoc] using this

theorem shown_any (w : World) : Calls Try.prog 10 #[] w fun e w' => e = .returned (.bool true) ∧ Below w.heap.size w w' := by
  have HP := Lib.hid (show [] ++ putB 300 = [2, 1, 44] by decide +kernel)
  have HG := Lib.hid (show getB [2, 1, 44, 7] = some (300, 3) by decide +kernel)
  have HG2 := Lib.hid (show getB [2, 0, 1] = none by decide +kernel)
  have HR := Lib.hid (show rightB 2 (-1) 0 ⟨#[]⟩ = true by rw [rightB_2])
  have HPV := Lib.hid (show putValueB ⟨2, -1, 0, []⟩ = [18, 0] by decide +kernel)
  have HVB := Lib.hid (show valueB [18, 0] = some (⟨2, -1, 0, []⟩, 2) by simp [valueB, getB, valB])
  go_enter Try.func10, Try.ntmps10
  go_wp2_with fail
  refine (put_at w.heap.size _ [] 300 300 rfl (by omega) w (OwnB.nil w _) (Nat.le_refl _) (by simp)).mono ?_
  rintro e w1 ⟨v1, rfl, ho1, hw1⟩
  rw [HP.out] at ho1
  have hb1 : Below w.heap.size w w1 := wrote_below (Below.refl _ _) (Nat.le_refl _) (OwnB.nil w _) hw1
  have HB1 := Lib.hid hb1
  have hs1 := hb1.size
  have HO1 := Lib.hid ho1
  clear hw1 hb1 ho1
  go_wp2_with fail
  refine (put_at w.heap.size _ [] 300 300 rfl (by omega) w1 (OwnB.nil w1 _) hs1 (by simp)).mono ?_
  rintro e w2 ⟨v2, rfl, ho2, hw2⟩
  rw [HP.out] at ho2
  have hb2 : Below w.heap.size w w2 := wrote_below HB1.out hs1 (OwnB.nil w1 _) hw2
  have ho12 := HO1.out.kept hw2.grown (Classical.em _)
  have hap := apart HO1.out hw2.near (Nat.le_refl _) rfl
  have HB2 := Lib.hid hb2
  have hs2 := hb2.size
  have HO12 := Lib.hid ho12
  clear hb2 ho12 HO1 HB1
  go_wp2_with (at_builtin; refine wpList_app1 b5 rfl (.tmp 15) (.tmp 16) rfl (v := v2) rfl (ho2.alloc _) ⟨w2.heap.size, 0, none⟩ 7 _ rfl (by simp; rfl) ?_ ?_ ?_ ?_; (decide); (simp); (simp; omega); intro v3 w3 ho3 hw3)
  have hb3 : Below w.heap.size w w3 := wrote_below (below_alloc HB2.out _) (by simp; omega) (ho2.alloc _) hw3
  have ho13 := (HO12.out.alloc _).kept hw3.grown hap
  have HB3 := Lib.hid hb3
  have hs3 := hb3.size
  have HO13 := Lib.hid ho13
  have HO3 := Lib.hid ho3
  clear hap hb3 ho13 HO12 HB2 hw3 ho2 hw2 ho3
  refine (get_any v3 [2, 1, 44, 7] w3 HO3.out.reads (ReadsB.lt' HO3.out)).mono ?_
  rintro e w4 ⟨rfl, hb⟩
  simp only [getV, HG.out]
  have hs4 := hb.size
  have HO14 := Lib.hid (HO13.out.kept (grown_below hb none) (Classical.em _))
  have HB4 := Lib.hid (HB3.out.trans (hb.mono hs3))
  clear hb HO13 HB3 HO3
  go_wp2_with fail
  have ho5 := own_lit w4 w.heap.size (by omega) [2, 0, 1] (by simp)
  refine (get_any _ [2, 0, 1] _ ho5.reads (ReadsB.lt' ho5)).mono ?_
  rintro e w5 ⟨rfl, hb⟩
  simp only [getV, HG2.out]
  have hs5 : w4.heap.size + 1 ≤ w5.heap.size := by have := hb.size; simpa using this
  have HO15 := Lib.hid ((HO14.out.alloc _).kept (grown_below hb none) (Classical.em _))
  have HB5 := Lib.hid (Below.trans (HB4.out.alloc (by omega) _) (hb.mono (by simp; omega)))
  clear hb HO14 HB4 ho5
  go_wp2_with fail
  have ho6 := own_lit w5 w.heap.size (by omega) [9] (by simp)
  have hap := apart HO15.out (w' := w5) (v' := .slice (some ⟨w5.heap.size, 0, none⟩) 1 1) (u := .slice none 0 0) (fun k hk => by simp [Value.ownBlock] at hk; exact .inr (by omega)) (Nat.le_refl _) rfl
  refine (putValue_any w.heap.size _ [9] 2 (-1) 0 ⟨#[]⟩ _ ho6 (by simp; omega) (by simp) (show 1 + 0 < 140737488340000 by omega) (by omega) (by omega) (by omega)).mono ?_
  rintro e w6 ⟨v6, rfl, ho7, hw7⟩
  rw [HR.out] at ho7 ⊢
  simp only [if_true] at ho7 ⊢
  rw [show ([9] ++ putValueB ⟨2, -1, 0, (⟨#[]⟩ : ByteArray).data.toList⟩ : List UInt8) = [9, 18, 0] from by rw [show (⟨#[]⟩ : ByteArray).data.toList = [] from rfl, HPV.out]; rfl] at ho7
  have HB6 := Lib.hid (wrote_below (below_alloc' HB5.out _) (by simp; omega) ho6 hw7)
  have HO16 := Lib.hid ((HO15.out.alloc _).kept hw7.grown hap)
  have hs6 := HB6.out.size
  clear hw7 ho6 hap HO15 HB5
  have HO7 := Lib.hid ho7
  obtain ⟨g, c, rfl, hg1, hg2, hc3, hcm⟩ := ho7.form (by simp)
  simp only [List.length_cons, List.length_nil] at hc3
  clear ho7
  go_wp2_with fail
  have hrd := reads_drop HO7.out.reads 1 (by simp)
  simp at hrd
  refine (valueP_any _ [18, 0] w6 hrd (fun b hb => by simp [Value.ownBlock] at hb; omega)).mono ?_
  rintro e w7 ⟨rfl, hb⟩
  simp only [getW, HVB.out]
  have hs7 := hb.size
  have HO17 := Lib.hid (HO16.out.kept (grown_below hb none) (Classical.em _))
  have HB7 := Lib.hid (HB6.out.trans (hb.mono hs6))
  have hst := reads_string b5 (HO17.out.alloc (VOBJ 2 (-1) 0 ⟨#[]⟩)).reads
  clear hb HO16 HB6 HO7 hrd
  go_wp2_with fail
  go_ret
  exact ⟨rfl, below_alloc' HB7.out _ (by omega)⟩
end Go.Proofs.Ytbcnokidnpnmhaa
