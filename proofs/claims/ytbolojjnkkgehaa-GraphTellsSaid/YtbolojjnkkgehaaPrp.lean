import Derived.Test.YtbolojjnkkgehaaLab
import Derived.Test.YtbolojjnkkgehaaBs
/-! Prop: the walk. -/
namespace Go.Proofs.Ytbolojjnkkgehaa
open Go.RowKit

theorem compare57 (a b : ByteArray) (w : World) : Calls Try.prog 57 #[.string a, .string b] w fun e w' => e = .returned (.int .i64 (cmpB a b)) ∧ w' = w := by
  go_enter Try.func57, Try.ntmps57
  go_wp2_with fail
  rw [run_callFunc_extern Try.func62 (by kernel_rfl) (by kernel_rfl) (by kernel_rfl) (e := Extern.BytealgCompare.compare) (by kernel_rfl), Lib.run_compareString]
  simp only [Result.andThen]
  rw [Oper.upon_value]
  go_wp2_with fail
  go_ret
  exact ⟨rfl, rfl⟩
theorem compare40 (a b : ByteArray) (w : World) : Calls Try.prog 40 #[.string a, .string b] w fun e w' => e = .returned (.int .i64 (cmpB a b)) ∧ w' = w := by
  go_enter Try.func40, Try.ntmps40
  go_wp2_with (go_at_call 57; refine (compare57 _ _ _).mono ?_; rintro e w' ⟨rfl, rfl⟩)
  go_ret
  exact ⟨rfl, rfl⟩
theorem prop1_any (nm : ByteArray) (k n : Int) (f : Nat) (s2 s : ByteArray) (w : World) : Calls Try.prog 39 #[.agg #[.string nm, .int .i64 k, .int .i64 n, .float .f64 f, .string s2], .string s] w fun e w' => e = .returned (.int .i64 (cmpB nm s)) ∧ Below w.heap.size w w' := by
  go_enter Try.func39, Try.ntmps39
  go_wp2_with (go_at_call 40; refine (compare40 _ _ _).mono ?_; rintro e w' ⟨rfl, rfl⟩)
  go_ret
  exact ⟨rfl, (Below.refl w.heap.size w).alloc (Nat.le_refl _) _⟩

set_option maxHeartbeats 2000000 in
/-- slices.BinarySearchFunc -/
theorem bsearch_any (A : Option Addr) (c : Nat) (l : List Pr) (nm : ByteArray) (w : World) (hp : Props w (.slice A l.length c) l) (hr : risingB (l.map (·.nm)) = true) :
    Calls Try.prog 38 #[.slice A l.length c, .string nm, .func (.func 39) #[] #[]] w fun e w' => ∃ (i : Nat) (b : Bool), e = .returned (.tuple #[.int .i64 i, .bool b]) ∧ Srch l nm i b ∧ Below w.heap.size w w' := by
  obtain ⟨_, _, e0, hlc, hcm, -, hrd⟩ := hp.sl.form
  cases e0
  have hlen := hp.len
  have HRD := Lib.hid hrd
  have HR := Lib.hid hr
  clear hrd hr hp
  go_enter Try.func38, Try.ntmps38
  go_wp2_with fail
  go_loopw [9, 10] (fun v9 v10 wr => ∃ lo hi : Nat, v9 = .int .i64 lo ∧ v10 = .int .i64 hi ∧ lo ≤ hi ∧ hi ≤ l.length ∧ Hid (Below w.heap.size w wr) ∧ Hid ((∀ t, t < lo → cmpB (prAt l t).nm nm < 0) ∧ (∀ t, hi ≤ t → t < l.length → 0 ≤ cmpB (prAt l t).nm nm))) (fun v9 v10 _ => (intOf v10 - intOf v9).toNat)
  case atStart => exact ⟨0, l.length, rfl, rfl, Nat.zero_le _, Nat.le_refl _, Lib.hid (Below.refl _ _), Lib.hid ⟨fun t ht => absurd ht (Nat.not_lt_zero _), fun t h1 h2 => by omega⟩⟩
  case round =>
    obtain ⟨lo, hi, rfl, rfl, hlh, hil, HB, HI⟩ := hrel
    by_cases hlt : lo < hi
    · have hlt' : (lo : Int) < (hi : Int) := by omega
      obtain ⟨m, hm0, hm1, hm2⟩ : ∃ m : Nat, ((lo : Int) + (hi : Int)) / 2 = (m : Int) ∧ lo ≤ m ∧ m < hi := ⟨(lo + hi) / 2, by omega, by omega, by omega⟩
      have hml : m < l.length := by omega
      have hml' : (m : Int) < (l.length : Int) := by omega
      obtain ⟨b, o, hA, hbl, hc0, hc1, hc2, hc3, hc4⟩ := HRD.out.propA m hml
      subst hA
      have d0 := cell_below HB.out hbl hc0
      have d1 := cell_below HB.out hbl hc1
      have d2 := cell_below HB.out hbl hc2
      have d3 := cell_below HB.out hbl hc3
      have d4 := cell_below HB.out hbl hc4
      clear hc0 hc1 hc2 hc3 hc4
      have HM := Lib.hid (fun t (ht : t ≤ m) (h : cmpB (prAt l m).nm nm < 0) => srch_mono HR.out ht hml h)
      have HN := Lib.hid (fun t (ht : m ≤ t) (htl : t < l.length) (h : ¬ cmpB (prAt l m).nm nm < 0) => Int.not_lt.1 fun h2 => h (srch_mono HR.out ht htl h2))
      obtain ⟨z, hz⟩ : ∃ z, cmpB (prAt l m).nm nm = z := ⟨_, rfl⟩
      rw [hz] at HM HN
      have HZ := Lib.hid hz
      generalize prAt l m = q at d0 d1 d2 d3 d4 HZ hz
      clear hz
      by_cases hneg : z < 0
      · go_wp2_with (go_at_call 39; refine (prop1_any _ _ _ _ _ _ _).mono ?_; rintro e w3 ⟨rfl, hb3⟩; rw [HZ.out]; have HB3 := Lib.hid (below_trans' HB.out hb3); clear hb3)
        go_roundw
        · exact ⟨m + 1, hi, by go_num, rfl, by omega, hil, HB3, Lib.hid ⟨fun t ht => HM.out t (by omega) hneg, HI.out.2⟩⟩
        · simp [intOf]; omega
      · have hneg' : 0 ≤ z := by omega
        go_wp2_with (go_at_call 39; refine (prop1_any _ _ _ _ _ _ _).mono ?_; rintro e w3 ⟨rfl, hb3⟩; rw [HZ.out]; have HB3 := Lib.hid (below_trans' HB.out hb3); clear hb3)
        go_roundw
        · exact ⟨lo, m, rfl, rfl, by omega, by omega, HB3, Lib.hid ⟨HI.out.1, fun t ht htl => HN.out t ht htl hneg⟩⟩
        · simp [intOf]; omega
    · obtain rfl : hi = lo := by omega
      by_cases hn : hi < l.length
      · have hn' : (hi : Int) < (l.length : Int) := by omega
        obtain ⟨b, o, hA, hbl, hc0, hc1, hc2, hc3, hc4⟩ := HRD.out.propA hi hn
        subst hA
        have d0 := cell_below HB.out hbl hc0
        have d1 := cell_below HB.out hbl hc1
        have d2 := cell_below HB.out hbl hc2
        have d3 := cell_below HB.out hbl hc3
        have d4 := cell_below HB.out hbl hc4
        clear hc0 hc1 hc2 hc3 hc4
        obtain ⟨z, hz⟩ : ∃ z, cmpB (prAt l hi).nm nm = z := ⟨_, rfl⟩
        have HZ := Lib.hid hz
        have HS := Lib.hid (show Srch l nm hi (decide (z = 0)) from ⟨hil, HI.out.1, HI.out.2, by rw [hz]; simp [hn]⟩)
        generalize prAt l hi = q at d0 d1 d2 d3 d4 HZ hz
        clear hz
        go_wp2_with (go_at_call 39; refine (prop1_any _ _ _ _ _ _ _).mono ?_; rintro e w3 ⟨rfl, hb3⟩; rw [HZ.out]; have HB3 := Lib.hid (below_trans' HB.out hb3); clear hb3)
        go_ret2
        exact ⟨hi, _, rfl, HS.out, HB3.out⟩
      · have hn' : (l.length : Int) ≤ (hi : Int) := by omega
        have HS := Lib.hid (show Srch l nm hi false from ⟨hil, HI.out.1, HI.out.2, by simp [hn]⟩)
        go_wp2_with fail
        go_ret2
        exact ⟨hi, _, rfl, HS.out, HB.out⟩

/-- Four cells of a block, all stored. -/
theorem four_set {w : World} {b : Nat} {x0 x1 x2 x3 : Value} (u0 u1 u2 u3 : Value) (h0 : w.cell? ⟨b, 0, none⟩ = some x0) (h1 : w.cell? ⟨b, 1, none⟩ = some x1) (h2 : w.cell? ⟨b, 2, none⟩ = some x2) (h3 : w.cell? ⟨b, 3, none⟩ = some x3) :
    ((((w.setCell ⟨b, 0, none⟩ u0).setCell ⟨b, 1, none⟩ u1).setCell ⟨b, 2, none⟩ u2).setCell ⟨b, 3, none⟩ u3).cell? ⟨b, 0, none⟩ = some u0 ∧ ((((w.setCell ⟨b, 0, none⟩ u0).setCell ⟨b, 1, none⟩ u1).setCell ⟨b, 2, none⟩ u2).setCell ⟨b, 3, none⟩ u3).cell? ⟨b, 1, none⟩ = some u1 ∧ ((((w.setCell ⟨b, 0, none⟩ u0).setCell ⟨b, 1, none⟩ u1).setCell ⟨b, 2, none⟩ u2).setCell ⟨b, 3, none⟩ u3).cell? ⟨b, 2, none⟩ = some u2 ∧ ((((w.setCell ⟨b, 0, none⟩ u0).setCell ⟨b, 1, none⟩ u1).setCell ⟨b, 2, none⟩ u2).setCell ⟨b, 3, none⟩ u3).cell? ⟨b, 3, none⟩ = some u3 := by
  have o : ∀ (w : World) (i j : Nat) (u : Value), i ≠ j → (w.setCell ⟨b, i, none⟩ u).cell? ⟨b, j, none⟩ = w.cell? ⟨b, j, none⟩ := fun w i j u h => World.cell?_setCell_other w ⟨b, i, none⟩ ⟨b, j, none⟩ u (by simp <;> omega)
  refine ⟨?_, ?_, ?_, ?_⟩
  · rw [o _ 3 0 _ (by omega), o _ 2 0 _ (by omega), o _ 1 0 _ (by omega)]; exact World.cell?_setCell_same w ⟨b, 0, none⟩ u0 h0
  · rw [o _ 3 1 _ (by omega), o _ 2 1 _ (by omega)]; exact World.cell?_setCell_same _ ⟨b, 1, none⟩ u1 ((o _ 0 1 _ (by omega)).trans h1)
  · rw [o _ 3 2 _ (by omega)]; exact World.cell?_setCell_same _ ⟨b, 2, none⟩ u2 ((o _ 1 2 _ (by omega)).trans ((o _ 0 2 _ (by omega)).trans h2))
  · exact World.cell?_setCell_same _ ⟨b, 3, none⟩ u3 ((o _ 2 3 _ (by omega)).trans ((o _ 1 3 _ (by omega)).trans ((o _ 0 3 _ (by omega)).trans h3)))

set_option maxHeartbeats 1000000 in
/-- (*Index).Prop -/
theorem prop_any (p : Nat) (ns : List Nd) (es : List Ed) (edge : Bool) (x : Int) (nm : ByteArray) (w : World) (hx : Index w p ns es) (hr : risingB ((prpL ns es edge x).map (·.nm)) = true) :
    Calls Try.prog 17 #[.pointer (some ⟨p, 0, none⟩), ELEM edge x, .string nm] w fun e w' => e = .returned (.agg #[.int .i64 (prGet (prpL ns es edge x) nm).k, .int .i64 (prGet (prpL ns es edge x) nm).n, .float .f64 (prGet (prpL ns es edge x) nm).f, .string (prGet (prpL ns es edge x) nm).s]) ∧ Below w.heap.size w w' := by
  have hb := ((Below.refl w.heap.size w).alloc (Nat.le_refl _) (.cells #[.bool edge, .int .i64 x] 50)).alloc (by simp) (.cells #[.int .i64 0, .int .i64 0, .float .f64 0, .string ⟨#[]⟩] 53)
  have HX := Lib.hid (hx.below hb)
  have HB := Lib.hid hb
  have HR := Lib.hid hr
  have ke0 : ((w.alloc (.cells #[.bool edge, .int .i64 x] 50)).alloc (.cells #[.int .i64 0, .int .i64 0, .float .f64 0, .string ⟨#[]⟩] 53)).cell? ⟨w.heap.size, 0, none⟩ = some (.bool edge) := by simp [go_sem]
  have ke1 : ((w.alloc (.cells #[.bool edge, .int .i64 x] 50)).alloc (.cells #[.int .i64 0, .int .i64 0, .float .f64 0, .string ⟨#[]⟩] 53)).cell? ⟨w.heap.size, 1, none⟩ = some (.int .i64 x) := by simp [go_sem]
  have k0 : ((w.alloc (.cells #[.bool edge, .int .i64 x] 50)).alloc (.cells #[.int .i64 0, .int .i64 0, .float .f64 0, .string ⟨#[]⟩] 53)).cell? ⟨w.heap.size + 1, 0, none⟩ = some (.int .i64 0) := by simp [go_sem]
  have k1 : ((w.alloc (.cells #[.bool edge, .int .i64 x] 50)).alloc (.cells #[.int .i64 0, .int .i64 0, .float .f64 0, .string ⟨#[]⟩] 53)).cell? ⟨w.heap.size + 1, 1, none⟩ = some (.int .i64 0) := by simp [go_sem]
  have k2 : ((w.alloc (.cells #[.bool edge, .int .i64 x] 50)).alloc (.cells #[.int .i64 0, .int .i64 0, .float .f64 0, .string ⟨#[]⟩] 53)).cell? ⟨w.heap.size + 1, 2, none⟩ = some (.float .f64 0) := by simp [go_sem]
  have k3 : ((w.alloc (.cells #[.bool edge, .int .i64 x] 50)).alloc (.cells #[.int .i64 0, .int .i64 0, .float .f64 0, .string ⟨#[]⟩] 53)).cell? ⟨w.heap.size + 1, 3, none⟩ = some (.string ⟨#[]⟩) := by simp [go_sem]
  have z : ∀ o, ((w.alloc (.cells #[.bool edge, .int .i64 x] 50)).alloc (.cells #[.int .i64 0, .int .i64 0, .float .f64 0, .string ⟨#[]⟩] 53)).frozen? ⟨w.heap.size + 1, o, none⟩ = false := fun o => by simp [go_sem]
  have hlt : w.heap.size + 1 < ((w.alloc (.cells #[.bool edge, .int .i64 x] 50)).alloc (.cells #[.int .i64 0, .int .i64 0, .float .f64 0, .string ⟨#[]⟩] 53)).heap.size := by simp
  clear hx hr hb
  go_enter Try.func17, Try.ntmps17
  go_wp2_with fail
  generalize (w.alloc (.cells #[.bool edge, .int .i64 x] 50)).alloc (.cells #[.int .i64 0, .int .i64 0, .float .f64 0, .string ⟨#[]⟩] 53) = w0 at *
  refine (elem_any p ns es edge x _ HX.out).mono ?_
  rintro e w1 ⟨lv, pv, rfl, hl, hp, hb1⟩
  have HB1 := Lib.hid (below_trans' HB.out hb1)
  have HP := Lib.hid hp
  obtain ⟨A, c, rfl, hlc, hcm, -, hrd⟩ := hp.sl.form
  have HRD := Lib.hid hrd
  generalize hL : prpL ns es edge x = l at *
  have HL := Lib.hid hL
  clear hL
  have m0 := cell_below hb1 hlt k0
  have m1 := cell_below hb1 hlt k1
  have m2 := cell_below hb1 hlt k2
  have m3 := cell_below hb1 hlt k3
  have z1 : ∀ o, w1.frozen? ⟨w.heap.size + 1, o, none⟩ = false := fun o => (hb1.frozen (p := ⟨w.heap.size + 1, o, none⟩) hlt).trans (z o)
  have hlt1 : w.heap.size + 1 < w1.heap.size := Nat.lt_of_lt_of_le hlt hb1.size
  clear hl hp hb1 hrd HX ke0 ke1 k0 k1 k2 k3 z hlt HB w0
  go_wp2_with fail
  refine (bsearch_any A c l nm _ HP.out HR.out).mono ?_
  rintro e w2 ⟨i, f, rfl, hs, hb2⟩
  have HB2 := Lib.hid (below_trans' HB1.out hb2)
  obtain ⟨h1, h2⟩ := srch_get hs HR.out
  have k0 := cell_below hb2 hlt1 m0
  have k1 := cell_below hb2 hlt1 m1
  have k2 := cell_below hb2 hlt1 m2
  have k3 := cell_below hb2 hlt1 m3
  have y0 := (hb2.frozen (p := ⟨w.heap.size + 1, 0, none⟩) hlt1).trans (z1 0)
  have y1 := (hb2.frozen (p := ⟨w.heap.size + 1, 1, none⟩) hlt1).trans (z1 1)
  have y2 := (hb2.frozen (p := ⟨w.heap.size + 1, 2, none⟩) hlt1).trans (z1 2)
  have y3 := (hb2.frozen (p := ⟨w.heap.size + 1, 3, none⟩) hlt1).trans (z1 3)
  cases f with
  | false =>
    have HG := Lib.hid (h2 rfl)
    clear h1 h2 m0 m1 m2 m3 z1 hs hb2 HB1
    go_wp2_with fail
    obtain ⟨r0, r1, r2, r3⟩ := four_set (.int .i64 0) (.int .i64 0) (.float .f64 0) (.string ⟨#[]⟩) k0 k1 k2 k3
    refine bodyPost_ret (v := .agg #[.int .i64 0, .int .i64 0, .float .f64 0, .string ⟨#[]⟩]) ?_ rfl ?_
    · simp [results, Try.results17, go_sem, r0, r1, r2, r3]
    · refine ⟨by rw [HL.out, HG.out]; rfl, ?_⟩
      exact (((HB2.out.setCell (p := ⟨w.heap.size + 1, 0, none⟩) (by simp) _).setCell (p := ⟨w.heap.size + 1, 1, none⟩) (by simp) _).setCell (p := ⟨w.heap.size + 1, 2, none⟩) (by simp) _).setCell (p := ⟨w.heap.size + 1, 3, none⟩) (by simp) _
  | true =>
    obtain ⟨hil, hg⟩ := h1 rfl
    have HG := Lib.hid hg
    have hil' : (i : Int) < (l.length : Int) := by omega
    obtain ⟨b, o, hA, hbl, hc0, hc1, hc2, hc3, hc4⟩ := HRD.out.propA i hil
    subst hA
    have d0 := cell_below hb2 hbl hc0
    have d1 := cell_below hb2 hbl hc1
    have d2 := cell_below hb2 hbl hc2
    have d3 := cell_below hb2 hbl hc3
    have d4 := cell_below hb2 hbl hc4
    generalize prAt l i = q at d0 d1 d2 d3 d4 HG
    clear h1 h2 m0 m1 m2 m3 z1 hs hb2 HB1 hg hc0 hc1 hc2 hc3 hc4
    go_wp2_with fail
    obtain ⟨r0, r1, r2, r3⟩ := four_set (.int .i64 q.k) (.int .i64 q.n) (.float .f64 q.f) (.string q.s) k0 k1 k2 k3
    refine bodyPost_ret (v := .agg #[.int .i64 q.k, .int .i64 q.n, .float .f64 q.f, .string q.s]) ?_ rfl ?_
    · simp [results, Try.results17, go_sem, r0, r1, r2, r3]
    · refine ⟨by rw [HL.out, HG.out], ?_⟩
      exact (((HB2.out.setCell (p := ⟨w.heap.size + 1, 0, none⟩) (by simp) _).setCell (p := ⟨w.heap.size + 1, 1, none⟩) (by simp) _).setCell (p := ⟨w.heap.size + 1, 2, none⟩) (by simp) _).setCell (p := ⟨w.heap.size + 1, 3, none⟩) (by simp) _
end Go.Proofs.Ytbolojjnkkgehaa
