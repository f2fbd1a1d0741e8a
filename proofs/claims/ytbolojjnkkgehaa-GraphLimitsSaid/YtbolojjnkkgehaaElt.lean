import Derived.Test.YtbolojjnkkgehaaOwn
import Derived.Deep.RegionWith
namespace Go.Proofs.Ytbolojjnkkgehaa
open Go.RowKit

abbrev PROP (p : Pr) : Value := .agg #[.string p.nm, .int .i64 p.k, .int .i64 p.n, .float .f64 p.f, .string p.s]
def prOk (p : Pr) : Bool := p.k != 0 && rightB p.k p.n p.f p.s
def prAt (l : List Pr) (i : Nat) : Pr := l.getD i ⟨⟨#[]⟩, 0, 0, 0, ⟨#[]⟩⟩
theorem prAt_eq {l : List Pr} {i : Nat} (h : i < l.length) : prAt l i = l[i] := by simp [prAt, List.getD_eq_getElem?_getD, List.getElem?_eq_getElem h]
theorem ReadsL.propA {w : World} {A : Option Addr} {l : List Pr} (h : ReadsL w A (cellsP l)) (i : Nat) (hi : i < l.length) :
    ∃ b o, A = some ⟨b, o, none⟩ ∧ b < w.heap.size ∧ w.cell? ⟨b, o + i * 5, none⟩ = some (.string (prAt l i).nm) ∧ w.cell? ⟨b, o + i * 5 + 1, none⟩ = some (.int .i64 (prAt l i).k) ∧ w.cell? ⟨b, o + i * 5 + 2, none⟩ = some (.int .i64 (prAt l i).n) ∧ w.cell? ⟨b, o + i * 5 + 3, none⟩ = some (.float .f64 (prAt l i).f) ∧ w.cell? ⟨b, o + i * 5 + 4, none⟩ = some (.string (prAt l i).s) := by
  rw [prAt_eq hi]; exact h.prop i hi

/-- May a node, or an edge, be, but for its name's being another one's? -/
def propsB (ps : List Pr) : Bool := (List.range ps.length).all fun i => prOk (prAt ps i)
def elemB (nm : ByteArray) (ls : List ByteArray) (ps : List Pr) : Bool := propsB ps && (wordB nm && (risingB ls && risingB (ps.map (·.nm))))
theorem props_no {ps : List Pr} {i : Nat} (hi : i < ps.length) (h : prOk (prAt ps i) = false) : propsB ps = false := by
  unfold propsB
  rw [List.all_eq_false]
  exact ⟨i, by simpa using hi, by simp [h]⟩
theorem props_yes {ps : List Pr} {i : Nat} (hi : ¬ i < ps.length) (h : ∀ j, j < i → prOk (prAt ps j) = true) : propsB ps = true := by
  unfold propsB
  rw [List.all_eq_true]
  intro j hj
  exact h j (by simp at hj; omega)
theorem take_names {ps : List Pr} {i : Nat} (hi : i < ps.length) : (ps.map (·.nm)).take (i + 1) = (ps.map (·.nm)).take i ++ [(prAt ps i).nm] := by
  rw [List.take_succ_eq_append_getElem (by simpa using hi), prAt_eq hi]
  simp

theorem step_all {q : Nat → Prop} {i : Nat} (h : ∀ j, j < i → q j) (h1 : q i) : ∀ j, j < i + 1 → q j := fun j hj => by
  by_cases e : j = i
  · rw [e]; exact h1
  · exact h j (by omega)

/-- graph.element -/
theorem element_any (nm : ByteArray) (lv : Value) (ls : List ByteArray) (pv : Value) (ps : List Pr) (w : World) (hl : Strs w lv ls) (hp : Props w pv ps) :
    Calls Try.prog 34 #[.string nm, lv, pv] w fun e w' => e = .returned (.bool (elemB nm ls ps)) ∧ Below w.heap.size w w' := by
  have HL := Lib.hid hl
  obtain ⟨A, c, rfl, hlc, hcm, -, hrd⟩ := hp.sl.form
  have HRD := Lib.hid hrd
  have HLEN := Lib.hid hp.len
  have HWF := Lib.hid hp.wf
  clear hrd hl hp
  go_enter Try.func34, Try.ntmps34
  go_wp2_with fail
  go_loopw [6, 7, 12] (fun v6 v7 v12 wr => ∃ i : Nat, v6 = .bool false ∧ v12 = .int .i64 i ∧ i ≤ ps.length ∧ Hid (Below w.heap.size w wr ∧ OwnS wr w.heap.size v7 ((ps.map (·.nm)).take i) ∧ ∀ j, j < i → prOk (prAt ps j) = true)) (fun _ _ v12 _ => ps.length - (intOf v12).toNat)
  case atStart => exact ⟨0, rfl, rfl, by omega, Lib.hid ⟨Below.refl _ _, OwnS.nil _ _, fun j hj => by omega⟩⟩
  case round =>
    obtain ⟨i, rfl, rfl, hi, HR⟩ := hrel
    by_cases hin : i < ps.length
    · have hin' : (i : Int) < (ps.length : Int) := by omega
      have hi0 : (0 : Int) ≤ (i : Int) := by omega
      obtain ⟨b, o, hA, hbl, hc0, hc1, hc2, hc3, hc4⟩ := HRD.out.propA i hin
      subst hA
      have h0 := cell_below HR.out.1 hbl hc0
      have h1 := cell_below HR.out.1 hbl hc1
      have h2 := cell_below HR.out.1 hbl hc2
      have h3 := cell_below HR.out.1 hbl hc3
      have h4 := cell_below HR.out.1 hbl hc4
      clear hc0 hc1 hc2 hc3 hc4
      have HTK := Lib.hid (take_names hin)
      have HNO := Lib.hid (fun h => props_no hin h)
      have HOK := Lib.hid (show prOk (prAt ps i) = ((prAt ps i).k != 0 && rightB (prAt ps i).k (prAt ps i).n (prAt ps i).f (prAt ps i).s) from rfl)
      have HST := Lib.hid (fun h : prOk (prAt ps i) = true => step_all (q := fun j => prOk (prAt ps j) = true) HR.out.2.2 h)
      generalize prAt ps i = p at *
      obtain ⟨pn, pk, pN, pf, pt⟩ := p
      dsimp only at h0 h1 h2 h3 h4
      cases hk : (pk == 0) with
      | true =>
        have HF := Lib.hid (HNO.out (by rw [HOK.out]; simp [hk, bne]))
        go_wp2_with fail
        go_ret
        exact ⟨ret_bool (by unfold elemB; rw [HF.out]; rfl), HR.out.1.alloc HR.out.1.size _⟩
      | false =>
        cases hr : rightB pk pN pf pt with
        | false =>
          have HF := Lib.hid (HNO.out (by rw [HOK.out]; simp [hr]))
          have H1 := Lib.hid hr
          clear hr
          go_wp2_with fail
          refine (right_any pk pN pf pt _).mono ?_
          rintro e w1 ⟨rfl, hb1⟩
          rw [H1.out]
          have HB1 := Lib.hid ((HR.out.1.alloc HR.out.1.size _).trans (hb1.mono (HR.out.1.alloc HR.out.1.size _).size))
          clear hb1
          go_wp2_with fail
          go_ret
          exact ⟨ret_bool (by unfold elemB; rw [HF.out]; rfl), HB1.out⟩
        | true =>
          have HT := Lib.hid (show prOk ⟨pn, pk, pN, pf, pt⟩ = true by rw [HOK.out]; simp [hr, hk, bne])
          have H1 := Lib.hid hr
          clear hr
          go_wp2_with fail
          refine (right_any pk pN pf pt _).mono ?_
          rintro e w1 ⟨rfl, hb1⟩
          rw [H1.out]
          have HB1 := Lib.hid ((HR.out.1.alloc HR.out.1.size _).trans (hb1.mono (HR.out.1.alloc HR.out.1.size _).size))
          have hx := (hb1.cell (p := ⟨wr.heap.size, 0, none⟩) (by simp)).trans (show _ = some (Value.string pn) by simp [go_sem])
          have HO1 := Lib.hid (own_below (HR.out.2.1.alloc _) hb1 (Nat.le_refl _))
          have hs1 := HB1.out.size
          clear hb1
          go_wp2_with (at_builtin; refine wpList_app tyS rfl (.tmp 26) (.tmp 29) rfl (v := u7) rfl (World.ownsRow.alloc HO1.out _) ⟨w1.heap.size, 0, none⟩ 1 1 [.string pn] rfl rfl rfl (new_cells w1 [.string pn] 9) (by simp [Value.oneCell']) ?_ ?_ ?_ ?_; (simp; omega); (have := HLEN.out; simp; omega); (simp; omega); intro v2 w2 ho2 hg2 hn2)
          have HB2 := Lib.hid ((HB1.out.alloc hs1 _).grown hg2 (by simp; omega) (fun k hk => (own_lt HO1.out k hk).1))
          go_roundw
          case rel => exact ⟨i + 1, rfl, by go_num, by omega, Lib.hid ⟨HB2.out, by rw [HTK.out]; exact OwnS.snoc ho2, HST.out HT.out⟩⟩
          case measure => simp [intOf]; omega
    · have hni : (ps.length : Int) ≤ (i : Int) := by omega
      have hie : i = ps.length := by omega
      have HO := HR.out.2.1
      rw [List.take_of_length_le (by simp; omega)] at HO
      have HS := Lib.hid (own_strs HO (by have := HLEN.out; simp; omega) (by
        intro s hs
        simp only [List.mem_map] at hs
        obtain ⟨p, hp, rfl⟩ := hs
        exact (HWF.out p hp).nm))
      have HP := Lib.hid (props_yes hin HR.out.2.2)
      have HB := Lib.hid HR.out.1
      have hsw := HB.out.size
      clear HO HR
      cases h1 : wordB nm with
      | false =>
        have H1 := Lib.hid h1
        clear h1
        go_wp2_with (go_at_call 53; refine (word_any _ _).mono ?_; rintro e w1 ⟨rfl, hb1⟩; rw [H1.out])
        go_ret
        exact ⟨ret_bool (by unfold elemB; rw [H1.out]; simp), HB.out.trans (hb1.mono hsw)⟩
      | true =>
      cases h2 : risingB ls with
      | false =>
        have H1 := Lib.hid h1
        have H2 := Lib.hid h2
        clear h1 h2
        go_wp2_with (first | (go_at_call 53; refine (word_any _ _).mono ?_; rintro e w1 ⟨rfl, hb1⟩; rw [H1.out]) | (go_at_call 54; refine (rising_any _ ls _ (HL.out.below (HB.out.trans (hb1.mono hsw)) (Nat.le_refl _))).mono ?_; rintro e w2 ⟨rfl, hb2⟩; rw [H2.out]))
        go_ret
        exact ⟨ret_bool (by unfold elemB; rw [H2.out]; simp), (HB.out.trans (hb1.mono hsw)).trans (hb2.mono (Nat.le_trans hsw hb1.size))⟩
      | true =>
        have H1 := Lib.hid h1
        have H2 := Lib.hid h2
        clear h1 h2
        go_wp2_with (first | (go_at_call 53; refine (word_any _ _).mono ?_; rintro e w1 ⟨rfl, hb1⟩; rw [H1.out]) | (go_at_call_of 54 lv; refine (rising_any _ ls _ (HL.out.below (HB.out.trans (hb1.mono hsw)) (Nat.le_refl _))).mono ?_; rintro e w2 ⟨rfl, hb2⟩; rw [H2.out]) | (go_at_call 54; refine (rising_any _ _ _ (HS.out.below (below_trans' hb1 hb2) (Nat.le_refl _))).mono ?_; rintro e w3 ⟨rfl, hb3⟩))
        go_ret
        exact ⟨ret_bool (by unfold elemB; rw [HP.out, H1.out, H2.out]; rfl), ((HB.out.trans (hb1.mono hsw)).trans (hb2.mono (Nat.le_trans hsw hb1.size))).trans (hb3.mono (Nat.le_trans (Nat.le_trans hsw hb1.size) hb2.size))⟩
end Go.Proofs.Ytbolojjnkkgehaa
