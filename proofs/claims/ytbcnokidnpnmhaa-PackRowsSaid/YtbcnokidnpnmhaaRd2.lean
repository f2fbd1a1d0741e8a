import Derived.Test.YtbcnokidnpnmhaaRd
namespace Go.Proofs.Ytbcnokidnpnmhaa
open Go.RowKit

theorem grown_drewN (w : World) (k : Nat) (r : Option Nat) : w.grownBy (w.drewN k) r := ⟨rfl, rfl, rfl, Nat.le_refl _, fun _ _ _ => rfl⟩
theorem grown_set (w : World) (pb o : Nat) (u : Value) (k : Nat) : w.grownBy ((w.setCell ⟨pb, o, none⟩ u).drewN k) (some pb) :=
  ⟨rfl, rfl, rfl, by simp [World.setCell], fun j _ hne => by rw [World.heap_drewN]; exact Below.heap_setCell _ _ _ _ (fun e => hne (by rw [e]))⟩
theorem grown_same {w w1 w2 : World} {r : Option Nat} (h1 : w.grownBy w1 r) (h2 : w1.grownBy w2 r) : w.grownBy w2 r := grown_trans h1 h2 fun _ h => .inl h
theorem RdAt.drewN {w : World} {pb : Nat} {v : Value} {l : List UInt8} {pos : Nat} (h : RdAt w pb v l pos) (k : Nat) : RdAt (w.drewN k) pb v l pos :=
  ⟨h.c0, h.c1, h.fz, h.rd.kept fun _ _ _ hx _ => hx, h.ne, h.le⟩
theorem RdAt.below {w w' : World} {pb : Nat} {v : Value} {l : List UInt8} {pos : Nat} (h : RdAt w pb v l pos) (hb : Below w.heap.size w w') : RdAt w' pb v l pos :=
  have hlt := World.block_lt_of_cell? w _ h.c0
  ⟨(hb.cell (p := ⟨pb, 0, none⟩) hlt).trans h.c0, (hb.cell (p := ⟨pb, 1, none⟩) hlt).trans h.c1, (hb.frozen (p := ⟨pb, 1, none⟩) hlt).trans h.fz, h.rd.below hb, h.ne, h.le⟩

/-- A byte is taken. -/
theorem first_byte {w : World} {v : Value} {l : List UInt8} {pos : Nat} (hr : ReadsB w v ((l.drop pos).take 1)) (hp : pos < l.length) :
    ∃ ad c, v = .slice (some ad) 1 c ∧ w.cell? ad = some (.int .u8 (l[pos]).toNat) := by
  have hl : ((l.drop pos).take 1).length = 1 := by simp; omega
  unfold ReadsB at hr
  rw [hl] at hr
  rcases hr with ⟨_, h⟩ | ⟨ad, c, h1, h2, h3, h4, h5⟩
  · rw [h] at hl; simp at hl
  · refine ⟨ad, c, h1, ?_⟩
    have := h5 0 (by omega)
    obtain ⟨b, o, sp⟩ := ad
    simp at h4; subst h4
    simp only [Nat.add_zero] at this
    rw [this]
    simp [List.getD_eq_getElem?_getD, List.getElem?_drop, List.getElem?_eq_getElem hp]

theorem getB_at (l : List UInt8) (pos : Nat) (h : pos < l.length) : getB (l.drop pos) = if 8 < (l[pos]).toNat then none else if l.length - (pos + 1) < (l[pos]).toNat then none
    else if 0 < (l[pos]).toNat ∧ valB ((l.drop (pos + 1)).take (l[pos]).toNat) / 256 ^ ((l[pos]).toNat - 1) = 0 then none else some (valB ((l.drop (pos + 1)).take (l[pos]).toNat), 1 + (l[pos]).toNat) := by
  rw [List.drop_eq_getElem_cons h]
  simp only [getB, List.length_drop]

theorem shr_k (a k : Nat) : ((a : Int) / 2 ^ (8 * k) == 0) = decide (a / 256 ^ k = 0) := by
  rw [div_256]
  generalize a / 256 ^ k = x
  rw [Bool.eq_iff_iff]; simp

theorem number_any (pb : Nat) (v : Value) (l : List UInt8) (pos : Nat) (w : World) (h : RdAt w pb v l pos) (R : Ending → World → Prop)
    (hL : getB (l.drop pos) = none → ∀ w', w.grownBy w' (some pb) → R LACK w')
    (hS : ∀ n k, getB (l.drop pos) = some (n, k) → ∀ w', w.grownBy w' (some pb) → RdAt w' pb v l (pos + k) → R (.returned (.int .u64 n)) w') :
    Calls Try.prog 34 #[.pointer (some ⟨pb, 0, none⟩)] w R := by
  have HL := Lib.hid hL
  have HS := Lib.hid hS
  clear hL hS
  by_cases hp : pos < l.length
  · have HG := Lib.hid (getB_at l pos hp)
    have hb := (l[pos]).toNat_lt
    obtain ⟨c, hc⟩ : ∃ c, c = (l[pos]).toNat := ⟨_, rfl⟩
    rw [← hc] at HG hb
    have HC := Lib.hid hc
    clear hc
    go_enter Try.func34, Try.ntmps34
    go_wp2_with fail
    refine (take_ok pb v l pos 1 w h (by omega)).mono ?_
    rintro e w1 ⟨v1, rfl, ⟨k, rfl⟩, hr, ho⟩
    have hg1 : w.grownBy ((w.setCell ⟨pb, 1, none⟩ (.int .i64 ((pos : Int) + (1 : Nat)))).drewN k) (some pb) := grown_set _ _ _ _ _
    have h1 := h.took (n := 1) (k := k) (by omega)
    have hr1 : ReadsB ((w.setCell ⟨pb, 1, none⟩ (.int .i64 ((pos : Int) + (1 : Nat)))).drewN k) v1 ((l.drop pos).take 1) :=
      hr.kept fun b o u hx hb => by
        rw [World.cell?_drewN]
        exact (World.cell?_setCell_other w _ _ _ (by intro e; injection e with e1; subst e1; exact h.ne (ho ▸ hb))).trans hx
    obtain ⟨ad, cap, rfl, hcell⟩ := first_byte hr1 hp
    rw [← HC.out] at hcell
    generalize (w.setCell ⟨pb, 1, none⟩ (.int .i64 ((pos : Int) + (1 : Nat)))).drewN k = w2 at *
    have HR1 := Lib.hid h1
    have HG1 := Lib.hid hg1
    clear hr ho h h1 hr1 hg1
    by_cases h8 : 8 < c
    · go_wp2_with fail
      refine ⟨rfl, HL.out ?_ _ HG1.out⟩
      rw [HG.out, if_pos h8]
    · by_cases hlen : l.length - (pos + 1) < c
      · go_wp2_with fail
        refine (high_lack pb v l (pos + 1) c w2 HR1.out hlen (by omega)).mono ?_
        rintro e w3 ⟨rfl, k3, rfl⟩
        refine ⟨rfl, HL.out ?_ _ (grown_same HG1.out (grown_drewN _ _ _))⟩
        rw [HG.out, if_neg h8, if_pos hlen]
      · go_wp2_with fail
        refine (high_ok pb v l (pos + 1) c w2 HR1.out (by omega) (by omega)).mono ?_
        rintro e w3 ⟨rfl, k3, rfl⟩
        obtain ⟨a, ha⟩ : ∃ a, a = valB ((l.drop (pos + 1)).take c) := ⟨_, rfl⟩
        rw [← ha] at HG ⊢
        have hg3 := grown_same HG1.out (grown_set w2 pb 1 (.int .i64 (((pos + 1 : Nat) : Int) + (c : Nat))) k3)
        have hr3 := HR1.out.took (n := c) (k := k3) (by omega)
        generalize (w2.setCell ⟨pb, 1, none⟩ (.int .i64 (((pos + 1 : Nat) : Int) + (c : Nat)))).drewN k3 = w4 at *
        have HG3 := Lib.hid hg3
        have HR3 := Lib.hid hr3
        clear hg3 hr3 ha
        by_cases h0 : 0 < c
        · obtain ⟨j, rfl⟩ : ∃ j, c = j + 1 := ⟨c - 1, by omega⟩
          have e1 : ((j + 1 : Nat) : Int) - 1 = j := by omega
          by_cases hz : a / 256 ^ j = 0
          · have hz1 : ((a : Int) / 2 ^ (8 * j) == 0) = true := by rw [shr_k]; simpa using hz
            have HZ := Lib.hid hz
            clear hz
            go_wp2_with fail
            refine ⟨rfl, HL.out ?_ _ HG3.out⟩
            rw [HG.out, if_neg h8, if_neg hlen, if_pos ⟨h0, by simpa using HZ.out⟩]
          · have hz1 : ((a : Int) / 2 ^ (8 * j) == 0) = false := by rw [shr_k]; simpa using hz
            have HZ := Lib.hid hz
            clear hz
            go_wp2_with fail
            refine HS.out a (1 + (j + 1)) ?_ _ HG3.out (by rw [← Nat.add_assoc]; exact HR3.out)
            rw [HG.out, if_neg h8, if_neg hlen, if_neg (fun h => HZ.out (by simpa using h.2))]
        · have h00 : c = 0 := by omega
          have c0 : decide ((0 : Int) < (c : Int)) = false := by simp; omega
          go_wp2_with fail
          refine HS.out a (1 + c) ?_ _ HG3.out (by rw [← Nat.add_assoc]; exact HR3.out)
          rw [HG.out, if_neg h8, if_neg hlen, if_neg (fun h => h0 h.1)]
  · have HLE := Lib.hid h.le
    go_enter Try.func34, Try.ntmps34
    go_wp2_with fail
    refine (take_lack pb v l pos 1 w h (by omega) (by omega)).mono ?_
    rintro e w1 ⟨rfl, k, rfl⟩
    refine ⟨rfl, HL.out ?_ _ (grown_drewN _ _ _)⟩
    rw [List.drop_eq_nil_of_le (by omega)]
    rfl

end Go.Proofs.Ytbcnokidnpnmhaa
