import Derived.Test.YtbcnokidnpnmhaaRd2
import Derived.Test.YtbcnokidnpnmhaaRgt
namespace Go.Proofs.Ytbcnokidnpnmhaa
open Go.RowKit

theorem text_any (pb : Nat) (v : Value) (l : List UInt8) (pos : Nat) (w : World) (h : RdAt w pb v l pos) (R : Ending → World → Prop)
    (hL : textB (l.drop pos) = none → ∀ w', w.grownBy w' (some pb) → R LACK w')
    (hS : ∀ s k, textB (l.drop pos) = some (s, k) → ∀ w', w.grownBy w' (some pb) → RdAt w' pb v l (pos + k) → R (.returned (.string ⟨s.toArray⟩)) w') :
    Calls Try.prog 37 #[.pointer (some ⟨pb, 0, none⟩)] w R := by
  have HL := Lib.hid hL
  have HS := Lib.hid hS
  have HLE := Lib.hid h.le
  clear hL hS
  go_enter Try.func37, Try.ntmps37
  go_wp2_with fail
  refine number_any pb v l pos w h _ ?_ ?_
  · intro hn w1 hg
    refine ⟨rfl, HL.out ?_ _ hg⟩
    simp [textB, hn]
  · intro n k hn w1 hg hr
    have hb := getB_some hn
    have HE := Lib.hid (show textB (l.drop pos) = _ from by unfold textB; rw [hn])
    have HB := Lib.hid hb
    clear hn hb
    have hlk : (l.drop pos).length - k = l.length - (pos + k) := by simp; omega
    by_cases hlen : l.length - (pos + k) < n
    · go_wp2_with fail
      refine (take_lack pb v l (pos + k) n w1 hr hlen HB.out.1).mono ?_
      rintro e w2 ⟨rfl, k2, rfl⟩
      refine ⟨rfl, HL.out ?_ _ (grown_same hg (grown_drewN _ _ _))⟩
      rw [HE.out]
      simp only [hlk]
      rw [if_pos hlen]
    · go_wp2_with fail
      refine (take_ok pb v l (pos + k) n w1 hr (by omega)).mono ?_
      rintro e w2 ⟨v2, rfl, ⟨k2, rfl⟩, hr2, ho2⟩
      have hg2 := grown_same hg (grown_set w1 pb 1 (.int .i64 (((pos + k : Nat) : Int) + (n : Nat))) k2)
      have hr3 := hr.took (n := n) (k := k2) (by omega)
      have hr4 : ReadsB ((w1.setCell ⟨pb, 1, none⟩ (.int .i64 (((pos + k : Nat) : Int) + (n : Nat)))).drewN k2) v2 ((l.drop (pos + k)).take n) :=
        hr2.kept fun b o u hx hb => by
          rw [World.cell?_drewN]
          exact (World.cell?_setCell_other w1 _ _ _ (by intro e; injection e with e1; subst e1; exact hr.ne (ho2 ▸ hb))).trans hx
      generalize (w1.setCell ⟨pb, 1, none⟩ (.int .i64 (((pos + k : Nat) : Int) + (n : Nat)))).drewN k2 = w4 at *
      have hst := reads_string b5 hr4
      have HG2 := Lib.hid hg2
      have HR3 := Lib.hid hr3
      clear hg2 hr3 hr4 hr2 ho2 hr hg
      go_wp2_with fail
      refine HS.out _ (k + n) ?_ _ HG2.out (by rw [← Nat.add_assoc]; exact HR3.out)
      rw [HE.out]
      simp only [hlk]
      rw [if_neg hlen, List.drop_drop]

end Go.Proofs.Ytbcnokidnpnmhaa
