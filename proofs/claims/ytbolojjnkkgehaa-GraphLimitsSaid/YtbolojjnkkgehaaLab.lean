import Derived.Test.YtbolojjnkkgehaaEa
/-! Labels. -/
namespace Go.Proofs.Ytbolojjnkkgehaa
open Go.RowKit

theorem oneCS (l : List ByteArray) : ∀ u ∈ cellsS l, u.oneCell' = true := fun u hu => by
  obtain ⟨s, _, rfl⟩ := List.mem_map.1 hu
  rfl
/-- (*Index).Labels -/
theorem labels_any (p : Nat) (ns : List Nd) (es : List Ed) (edge : Bool) (x : Int) (w : World) (hx : Index w p ns es) :
    Calls Try.prog 18 #[.pointer (some ⟨p, 0, none⟩), ELEM edge x] w fun e w' => ∃ v, e = .returned v ∧ Strs w' v (lblL ns es edge x) ∧ Below w.heap.size w w' := by
  have HB := Lib.hid ((Below.refl w.heap.size w).alloc (Nat.le_refl _) (.cells #[.bool edge, .int .i64 x] 50))
  have HX := Lib.hid (hx.below HB.out)
  clear hx
  go_enter Try.func18, Try.ntmps18
  go_wp2_with fail
  refine (elem_any p ns es edge x _ HX.out).mono ?_
  rintro e w1 ⟨lv, pv, rfl, hl, hp, hb1⟩
  have HL := Lib.hid hl
  have HB1 := Lib.hid (below_trans' HB.out hb1)
  clear hl hp hb1
  go_wp2_with fail
  refine (cloneS_any lv _ (cellsS (lblL ns es edge x)) _ HL.out.sl (by rw [cellsS_length]; omega) (oneCS _) HL.out.len).mono ?_
  rintro e w2 ⟨v, rfl, ho, hb2⟩
  have HO := Lib.hid ho
  have HB2 := Lib.hid (below_trans' HB1.out hb2)
  clear ho hb2
  go_wp2_with fail
  go_ret
  exact ⟨_, rfl, own_strs HO.out HL.out.len HL.out.wf, HB2.out⟩

end Go.Proofs.Ytbolojjnkkgehaa
