/- Proved: 'bridlewaylaw03.PackReads' returns true for any bytes, and leaves its input as it was. No condition. -/
import Derived.Test.YtbcnokidnpnmhaaHold
import Derived.Test.YtbcnokidnpnmhaaRef4
import Derived.Test.YtbcnokidnpnmhaaPl2
namespace Go.Proofs.Ytbcnokidnpnmhaa
open Go.ChangeShapes Go.WideShapes Go.ChangeAt Go.RowKit
attribute [local go_sem ↓] Go.wp_at_zero Go.wp_at_succ

theorem getVr (l : List UInt8) : ∃ (n k : Nat) (ok : Bool), getV l = .tuple #[.int .u64 n, .int .i64 k, .bool ok] := by
  unfold getV
  cases h : getB l with
  | none => exact ⟨0, 0, false, rfl⟩
  | some p => exact ⟨p.1, p.2, true, rfl⟩
theorem getTr (l : List UInt8) : ∃ (s : List UInt8) (k : Nat) (ok : Bool), getT l = .tuple #[.string ⟨s.toArray⟩, .int .i64 k, .bool ok] := by
  unfold getT
  cases h : textB l with
  | none => exact ⟨[], 0, false, rfl⟩
  | some p => exact ⟨p.1, p.2, true, rfl⟩
theorem getWr (l : List UInt8) : ∃ (x : Vl) (k : Nat) (ok : Bool), getW l = .tuple #[VL x, .int .i64 k, .bool ok] ∧ x.f < 18446744073709551616 := by
  unfold getW
  cases h : valueB l with
  | none => exact ⟨⟨0, 0, 0, []⟩, 0, false, rfl, by simp⟩
  | some p => exact ⟨p.1, p.2, true, rfl, (valueB_one h).1.f⟩
theorem refValue_all (l : List UInt8) (hl : l.length ≤ 300) (w : World) : Calls Try.prog 25 #[.string ⟨l.toArray⟩] w fun e w' => e = .returned (getW l) ∧ Below w.heap.size w w' := by
  cases l with
  | nil => exact refValue_nil w
  | cons c r => exact refValue_any c r hl w
theorem ownR_none (W : World) : OwnB (W.alloc (.cells #[] 5)) W.heap.size (.slice (some ⟨W.heap.size, 0, none⟩) 0 0) [] := own_lit W W.heap.size (Nat.le_refl _) [] (by simp)
theorem belowR_app {W w' : World} {v' : Value} (h : Wrote (W.alloc (.cells #[] 5)) (.slice (some ⟨W.heap.size, 0, none⟩) 0 0) w' v') : Below W.heap.size W w' :=
  wrote_below (below_alloc (Below.refl _ _) _) (by simp) (ownR_none W) h

set_option maxRecDepth 100000 in
theorem reads_walk (v : Value) (l : List UInt8) (w : World) (hr : ReadsB w v l) (hv : ∀ b, v.ownBlock = some b → b < w.heap.size) :
    Calls Try.prog 6 #[v] w fun e w' => e = .returned (.bool true) ∧ Below w.heap.size w w' := by
  obtain ⟨A, c, rfl, hl⟩ := hr.form
  obtain ⟨m, hm, hml, hmc, hm3⟩ : ∃ m : Nat, (if (300 : Int) < (l.length : Int) then (300 : Int) else (l.length : Int)) = (m : Int) ∧ m ≤ l.length ∧ m ≤ c ∧ m ≤ 300 := by
    have hlc := hr.cap.2
    split
    · exact ⟨300, rfl, by omega, by omega, by omega⟩
    · exact ⟨l.length, rfl, by omega, by omega, by omega⟩
  have HR := Lib.hid (reads_take hr m hml)
  have HL := Lib.hid (show (l.take m).length ≤ 300 by simp; omega)
  obtain ⟨n1, k1, o1, h1⟩ := getVr (l.take m)
  obtain ⟨t2, k2, o2, h2⟩ := getTr (l.take m)
  obtain ⟨x3, k3, o3, h3, hf3⟩ := getWr (l.take m)
  have H1 := Lib.hid h1
  have H2 := Lib.hid h2
  have H3 := Lib.hid h3
  have HF3 := Lib.hid hf3
  have HSM := Lib.hid (show sameB x3.k x3.n x3.f ⟨x3.s.toArray⟩ x3.k x3.n x3.f ⟨x3.s.toArray⟩ = true from by unfold sameB; simp)
  clear hr hv h1 h2 h3 hf3 hl
  go_enter Try.func6, Try.ntmps6
  go_wp2_with fail
  refine (shown_any w).mono ?_
  rintro e w1 ⟨rfl, hb1⟩
  have hs1 := hb1.size
  have HR1 := Lib.hid (HR.out.below hb1)
  have HB1 := Lib.hid hb1
  clear hb1
  generalize hlb : l.take m = L at *
  go_wp2_with (at_builtin; first | (refine wpList_appB b5 rfl (.tmp 33) (.tmp 34) rfl (B := w1.heap.size) (v := .slice (some ⟨w1.heap.size, 0, none⟩) 0 0) (l := []) (m := L) rfl (ownR_none w1) rfl (HR1.out.below (below_alloc (Below.refl _ _) _)) ?_ ?_ ?_; (have := HL.out; simp; omega); (simp); intro v2 w2 ho2 hw2; have hb2 := belowR_app hw2; have hst := reads_string b5 (HR1.out.below hb2)))
  have HB2 := Lib.hid (HB1.out.trans (hb2.mono hs1))
  have hs2 := HB2.out.size
  rw [List.nil_append] at ho2
  have HRD := Lib.hid ho2.reads
  have HLT := Lib.hid (ReadsB.lt' ho2)
  clear hb2 hst HB1 HR1 hw2 ho2
  refine (get_any v2 L w2 HRD.out HLT.out).mono ?_
  rintro e w3 ⟨rfl, hb⟩
  rw [H1.out]
  have HB3 := Lib.hid (HB2.out.trans (hb.mono hs2))
  have HRD3 := Lib.hid (HRD.out.below hb)
  have HLT3 := Lib.hid (show ∀ b, v2.ownBlock = some b → b < w3.heap.size from fun b hb' => Nat.lt_of_lt_of_le (HLT.out b hb') hb.size)
  have hs3 := HB3.out.size
  clear hb HB2 HRD HLT
  go_wp2_with fail
  refine (refGet_any L HL.out w3).mono ?_
  rintro e w4 ⟨rfl, hb⟩
  rw [H1.out]
  have HB4 := Lib.hid (HB3.out.trans (hb.mono hs3))
  have HRD4 := Lib.hid (HRD3.out.below hb)
  have HLT4 := Lib.hid (show ∀ b, v2.ownBlock = some b → b < w4.heap.size from fun b hb' => Nat.lt_of_lt_of_le (HLT3.out b hb') hb.size)
  have hs4 := HB4.out.size
  clear hb HB3 HRD3 HLT3
  go_wp2_with fail
  refine (textP_any v2 L w4 HRD4.out HLT4.out).mono ?_
  rintro e w5 ⟨rfl, hb⟩
  rw [H2.out]
  have HB5 := Lib.hid (HB4.out.trans (hb.mono hs4))
  have HRD5 := Lib.hid (HRD4.out.below hb)
  have HLT5 := Lib.hid (show ∀ b, v2.ownBlock = some b → b < w5.heap.size from fun b hb' => Nat.lt_of_lt_of_le (HLT4.out b hb') hb.size)
  have hs5 := HB5.out.size
  clear hb HB4 HRD4 HLT4
  go_wp2_with fail
  refine (refText_any L HL.out w5).mono ?_
  rintro e w6 ⟨rfl, hb⟩
  rw [H2.out]
  have HB6 := Lib.hid (HB5.out.trans (hb.mono hs5))
  have HRD6 := Lib.hid (HRD5.out.below hb)
  have HLT6 := Lib.hid (show ∀ b, v2.ownBlock = some b → b < w6.heap.size from fun b hb' => Nat.lt_of_lt_of_le (HLT5.out b hb') hb.size)
  have hs6 := HB6.out.size
  clear hb HB5 HRD5 HLT5
  go_wp2_with fail
  refine (valueP_any v2 L w6 HRD6.out HLT6.out).mono ?_
  rintro e w7 ⟨rfl, hb⟩
  rw [H3.out]
  have HB7 := Lib.hid (HB6.out.trans (hb.mono hs6))
  have HRD7 := Lib.hid (HRD6.out.below hb)
  have hs7 := HB7.out.size
  clear hb HB6 HRD6 HLT6
  go_wp2_with fail
  refine (refValue_all L HL.out _).mono ?_
  rintro e w8 ⟨rfl, hb⟩
  rw [H3.out]
  have hb78 : Below w7.heap.size w7 w8 := below_then hb
  have va : ValAt w8 w7.heap.size x3.k x3.n x3.f ⟨x3.s.toArray⟩ := ValAt.below (w := w7.alloc (VOBJ x3.k x3.n x3.f ⟨x3.s.toArray⟩)) (heap_alloc_new w7 _) hb
  have HB8 := Lib.hid (HB7.out.trans (hb78.mono hs7))
  have HRD8 := Lib.hid (HRD7.out.below hb78)
  have hs8 := HB8.out.size
  have la : w7.heap.size < w8.heap.size := lt_of_block va
  have a0 := va.c0
  have a1 := va.c1
  have a2 := va.c2
  have a3 := va.c3
  have VA := Lib.hid va
  clear hb hb78 HB7 HRD7 va
  go_wp2_with fail
  refine (same_any x3.k x3.n x3.f ⟨x3.s.toArray⟩ x3.k x3.n x3.f ⟨x3.s.toArray⟩ _ HF3.out HF3.out).mono ?_
  rintro e w9 ⟨rfl, hb⟩
  rw [HSM.out]
  have hb89 : Below w8.heap.size w8 w9 := below_then hb
  have HB9 := Lib.hid (HB8.out.trans (hb89.mono hs8))
  have hst := reads_string b5 (HRD8.out.below hb89)
  clear hb hb89 HB8 HRD8 a0 a1 a2 a3 la VA
  go_wp2_with fail
  go_ret
  exact ⟨rfl, HB9.out⟩

set_option maxRecDepth 100000 in
theorem reads_lifted (os : Os) (started : os.Started) (H : Type) (enc : TypeId × Value → H) :
    ReturnsInHanded {} Try.checked os 6 .any (Rows.packReadsSpec.pre6 enc Try.prog Try.f6 Rows.packReadsRow.domain false) (Rows.packReadsSpec.post enc Try.prog Try.f6 false true false false) := by
  refine returnsInHanded_of_change (C := Try.checked) own started (by kernel_rfl) Try.func6
    (ChangeSpec.witness6 (enc := enc) (C := Try.checked) false ⟨#[], #[.slice none 0 0], []⟩ 8 (by kernel_rfl) (by kernel_rfl) (by kernel_rfl) (by kernel_rfl)) ?_
  intro W base args ds gs before hval0 hW hcnd _
  have hval : ∀ (j : Nat) t v, Try.f6.params[j]? = some t → args[j]? = some v → Value.okWide Try.prog W .any base t v := hval0
  have hW' := hW
  obtain ⟨p, q, hA0, hV, rfl, hfz, hnd⟩ := hW
  have hA : DataW.TrodAll enc Try.prog W 0 (fun _ => true) true Try.f6.params.toList args.toList ds p := hA0
  rw [Try.params6] at hA hval
  obtain ⟨rfl, rfl⟩ := trodVars_none hV
  have hlt : ∀ x ∈ p, x.block < W.heap.size := fun x hx => hW'.lt x (by simp [hx])
  have hrd22 : Try.prog.readableRec 22 = true ∧ 22 < Try.prog.types.size := ⟨by kernel_rfl, of_decide_eq_true (by kernel_rfl)⟩
  have hargs := fun (W' : World) (hb : Below W.heap.size W W') => trodAll_below laidOut hb (by simp only [List.mem_cons, List.not_mem_nil, or_false]; rintro t rfl; exact hrd22) hA hlt
  obtain ⟨v0, vs0, d0, ds0, p0, q0, hargs0, rfl, rfl, h0, r0⟩ := trodAll_cons hA
  obtain ⟨rfl, rfl, rfl⟩ := trodAll_nil r0
  obtain rfl : args = #[v0] := by cases args; simp_all
  obtain ⟨l0, hl0, hb0⟩ := open_bytes (hval 0 22 v0 rfl rfl) h0
  clear hA0 hval0
  refine (reads_walk v0 l0 W hl0 hb0).mono fun e W' ⟨he, hb⟩ => ?_
  subst he
  exact ⟨_, rfl, ⟨_, _, _, [], _, [], hW', trodAll_mk1 (shut_bool Try.underlying4 _), hargs W' hb, rfl, hb.frame _, fun h => by cases h⟩⟩

theorem reads_over : Rows.packReadsRow.holds Try.pinned (OpenSpec.ofChange Rows.packReadsSpec) :=
  OpenClaim.holds_of_wide 6 Try.f6 rfl rfl rfl rfl rfl rfl rfl ⟨rfl, rfl, rfl, rfl, rfl⟩ rfl rfl rfl rfl rfl (by kernel_rfl) Try.func6 (by kernel_rfl)
    (of_decide_eq_true (by kernel_rfl)) (by unfold Func.isWrapper; first | (rw [if_pos (by decide +kernel)]; kernel_rfl) | (rw [if_neg (by decide +kernel)]; exact ⟨rfl, rfl⟩))
    (fun os started H enc _ => reads_lifted os started H enc)

theorem reads_proved : Rows.PackReadsSaid := reads_over
end Go.Proofs.Ytbcnokidnpnmhaa
