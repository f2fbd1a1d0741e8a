import Derived.Test.YtbolojjnkkgehaaRow
import Derived.Test.YtbolojjnkkgehaaLm
/-! GraphLimits: whatever numbers of nodes and edges come in, and whether one name stands twice, the law returns true. -/
namespace Go.Proofs.Ytbolojjnkkgehaa
open Go.ChangeShapes Go.WideShapes Go.ChangeAt Go.RowKit

theorem rd3 : Try.prog.readableRec 3 = true ∧ 3 < Try.prog.types.size := ⟨by kernel_rfl, of_decide_eq_true (by kernel_rfl)⟩
theorem rd4 : Try.prog.readableRec 4 = true ∧ 4 < Try.prog.types.size := ⟨by kernel_rfl, of_decide_eq_true (by kernel_rfl)⟩

set_option maxRecDepth 100000 in
theorem limits_lifted (os : Os) (started : os.Started) (H : Type) (enc : TypeId × Value → H) :
    ReturnsInHanded {} Try.checked os 4 .any (Rows.graphLimitsSpec.pre6 enc Try.prog Try.f4 Rows.graphLimitsRow.domain false) (Rows.graphLimitsSpec.post enc Try.prog Try.f4 false true false false) := by
  refine returnsInHanded_of_change_sized (C := Try.checked) own started (by kernel_rfl) Try.func4
    (ChangeSpec.witness6 (enc := enc) (C := Try.checked) false ⟨#[], #[.int .i64 0, .int .i64 0, .bool false], []⟩ 8 (by kernel_rfl) (by kernel_rfl) (by kernel_rfl) (by kernel_rfl)) ?_
  intro W base args ds gs before hval0 hW hcnd hsz _
  have hval : ∀ (j : Nat) t v, Try.f4.params[j]? = some t → args[j]? = some v → Value.okWide Try.prog W .any base t v := hval0
  have hW' := hW
  obtain ⟨p, q, hA0, hV, rfl, hfz, hnd⟩ := hW
  have hA : DataW.TrodAll enc Try.prog W 0 (fun _ => true) true Try.f4.params.toList args.toList ds p := hA0
  rw [Try.params4] at hA hval hsz
  obtain ⟨rfl, rfl⟩ := trodVars_none hV
  have hlt : ∀ x ∈ p, x.block < W.heap.size := fun x hx => hW'.lt x (by simp [hx])
  have hargs := fun (W' : World) (hb : Below W.heap.size W W') => trodAll_below laidOut hb (by simp only [List.mem_cons, List.not_mem_nil, or_false]; rintro t (rfl | rfl | rfl) <;> first | exact rd3 | exact rd4) hA hlt
  obtain ⟨v0, vs0, d0, ds0, p0, q0, hargs0, rfl, rfl, h0, r0⟩ := trodAll_cons hA
  obtain ⟨v1, vs1, d1, ds1, p1, q1, rfl, rfl, rfl, h1, r1⟩ := trodAll_cons r0
  obtain ⟨v2, vs2, d2, ds2, p2, q2, rfl, rfl, rfl, h2, r2⟩ := trodAll_cons r1
  obtain ⟨rfl, rfl, rfl⟩ := trodAll_nil r2
  obtain rfl : args = #[v0, v1, v2] := by cases args; simp_all
  obtain ⟨n1, rfl⟩ := okWide_int (P := Try.prog) Try.underlying3 (hval 0 3 v0 rfl rfl)
  obtain ⟨n2, rfl⟩ := okWide_int (P := Try.prog) Try.underlying3 (hval 1 3 v1 rfl rfl)
  obtain ⟨tw, rfl⟩ := okWide_bool (P := Try.prog) Try.underlying4 (hval 2 4 v2 rfl rfl)
  clear hA0 hval0
  refine (limits_any n1 n2 tw W).mono fun e W' ⟨he, hb⟩ => ?_
  subst he
  exact ⟨_, rfl, ⟨_, _, _, [], _, [], hW', trodAll_mk1 (shut_bool Try.underlying4 _), hargs W' hb, rfl, hb.frame _, fun h => by cases h⟩⟩

theorem limits_over : Rows.graphLimitsRow.holds Try.pinned (OpenSpec.ofChange Rows.graphLimitsSpec) :=
  OpenClaim.holds_of_wide 4 Try.f4 rfl rfl rfl rfl rfl rfl rfl ⟨rfl, rfl, rfl, rfl, rfl⟩ rfl rfl rfl rfl rfl (by kernel_rfl) Try.func4 (by kernel_rfl)
    (of_decide_eq_true (by kernel_rfl)) (by unfold Func.isWrapper; first | (rw [if_pos (by decide +kernel)]; kernel_rfl) | (rw [if_neg (by decide +kernel)]; exact ⟨rfl, rfl⟩))
    (fun os started H enc _ => limits_lifted os started H enc)

theorem limits_proved : Rows.GraphLimitsSaid := limits_over
end Go.Proofs.Ytbolojjnkkgehaa
