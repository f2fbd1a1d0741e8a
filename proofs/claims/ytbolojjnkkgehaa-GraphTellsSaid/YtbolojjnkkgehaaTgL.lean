import Derived.Test.YtbolojjnkkgehaaRow
import Derived.Test.YtbolojjnkkgehaaTg9
/-! GraphTells: whatever graph, node, directions, name and element come in, the law returns true, and what came in reads as it did. -/
namespace Go.Proofs.Ytbolojjnkkgehaa
open Go.ChangeShapes Go.WideShapes Go.ChangeAt Go.RowKit

theorem rd3 : Try.prog.readableRec 3 = true ∧ 3 < Try.prog.types.size := ⟨by kernel_rfl, of_decide_eq_true (by kernel_rfl)⟩
theorem rd50 : Try.prog.readableRec 50 = true ∧ 50 < Try.prog.types.size := ⟨by kernel_rfl, of_decide_eq_true (by kernel_rfl)⟩
set_option maxRecDepth 100000 in
/-- An element. -/
theorem open_El {H : Type} {enc : TypeId × Value → H} {W : World} {v : Value} {base : Nat} {d : DataW H} {pl : List MemPlace} (hval : Value.okWide Try.prog W .any base 50 v) (h : DataW.Trod enc Try.prog W 0 (fun _ => true) true 50 v d pl) : ∃ b x, v = ELEM b x := by
  have hcc := okWide_struct (P := Try.prog) (w := W) (base := base) (t := 50) (v := v) Try.underlying50 hval
  obtain ⟨cs, rfl, hcs⟩ := hcc
  have hc2 : cs.size = 2 := hcs.trans (by kernel_rfl)
  obtain ⟨c0, c1, rfl⟩ : ∃ a b, cs = #[a, b] := by
    obtain ⟨l⟩ := cs
    match l, hc2 with
    | [a, b], _ => exact ⟨a, b, rfl⟩
  obtain ⟨fuel, hfu⟩ := h
  obtain ⟨xs, m, -, hx, -, hxl, hf⟩ := DataW.trod_struct Try.underlying50 hfu
  match xs, hxl with
  | [y0, y1], _ =>
    have h0 : TR enc W m 4 [c0] = some y0 := fld (hf 0 _ rfl) rfl co4 rfl
    have h1 : TR enc W m 3 [c1] = some y1 := fld (hf 1 _ rfl) rfl co3 rfl
    obtain ⟨b, e0, -⟩ := DataW.trod_bool Try.underlying4 h0
    obtain ⟨x, e1, -, -⟩ := DataW.trod_int Try.underlying3 h1
    simp only [List.cons.injEq, and_true] at e0 e1
    subst e0
    subst e1
    exact ⟨b, x, rfl⟩
theorem rd9 : Try.prog.readableRec 9 = true ∧ 9 < Try.prog.types.size := ⟨by kernel_rfl, of_decide_eq_true (by kernel_rfl)⟩

set_option maxRecDepth 100000 in
theorem tells_lifted (os : Os) (started : os.Started) (H : Type) (enc : TypeId × Value → H) :
    ReturnsInHanded {} Try.checked os 7 .any (Rows.graphTellsSpec.pre6 enc Try.prog Try.f7 Rows.graphTellsRow.domain false) (Rows.graphTellsSpec.post enc Try.prog Try.f7 false true false false) := by
  refine returnsInHanded_of_change_sized (C := Try.checked) own started (by kernel_rfl) Try.func7
    (ChangeSpec.witness6 (enc := enc) (C := Try.checked) false ⟨#[], #[.agg #[.slice none 0 0, .slice none 0 0], .int .i64 0, .int .i64 0, .string ⟨#[]⟩, .agg #[.bool false, .int .i64 0]], []⟩ 8 (by kernel_rfl) (by kernel_rfl) (by kernel_rfl) (by kernel_rfl)) ?_
  intro W base args ds gs before hval0 hW hcnd hsz _
  have hval : ∀ (j : Nat) t v, Try.f7.params[j]? = some t → args[j]? = some v → Value.okWide Try.prog W .any base t v := hval0
  have hW' := hW
  obtain ⟨p, q, hA0, hV, rfl, hfz, hnd⟩ := hW
  have hA : DataW.TrodAll enc Try.prog W 0 (fun _ => true) true Try.f7.params.toList args.toList ds p := hA0
  rw [Try.params7] at hA hval hsz
  obtain ⟨rfl, rfl⟩ := trodVars_none hV
  have hlt : ∀ x ∈ p, x.block < W.heap.size := fun x hx => hW'.lt x (by simp [hx])
  have hargs := fun (W' : World) (hb : Below W.heap.size W W') => trodAll_below laidOut hb (by simp only [List.mem_cons, List.not_mem_nil, or_false]; rintro t (rfl | rfl | rfl | rfl | rfl) <;> first | exact rd25 | exact rd3 | exact rd9 | exact rd50) hA hlt
  obtain ⟨v0, vs0, d0, ds0, p0, q0, hargs0, rfl, rfl, h0, r0⟩ := trodAll_cons hA
  obtain ⟨v1, vs1, d1, ds1, p1, q1, rfl, rfl, rfl, h1, r1⟩ := trodAll_cons r0
  obtain ⟨v2, vs2, d2, ds2, p2, q2, rfl, rfl, rfl, h2, r2⟩ := trodAll_cons r1
  obtain ⟨v3, vs3, d3, ds3, p3, q3, rfl, rfl, rfl, h3, r3⟩ := trodAll_cons r2
  obtain ⟨v4, vs4, d4, ds4, p4, q4, rfl, rfl, rfl, h4, r4⟩ := trodAll_cons r3
  obtain ⟨rfl, rfl, rfl⟩ := trodAll_nil r4
  obtain rfl : args = #[v0, v1, v2, v3, v4] := by cases args; simp_all
  obtain ⟨nv, ev, xs, es, rfl, hn, he⟩ := open_G (hval 0 25 v0 rfl rfl) h0 (sml_of hsz (j := 0) rfl rfl)
  obtain ⟨n1, rfl⟩ := okWide_int (P := Try.prog) Try.underlying3 (hval 1 3 v1 rfl rfl)
  obtain ⟨n2, rfl⟩ := okWide_int (P := Try.prog) Try.underlying3 (hval 2 3 v2 rfl rfl)
  obtain ⟨nm, rfl, rfl, rfl, hs3⟩ := Go.ChangeMaps.open_string Try.underlying9 (hval 3 9 v3 rfl rfl) h3
  obtain ⟨eb, ex, rfl⟩ := open_El (hval 4 50 v4 rfl rfl) h4
  clear hA0 hval0
  refine (tells_any nv xs ev es n1 n2 nm eb ex W hn he hs3).mono fun e W' ⟨he, hb⟩ => ?_
  subst he
  exact ⟨_, rfl, ⟨_, _, _, [], _, [], hW', trodAll_mk1 (shut_bool Try.underlying4 _), hargs W' hb, rfl, hb.frame _, fun h => by cases h⟩⟩

theorem tells_over : Rows.graphTellsRow.holds Try.pinned (OpenSpec.ofChange Rows.graphTellsSpec) :=
  OpenClaim.holds_of_wide 7 Try.f7 rfl rfl rfl rfl rfl rfl rfl ⟨rfl, rfl, rfl, rfl, rfl⟩ rfl rfl rfl rfl rfl (by kernel_rfl) Try.func7 (by kernel_rfl)
    (of_decide_eq_true (by kernel_rfl)) (by unfold Func.isWrapper; first | (rw [if_pos (by decide +kernel)]; kernel_rfl) | (rw [if_neg (by decide +kernel)]; exact ⟨rfl, rfl⟩))
    (fun os started H enc _ => tells_lifted os started H enc)

theorem tells_proved : Rows.GraphTellsSaid := tells_over
end Go.Proofs.Ytbolojjnkkgehaa
