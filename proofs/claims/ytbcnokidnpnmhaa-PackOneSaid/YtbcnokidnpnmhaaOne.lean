/- Proved: 'bridlewaylaw03.PackOne' returns true for any bytes, and leaves its input as it was. No condition. -/
import Derived.Test.YtbcnokidnpnmhaaRow2
import Derived.Test.YtbcnokidnpnmhaaPl2
import Derived.Deep.RegionHeld3
import Derived.Deep.DrawnRows
import Derived.Deep.DeepCutAuto
import Derived.Deep.CutRange
import Derived.BigQuiet
namespace Go.Proofs.Ytbcnokidnpnmhaa
open Go.ChangeShapes Go.WideShapes Go.ChangeAt Go.RowKit
attribute [local go_sem ↓] Go.wp_at_zero Go.wp_at_succ

theorem getV_says (l : List UInt8) : ∃ (n k : Nat) (ok : Bool), getV l = .tuple #[.int .u64 n, .int .i64 k, .bool ok] ∧ n < 18446744073709551616 ∧ k ≤ l.length ∧ (ok = true → l.take k = putB n) := by
  unfold getV
  cases h : getB l with
  | none => exact ⟨0, 0, false, rfl, by omega, by omega, by simp⟩
  | some p => obtain ⟨n, k⟩ := p; exact ⟨n, k, true, rfl, (getB_some h).1, (getB_some h).2.1, fun _ => (getB_one h).1⟩

/-- A slice's bytes, and its reading as text, in a world. -/
def Hold (V : Value) (l : List UInt8) (w : World) : Prop := ReadsB w V l ∧ (convert 22 9 V).run Try.prog w = .ok (.string ⟨l.toArray⟩) w
theorem hold_of {w : World} {V : Value} {l : List UInt8} (h : ReadsB w V l) : ReadsB w V l ∧ (convert 22 9 V).run Try.prog w = .ok (.string ⟨l.toArray⟩) w := ⟨h, reads_string b5 h⟩
theorem hold_grown {w w' : World} {V : Value} {l : List UInt8} (h : ReadsB w V l) (hg : w.grownBy w' none) : ReadsB w' V l ∧ (convert 22 9 V).run Try.prog w' = .ok (.string ⟨l.toArray⟩) w' := hold_of (h.grown hg (Classical.em _))
theorem hold_drew {w : World} {V : Value} {l : List UInt8} (h : ReadsB w V l) : ReadsB w.drew V l ∧ (convert 22 9 V).run Try.prog w.drew = .ok (.string ⟨l.toArray⟩) w.drew := hold_of (h.kept fun _ _ _ hx _ => hx)
theorem below_none {w0 w w' : World} (hb : Below w0.heap.size w0 w) (h : w.grownBy w' (Value.slice none 0 0).ownBlock) : Below w0.heap.size w0 w' := hb.grown h hb.size (by simp [Value.ownBlock])

theorem getT_says (l : List UInt8) : ∃ (s : List UInt8) (k : Nat) (ok : Bool), getT l = .tuple #[.string ⟨s.toArray⟩, .int .i64 k, .bool ok] ∧ s.length ≤ l.length ∧ k ≤ l.length ∧ (ok = true → l.take k = putTextB s) := by
  unfold getT
  cases h : textB l with
  | none => exact ⟨[], 0, false, rfl, by simp, by omega, by simp⟩
  | some p =>
    obtain ⟨s, k⟩ := p
    obtain ⟨h1, h2, h3⟩ := textB_one h
    refine ⟨s, k, true, rfl, ?_, h2, fun _ => h1⟩
    unfold putTextB at h3
    rw [List.length_append] at h3
    omega
theorem valueB_short {l : List UInt8} {x : Vl} {k : Nat} (h : valueB l = some (x, k)) : x.s.length ≤ l.length := by
  obtain ⟨h1, h2, h3⟩ := valueB_one h
  have h4 : (l.take k).length ≤ l.length := by rw [List.length_take]; omega
  rw [h2] at h4
  rcases right_cases h1.right with e | (e | e) | e | ⟨e, _⟩ | e
  · rw [e]; simp
  · rw [e]; simp
  · rw [e]; simp
  · rw [e]; simp
  · rw [e]; simp
  · rw [e] at h4 ⊢
    simp [putValueB, putTextB] at h4 ⊢
    omega

theorem one_walk (v : Value) (l : List UInt8) (w : World) (hr : ReadsB w v l) (hv : ∀ b, v.ownBlock = some b → b < w.heap.size) :
    Calls Try.prog 8 #[v] w fun e w' => e = .returned (.bool true) ∧ Below w.heap.size w w' := by
  obtain ⟨A, c, rfl, hl⟩ := hr.form
  obtain ⟨m, hm, hml, hmc, hm3⟩ : ∃ m : Nat, (if (300 : Int) < (l.length : Int) then (300 : Int) else (l.length : Int)) = (m : Int) ∧ m ≤ l.length ∧ m ≤ c ∧ m ≤ 300 := by
    have hlc := hr.cap.2
    split
    · exact ⟨300, rfl, by omega, by omega, by omega⟩
    · exact ⟨l.length, rfl, by omega, by omega, by omega⟩
  have HR := Lib.hid (reads_take hr m hml)
  have HV := Lib.hid (show ∀ b, (Value.slice A m c).ownBlock = some b → b < w.heap.size from fun b hb => hv b (by cases A with | none => exact hb | some a => exact hb))
  have hlm : (l.take m).length = m := by simp; omega
  obtain ⟨n1, k1, ok1, hg1, hn1, hk1, ht1⟩ := getV_says (l.take m)
  rw [hlm] at hk1
  have HG1 := Lib.hid hg1
  have HN1 := Lib.hid hn1
  have HT1 := Lib.hid ht1
  clear hr hv hg1 hn1 ht1
  go_enter Try.func8, Try.ntmps8
  go_wp2_with fail
  refine (shown_any w).mono ?_
  rintro e w1 ⟨rfl, hb1⟩
  have hs1 := hb1.size
  have HR1 := Lib.hid (HR.out.below hb1)
  have HB1 := Lib.hid hb1
  clear hb1
  go_wp2_with fail
  refine (get_any _ (l.take m) w1 HR1.out (fun b hb => Nat.lt_of_lt_of_le (HV.out b hb) hs1)).mono ?_
  rintro e w2 ⟨rfl, hb⟩
  simp only [HG1.out]
  have hs2 := hb.size
  have HR2 := Lib.hid (HR1.out.below hb)
  have HB2 := Lib.hid (HB1.out.trans (hb.mono hs1))
  clear hb HB1 HR1
  go_upto_region 4 with fail
  go_cut [37] from 27 to 36 (fun r wx => r = .bool false ∧ Below w.heap.size w wx ∧ ReadsB wx (.slice A m c) (l.take m))
  case first =>
    cases ok1 with
    | false =>
      go_quiet (fail)
      go_wp2
      go_meet
      exact ⟨rfl, below_drewN HB2.out _, HR2.out.kept fun _ _ _ hx _ => hx⟩
    | true =>
      have ht := HT1.out rfl
      have hold := hold_of (reads_take HR2.out k1 hk1)
      rw [ht] at hold
      obtain ⟨hold1, hold2⟩ := hold
      have hkc : (k1 : Int) ≤ (c : Int) := by omega
      have hk0 : (0 : Int) ≤ (k1 : Int) := by omega
      go_region_held (fun w' => ReadsB w' (.slice A k1 c) (putB n1) ∧ (convert 22 9 (.slice A k1 c)).run Try.prog w' = .ok (.string ⟨(putB n1).toArray⟩) w') (first | (go_split_ands; refine ⟨?_, ?_⟩ <;> assumption) | (refine hold_drew ?_; assumption) | (go_split_ands; refine hold_grown ?_ hw3.grown; assumption)) (first | ((go_at_call 11; refine (put_any 0 _ [] n1 HN1.out _ (OwnB.nil _ _) (Nat.zero_le _) (by simp)).mono ?_; rintro e w3 ⟨v3, rfl, ho3, hw3⟩; have hst := reads_string b5 ho3.reads)))
      go_wp2
      go_meet
      exact ⟨rfl, below_none HB2.out.drew hw3.grown, (ReadsB.kept HR2.out fun _ _ _ hx _ => hx : ReadsB w2.drew _ _).grown hw3.grown (Classical.em _)⟩
  case rest =>
    obtain ⟨rfl, hb3, hr3⟩ := hcut
    have hs3 := hb3.size
    have HB3 := Lib.hid hb3
    have HR3 := Lib.hid hr3
    clear hb3 hr3 HB2 HR2 HT1 HG1
    obtain ⟨t1, k2, ok2, hg2, ht2, hk2, hy2⟩ := getT_says (l.take m)
    rw [hlm] at hk2 ht2
    go_wp2_with fail
    refine (textP_any _ (l.take m) wc HR3.out (fun b hb => Nat.lt_of_lt_of_le (HV.out b hb) hs3)).mono ?_
    rintro e w4 ⟨rfl, hb⟩
    simp only [hg2]
    have hs4 := hb.size
    have HR4 := Lib.hid (HR3.out.below hb)
    have HB4 := Lib.hid (HB3.out.trans (hb.mono hs3))
    have HY2 := Lib.hid hy2
    clear hb HB3 HR3 hg2 hy2
    go_upto_region 7 with fail
    go_cut [54] from 44 to 53 (fun r wx => r = .bool false ∧ Below w.heap.size w wx ∧ ReadsB wx (.slice A m c) (l.take m))
    case first =>
      cases ok2 with
      | false =>
        go_quiet (fail)
        go_wp2
        go_meet
        exact ⟨rfl, below_drewN HB4.out _, HR4.out.kept fun _ _ _ hx _ => hx⟩
      | true =>
        have ht := HY2.out rfl
        have hold := hold_of (reads_take HR4.out k2 hk2)
        rw [ht] at hold
        obtain ⟨hold1, hold2⟩ := hold
        have hkc : (k2 : Int) ≤ (c : Int) := by omega
        have hk0 : (0 : Int) ≤ (k2 : Int) := by omega
        go_region_held (fun w' => ReadsB w' (.slice A k2 c) (putTextB t1) ∧ (convert 22 9 (.slice A k2 c)).run Try.prog w' = .ok (.string ⟨(putTextB t1).toArray⟩) w') (first | (go_split_ands; refine ⟨?_, ?_⟩ <;> assumption) | (refine hold_drew ?_; assumption) | (go_split_ands; refine hold_grown ?_ hw3.grown; assumption)) (first | ((go_at_call 12; refine (putText_any 0 _ [] ⟨t1.toArray⟩ _ (OwnB.nil _ _) (Nat.zero_le _) (show 0 + t1.length < 140737488350000 by omega)).mono ?_; rintro e w3 ⟨v3, rfl, ho3, hw3⟩; have hst := reads_string b5 ho3.reads)))
        go_wp2
        go_meet
        exact ⟨rfl, below_none HB4.out.drew hw3.grown, (ReadsB.kept HR4.out fun _ _ _ hx _ => hx : ReadsB w4.drew _ _).grown hw3.grown (Classical.em _)⟩
    case rest =>
      obtain ⟨rfl, hb5, hr5⟩ := hcut
      have hs5 := hb5.size
      have HB5 := Lib.hid hb5
      have HR5 := Lib.hid hr5
      clear hb5 hr5 HB4 HR4 HY2
      go_wp2_with fail
      refine (valueP_any _ (l.take m) wc HR5.out (fun b hb => Nat.lt_of_lt_of_le (HV.out b hb) hs5)).mono ?_
      rintro e w6 ⟨rfl, hb⟩
      have hs6 := hb.size
      have HR6 := Lib.hid (HR5.out.below hb)
      have HB6 := Lib.hid (HB5.out.trans (hb.mono hs5))
      clear hb HB5 HR5
      cases hval : valueB (l.take m) with
      | none =>
        simp only [getW, hval]
        go_wp2_with fail
        go_ret
        exact ⟨rfl, below_alloc' HB6.out _ (by omega)⟩
      | some p =>
        obtain ⟨x, k3⟩ := p
        simp only [getW, hval]
        obtain ⟨hx, ht, hk3⟩ := valueB_one hval
        have hsh := valueB_short hval
        rw [hlm] at hk3 hsh
        have HX := Lib.hid hx
        have hright := Lib.hid hx.right
        have HT := Lib.hid ht
        clear hval hx ht
        go_wp2_with fail
        refine (putValue_any 0 _ [] x.k x.n x.f ⟨x.s.toArray⟩ _ (OwnB.nil _ _) (Nat.zero_le _) (by simp) (show 0 + x.s.length < 140737488340000 by omega) HX.out.n0 HX.out.n1 HX.out.f).mono ?_
        rintro e w7 ⟨v7, rfl, ho7, hw7⟩
        rw [hright.out] at ho7 ⊢
        simp only [if_true] at ho7 ⊢
        have ho8 : OwnB w7 0 v7 (putValueB x) := ho7
        have HB7 := Lib.hid (below_none (below_alloc' HB6.out _ (by omega)) hw7.grown)
        have hr7 := (HR6.out.below (below_alloc (Below.refl _ _) (VOBJ x.k x.n x.f ⟨x.s.toArray⟩))).grown hw7.grown (Classical.em _)
        have hrt := reads_take hr7 k3 hk3
        rw [HT.out] at hrt
        obtain ⟨hold1, hold2⟩ := hold_of ho8.reads
        obtain ⟨hold3, hold4⟩ := hold_of hrt
        have hkc : (k3 : Int) ≤ (c : Int) := by omega
        have hk0 : (0 : Int) ≤ (k3 : Int) := by omega
        clear ho7 ho8 hr7 hw7
        go_wp2_with fail
        go_region_held (fun w' => (ReadsB w' v7 (putValueB x) ∧ (convert 22 9 v7).run Try.prog w' = .ok (.string ⟨(putValueB x).toArray⟩) w') ∧ (ReadsB w' (.slice A k3 c) (putValueB x) ∧ (convert 22 9 (.slice A k3 c)).run Try.prog w' = .ok (.string ⟨(putValueB x).toArray⟩) w')) (first | (go_split_ands; refine ⟨⟨?_, ?_⟩, ⟨?_, ?_⟩⟩ <;> assumption) | (refine ⟨hold_drew ?_, hold_drew ?_⟩ <;> assumption)) (fail)
        go_wp2
        go_ret
        exact ⟨rfl, HB7.out.drew⟩

set_option maxRecDepth 100000 in
theorem one_lifted (os : Os) (started : os.Started) (H : Type) (enc : TypeId × Value → H) :
    ReturnsInHanded {} Try.checked os 8 .any (Rows.packOneSpec.pre6 enc Try.prog Try.f8 Rows.packOneRow.domain false) (Rows.packOneSpec.post enc Try.prog Try.f8 false true false false) := by
  refine returnsInHanded_of_change (C := Try.checked) own started (by kernel_rfl) Try.func8
    (ChangeSpec.witness6 (enc := enc) (C := Try.checked) false ⟨#[], #[.slice none 0 0], []⟩ 8 (by kernel_rfl) (by kernel_rfl) (by kernel_rfl) (by kernel_rfl)) ?_
  intro W base args ds gs before hval0 hW hcnd _
  have hval : ∀ (j : Nat) t v, Try.f8.params[j]? = some t → args[j]? = some v → Value.okWide Try.prog W .any base t v := hval0
  have hW' := hW
  obtain ⟨p, q, hA0, hV, rfl, hfz, hnd⟩ := hW
  have hA : DataW.TrodAll enc Try.prog W 0 (fun _ => true) true Try.f8.params.toList args.toList ds p := hA0
  rw [Try.params8] at hA hval
  obtain ⟨rfl, rfl⟩ := trodVars_none hV
  have hlt : ∀ x ∈ p, x.block < W.heap.size := fun x hx => hW'.lt x (by simp [hx])
  have hrd22 : Try.prog.readableRec 22 = true ∧ 22 < Try.prog.types.size := ⟨by kernel_rfl, of_decide_eq_true (by kernel_rfl)⟩
  have hargs := fun (W' : World) (hb : Below W.heap.size W W') => trodAll_below laidOut hb (by simp only [List.mem_cons, List.not_mem_nil, or_false]; rintro t rfl; exact hrd22) hA hlt
  obtain ⟨v0, vs0, d0, ds0, p0, q0, hargs0, rfl, rfl, h0, r0⟩ := trodAll_cons hA
  obtain ⟨rfl, rfl, rfl⟩ := trodAll_nil r0
  obtain rfl : args = #[v0] := by cases args; simp_all
  obtain ⟨l0, hl0, hb0⟩ := open_bytes (hval 0 22 v0 rfl rfl) h0
  clear hA0 hval0
  refine (one_walk v0 l0 W hl0 hb0).mono fun e W' ⟨he, hb⟩ => ?_
  subst he
  exact ⟨_, rfl, ⟨_, _, _, [], _, [], hW', trodAll_mk1 (shut_bool Try.underlying4 _), hargs W' hb, rfl, hb.frame _, fun h => by cases h⟩⟩

theorem one_over : Rows.packOneRow.holds Try.pinned (OpenSpec.ofChange Rows.packOneSpec) :=
  OpenClaim.holds_of_wide 8 Try.f8 rfl rfl rfl rfl rfl rfl rfl ⟨rfl, rfl, rfl, rfl, rfl⟩ rfl rfl rfl rfl rfl (by kernel_rfl) Try.func8 (by kernel_rfl)
    (of_decide_eq_true (by kernel_rfl)) (by unfold Func.isWrapper; first | (rw [if_pos (by decide +kernel)]; kernel_rfl) | (rw [if_neg (by decide +kernel)]; exact ⟨rfl, rfl⟩))
    (fun os started H enc _ => one_lifted os started H enc)

theorem one_proved : Rows.PackOneSaid := one_over
end Go.Proofs.Ytbcnokidnpnmhaa
