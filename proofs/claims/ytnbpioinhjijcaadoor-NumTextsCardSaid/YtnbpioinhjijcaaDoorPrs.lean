import Derived.Test.YtnbpioinhjijcaaDoorCut
/-! num.Parse. -/
namespace Go.Proofs.YtnbpioinhjijcaaDoor
open Go.RowKit

theorem wi_int (n : Nat) : floatOfInt .f64 (n : Int) = wi n := by
  unfold floatOfInt wi
  show F64.write (.number (decide ((n : Int) < 0)) (n : Int).natAbs 0) = _
  rw [show decide ((n : Int) < 0) = false by simp, Int.natAbs_natCast]
  rfl
theorem run_neg (y : Nat) (w : World) : (Op.unary .neg (.float .f64 y)).run Tryd.prog w = .ok (.float .f64 (negB y)) w := rfl
theorem list_eq_iff (x : List UInt8) (s : ByteArray) : (x == s.toList) = decide (x = s.data.toList) := by
  rw [ByteArray.toList_eq, Bool.eq_iff_iff]
  simp

/-- What Parse returns. -/
def ParseEnd (l : List UInt8) (e : Ending) : Prop := (∃ f, f < 18446744073709551616 ∧ textB f = l ∧ e = .returned (.tuple #[.float .f64 (canonB f), .int .i64 0])) ∨ ((∀ f, f < 18446744073709551616 → textB f ≠ l) ∧ e = .returned (.tuple #[.float .f64 0, .int .i64 2]))

set_option maxRecDepth 100000 in
theorem parse_nan_true_yes (s wd : ByteArray) (F : Nat) (hF : F < 18446744073709551616) (w : World) (hv : Vars w) (hcp : Calls Tryd.prog 38 #[.string s, .string ⟨#[45]⟩] w fun e w' => e = .returned (.tuple #[.string wd, .bool true]) ∧ w' = w)
    (h1 : wd = ⟨#[110, 97, 110]⟩)
    (hneg : ∀ w, (Op.unary .neg (.float .f64 9221120237041090561)).run Tryd.prog w = .ok (.float .f64 F) w)
    (ht : textB F = s.data.toList) :
    Calls Tryd.prog 21 #[.string s] w fun e w' => ParseEnd s.data.toList e ∧ Below w.heap.size w w' := by
  have HCP := Lib.hid hcp
  have HF := Lib.hid hF
  have HV := Lib.hid hv
  obtain ⟨T, hT⟩ : ∃ T, textB F = T := ⟨_, rfl⟩
  have hcmp : (T == s.toList) = true := by rw [list_eq_iff, ← hT]; simp [ht]
  have HTF := Lib.hid hT
  have HTX := Lib.hid ht
  clear hcp hF hv hT ht
  subst h1
  go_enter Tryd.func21, Tryd.ntmps21
  go_wp2_with fail
  refine HCP.out.mono ?_
  rintro e w1 ⟨rfl, rfl⟩
  go_wp2_with fail
  refine (nan0_any _).mono ?_
  rintro e w1' ⟨rfl, rfl⟩
  go_wp2_with fail
  refine (text_any _ HF.out _ HV.out).mono ?_
  rintro e w6 ⟨rfl, hb6⟩
  rw [HTF.out]
  have HB6 := Lib.hid hb6
  clear hb6
  go_wp2_with fail
  refine (canon_any _ _).mono ?_
  rintro e w7 ⟨rfl, rfl⟩
  go_wp2_with fail
  go_ret2
  exact ⟨.inl ⟨_, HF.out, HTX.out, rfl⟩, HB6.out⟩

set_option maxRecDepth 100000 in
theorem parse_nan_true_no (s wd : ByteArray) (F : Nat) (hF : F < 18446744073709551616) (w : World) (hv : Vars w) (hcp : Calls Tryd.prog 38 #[.string s, .string ⟨#[45]⟩] w fun e w' => e = .returned (.tuple #[.string wd, .bool true]) ∧ w' = w)
    (h1 : wd = ⟨#[110, 97, 110]⟩)
    (hneg : ∀ w, (Op.unary .neg (.float .f64 9221120237041090561)).run Tryd.prog w = .ok (.float .f64 F) w)
    (ht : textB F ≠ s.data.toList) (hno : ∀ f, f < 18446744073709551616 → textB f ≠ s.data.toList) :
    Calls Tryd.prog 21 #[.string s] w fun e w' => ParseEnd s.data.toList e ∧ Below w.heap.size w w' := by
  have HCP := Lib.hid hcp
  have HF := Lib.hid hF
  have HV := Lib.hid hv
  obtain ⟨T, hT⟩ : ∃ T, textB F = T := ⟨_, rfl⟩
  have hcmp : (T == s.toList) = false := by rw [list_eq_iff, ← hT]; simp [ht]
  have HTF := Lib.hid hT
  have HTX := Lib.hid ht
  have HNO := Lib.hid hno
  clear hno
  clear hcp hF hv hT ht
  subst h1
  go_enter Tryd.func21, Tryd.ntmps21
  go_wp2_with fail
  refine HCP.out.mono ?_
  rintro e w1 ⟨rfl, rfl⟩
  go_wp2_with fail
  refine (nan0_any _).mono ?_
  rintro e w1' ⟨rfl, rfl⟩
  go_wp2_with fail
  refine (text_any _ HF.out _ HV.out).mono ?_
  rintro e w6 ⟨rfl, hb6⟩
  rw [HTF.out]
  have HB6 := Lib.hid hb6
  clear hb6
  go_wp2_with fail
  go_ret2
  exact ⟨.inr ⟨HNO.out, rfl⟩, HB6.out⟩

set_option maxRecDepth 100000 in
theorem parse_nan_false_yes (s wd : ByteArray) (F : Nat) (hF : F < 18446744073709551616) (w : World) (hv : Vars w) (hcp : Calls Tryd.prog 38 #[.string s, .string ⟨#[45]⟩] w fun e w' => e = .returned (.tuple #[.string wd, .bool false]) ∧ w' = w)
    (h1 : wd = ⟨#[110, 97, 110]⟩)
    (hfe : F = 9221120237041090561)
    (ht : textB F = s.data.toList) :
    Calls Tryd.prog 21 #[.string s] w fun e w' => ParseEnd s.data.toList e ∧ Below w.heap.size w w' := by
  have HCP := Lib.hid hcp
  have HF := Lib.hid hF
  have HV := Lib.hid hv
  obtain ⟨T, hT⟩ : ∃ T, textB F = T := ⟨_, rfl⟩
  have hcmp : (T == s.toList) = true := by rw [list_eq_iff, ← hT]; simp [ht]
  have HTF := Lib.hid hT
  have HTX := Lib.hid ht
  clear hcp hF hv hT ht
  subst h1
  subst hfe
  go_enter Tryd.func21, Tryd.ntmps21
  go_wp2_with fail
  refine HCP.out.mono ?_
  rintro e w1 ⟨rfl, rfl⟩
  go_wp2_with fail
  refine (nan0_any _).mono ?_
  rintro e w1' ⟨rfl, rfl⟩
  go_wp2_with fail
  refine (text_any _ HF.out _ HV.out).mono ?_
  rintro e w6 ⟨rfl, hb6⟩
  rw [HTF.out]
  have HB6 := Lib.hid hb6
  clear hb6
  go_wp2_with fail
  refine (canon_any _ _).mono ?_
  rintro e w7 ⟨rfl, rfl⟩
  go_wp2_with fail
  go_ret2
  exact ⟨.inl ⟨_, HF.out, HTX.out, rfl⟩, HB6.out⟩

set_option maxRecDepth 100000 in
theorem parse_nan_false_no (s wd : ByteArray) (F : Nat) (hF : F < 18446744073709551616) (w : World) (hv : Vars w) (hcp : Calls Tryd.prog 38 #[.string s, .string ⟨#[45]⟩] w fun e w' => e = .returned (.tuple #[.string wd, .bool false]) ∧ w' = w)
    (h1 : wd = ⟨#[110, 97, 110]⟩)
    (hfe : F = 9221120237041090561)
    (ht : textB F ≠ s.data.toList) (hno : ∀ f, f < 18446744073709551616 → textB f ≠ s.data.toList) :
    Calls Tryd.prog 21 #[.string s] w fun e w' => ParseEnd s.data.toList e ∧ Below w.heap.size w w' := by
  have HCP := Lib.hid hcp
  have HF := Lib.hid hF
  have HV := Lib.hid hv
  obtain ⟨T, hT⟩ : ∃ T, textB F = T := ⟨_, rfl⟩
  have hcmp : (T == s.toList) = false := by rw [list_eq_iff, ← hT]; simp [ht]
  have HTF := Lib.hid hT
  have HTX := Lib.hid ht
  have HNO := Lib.hid hno
  clear hno
  clear hcp hF hv hT ht
  subst h1
  subst hfe
  go_enter Tryd.func21, Tryd.ntmps21
  go_wp2_with fail
  refine HCP.out.mono ?_
  rintro e w1 ⟨rfl, rfl⟩
  go_wp2_with fail
  refine (nan0_any _).mono ?_
  rintro e w1' ⟨rfl, rfl⟩
  go_wp2_with fail
  refine (text_any _ HF.out _ HV.out).mono ?_
  rintro e w6 ⟨rfl, hb6⟩
  rw [HTF.out]
  have HB6 := Lib.hid hb6
  clear hb6
  go_wp2_with fail
  go_ret2
  exact ⟨.inr ⟨HNO.out, rfl⟩, HB6.out⟩

set_option maxRecDepth 100000 in
theorem parse_inf_true_yes (s wd : ByteArray) (F : Nat) (hF : F < 18446744073709551616) (w : World) (hv : Vars w) (hcp : Calls Tryd.prog 38 #[.string s, .string ⟨#[45]⟩] w fun e w' => e = .returned (.tuple #[.string wd, .bool true]) ∧ w' = w)
    (h1 : wd = ⟨#[105, 110, 102]⟩)
    (hneg : ∀ w, (Op.unary .neg (.float .f64 9218868437227405312)).run Tryd.prog w = .ok (.float .f64 F) w)
    (ht : textB F = s.data.toList) :
    Calls Tryd.prog 21 #[.string s] w fun e w' => ParseEnd s.data.toList e ∧ Below w.heap.size w w' := by
  have HCP := Lib.hid hcp
  have HF := Lib.hid hF
  have HV := Lib.hid hv
  obtain ⟨T, hT⟩ : ∃ T, textB F = T := ⟨_, rfl⟩
  have hcmp : (T == s.toList) = true := by rw [list_eq_iff, ← hT]; simp [ht]
  have HTF := Lib.hid hT
  have HTX := Lib.hid ht
  clear hcp hF hv hT ht
  subst h1
  go_enter Tryd.func21, Tryd.ntmps21
  go_wp2_with fail
  refine HCP.out.mono ?_
  rintro e w1 ⟨rfl, rfl⟩
  go_wp2_with fail
  refine (nan0_any _).mono ?_
  rintro e w1' ⟨rfl, rfl⟩
  go_wp2_with fail
  refine (inf_pos _).mono ?_
  rintro e w1' ⟨rfl, rfl⟩
  go_wp2_with fail
  refine (text_any _ HF.out _ HV.out).mono ?_
  rintro e w6 ⟨rfl, hb6⟩
  rw [HTF.out]
  have HB6 := Lib.hid hb6
  clear hb6
  go_wp2_with fail
  refine (canon_any _ _).mono ?_
  rintro e w7 ⟨rfl, rfl⟩
  go_wp2_with fail
  go_ret2
  exact ⟨.inl ⟨_, HF.out, HTX.out, rfl⟩, HB6.out⟩

set_option maxRecDepth 100000 in
theorem parse_inf_true_no (s wd : ByteArray) (F : Nat) (hF : F < 18446744073709551616) (w : World) (hv : Vars w) (hcp : Calls Tryd.prog 38 #[.string s, .string ⟨#[45]⟩] w fun e w' => e = .returned (.tuple #[.string wd, .bool true]) ∧ w' = w)
    (h1 : wd = ⟨#[105, 110, 102]⟩)
    (hneg : ∀ w, (Op.unary .neg (.float .f64 9218868437227405312)).run Tryd.prog w = .ok (.float .f64 F) w)
    (ht : textB F ≠ s.data.toList) (hno : ∀ f, f < 18446744073709551616 → textB f ≠ s.data.toList) :
    Calls Tryd.prog 21 #[.string s] w fun e w' => ParseEnd s.data.toList e ∧ Below w.heap.size w w' := by
  have HCP := Lib.hid hcp
  have HF := Lib.hid hF
  have HV := Lib.hid hv
  obtain ⟨T, hT⟩ : ∃ T, textB F = T := ⟨_, rfl⟩
  have hcmp : (T == s.toList) = false := by rw [list_eq_iff, ← hT]; simp [ht]
  have HTF := Lib.hid hT
  have HTX := Lib.hid ht
  have HNO := Lib.hid hno
  clear hno
  clear hcp hF hv hT ht
  subst h1
  go_enter Tryd.func21, Tryd.ntmps21
  go_wp2_with fail
  refine HCP.out.mono ?_
  rintro e w1 ⟨rfl, rfl⟩
  go_wp2_with fail
  refine (nan0_any _).mono ?_
  rintro e w1' ⟨rfl, rfl⟩
  go_wp2_with fail
  refine (inf_pos _).mono ?_
  rintro e w1' ⟨rfl, rfl⟩
  go_wp2_with fail
  refine (text_any _ HF.out _ HV.out).mono ?_
  rintro e w6 ⟨rfl, hb6⟩
  rw [HTF.out]
  have HB6 := Lib.hid hb6
  clear hb6
  go_wp2_with fail
  go_ret2
  exact ⟨.inr ⟨HNO.out, rfl⟩, HB6.out⟩

set_option maxRecDepth 100000 in
theorem parse_inf_false_yes (s wd : ByteArray) (F : Nat) (hF : F < 18446744073709551616) (w : World) (hv : Vars w) (hcp : Calls Tryd.prog 38 #[.string s, .string ⟨#[45]⟩] w fun e w' => e = .returned (.tuple #[.string wd, .bool false]) ∧ w' = w)
    (h1 : wd = ⟨#[105, 110, 102]⟩)
    (hfe : F = 9218868437227405312)
    (ht : textB F = s.data.toList) :
    Calls Tryd.prog 21 #[.string s] w fun e w' => ParseEnd s.data.toList e ∧ Below w.heap.size w w' := by
  have HCP := Lib.hid hcp
  have HF := Lib.hid hF
  have HV := Lib.hid hv
  obtain ⟨T, hT⟩ : ∃ T, textB F = T := ⟨_, rfl⟩
  have hcmp : (T == s.toList) = true := by rw [list_eq_iff, ← hT]; simp [ht]
  have HTF := Lib.hid hT
  have HTX := Lib.hid ht
  clear hcp hF hv hT ht
  subst h1
  subst hfe
  go_enter Tryd.func21, Tryd.ntmps21
  go_wp2_with fail
  refine HCP.out.mono ?_
  rintro e w1 ⟨rfl, rfl⟩
  go_wp2_with fail
  refine (nan0_any _).mono ?_
  rintro e w1' ⟨rfl, rfl⟩
  go_wp2_with fail
  refine (inf_pos _).mono ?_
  rintro e w1' ⟨rfl, rfl⟩
  go_wp2_with fail
  refine (text_any _ HF.out _ HV.out).mono ?_
  rintro e w6 ⟨rfl, hb6⟩
  rw [HTF.out]
  have HB6 := Lib.hid hb6
  clear hb6
  go_wp2_with fail
  refine (canon_any _ _).mono ?_
  rintro e w7 ⟨rfl, rfl⟩
  go_wp2_with fail
  go_ret2
  exact ⟨.inl ⟨_, HF.out, HTX.out, rfl⟩, HB6.out⟩

set_option maxRecDepth 100000 in
theorem parse_inf_false_no (s wd : ByteArray) (F : Nat) (hF : F < 18446744073709551616) (w : World) (hv : Vars w) (hcp : Calls Tryd.prog 38 #[.string s, .string ⟨#[45]⟩] w fun e w' => e = .returned (.tuple #[.string wd, .bool false]) ∧ w' = w)
    (h1 : wd = ⟨#[105, 110, 102]⟩)
    (hfe : F = 9218868437227405312)
    (ht : textB F ≠ s.data.toList) (hno : ∀ f, f < 18446744073709551616 → textB f ≠ s.data.toList) :
    Calls Tryd.prog 21 #[.string s] w fun e w' => ParseEnd s.data.toList e ∧ Below w.heap.size w w' := by
  have HCP := Lib.hid hcp
  have HF := Lib.hid hF
  have HV := Lib.hid hv
  obtain ⟨T, hT⟩ : ∃ T, textB F = T := ⟨_, rfl⟩
  have hcmp : (T == s.toList) = false := by rw [list_eq_iff, ← hT]; simp [ht]
  have HTF := Lib.hid hT
  have HTX := Lib.hid ht
  have HNO := Lib.hid hno
  clear hno
  clear hcp hF hv hT ht
  subst h1
  subst hfe
  go_enter Tryd.func21, Tryd.ntmps21
  go_wp2_with fail
  refine HCP.out.mono ?_
  rintro e w1 ⟨rfl, rfl⟩
  go_wp2_with fail
  refine (nan0_any _).mono ?_
  rintro e w1' ⟨rfl, rfl⟩
  go_wp2_with fail
  refine (inf_pos _).mono ?_
  rintro e w1' ⟨rfl, rfl⟩
  go_wp2_with fail
  refine (text_any _ HF.out _ HV.out).mono ?_
  rintro e w6 ⟨rfl, hb6⟩
  rw [HTF.out]
  have HB6 := Lib.hid hb6
  clear hb6
  go_wp2_with fail
  go_ret2
  exact ⟨.inr ⟨HNO.out, rfl⟩, HB6.out⟩

set_option maxRecDepth 100000 in
theorem parse_num_true (s wd : ByteArray) (w : World) (hv : Vars w) (hcp : Calls Tryd.prog 38 #[.string s, .string ⟨#[45]⟩] w fun e w' => e = .returned (.tuple #[.string wd, .bool true]) ∧ w' = w)
    (h1 : (wd.toList == [110, 97, 110]) = false) (h2 : (wd.toList == [105, 110, 102]) = false) (m e : ByteArray) (n : Nat) (hn : n < 9007199254740992) (k : Int)
    (hc : ∀ w, Calls Tryd.prog 39 #[.string wd, .string ⟨#[112]⟩] w fun en w' => (∃ b, en = .returned (.tuple #[.string m, .string e, .bool b])) ∧ Below w.heap.size w w')
    (hu : ∀ w, Vars w → Calls Tryd.prog 40 #[.string m, .int .i64 10, .int .i64 53] w fun en w' => en = .returned (.tuple #[.int .u64 n, .nilIface]) ∧ Below w.heap.size w w')
    (hk : ∀ w, Vars w → Calls Tryd.prog 41 #[.string e] w fun en w' => en = .returned (.tuple #[.int .i64 k, .nilIface]) ∧ Below w.heap.size w w')
    (hgood : ∀ y, LdexpIs n (clampZ k) y → (n = 0 → y = 0) → ∀ g, g < 18446744073709551616 → textB g = s.data.toList → textB (negB y) = s.data.toList) :
    Calls Tryd.prog 21 #[.string s] w fun e w' => ParseEnd s.data.toList e ∧ Below w.heap.size w w' := by
  have HCP := Lib.hid hcp
  have HV := Lib.hid hv
  have HC := Lib.hid hc
  have HU := Lib.hid hu
  have HK := Lib.hid hk
  have HG := Lib.hid hgood
  have HN := Lib.hid hn
  clear hc hu hk hn hgood hcp hv
  go_enter Tryd.func21, Tryd.ntmps21
  go_wp2_with fail
  refine HCP.out.mono ?_
  rintro e w1 ⟨rfl, rfl⟩
  go_wp2_with fail
  refine (nan0_any _).mono ?_
  rintro e w1' ⟨rfl, rfl⟩
  go_wp2_with fail
  refine (HC.out _).mono ?_
  rintro e w2 ⟨⟨b, rfl⟩, hb2⟩
  have HV2 := Lib.hid (HV.out.below hb2)
  have HB2 := Lib.hid hb2
  clear hb2
  go_wp2_with fail
  refine (HU.out _ HV2.out).mono ?_
  rintro e w3 ⟨rfl, hb3⟩
  have HV3 := Lib.hid (HV2.out.below hb3)
  have HB3 := Lib.hid (HB2.out.trans (hb3.mono HB2.out.size))
  clear hb3
  go_wp2_with fail
  refine (HK.out _ HV3.out).mono ?_
  rintro e w4 ⟨rfl, hb4⟩
  have HV4 := Lib.hid (HV3.out.below hb4)
  have HB4 := Lib.hid (HB3.out.trans (hb4.mono HB3.out.size))
  clear hb4
  go_wp2_with fail
  rw [wi_int]
  refine (Ldexp_any n (clampZ k) HN.out (by unfold clampZ; omega) (by unfold clampZ; omega) _).mono ?_
  rintro e w5 ⟨rfl, y, hy, hy0, rfl⟩
  have HGY := Lib.hid (HG.out y hy hy0)
  have HF := Lib.hid (show (negB y) < 18446744073709551616 from negB_lt hy.1)
  have hneg := run_neg y
  clear hy hy0
  obtain ⟨F, hF⟩ : ∃ F, (negB y) = F := ⟨_, rfl⟩
  rw [hF] at HGY HF hneg
  clear hF
  obtain ⟨T, hT⟩ : ∃ T, textB F = T := ⟨_, rfl⟩
  have HTF := Lib.hid hT
  by_cases ht : textB F = s.data.toList
  · have hcmp : (T == s.toList) = true := by rw [list_eq_iff, ← hT]; simp [ht]
    have HTX := Lib.hid ht
    clear ht hT
    go_wp2_with fail
    refine (text_any _ HF.out _ HV4.out).mono ?_
    rintro e w6 ⟨rfl, hb6⟩
    rw [HTF.out]
    have HB6 := Lib.hid (HB4.out.trans (hb6.mono HB4.out.size))
    clear hb6
    go_wp2_with fail
    refine (canon_any _ _).mono ?_
    rintro e w7 ⟨rfl, rfl⟩
    go_wp2_with fail
    go_ret2
    exact ⟨.inl ⟨_, HF.out, HTX.out, rfl⟩, HB6.out⟩
  · have hcmp : (T == s.toList) = false := by rw [list_eq_iff, ← hT]; simp [ht]
    have HNO := Lib.hid (show ∀ g, g < 18446744073709551616 → textB g ≠ s.data.toList from fun g hg e => ht (HGY.out g hg e))
    clear ht hT
    go_wp2_with fail
    refine (text_any _ HF.out _ HV4.out).mono ?_
    rintro e w6 ⟨rfl, hb6⟩
    rw [HTF.out]
    have HB6 := Lib.hid (HB4.out.trans (hb6.mono HB4.out.size))
    clear hb6
    go_wp2_with fail
    go_ret2
    exact ⟨.inr ⟨HNO.out, rfl⟩, HB6.out⟩

set_option maxRecDepth 100000 in
theorem parse_num_false (s wd : ByteArray) (w : World) (hv : Vars w) (hcp : Calls Tryd.prog 38 #[.string s, .string ⟨#[45]⟩] w fun e w' => e = .returned (.tuple #[.string wd, .bool false]) ∧ w' = w)
    (h1 : (wd.toList == [110, 97, 110]) = false) (h2 : (wd.toList == [105, 110, 102]) = false) (m e : ByteArray) (n : Nat) (hn : n < 9007199254740992) (k : Int)
    (hc : ∀ w, Calls Tryd.prog 39 #[.string wd, .string ⟨#[112]⟩] w fun en w' => (∃ b, en = .returned (.tuple #[.string m, .string e, .bool b])) ∧ Below w.heap.size w w')
    (hu : ∀ w, Vars w → Calls Tryd.prog 40 #[.string m, .int .i64 10, .int .i64 53] w fun en w' => en = .returned (.tuple #[.int .u64 n, .nilIface]) ∧ Below w.heap.size w w')
    (hk : ∀ w, Vars w → Calls Tryd.prog 41 #[.string e] w fun en w' => en = .returned (.tuple #[.int .i64 k, .nilIface]) ∧ Below w.heap.size w w')
    (hgood : ∀ y, LdexpIs n (clampZ k) y → (n = 0 → y = 0) → ∀ g, g < 18446744073709551616 → textB g = s.data.toList → textB y = s.data.toList) :
    Calls Tryd.prog 21 #[.string s] w fun e w' => ParseEnd s.data.toList e ∧ Below w.heap.size w w' := by
  have HCP := Lib.hid hcp
  have HV := Lib.hid hv
  have HC := Lib.hid hc
  have HU := Lib.hid hu
  have HK := Lib.hid hk
  have HG := Lib.hid hgood
  have HN := Lib.hid hn
  clear hc hu hk hn hgood hcp hv
  go_enter Tryd.func21, Tryd.ntmps21
  go_wp2_with fail
  refine HCP.out.mono ?_
  rintro e w1 ⟨rfl, rfl⟩
  go_wp2_with fail
  refine (nan0_any _).mono ?_
  rintro e w1' ⟨rfl, rfl⟩
  go_wp2_with fail
  refine (HC.out _).mono ?_
  rintro e w2 ⟨⟨b, rfl⟩, hb2⟩
  have HV2 := Lib.hid (HV.out.below hb2)
  have HB2 := Lib.hid hb2
  clear hb2
  go_wp2_with fail
  refine (HU.out _ HV2.out).mono ?_
  rintro e w3 ⟨rfl, hb3⟩
  have HV3 := Lib.hid (HV2.out.below hb3)
  have HB3 := Lib.hid (HB2.out.trans (hb3.mono HB2.out.size))
  clear hb3
  go_wp2_with fail
  refine (HK.out _ HV3.out).mono ?_
  rintro e w4 ⟨rfl, hb4⟩
  have HV4 := Lib.hid (HV3.out.below hb4)
  have HB4 := Lib.hid (HB3.out.trans (hb4.mono HB3.out.size))
  clear hb4
  go_wp2_with fail
  rw [wi_int]
  refine (Ldexp_any n (clampZ k) HN.out (by unfold clampZ; omega) (by unfold clampZ; omega) _).mono ?_
  rintro e w5 ⟨rfl, y, hy, hy0, rfl⟩
  have HGY := Lib.hid (HG.out y hy hy0)
  have HF := Lib.hid (show y < 18446744073709551616 from hy.1)
  have hneg := run_neg y
  clear hy hy0
  obtain ⟨F, hF⟩ : ∃ F, y = F := ⟨_, rfl⟩
  rw [hF] at HGY HF
  subst hF
  obtain ⟨T, hT⟩ : ∃ T, textB y = T := ⟨_, rfl⟩
  have HTF := Lib.hid hT
  by_cases ht : textB y = s.data.toList
  · have hcmp : (T == s.toList) = true := by rw [list_eq_iff, ← hT]; simp [ht]
    have HTX := Lib.hid ht
    clear ht hT
    go_wp2_with fail
    refine (text_any _ HF.out _ HV4.out).mono ?_
    rintro e w6 ⟨rfl, hb6⟩
    rw [HTF.out]
    have HB6 := Lib.hid (HB4.out.trans (hb6.mono HB4.out.size))
    clear hb6
    go_wp2_with fail
    refine (canon_any _ _).mono ?_
    rintro e w7 ⟨rfl, rfl⟩
    go_wp2_with fail
    go_ret2
    exact ⟨.inl ⟨_, HF.out, HTX.out, rfl⟩, HB6.out⟩
  · have hcmp : (T == s.toList) = false := by rw [list_eq_iff, ← hT]; simp [ht]
    have HNO := Lib.hid (show ∀ g, g < 18446744073709551616 → textB g ≠ s.data.toList from fun g hg e => ht (HGY.out g hg e))
    clear ht hT
    go_wp2_with fail
    refine (text_any _ HF.out _ HV4.out).mono ?_
    rintro e w6 ⟨rfl, hb6⟩
    rw [HTF.out]
    have HB6 := Lib.hid (HB4.out.trans (hb6.mono HB4.out.size))
    clear hb6
    go_wp2_with fail
    go_ret2
    exact ⟨.inr ⟨HNO.out, rfl⟩, HB6.out⟩

set_option maxRecDepth 100000 in
theorem parse_bad_m (s wd : ByteArray) (neg : Bool) (w : World) (hv : Vars w) (hcp : Calls Tryd.prog 38 #[.string s, .string ⟨#[45]⟩] w fun e w' => e = .returned (.tuple #[.string wd, .bool neg]) ∧ w' = w)
    (h1 : (wd.toList == [110, 97, 110]) = false) (h2 : (wd.toList == [105, 110, 102]) = false) (m e : ByteArray)
    (hc : ∀ w, Calls Tryd.prog 39 #[.string wd, .string ⟨#[112]⟩] w fun en w' => (∃ b, en = .returned (.tuple #[.string m, .string e, .bool b])) ∧ Below w.heap.size w w')
    (hu : ∀ w, Vars w → Calls Tryd.prog 40 #[.string m, .int .i64 10, .int .i64 53] w fun en w' => (∃ v N, en = .returned (.tuple #[.int .u64 v, .iface 80 (.pointer (some ⟨N, 0, none⟩))])) ∧ Below w.heap.size w w')
    (hk : ∀ w, Vars w → Calls Tryd.prog 41 #[.string e] w fun en w' => ((∃ n, en = .returned (.tuple #[.int .i64 n, .nilIface])) ∨ (∃ v N, en = .returned (.tuple #[.int .i64 v, .iface 80 (.pointer (some ⟨N, 0, none⟩))]))) ∧ Below w.heap.size w w')
    (hno : ∀ f, f < 18446744073709551616 → textB f ≠ s.data.toList) :
    Calls Tryd.prog 21 #[.string s] w fun e w' => ParseEnd s.data.toList e ∧ Below w.heap.size w w' := by
  have HCP := Lib.hid hcp
  have HV := Lib.hid hv
  have HNO := Lib.hid hno
  have HC := Lib.hid hc
  have HU := Lib.hid hu
  have HK := Lib.hid hk
  clear hc hu hk hno hcp hv
  go_enter Tryd.func21, Tryd.ntmps21
  go_wp2_with fail
  refine HCP.out.mono ?_
  rintro e w1 ⟨rfl, rfl⟩
  go_wp2_with fail
  refine (nan0_any _).mono ?_
  rintro e w1' ⟨rfl, rfl⟩
  go_wp2_with fail
  refine (HC.out _).mono ?_
  rintro e w2 ⟨⟨b, rfl⟩, hb2⟩
  have HV2 := Lib.hid (HV.out.below hb2)
  have HB2 := Lib.hid hb2
  clear hb2
  go_wp2_with fail
  refine (HU.out _ HV2.out).mono ?_
  rintro e w3 ⟨⟨v, N, rfl⟩, hb3⟩
  have HV3 := Lib.hid (HV2.out.below hb3)
  have HB3 := Lib.hid (HB2.out.trans (hb3.mono HB2.out.size))
  clear hb3
  go_wp2_with fail
  refine (HK.out _ HV3.out).mono ?_
  rintro e w4 ⟨⟨k, rfl⟩ | ⟨v2, N2, rfl⟩, hb4⟩
  · have HB4 := Lib.hid (HB3.out.trans (hb4.mono HB3.out.size))
    clear hb4
    go_wp2_with fail
    go_ret2
    exact ⟨.inr ⟨HNO.out, rfl⟩, HB4.out⟩
  · have HB4 := Lib.hid (HB3.out.trans (hb4.mono HB3.out.size))
    clear hb4
    go_wp2_with fail
    go_ret2
    exact ⟨.inr ⟨HNO.out, rfl⟩, HB4.out⟩

set_option maxRecDepth 100000 in
theorem parse_bad_e (s wd : ByteArray) (neg : Bool) (w : World) (hv : Vars w) (hcp : Calls Tryd.prog 38 #[.string s, .string ⟨#[45]⟩] w fun e w' => e = .returned (.tuple #[.string wd, .bool neg]) ∧ w' = w)
    (h1 : (wd.toList == [110, 97, 110]) = false) (h2 : (wd.toList == [105, 110, 102]) = false) (m e : ByteArray)
    (hc : ∀ w, Calls Tryd.prog 39 #[.string wd, .string ⟨#[112]⟩] w fun en w' => (∃ b, en = .returned (.tuple #[.string m, .string e, .bool b])) ∧ Below w.heap.size w w')
    (hu : ∀ w, Vars w → Calls Tryd.prog 40 #[.string m, .int .i64 10, .int .i64 53] w fun en w' => (∃ n : Nat, en = .returned (.tuple #[.int .u64 n, .nilIface])) ∧ Below w.heap.size w w')
    (hk : ∀ w, Vars w → Calls Tryd.prog 41 #[.string e] w fun en w' => (∃ v N, en = .returned (.tuple #[.int .i64 v, .iface 80 (.pointer (some ⟨N, 0, none⟩))])) ∧ Below w.heap.size w w')
    (hno : ∀ f, f < 18446744073709551616 → textB f ≠ s.data.toList) :
    Calls Tryd.prog 21 #[.string s] w fun e w' => ParseEnd s.data.toList e ∧ Below w.heap.size w w' := by
  have HCP := Lib.hid hcp
  have HV := Lib.hid hv
  have HNO := Lib.hid hno
  have HC := Lib.hid hc
  have HU := Lib.hid hu
  have HK := Lib.hid hk
  clear hc hu hk hno hcp hv
  go_enter Tryd.func21, Tryd.ntmps21
  go_wp2_with fail
  refine HCP.out.mono ?_
  rintro e w1 ⟨rfl, rfl⟩
  go_wp2_with fail
  refine (nan0_any _).mono ?_
  rintro e w1' ⟨rfl, rfl⟩
  go_wp2_with fail
  refine (HC.out _).mono ?_
  rintro e w2 ⟨⟨b, rfl⟩, hb2⟩
  have HV2 := Lib.hid (HV.out.below hb2)
  have HB2 := Lib.hid hb2
  clear hb2
  go_wp2_with fail
  refine (HU.out _ HV2.out).mono ?_
  rintro e w3 ⟨⟨n, rfl⟩, hb3⟩
  have HV3 := Lib.hid (HV2.out.below hb3)
  have HB3 := Lib.hid (HB2.out.trans (hb3.mono HB2.out.size))
  clear hb3
  go_wp2_with fail
  refine (HK.out _ HV3.out).mono ?_
  rintro e w4 ⟨⟨v2, N2, rfl⟩, hb4⟩
  have HB4 := Lib.hid (HB3.out.trans (hb4.mono HB3.out.size))
  clear hb4
  go_wp2_with fail
  go_ret2
  exact ⟨.inr ⟨HNO.out, rfl⟩, HB4.out⟩

theorem body_is_inf {r : Nat} (h : bodyB r = [105, 110, 102]) : r = 9218868437227405312 := by
  by_cases h1 : r = 9218868437227405312
  · exact h1
  · exfalso
    unfold bodyB at h
    rw [if_neg h1] at h
    by_cases h0 : r = 0
    · rw [if_pos h0] at h; revert h; decide
    · rw [if_neg h0] at h
      obtain ⟨c, l, e⟩ := dec_cons (magB r)
      have hd := dec_digits (magB r) c (by rw [e]; simp)
      rw [e] at h
      injection h with h _
      subst h
      revert hd
      decide

/-- num.Parse -/
theorem parse_any (s : ByteArray) (hs : s.size ≤ 1000000) (w : World) (hv : Vars w) : Calls Tryd.prog 21 #[.string s] w fun e w' => ParseEnd s.data.toList e ∧ Below w.heap.size w w' := by
  have hcp := Tryd.strings_CutPrefix s ⟨#[45]⟩ w
  have h45 : (⟨#[45]⟩ : ByteArray).data.toList = [45] := rfl
  rw [h45] at hcp
  obtain ⟨wl, hwl⟩ : ∃ wl, Lib.trimPrefix s.data.toList [45] = wl := ⟨_, rfl⟩
  obtain ⟨neg, hneg⟩ : ∃ neg, Lib.hasPrefix s.data.toList [45] = neg := ⟨_, rfl⟩
  have hlen : wl.length ≤ 1000000 := by
    rw [← hwl]
    unfold Lib.trimPrefix
    have : s.data.toList.length = s.size := by simp
    split
    · rw [List.length_drop]; omega
    · omega
  rw [hwl, hneg] at hcp
  by_cases h1 : wl = [110, 97, 110]
  · subst h1
    have hno : ∀ F, (neg = false → textB F = [110, 97, 110]) → textB F ≠ s.data.toList → ∀ g, g < 18446744073709551616 → textB g ≠ s.data.toList := by
      intro F hF ht g hg e
      rcases text_split g _ e with ⟨a, b⟩ | ⟨a, b, c, d⟩
      · rw [b] at hneg ht
        rw [(trim_pos 110 _ (by decide)).1] at hneg
        exact ht (hF hneg.symm)
      · rw [hwl] at c
        exact body_not_nan _ c.symm
    cases neg with
    | true =>
      by_cases ht : textB (negB 9221120237041090561) = s.data.toList
      · exact parse_nan_true_yes s _ _ (negB_lt (by decide)) w hv hcp rfl (run_neg _) ht
      · exact parse_nan_true_no s _ _ (negB_lt (by decide)) w hv hcp rfl (run_neg _) ht (hno _ (fun e => by cases e) ht)
    | false =>
      by_cases ht : textB 9221120237041090561 = s.data.toList
      · exact parse_nan_false_yes s _ _ (by decide) w hv hcp rfl rfl ht
      · exact parse_nan_false_no s _ _ (by decide) w hv hcp rfl rfl ht (hno _ (fun _ => by unfold textB; rw [if_pos nan_canon]) ht)
  · by_cases h2 : wl = [105, 110, 102]
    · subst h2
      have hno : textB (flipB neg 9218868437227405312) ≠ s.data.toList → ∀ g, g < 18446744073709551616 → textB g ≠ s.data.toList := by
        intro ht g hg e
        rcases text_split g _ e with ⟨a, b⟩ | ⟨a, b, c, d⟩
        · rw [b] at hwl
          rw [(trim_pos 110 _ (by decide)).2] at hwl
          revert hwl; decide
        · rw [hwl] at c
          have hr := body_is_inf c.symm
          rw [hneg] at b
          rw [b, flip_same hg hr] at ht
          exact ht e
      cases neg with
      | true =>
        by_cases ht : textB (negB 9218868437227405312) = s.data.toList
        · exact parse_inf_true_yes s _ _ (negB_lt (by decide)) w hv hcp rfl (run_neg _) ht
        · exact parse_inf_true_no s _ _ (negB_lt (by decide)) w hv hcp rfl (run_neg _) ht (hno ht)
      | false =>
        by_cases ht : textB 9218868437227405312 = s.data.toList
        · exact parse_inf_false_yes s _ _ (by decide) w hv hcp rfl rfl ht
        · exact parse_inf_false_no s _ _ (by decide) w hv hcp rfl rfl ht (hno ht)
    · have e1 : ((⟨wl.toArray⟩ : ByteArray).toList == [110, 97, 110]) = false := by rw [ByteArray.toList_mk]; simpa using h1
      have e2 : ((⟨wl.toArray⟩ : ByteArray).toList == [105, 110, 102]) = false := by rw [ByteArray.toList_mk]; simpa using h2
      have hsz : (⟨wl.toArray⟩ : ByteArray).size = wl.length := by simp [ByteArray.size]
      have hc : ∀ w, Calls Tryd.prog 39 #[.string ⟨wl.toArray⟩, .string ⟨#[112]⟩] w fun en w' => (∃ b, en = .returned (.tuple #[.string ⟨(cutM wl).toArray⟩, .string ⟨(cutE wl).toArray⟩, .bool b])) ∧ Below w.heap.size w w' := fun w => cut_any ⟨wl.toArray⟩ (by omega) w
      have hm : (⟨(cutM wl).toArray⟩ : ByteArray).size ≤ 1000000 := by
        have := (List.takeWhile_sublist (l := wl) (fun x => x != (112 : UInt8))).length_le
        have e : (⟨(cutM wl).toArray⟩ : ByteArray).size = (cutM wl).length := by simp [ByteArray.size]
        rw [e]; unfold cutM; omega
      have he : (⟨(cutE wl).toArray⟩ : ByteArray).size ≤ 1000000 := by
        have := (List.dropWhile_sublist (l := wl) (fun x => x != (112 : UInt8))).length_le
        have e : (⟨(cutE wl).toArray⟩ : ByteArray).size = (cutE wl).length := by simp [ByteArray.size]
        rw [e]; unfold cutE; rw [List.length_drop]; omega
      have hu0 := fun w hv => parseUint53_any ⟨(cutM wl).toArray⟩ (by omega) w hv
      have hk0 := fun w hv => atoi_any ⟨(cutE wl).toArray⟩ (by omega) w hv
      subst hwl
      by_cases hue : ∃ n, uint53 (cutM (Lib.trimPrefix s.data.toList [45])) = .ok n
      · obtain ⟨n, hu⟩ := hue
        have hu1 : ∀ w, Vars w → Calls Tryd.prog 40 #[.string ⟨(cutM (Lib.trimPrefix s.data.toList [45])).toArray⟩, .int .i64 10, .int .i64 53] w fun en w' => en = .returned (.tuple #[.int .u64 n, .nilIface]) ∧ Below w.heap.size w w' := fun w hv => (hu0 w hv).mono (by
          rintro e w' ⟨⟨n', a, b⟩ | ⟨a, b⟩, c⟩
          · rw [show uint53 _ = _ from hu] at a
            injection a with a
            subst a
            exact ⟨b, c⟩
          · exact absurd hu (a n))
        by_cases hke : ∃ k, Lib.atoiAll (cutE (Lib.trimPrefix s.data.toList [45])) = .ok k
        · obtain ⟨k, hk⟩ := hke
          have hk1 : ∀ w, Vars w → Calls Tryd.prog 41 #[.string ⟨(cutE (Lib.trimPrefix s.data.toList [45])).toArray⟩] w fun en w' => en = .returned (.tuple #[.int .i64 k, .nilIface]) ∧ Below w.heap.size w w' := fun w hv => (hk0 w hv).mono (by
            rintro e w' ⟨⟨n', a, b⟩ | ⟨a, b⟩, c⟩
            · rw [show Lib.atoiAll _ = _ from hk] at a
              injection a with a
              subst a
              exact ⟨b, c⟩
            · exact absurd hk (a k))
          have hgood := fun y h5 h6 => is_text (l := s.data.toList) (n := n) (y := y) (k := k) h1 h2 hu hk h5 h6
          rw [hneg] at hgood
          cases neg with
          | true => exact parse_num_true s _ w hv hcp e1 e2 _ _ n (uint53_lt hu) k hc hu1 hk1 hgood
          | false => exact parse_num_false s _ w hv hcp e1 e2 _ _ n (uint53_lt hu) k hc hu1 hk1 hgood
        · have hk : ∀ k, Lib.atoiAll (cutE (Lib.trimPrefix s.data.toList [45])) ≠ .ok k := fun k e => hke ⟨k, e⟩
          exact parse_bad_e s _ neg w hv hcp e1 e2 _ _ hc (fun w hv => (hu1 w hv).mono (by rintro e w' ⟨a, b⟩; exact ⟨⟨n, a⟩, b⟩)) (fun w hv => (hk0 w hv).mono (by
            rintro e w' ⟨⟨n', a, b⟩ | ⟨a, b⟩, c⟩
            · exact absurd a (hk n')
            · exact ⟨b, c⟩)) (no_text h1 h2 (.inr hk))
      · have hu : ∀ n, uint53 (cutM (Lib.trimPrefix s.data.toList [45])) ≠ .ok n := fun n e => hue ⟨n, e⟩
        exact parse_bad_m s _ neg w hv hcp e1 e2 _ _ hc (fun w hv => (hu0 w hv).mono (by
          rintro e w' ⟨⟨n', a, b⟩ | ⟨a, b⟩, c⟩
          · exact absurd a (hu n')
          · exact ⟨b, c⟩)) (fun w hv => (hk0 w hv).mono (by
          rintro e w' ⟨⟨n', a, b⟩ | ⟨a, b⟩, c⟩
          · exact ⟨.inl ⟨n', b⟩, c⟩
          · exact ⟨.inr b, c⟩)) (no_text h1 h2 (.inl hu))
end Go.Proofs.YtnbpioinhjijcaaDoor

