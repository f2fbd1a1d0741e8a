import Derived.Test.YtnbpioinhjijcaaDoorRp4
/-! NumTexts: the walk. -/
namespace Go.Proofs.YtnbpioinhjijcaaDoor
open Go.RowKit Bk

theorem parse_det {l : List UInt8} {e1 e2 : Ending} (h1 : ParseEnd l e1) (h2 : ParseEnd l e2) : e2 = e1 := by
  rcases h1 with ⟨f, f1, f2, rfl⟩ | ⟨n1, rfl⟩
  · rcases h2 with ⟨g, g1, g2, rfl⟩ | ⟨n2, _⟩
    · rw [text_inj g1 f1 (g2.trans f2.symm)]
    · exact absurd f2 (n2 f f1)
  · rcases h2 with ⟨g, g1, g2, _⟩ | ⟨n2, rfl⟩
    · exact absurd g2 (n1 g g1)
    · rfl
theorem parse_end {l : List UInt8} {e : Ending} (h : ParseEnd l e) : ∃ g n : Nat, e = .returned (.tuple #[.float .f64 g, .int .i64 n]) := by
  rcases h with ⟨f, f1, f2, rfl⟩ | ⟨n1, rfl⟩
  · exact ⟨_, 0, rfl⟩
  · exact ⟨0, 2, rfl⟩

set_option maxRecDepth 100000 in
theorem texts_walk (a : Nat) (s : ByteArray) (ha : a < 18446744073709551616) (w : World) (hv : Vars w) :
    Calls Tryd.prog 4 #[.int .u64 a, .string s] w fun e w' => e = .returned (.bool true) ∧ Below w.heap.size w w' := by
  have HS := Lib.hid (shown_any w hv)
  have HV := Lib.hid hv
  have HA := Lib.hid ha
  obtain ⟨q, hq, hq0, hq1, hq2, hq3⟩ := cut50 s
  have HQ2 := Lib.hid hq2
  clear hv ha hq2
  go_enter Tryd.func4, Tryd.ntmps4
  go_wp2_with fail
  refine HS.out.mono ?_
  rintro e w1 ⟨rfl, hb1⟩
  have HB1 := Lib.hid hb1
  have HV1 := Lib.hid (HV.out.below hb1)
  clear hb1
  go_wp2_with fail
  refine (of_any a w1).mono ?_
  rintro e w2 ⟨rfl, rfl⟩
  go_wp2_with fail
  refine (parse_any (s.extract 0 q) (Nat.le_trans HQ2.out (by omega)) w1 HV1.out).mono ?_
  rintro e w2 ⟨hend, hb2⟩
  have HB2 := Lib.hid (HB1.out.trans (hb2.mono HB1.out.size))
  have HV2 := Lib.hid (HV1.out.below hb2)
  clear hb2
  obtain ⟨g, n, rfl⟩ := parse_end hend
  have HE := Lib.hid hend
  clear hend
  go_wp2_with fail
  refine (refParse_any (s.extract 0 q) (Nat.le_trans HQ2.out (by omega)) w2).mono ?_
  rintro e w3 ⟨hend, rfl⟩
  obtain rfl := parse_det HE.out hend
  clear hend
  go_wp2_with fail
  refine (text_any a HA.out w2 HV2.out).mono ?_
  rintro e w3 ⟨rfl, hb3⟩
  have HB3 := Lib.hid (HB2.out.trans (hb3.mono HB2.out.size))
  clear hb3
  go_wp2_with fail
  refine (refText_any a HA.out w3).mono ?_
  rintro e w4 ⟨rfl, hb4⟩
  have HB4 := Lib.hid (HB3.out.trans (hb4.mono HB3.out.size))
  clear hb4
  go_wp2_with fail
  refine (same_any g g w4).mono ?_
  rintro e w5 ⟨rfl, rfl⟩
  go_wp2_with fail
  go_ret
  exact ⟨by simp, HB4.out⟩
end Go.Proofs.YtnbpioinhjijcaaDoor
