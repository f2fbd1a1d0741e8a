import Derived.Test.YtnbpioinhjijcaaDoorPu
/-! strconv.ParseUint at 53 bits, Atoi. -/
namespace Go.Proofs.YtnbpioinhjijcaaDoor
open Go.RowKit

def uint53 (l : List UInt8) : Lib.NumEnd Nat := if l = [] then Lib.parseMag [] else Lib.parseUintM 9007199254740991 0 l
theorem below_bytes (w : World) (t : ByteArray) : Below w.heap.size w (Lib.bytesWorld w 5 t) := Lib.bytesWorld_below w 5 t
set_option maxRecDepth 100000 in
theorem parseUint53_empty (w : World) : Calls Tryd.prog 59 #[.string ⟨#[]⟩, .int .i64 10, .int .i64 53] w fun e w' => e = .returned (.tuple #[.int .u64 0, .iface 77 (.int .i64 2)]) ∧ w' = w := by
  go_enter Tryd.func59, Tryd.ntmps59
  go_wp2
  go_ret2
  exact ⟨rfl, rfl⟩
theorem end_cases (x : Lib.NumEnd Nat) : (∃ n, x = .ok n) ∨ ((∀ n, x ≠ .ok n) ∧ Lib.uintTupleM 77 9007199254740991 x = .tuple #[.int .u64 0, .iface 77 (.int .i64 2)]) ∨ ((∀ n, x ≠ .ok n) ∧ Lib.uintTupleM 77 9007199254740991 x = .tuple #[.int .u64 9007199254740991, .iface 77 (.int .i64 1)]) := by
  cases x <;> simp [Lib.uintTupleM]
theorem int_cases (x : Lib.NumEnd Int) : (∃ n, x = .ok n) ∨ x = .range ∨ x = Lib.atoiAll [] := by
  cases x <;> simp [Lib.atoiAll]
/-- A number and no error, or an error. -/
def UintEnd (e : Ending) (r : Lib.NumEnd Nat) : Prop := (∃ n, r = .ok n ∧ e = .returned (.tuple #[.int .u64 n, .nilIface])) ∨ ((∀ n, r ≠ .ok n) ∧ ∃ v N, e = .returned (.tuple #[.int .u64 v, .iface 80 (.pointer (some ⟨N, 0, none⟩))]))
set_option maxRecDepth 100000 in
theorem parseUint53_any (s : ByteArray) (hs : s.size ≤ 281474976710656) (w : World) (hv : Vars w) :
    Calls Tryd.prog 40 #[.string s, .int .i64 10, .int .i64 53] w fun e w' => UintEnd e (uint53 s.data.toList) ∧ Below w.heap.size w w' := by
  obtain ⟨ev, hv2, hev⟩ := hv.syn
  have HV := Lib.hid hv
  by_cases h0 : s.size = 0
  · obtain rfl : s = ⟨#[]⟩ := by
      obtain ⟨d⟩ := s
      have : d.size = 0 := h0
      rw [Array.eq_empty_of_size_eq_zero this]
    clear hv h0 hs
    have HT := Lib.hid (Tryd.strconv_toError_syntax ⟨#[80, 97, 114, 115, 101, 85, 105, 110, 116]⟩ ⟨#[]⟩ 10 53 ev w (by decide) hv2 hev)
    clear hv2 hev
    go_enter Tryd.func40, Tryd.ntmps40
    go_wp2_with fail
    refine (parseUint53_empty w).mono ?_
    rintro e w1 ⟨rfl, rfl⟩
    go_wp2_with fail
    refine HT.out.mono ?_
    rintro e w2 ⟨N, rfl, _, _, hb⟩
    go_wp2_with fail
    go_ret2
    exact ⟨.inr ⟨by simp [uint53, Lib.parseMag], 0, N, rfl⟩, hb⟩
  · have hb0 := below_bytes w s
    have HI := Lib.hid (parseUint53_in s h0 (by omega) w)
    have hu : uint53 s.data.toList = Lib.parseUintM 9007199254740991 0 s.data.toList := if_neg (fun e => h0 (by
      have : s.data.size = s.data.toList.length := by simp
      show s.data.size = 0
      rw [this, e]; rfl))
    rw [hu]
    have HS := Lib.hid hs
    clear hv2 hev hv h0 hs hu
    generalize Lib.bytesWorld w 5 s = w1 at *
    have HV1 := HV.out.below hb0
    obtain ⟨ev1, hs1, hs2⟩ := HV1.syn
    obtain ⟨ev2, hr1, hr2⟩ := HV1.rng
    have HT1 := Lib.hid (Tryd.strconv_toError_syntax ⟨#[80, 97, 114, 115, 101, 85, 105, 110, 116]⟩ s 10 53 ev1 w1 HS.out hs1 hs2)
    have HT2 := Lib.hid (Tryd.strconv_toError_range ⟨#[80, 97, 114, 115, 101, 85, 105, 110, 116]⟩ s 10 53 ev2 w1 HS.out hr1 hr2)
    have HB0 := Lib.hid hb0
    clear HV1 hs1 hs2 hr1 hr2 hb0
    rcases end_cases (Lib.parseUintM 9007199254740991 0 s.data.toList) with ⟨n, hr⟩ | ⟨hno, hr⟩ | ⟨hno, hr⟩
    · rw [hr] at HI
      rw [hr]
      clear hr
      go_enter Tryd.func40, Tryd.ntmps40
      go_wp2_with fail
      refine HI.out.mono ?_
      rintro e w1' ⟨rfl, rfl⟩
      simp only [Lib.uintTupleM]
      go_wp2_with fail
      go_ret2
      exact ⟨.inl ⟨n, rfl, rfl⟩, HB0.out⟩
    · rw [hr] at HI
      have HNO := Lib.hid hno
      clear hr hno
      go_enter Tryd.func40, Tryd.ntmps40
      go_wp2_with fail
      refine HI.out.mono ?_
      rintro e w1' ⟨rfl, rfl⟩
      go_wp2_with fail
      refine HT1.out.mono ?_
      rintro e w2 ⟨N, rfl, _, _, hb⟩
      go_wp2_with fail
      go_ret2
      exact ⟨.inr ⟨HNO.out, _, N, rfl⟩, HB0.out.trans (hb.mono HB0.out.size)⟩
    · rw [hr] at HI
      have HNO := Lib.hid hno
      clear hr hno
      go_enter Tryd.func40, Tryd.ntmps40
      go_wp2_with fail
      refine HI.out.mono ?_
      rintro e w1' ⟨rfl, rfl⟩
      go_wp2_with fail
      refine HT2.out.mono ?_
      rintro e w2 ⟨N, rfl, _, _, hb⟩
      go_wp2_with fail
      go_ret2
      exact ⟨.inr ⟨HNO.out, _, N, rfl⟩, HB0.out.trans (hb.mono HB0.out.size)⟩

/-- A whole number and no error, or an error. -/
def IntEnd (e : Ending) (r : Lib.NumEnd Int) : Prop := (∃ n, r = .ok n ∧ e = .returned (.tuple #[.int .i64 n, .nilIface])) ∨ ((∀ n, r ≠ .ok n) ∧ ∃ v N, e = .returned (.tuple #[.int .i64 v, .iface 80 (.pointer (some ⟨N, 0, none⟩))]))
theorem atoi_any (s : ByteArray) (hs : s.size ≤ 281474976710656) (w : World) (hv : Vars w) :
    Calls Tryd.prog 41 #[.string s] w fun e w' => IntEnd e (Lib.atoiAll s.data.toList) ∧ Below w.heap.size w w' := by
  obtain ⟨ev1, hs1, hs2⟩ := hv.syn
  obtain ⟨ev2, hr1, hr2⟩ := hv.rng
  rcases int_cases (Lib.atoiAll s.data.toList) with ⟨n, hr⟩ | hr | hr
  · rw [hr]
    refine (Tryd.strconv_Atoi_ok s (by omega) n hr w).mono ?_
    rintro e w' ⟨rfl, rfl | ⟨t, rfl⟩⟩
    · exact ⟨.inl ⟨n, rfl, rfl⟩, Below.refl _ _⟩
    · exact ⟨.inl ⟨n, rfl, rfl⟩, below_bytes w t⟩
  · rw [hr]
    refine (Tryd.strconv_Atoi_range s hs hr ev2 w hr1 hr2).mono ?_
    rintro e w' ⟨N, rfl, _, _, hb⟩
    exact ⟨.inr ⟨by simp, _, N, rfl⟩, hb⟩
  · rw [hr]
    refine (Tryd.strconv_Atoi_syntax s hs hr ev1 w hs1 hs2).mono ?_
    rintro e w' ⟨N, rfl, _, _, hb⟩
    exact ⟨.inr ⟨by simp [Lib.atoiAll], _, N, rfl⟩, hb⟩
end Go.Proofs.YtnbpioinhjijcaaDoor
