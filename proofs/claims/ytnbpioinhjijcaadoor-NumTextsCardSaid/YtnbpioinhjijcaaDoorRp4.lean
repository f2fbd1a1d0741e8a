import Derived.Test.YtnbpioinhjijcaaDoorRp3
/-! ref01.Parse of any: joined. -/
namespace Go.Proofs.YtnbpioinhjijcaaDoor
open Go.RowKit Bk

theorem size_list (T : ByteArray) : T.size = T.data.toList.length := by simp
theorem beq_list (T : ByteArray) (L : List UInt8) (h : T.data.toList ≠ L) : (T.toList == L) = false := by
  rw [ByteArray.toList_eq, beq_eq_false_iff_ne]; exact h
theorem list_take (T : ByteArray) (i : Nat) : (T.extract 0 i).data.toList = T.data.toList.take i := by rw [extract_take]
theorem list_drop (T : ByteArray) (i : Nat) : (T.extract i T.size).data.toList = T.data.toList.drop i := by rw [extract_drop]
theorem drop_cons (T : ByteArray) (c : Nat) (h : c < T.size) : T.data.toList.drop c = T[c]'h :: T.data.toList.drop (c + 1) := by
  have h2 : c < T.data.toList.length := by rw [← size_list]; exact h
  rw [List.drop_eq_getElem_cons h2]; rfl
theorem no_empty : NoText [] := by
  intro f hf e
  rcases text_split f _ e with ⟨a, b⟩ | ⟨a, b, c, d⟩
  · cases b
  · obtain ⟨y, t, e2, _⟩ := body_head (f % 9223372036854775808)
    rw [e2] at c
    cases c
theorem text_of_body (b : Bool) (r : Nat) (h : r ≤ 9218868437227405312) (l : List UInt8) (hl : (if b then [45] else []) ++ bodyB r = l) :
    ParseEnd l (.returned (.tuple #[.float .f64 (flipB b r), .int .i64 0])) := by
  have hn : nanB (flipB b r) = false ∧ signB (flipB b r) = b ∧ flipB b r % 9223372036854775808 = r := by
    unfold flipB
    cases b
    · simp only [Bool.false_eq_true, if_false]
      refine ⟨(nanB_false _).2 (by omega), ?_, by omega⟩
      rw [← Bool.not_eq_true]
      intro e
      have := (signB_iff _).1 e
      omega
    · simp only [if_true]
      rw [negB_pos (by omega)]
      exact ⟨(nanB_false _).2 (by omega), (signB_iff _).2 (by omega), by omega⟩
  refine .inl ⟨flipB b r, flipB_lt (by omega), ?_, by rw [canonB_num hn.1]⟩
  unfold textB
  rw [hn.1, if_neg (by decide), hn.2.1, hn.2.2]
  exact hl

set_option maxRecDepth 100000 in
theorem rP_inf (w : World) : Calls Tryd.prog 22 #[.string ⟨#[105, 110, 102]⟩] w fun e w' => ParseEnd [105, 110, 102] e ∧ w = w' := by
  have hy := run_f64from
  have HX := Lib.hid (text_of_body false 9218868437227405312 (by omega) [105, 110, 102] (by rw [body_inf]; rfl))
  rw [show flipB false 9218868437227405312 = 9218868437227405312 from by decide +kernel] at HX
  go_enter Tryd.func22, Tryd.ntmps22
  go_wp2_with fail
  go_ret2
  exact ⟨HX.out, rfl⟩

set_option maxRecDepth 100000 in
theorem rP_ninf (s T : ByteArray) (h0 : 0 < s.size) (hc : (((s[0]'h0).toNat : Int) == 45) = true) (hx : s.extract 1 s.size = T) (hn : (s.toList == [110, 97, 110]) = false) (ht1 : (T.toList == [105, 110, 102]) = true) (hl : s.data.toList = [45, 105, 110, 102]) (w : World) : Calls Tryd.prog 22 #[.string s] w fun e w' => ParseEnd s.data.toList e ∧ w = w' := by
  have hy := run_f64from
  have h0' : (0 : Int) < (s.size : Int) := by omega
  have h1' : (1 : Int) ≤ (s.size : Int) := by omega
  have HX := Lib.hid (text_of_body true 9218868437227405312 (by omega) [45, 105, 110, 102] (by rw [body_inf]; rfl))
  rw [show flipB true 9218868437227405312 = 18442240474082181120 from by decide +kernel] at HX
  have HL := Lib.hid hl
  clear hl
  go_enter Tryd.func22, Tryd.ntmps22
  go_wp2_with fail
  go_ret2
  exact ⟨HL.out ▸ HX.out, rfl⟩

set_option maxRecDepth 100000 in
theorem rP_zero (w : World) : Calls Tryd.prog 22 #[.string ⟨#[48, 112, 48]⟩] w fun e w' => ParseEnd [48, 112, 48] e ∧ w = w' := by
  have hy := run_f64from
  have HX := Lib.hid (text_of_body false 0 (by omega) [48, 112, 48] (by rw [body_zero]; rfl))
  rw [show flipB false 0 = 0 from by decide +kernel] at HX
  go_enter Tryd.func22, Tryd.ntmps22
  go_wp2_with fail
  go_ret2
  exact ⟨HX.out, rfl⟩

set_option maxRecDepth 100000 in
theorem rP_nzero (s T : ByteArray) (h0 : 0 < s.size) (hc : (((s[0]'h0).toNat : Int) == 45) = true) (hx : s.extract 1 s.size = T) (hn : (s.toList == [110, 97, 110]) = false) (ht1 : (T.toList == [105, 110, 102]) = false) (ht2 : (T.toList == [48, 112, 48]) = true) (hl : s.data.toList = [45, 48, 112, 48]) (w : World) : Calls Tryd.prog 22 #[.string s] w fun e w' => ParseEnd s.data.toList e ∧ w = w' := by
  have hy := run_f64from
  have h0' : (0 : Int) < (s.size : Int) := by omega
  have h1' : (1 : Int) ≤ (s.size : Int) := by omega
  have HX := Lib.hid (text_of_body true 0 (by omega) [45, 48, 112, 48] (by rw [body_zero]; rfl))
  rw [show flipB true 0 = 9223372036854775808 from by decide +kernel] at HX
  have HL := Lib.hid hl
  clear hl
  go_enter Tryd.func22, Tryd.ntmps22
  go_wp2_with fail
  go_ret2
  exact ⟨HL.out ▸ HX.out, rfl⟩

set_option maxRecDepth 100000 in
theorem rP_nan (w : World) : Calls Tryd.prog 22 #[.string ⟨#[110, 97, 110]⟩] w fun e w' => ParseEnd [110, 97, 110] e ∧ w = w' := by
  have hy := run_f64from
  have HX := Lib.hid (show ParseEnd [110, 97, 110] (.returned (.tuple #[.float .f64 9221120237041090561, .int .i64 0])) from
    .inl ⟨9221120237041090561, by omega, by unfold textB; rw [if_pos nan_canon], by rw [canonB_nan nan_canon]⟩)
  go_enter Tryd.func22, Tryd.ntmps22
  go_wp2_with fail
  go_ret2
  exact ⟨HX.out, rfl⟩
set_option maxRecDepth 100000 in
theorem rP_empty (w : World) : Calls Tryd.prog 22 #[.string ⟨#[]⟩] w fun e w' => ParseEnd [] e ∧ w = w' := by
  have HX := Lib.hid (parse_no no_empty)
  go_enter Tryd.func22, Tryd.ntmps22
  go_wp2_with fail
  go_loopw [6, 35, 36, 37, 38, 39, 40, 41, 42, 43, 44, 45, 46] (fun v6 _ _ _ _ _ _ _ _ _ _ _ _ wr => v6 = .int .i64 0 ∧ wr = w) (fun _ _ _ _ _ _ _ _ _ _ _ _ _ _ => 0)
  case atStart => exact ⟨rfl, rfl⟩
  case round =>
    obtain ⟨rfl, rfl⟩ := hrel
    go_wp2_with fail
    refine (number_empty 9007199254740991 wr).mono ?_
    rintro e w1 ⟨rfl, rfl⟩
    go_wp2_with fail
    go_ret2
    exact ⟨HX.out, rfl⟩

theorem rPs_true (s T : ByteArray) (h0 : 0 < s.size) (hc : (((s[0]'h0).toNat : Int) == 45) = true) (hx : s.extract 1 s.size = T) (hts : T.size ≤ 100000) (hn : s.data.toList ≠ [110, 97, 110]) (S : Shape true s.data.toList T.data.toList) (w : World) :
    Calls Tryd.prog 22 #[.string s] w fun e w' => ParseEnd s.data.toList e ∧ w = w' := by
  have hsz := size_list T
  have hcl := cut_le T.data.toList
  have eM : (T.extract 0 (cutM T.data.toList).length).data.toList = cutM T.data.toList := by rw [list_take]; exact (cut_take _).symm
  have eR : (T.extract ((cutM T.data.toList).length + 1) T.size).data.toList = cutE T.data.toList := by rw [list_drop]; exact (cut_drop _).symm
  have eR2 := list_drop (T.extract ((cutM T.data.toList).length + 1) T.size) 1
  rw [eR] at eR2
  have hE : ∀ h : (cutM T.data.toList).length + 1 < T.size, cutE T.data.toList = T[(cutM T.data.toList).length + 1]'h :: (cutE T.data.toList).drop 1 := by
    intro h
    rw [cut_drop, drop_cons T _ h]
    rfl
  have hjoin : (cutM T.data.toList).length + 1 < T.size → T.data.toList = cutM T.data.toList ++ [112] ++ cutE T.data.toList := fun h => cut_join _ (by omega)
  refine rP_true s T h0 hc hx hts (beq_list s _ hn) (beq_list T _ S.inf) (beq_list T _ S.zero) (cutM T.data.toList).length _ _ _ rfl rfl rfl ?_ (by omega) ?_ ?_ ?_ ?_ ?_ ?_ ?_ ?_ ?_ ?_ w
  · intro h; simp; omega
  · intro i hi h e
    exact cut_before _ i hi (by omega) (UInt8.toNat_inj.1 (by show _ = 112; have : (T.data.toList[i]'(by omega)) = T[i]'h := rfl; rw [this]; omega))
  · intro h
    have := cut_at T.data.toList (by omega)
    have e : T[(cutM T.data.toList).length]'h = 112 := this
    rw [e]; rfl
  · rw [eM]; exact sh_b1 S
  · rw [eM]; exact fun u a b => sh_b2 S u a b
  · intro h; exact sh_b3 S (by omega)
  · rw [eR2]
    intro h h45 hall f hf e
    obtain ⟨k, k0, k1, k2⟩ := sh_ex S _ ((hE h).trans (by rw [h45])) hf e
    exact hall k k1 k2.symm
  · rw [eR2]
    intro h h45 hd f hf e
    obtain ⟨k, k0, k1, k2⟩ := sh_ex S _ ((hE h).trans (by rw [h45])) hf e
    have := dec_inj (hd.trans k2)
    omega
  · rw [eR]
    intro h h45 hall f hf e
    obtain ⟨k, k1, k2⟩ := sh_up S (fun E2 e2 => by rw [hE h] at e2; injection e2 with e3 e4; exact h45 e3) hf e
    exact hall k k1 k2.symm
  · rw [eM, eR2]
    intro u k hu h h45 hk hk0
    have e1 := hjoin h
    have e2 := hE h
    rw [h45] at e2
    generalize List.drop 1 (cutE T.data.toList) = E2 at *
    have e3 : Lib.itoa (-(k : Int)) = cutE T.data.toList := by rw [itoa_neg (by omega), show (-(k : Int)).natAbs = k by omega, hk, e2]
    refine S.whole.trans ?_
    unfold numText
    rw [e3, hu]
    exact congrArg (fun z => _ ++ z) e1
  · rw [eM, eR]
    intro u k hu h h45 hk
    have e1 := hjoin h
    refine S.whole.trans ?_
    unfold numText
    rw [itoa_pos, hu, hk]
    exact congrArg (fun z => _ ++ z) e1

theorem rPs_false (s T : ByteArray) (h0 : 0 < s.size) (hc : (((s[0]'h0).toNat : Int) == 45) = false) (hx : T = s) (hts : T.size ≤ 100000) (hn : s.data.toList ≠ [110, 97, 110]) (S : Shape false s.data.toList T.data.toList) (w : World) :
    Calls Tryd.prog 22 #[.string s] w fun e w' => ParseEnd s.data.toList e ∧ w = w' := by
  have hsz := size_list T
  have hcl := cut_le T.data.toList
  have eM : (T.extract 0 (cutM T.data.toList).length).data.toList = cutM T.data.toList := by rw [list_take]; exact (cut_take _).symm
  have eR : (T.extract ((cutM T.data.toList).length + 1) T.size).data.toList = cutE T.data.toList := by rw [list_drop]; exact (cut_drop _).symm
  have eR2 := list_drop (T.extract ((cutM T.data.toList).length + 1) T.size) 1
  rw [eR] at eR2
  have hE : ∀ h : (cutM T.data.toList).length + 1 < T.size, cutE T.data.toList = T[(cutM T.data.toList).length + 1]'h :: (cutE T.data.toList).drop 1 := by
    intro h
    rw [cut_drop, drop_cons T _ h]
    rfl
  have hjoin : (cutM T.data.toList).length + 1 < T.size → T.data.toList = cutM T.data.toList ++ [112] ++ cutE T.data.toList := fun h => cut_join _ (by omega)
  refine rP_false s T h0 hc hx hts (beq_list s _ hn) (beq_list T _ S.inf) (beq_list T _ S.zero) (cutM T.data.toList).length _ _ _ rfl rfl rfl ?_ (by omega) ?_ ?_ ?_ ?_ ?_ ?_ ?_ ?_ ?_ ?_ w
  · intro h; simp; omega
  · intro i hi h e
    exact cut_before _ i hi (by omega) (UInt8.toNat_inj.1 (by show _ = 112; have : (T.data.toList[i]'(by omega)) = T[i]'h := rfl; rw [this]; omega))
  · intro h
    have := cut_at T.data.toList (by omega)
    have e : T[(cutM T.data.toList).length]'h = 112 := this
    rw [e]; rfl
  · rw [eM]; exact sh_b1 S
  · rw [eM]; exact fun u a b => sh_b2 S u a b
  · intro h; exact sh_b3 S (by omega)
  · rw [eR2]
    intro h h45 hall f hf e
    obtain ⟨k, k0, k1, k2⟩ := sh_ex S _ ((hE h).trans (by rw [h45])) hf e
    exact hall k k1 k2.symm
  · rw [eR2]
    intro h h45 hd f hf e
    obtain ⟨k, k0, k1, k2⟩ := sh_ex S _ ((hE h).trans (by rw [h45])) hf e
    have := dec_inj (hd.trans k2)
    omega
  · rw [eR]
    intro h h45 hall f hf e
    obtain ⟨k, k1, k2⟩ := sh_up S (fun E2 e2 => by rw [hE h] at e2; injection e2 with e3 e4; exact h45 e3) hf e
    exact hall k k1 k2.symm
  · rw [eM, eR2]
    intro u k hu h h45 hk hk0
    have e1 := hjoin h
    have e2 := hE h
    rw [h45] at e2
    generalize List.drop 1 (cutE T.data.toList) = E2 at *
    have e3 : Lib.itoa (-(k : Int)) = cutE T.data.toList := by rw [itoa_neg (by omega), show (-(k : Int)).natAbs = k by omega, hk, e2]
    refine S.whole.trans ?_
    unfold numText
    rw [e3, hu]
    exact congrArg (fun z => _ ++ z) e1
  · rw [eM, eR]
    intro u k hu h h45 hk
    have e1 := hjoin h
    refine S.whole.trans ?_
    unfold numText
    rw [itoa_pos, hu, hk]
    exact congrArg (fun z => _ ++ z) e1

/-- ref01.Parse -/
theorem refParse_any (s : ByteArray) (hs : s.size ≤ 100000) (w : World) : Calls Tryd.prog 22 #[.string s] w fun e w' => ParseEnd s.data.toList e ∧ w = w' := by
  have hconc : ∀ L : List UInt8, s.data.toList = L → s = ⟨L.toArray⟩ := by
    intro L h
    apply ByteArray.ext
    apply Array.ext'
    rw [h]
  by_cases hn : s.data.toList = [110, 97, 110]
  · rw [hn, hconc _ hn]; exact rP_nan w
  by_cases h0 : 0 < s.size
  · by_cases h45 : s[0]'h0 = 45
    · have hl : s.data.toList = 45 :: (s.extract 1 s.size).data.toList := by
        rw [list_drop]
        have := drop_cons s 0 h0
        rw [List.drop_zero, h45] at this
        exact this
      by_cases hi : (s.extract 1 s.size).data.toList = [105, 110, 102]
      · rw [hi] at hl
        exact rP_ninf s _ h0 (by rw [h45]; rfl) rfl (beq_list s _ hn) (by rw [ByteArray.toList_eq, hi]; rfl) hl w
      by_cases hz : (s.extract 1 s.size).data.toList = [48, 112, 48]
      · have hl' := hl
        rw [hz] at hl'
        exact rP_nzero s _ h0 (by rw [h45]; rfl) rfl (beq_list s _ hn) (beq_list _ _ hi) (by rw [ByteArray.toList_eq, hz]; rfl) hl' w
      have S := shape_true hi hz
      rw [← hl] at S
      exact rPs_true s _ h0 (by rw [h45]; rfl) rfl (by simp; omega) hn S w
    · by_cases hi : s.data.toList = [105, 110, 102]
      · rw [hi, hconc _ hi]; exact rP_inf w
      by_cases hz : s.data.toList = [48, 112, 48]
      · rw [hz, hconc _ hz]; exact rP_zero w
      have hh : s.data.toList.head? ≠ some 45 := by
        have := drop_cons s 0 h0
        rw [List.drop_zero] at this
        rw [this]
        intro e
        exact h45 (by simpa using e)
      refine rPs_false s s h0 ?_ rfl hs hn (shape_false hn hh hi hz) w
      rw [beq_eq_false_iff_ne]
      intro e
      apply h45
      apply UInt8.toNat_inj.1
      show _ = 45
      omega
  · have hz : s.data.toList = [] := List.eq_nil_of_length_eq_zero (by rw [← size_list]; omega)
    rw [hz, hconc _ hz]; exact rP_empty w
end Go.Proofs.YtnbpioinhjijcaaDoor

