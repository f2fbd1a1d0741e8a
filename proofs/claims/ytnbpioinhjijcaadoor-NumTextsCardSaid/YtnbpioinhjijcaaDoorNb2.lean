import Derived.Test.YtnbpioinhjijcaaDoorNb1
import Derived.Deep.LoopGhost
/-! ref01.number: the walk. -/
namespace Go.Proofs.YtnbpioinhjijcaaDoor
open Go.RowKit Bk

theorem number_empty (most : Nat) (w : World) :
    Calls Tryd.prog 43 #[.string ⟨#[]⟩, .int .i64 most] w fun e w' => e = .returned (.int .i64 (-1)) ∧ w = w' := by
  go_enter Tryd.func43, Tryd.ntmps43
  go_wp2_with fail
  go_ret
  exact ⟨rfl, rfl⟩
set_option maxRecDepth 100000 in
theorem number_nought (s : ByteArray) (hne2 : s.toList.isEmpty = false) (h0 : 0 < s.size) (hc : ((s[0]'h0).toNat : Int) = 48) (h1 : (1 : Int) < (s.size : Int)) (most : Nat) (w : World) :
    Calls Tryd.prog 43 #[.string s, .int .i64 most] w fun e w' => e = .returned (.int .i64 (-1)) ∧ w = w' := by
  go_enter Tryd.func43, Tryd.ntmps43
  go_wp2_with fail
  go_ret
  exact ⟨rfl, rfl⟩
set_option maxRecDepth 100000 in
theorem number_long (s : ByteArray) (hne2 : s.toList.isEmpty = false) (h0 : 0 < s.size) (hc2 : (((s[0]'h0).toNat : Int) == 48) = false) (h1 : (1 : Int) < (s.size : Int)) (h17 : (17 : Int) < (s.size : Int)) (most : Nat) (w : World) :
    Calls Tryd.prog 43 #[.string s, .int .i64 most] w fun e w' => e = .returned (.int .i64 (-1)) ∧ w = w' := by
  go_enter Tryd.func43, Tryd.ntmps43
  go_wp2_with fail
  go_ret
  exact ⟨rfl, rfl⟩
theorem take_succ_at (s : ByteArray) (i : Nat) (h : i < s.size) : s.data.toList.take (i + 1) = s.data.toList.take i ++ [s[i]'h] := by
  rw [List.take_add_one, List.getElem?_eq_getElem (by simpa using h)]
  rfl
theorem at_mem (s : ByteArray) (i : Nat) (h : i < s.size) : s[i]'h ∈ s.data.toList := by
  have : s.data.toList[i]'(by simpa using h) = s[i]'h := rfl
  rw [← this]
  exact List.getElem_mem _
set_option maxRecDepth 100000 in
theorem number_mid (s : ByteArray) (hne2 : s.toList.isEmpty = false) (h0 : 0 < s.size) (hc2 : (((s[0]'h0).toNat : Int) == 48) = false) (h1 : (1 : Int) < (s.size : Int)) (h17 : (s.size : Int) ≤ 17) (hz : ¬ (1 < s.data.toList.length ∧ s.data.toList.head? = some 48)) (most : Nat) (hm : most < 10000000000000000) (w : World) :
    Calls Tryd.prog 43 #[.string s, .int .i64 most] w fun e w' => NumIs s.data.toList most e ∧ w = w' := by
  have HM := Lib.hid hm
  have HZ := Lib.hid hz
  have HNL := Lib.hid (show s.data.toList ≠ [] by
    intro e
    have : s.data.toList.length = 0 := by rw [e]; rfl
    have e2 : s.size = s.data.toList.length := by simp
    omega)
  clear hm hz
  go_enter Tryd.func43, Tryd.ntmps43
  go_wp2_with fail
  clear hc2 h1 hne2
  go_loopw [5, 6, 24, 25, 26, 27, 28, 29, 30, 31, 32, 33, 34, 35, 36, 37, 38, 39, 40, 41, 42, 43, 44, 45, 46, 47] (fun v5 v6 _ _ _ _ _ _ _ _ _ _ _ _ _ _ _ _ _ _ _ _ _ _ _ _ wr => ∃ n i : Nat, v5 = .int .i64 (n : Int) ∧ v6 = .int .i64 (i : Int) ∧ wr = w ∧ i ≤ s.size ∧ Hid (n = dv (s.data.toList.take i) ∧ Digs (s.data.toList.take i))) (fun _ v6 _ _ _ _ _ _ _ _ _ _ _ _ _ _ _ _ _ _ _ _ _ _ _ _ _ => (20 - intOf v6).toNat)
  case atStart =>
    exact ⟨0, 0, rfl, rfl, rfl, by omega, Lib.hid ⟨rfl, fun c hc => by simp at hc⟩⟩
  case round =>
    obtain ⟨n, i, rfl, rfl, rfl, hi, HI⟩ := hrel
    have HNB := Lib.hid (show n < 100000000000000000 by
      have h1 := dv_lt _ _ rfl HI.out.2
      rw [← HI.out.1] at h1
      have h2 : (s.data.toList.take i).length ≤ 17 := by rw [List.length_take]; omega
      have h3 : 10 ^ (s.data.toList.take i).length ≤ 10 ^ 17 := Nat.pow_le_pow_right (by omega) h2
      have h4 : (10 : Nat) ^ 17 = 100000000000000000 := by decide
      rw [h4] at h3
      exact Nat.lt_of_lt_of_le h1 h3)
    by_cases hl : i < s.size
    · have hl1 : (i : Int) < (s.size : Int) := by omega
      by_cases hlo : ((s[i]'hl).toNat : Int) < 48
      · have HX := Lib.hid (num_no (most := most) HM.out (.inr (.inr (.inr (.inl ⟨_, at_mem s i hl, by omega⟩)))))
        go_wp2_with fail
        go_ret
        exact ⟨.inr ⟨HX.out, rfl⟩, rfl⟩
      · by_cases hhi : (57 : Int) < ((s[i]'hl).toNat : Int)
        · have HX := Lib.hid (num_no (most := most) HM.out (.inr (.inr (.inr (.inl ⟨_, at_mem s i hl, by omega⟩)))))
          go_wp2_with fail
          go_ret
          exact ⟨.inr ⟨HX.out, rfl⟩, rfl⟩
        · have HT := Lib.hid (take_succ_at s i hl)
          go_wp2_with fail
          have h1 := HI.out.1
          have h2 := HI.out.2
          have h3 := HNB.out
          have h4 := (s[i]'hl).toNat_lt
          have e2 : wrap64 (wrap64 ((n : Int) * 10) + (((s[i]'hl).toNat : Int) - 48)) = ((n * 10 + ((s[i]'hl).toNat - 48) : Nat) : Int) := by
            clear h1 h2; unfold wrap64; omega
          refine ⟨⟨n * 10 + ((s[i]'hl).toNat - 48), i + 1, ?_, ?_, trivial, by omega, Lib.hid ⟨?_, ?_⟩⟩, ?_⟩
          · rw [e2]
          · rfl
          · rw [HT.out, dv_snoc, ← h1]
          · rw [HT.out]
            intro c hc
            rw [List.mem_append] at hc
            rcases hc with hc | hc
            · exact h2 c hc
            · obtain rfl : c = s[i]'hl := by simpa using hc
              omega
          · simp only [intOf]; omega
    · have hl1 : ¬ (i : Int) < (s.size : Int) := by omega
      have hii : i = s.size := by omega
      have HTK := Lib.hid (show s.data.toList.take i = s.data.toList by rw [hii]; exact List.take_of_length_le (by simp))
      by_cases hg : most < n
      · have hg1 : (most : Int) < (n : Int) := by omega
        have HX := Lib.hid (num_no (l := s.data.toList) (most := most) HM.out (.inr (.inr (.inr (.inr (by rw [← HTK.out, ← HI.out.1]; exact hg))))))
        clear hii
        go_wp2_with fail
        go_ret
        exact ⟨.inr ⟨HX.out, rfl⟩, rfl⟩
      · have hg1 : ¬ (most : Int) < (n : Int) := by omega
        have HX := Lib.hid (num_yes (l := s.data.toList) (most := most) HNL.out HZ.out (by rw [← HTK.out]; exact HI.out.2) (by rw [← HTK.out, ← HI.out.1]; omega))
        clear hii
        go_wp2_with fail
        go_ret
        obtain ⟨u, u1, u2, u3⟩ := HX.out
        have h1 := HI.out.1
        rw [HTK.out, u3] at h1
        exact ⟨.inl ⟨u, u1, u2, by rw [h1]; rfl⟩, rfl⟩
set_option maxRecDepth 100000 in
theorem number_one (s : ByteArray) (hne2 : s.toList.isEmpty = false) (h0 : 0 < s.size) (h1 : (s.size : Int) = 1) (h17 : (s.size : Int) ≤ 17) (hz : ¬ (1 < s.data.toList.length ∧ s.data.toList.head? = some 48)) (most : Nat) (hm : most < 10000000000000000) (w : World) :
    Calls Tryd.prog 43 #[.string s, .int .i64 most] w fun e w' => NumIs s.data.toList most e ∧ w = w' := by
  have HM := Lib.hid hm
  have HZ := Lib.hid hz
  have HNL := Lib.hid (show s.data.toList ≠ [] by
    intro e
    have : s.data.toList.length = 0 := by rw [e]; rfl
    have e2 : s.size = s.data.toList.length := by simp
    omega)
  clear hm hz
  go_enter Tryd.func43, Tryd.ntmps43
  go_wp2_with fail
  clear h1 hne2
  go_loopw [5, 6, 24, 25, 26, 27, 28, 29, 30, 31, 32, 33, 34, 35, 36, 37, 38, 39, 40, 41, 42, 43, 44, 45, 46, 47] (fun v5 v6 _ _ _ _ _ _ _ _ _ _ _ _ _ _ _ _ _ _ _ _ _ _ _ _ wr => ∃ n i : Nat, v5 = .int .i64 (n : Int) ∧ v6 = .int .i64 (i : Int) ∧ wr = w ∧ i ≤ s.size ∧ Hid (n = dv (s.data.toList.take i) ∧ Digs (s.data.toList.take i))) (fun _ v6 _ _ _ _ _ _ _ _ _ _ _ _ _ _ _ _ _ _ _ _ _ _ _ _ _ => (20 - intOf v6).toNat)
  case atStart =>
    exact ⟨0, 0, rfl, rfl, rfl, by omega, Lib.hid ⟨rfl, fun c hc => by simp at hc⟩⟩
  case round =>
    obtain ⟨n, i, rfl, rfl, rfl, hi, HI⟩ := hrel
    have HNB := Lib.hid (show n < 100000000000000000 by
      have h1 := dv_lt _ _ rfl HI.out.2
      rw [← HI.out.1] at h1
      have h2 : (s.data.toList.take i).length ≤ 17 := by rw [List.length_take]; omega
      have h3 : 10 ^ (s.data.toList.take i).length ≤ 10 ^ 17 := Nat.pow_le_pow_right (by omega) h2
      have h4 : (10 : Nat) ^ 17 = 100000000000000000 := by decide
      rw [h4] at h3
      exact Nat.lt_of_lt_of_le h1 h3)
    by_cases hl : i < s.size
    · have hl1 : (i : Int) < (s.size : Int) := by omega
      by_cases hlo : ((s[i]'hl).toNat : Int) < 48
      · have HX := Lib.hid (num_no (most := most) HM.out (.inr (.inr (.inr (.inl ⟨_, at_mem s i hl, by omega⟩)))))
        go_wp2_with fail
        go_ret
        exact ⟨.inr ⟨HX.out, rfl⟩, rfl⟩
      · by_cases hhi : (57 : Int) < ((s[i]'hl).toNat : Int)
        · have HX := Lib.hid (num_no (most := most) HM.out (.inr (.inr (.inr (.inl ⟨_, at_mem s i hl, by omega⟩)))))
          go_wp2_with fail
          go_ret
          exact ⟨.inr ⟨HX.out, rfl⟩, rfl⟩
        · have HT := Lib.hid (take_succ_at s i hl)
          go_wp2_with fail
          have h1 := HI.out.1
          have h2 := HI.out.2
          have h3 := HNB.out
          have h4 := (s[i]'hl).toNat_lt
          have e2 : wrap64 (wrap64 ((n : Int) * 10) + (((s[i]'hl).toNat : Int) - 48)) = ((n * 10 + ((s[i]'hl).toNat - 48) : Nat) : Int) := by
            clear h1 h2; unfold wrap64; omega
          refine ⟨⟨n * 10 + ((s[i]'hl).toNat - 48), i + 1, ?_, ?_, trivial, by omega, Lib.hid ⟨?_, ?_⟩⟩, ?_⟩
          · rw [e2]
          · rfl
          · rw [HT.out, dv_snoc, ← h1]
          · rw [HT.out]
            intro c hc
            rw [List.mem_append] at hc
            rcases hc with hc | hc
            · exact h2 c hc
            · obtain rfl : c = s[i]'hl := by simpa using hc
              omega
          · simp only [intOf]; omega
    · have hl1 : ¬ (i : Int) < (s.size : Int) := by omega
      have hii : i = s.size := by omega
      have HTK := Lib.hid (show s.data.toList.take i = s.data.toList by rw [hii]; exact List.take_of_length_le (by simp))
      by_cases hg : most < n
      · have hg1 : (most : Int) < (n : Int) := by omega
        have HX := Lib.hid (num_no (l := s.data.toList) (most := most) HM.out (.inr (.inr (.inr (.inr (by rw [← HTK.out, ← HI.out.1]; exact hg))))))
        clear hii
        go_wp2_with fail
        go_ret
        exact ⟨.inr ⟨HX.out, rfl⟩, rfl⟩
      · have hg1 : ¬ (most : Int) < (n : Int) := by omega
        have HX := Lib.hid (num_yes (l := s.data.toList) (most := most) HNL.out HZ.out (by rw [← HTK.out]; exact HI.out.2) (by rw [← HTK.out, ← HI.out.1]; omega))
        clear hii
        go_wp2_with fail
        go_ret
        obtain ⟨u, u1, u2, u3⟩ := HX.out
        have h1 := HI.out.1
        rw [HTK.out, u3] at h1
        exact ⟨.inl ⟨u, u1, u2, by rw [h1]; rfl⟩, rfl⟩

/-- ref01.number -/
theorem number_any (s : ByteArray) (most : Nat) (hm : most < 10000000000000000) (w : World) :
    Calls Tryd.prog 43 #[.string s, .int .i64 most] w fun e w' => NumIs s.data.toList most e ∧ w = w' := by
  have hlen : s.data.toList.length = s.size := by simp
  by_cases h0 : s.size = 0
  · have hnil : s.data.toList = [] := List.eq_nil_of_length_eq_zero (by omega)
    obtain rfl : s = ⟨#[]⟩ := by
      cases s with
      | mk d => 
        congr 1
        exact Array.toList_inj.1 hnil
    refine (number_empty most w).mono ?_
    rintro e w1 ⟨rfl, rfl⟩
    exact ⟨.inr ⟨num_no hm (.inl rfl), rfl⟩, rfl⟩
  · have h0' : 0 < s.size := by omega
    have hne : s.toList.isEmpty = false := by
      rw [ByteArray.toList_eq]
      cases hl : s.data.toList with
      | nil => rw [hl] at hlen; simp at hlen; omega
      | cons c t => rfl
    have hhead : s.data.toList.head? = some (s[0]'h0') := by
      rw [List.head?_eq_getElem?, List.getElem?_eq_getElem (by omega)]; rfl
    by_cases h1 : s.size = 1
    · exact number_one s hne h0' (by omega) (by omega) (by omega) most hm w
    · by_cases hc : (s[0]'h0') = 48
      · refine (number_nought s hne h0' (by rw [hc]; rfl) (by omega) most w).mono ?_
        rintro e w1 ⟨rfl, rfl⟩
        exact ⟨.inr ⟨num_no hm (.inr (.inl ⟨by omega, by rw [hhead, hc]⟩)), rfl⟩, rfl⟩
      · have hc2 : (((s[0]'h0').toNat : Int) == 48) = false := by
          rw [beq_eq_false_iff_ne]
          intro e
          apply hc
          apply UInt8.toNat_inj.1
          show _ = 48
          omega
        by_cases h17 : s.size ≤ 17
        · exact number_mid s hne h0' hc2 (by omega) (by omega) (fun e => hc (by rw [hhead] at e; exact Option.some.inj e.2)) most hm w
        · refine (number_long s hne h0' hc2 (by omega) (by omega) most w).mono ?_
          rintro e w1 ⟨rfl, rfl⟩
          exact ⟨.inr ⟨num_no hm (.inr (.inr (.inl (by omega)))), rfl⟩, rfl⟩
end Go.Proofs.YtnbpioinhjijcaaDoor
