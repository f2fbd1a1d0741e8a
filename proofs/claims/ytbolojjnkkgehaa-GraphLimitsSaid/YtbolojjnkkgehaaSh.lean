import Derived.Test.YtbolojjnkkgehaaShn
/-! shown: the walk. -/
namespace Go.Proofs.Ytbolojjnkkgehaa
open Go.RowKit

theorem slice_new (w : World) (cs : List Value) (e : TypeId) (n c : Nat) (H : Nat) (h : w.heap.size = H) (hc : n ≤ c) (hm : c ≤ maxLen) : SliceR (w.alloc (.cells cs.toArray e)) (.slice (some ⟨H, 0, none⟩) n c) n cs :=
  ⟨_, c, rfl, hc, hm, (fun h => by cases h), fun j u hj => ⟨H, 0, rfl, by subst h; exact new_cells w cs e j u hj⟩⟩

theorem sz1 (a : UInt8) : (⟨#[a]⟩ : ByteArray).size ≤ maxLen := by rw [show (⟨#[a]⟩ : ByteArray).size = 1 from rfl]; unfold maxLen; omega
theorem sz0 : (⟨#[]⟩ : ByteArray).size ≤ maxLen := by rw [show (⟨#[]⟩ : ByteArray).size = 0 from rfl]; unfold maxLen; omega
theorem sh_nodes (w w1 : World) (lv : Value) (h1 : Strs w1 lv [⟨#[76]⟩]) (hw : w1 = w) : Nodes (w.alloc (.cells #[.string ⟨#[97]⟩, .slice none 0 0, .slice none 0 0, .string ⟨#[98]⟩, lv, .slice none 0 0] 46)) (.slice (some ⟨w.heap.size, 0, none⟩) 2 2) (shN lv) := by
  subst hw
  refine ⟨slice_new w1 _ 46 2 2 _ rfl (by omega) (by unfold maxLen; omega), by simp [shN], fun x hx => ?_, fun x hx => ?_, fun x hx => ?_⟩
  · simp only [shN, List.mem_cons, List.not_mem_nil, or_false] at hx
    rcases hx with rfl | rfl
    · exact Strs.nil _
    · exact h1.below ((Below.refl _ _).alloc (Nat.le_refl _) _) (Nat.le_refl _)
  · simp only [shN, List.mem_cons, List.not_mem_nil, or_false] at hx
    rcases hx with rfl | rfl <;> exact Props.nil _
  · simp only [shN, List.mem_cons, List.not_mem_nil, or_false] at hx
    rcases hx with rfl | rfl <;> exact sz1 _
theorem sh_edges (w : World) : Edges (w.alloc (.cells #[.string ⟨#[101]⟩, .int .i64 0, .int .i64 0, .bool true, .slice none 0 0, .slice none 0 0, .string ⟨#[102]⟩, .int .i64 0, .int .i64 1, .bool false, .slice none 0 0, .slice none 0 0] 42)) (.slice (some ⟨w.heap.size, 0, none⟩) 2 2) shE := by
  refine ⟨slice_new w _ 42 2 2 _ rfl (by omega) (by unfold maxLen; omega), by simp [shE], fun x hx => ?_, fun x hx => ?_, fun x hx => ?_, fun x hx => ?_, fun x hx => ?_⟩ <;> (simp only [shE, List.mem_cons, List.not_mem_nil, or_false] at hx; rcases hx with rfl | rfl)
  all_goals first | exact Strs.nil _ | exact Props.nil _ | exact sz1 _ | simp [shC, shD]
theorem sh_one (w : World) : Nodes (w.alloc (.cells #[.string ⟨#[]⟩, .slice none 0 0, .slice none 0 0] 46)) (.slice (some ⟨w.heap.size, 0, none⟩) 1 1) shO := by
  refine ⟨slice_new w _ 46 1 1 _ rfl (by omega) (by unfold maxLen; omega), by simp [shO], fun x hx => ?_, fun x hx => ?_, fun x hx => ?_⟩ <;> (simp only [shO, List.mem_cons, List.not_mem_nil, or_false] at hx; subst hx)
  · exact Strs.nil _
  · exact Props.nil _
  · exact sz0
theorem Edges.nil (w : World) : Edges w (.slice none 0 0) [] := ⟨SliceR.nil _, by simp, by simp, by simp, by simp, by simp, by simp⟩

/-- One step. -/
theorem Steps.one {w : World} {v : Value} {a b : Int} (h : Steps w v [(a, b)]) : ∃ g o c, v = .slice (some ⟨g, o, none⟩) 1 c ∧ 1 ≤ c ∧ c ≤ 9223372036854775807 ∧ g < w.heap.size ∧ w.cell? ⟨g, o, none⟩ = some (.int .i64 a) ∧ w.cell? ⟨g, o + 1, none⟩ = some (.int .i64 b) := by
  obtain ⟨A, c, e, h1, h2, -, h3⟩ := SliceR.form h
  obtain ⟨g, o, rfl, k0⟩ := h3 0 (.int .i64 a) rfl
  obtain ⟨g', o', e', k1⟩ := h3 1 (.int .i64 b) rfl
  cases e'
  exact ⟨g, o, c, e, h1, h2, World.block_lt_of_cell? w _ k0, k0, k1⟩

/-- The world with the small graph. -/
def shW (w : World) : World := (((w.alloc (.cells #[.string ⟨#[76]⟩] 9)).alloc (.cells #[.string ⟨#[97]⟩, .slice none 0 0, .slice none 0 0, .string ⟨#[98]⟩, .slice (some ⟨w.heap.size, 0, none⟩) 1 1, .slice none 0 0] 46)).alloc (.cells #[.string ⟨#[101]⟩, .int .i64 0, .int .i64 0, .bool true, .slice none 0 0, .slice none 0 0, .string ⟨#[102]⟩, .int .i64 0, .int .i64 1, .bool false, .slice none 0 0, .slice none 0 0] 42)).alloc (.cells #[.slice (some ⟨w.heap.size + 1, 0, none⟩) 2 2, .slice (some ⟨w.heap.size + 1 + 1, 0, none⟩) 2 2] 25)
theorem sh_world (w : World) : Nodes (shW w) (.slice (some ⟨w.heap.size + 1, 0, none⟩) 2 2) (shN (.slice (some ⟨w.heap.size, 0, none⟩) 1 1)) ∧ Edges (shW w) (.slice (some ⟨w.heap.size + 1 + 1, 0, none⟩) 2 2) shE ∧ Below w.heap.size w (shW w) ∧ w.heap.size + 1 + 1 + 1 < (shW w).heap.size ∧
    (shW w).cell? ⟨w.heap.size + 1 + 1 + 1, 0, none⟩ = some (.slice (some ⟨w.heap.size + 1, 0, none⟩) 2 2) ∧ (shW w).cell? ⟨w.heap.size + 1 + 1 + 1, 1, none⟩ = some (.slice (some ⟨w.heap.size + 1 + 1, 0, none⟩) 2 2) := by
  have hl1 : Strs (w.alloc (.cells #[.string ⟨#[76]⟩] 9)) (.slice (some ⟨w.heap.size, 0, none⟩) 1 1) [⟨#[76]⟩] := ⟨slice_new w [.string ⟨#[76]⟩] 9 1 1 _ rfl (by omega) (by unfold maxLen; omega), by simp, by simp only [List.mem_singleton]; rintro s rfl; exact sz1 _⟩
  have hn := sh_nodes _ _ _ hl1 rfl
  have he := sh_edges ((w.alloc (.cells #[.string ⟨#[76]⟩] 9)).alloc (.cells #[.string ⟨#[97]⟩, .slice none 0 0, .slice none 0 0, .string ⟨#[98]⟩, .slice (some ⟨w.heap.size, 0, none⟩) 1 1, .slice none 0 0] 46))
  rw [World.size_alloc, World.size_alloc] at he
  rw [World.size_alloc] at hn
  refine ⟨(hn.below ((Below.refl _ _).alloc (Nat.le_refl _) _) (Nat.le_refl _)).below ((Below.refl _ _).alloc (Nat.le_refl _) _) (Nat.le_refl _), he.below ((Below.refl _ _).alloc (Nat.le_refl _) _) (Nat.le_refl _), ?_, ?_, ?_, ?_⟩
  · exact (((((Below.refl _ w).alloc (Nat.le_refl _) _).alloc (by simp) _).alloc (by simp; omega) _).alloc (by simp; omega) _)
  · simp [shW]
  · simp [shW, go_sem]
  · simp [shW, go_sem]

set_option maxHeartbeats 1000000 in
theorem shown_any (w : World) : Calls Try.prog 8 #[] w fun e w' => e = .returned (.bool true) ∧ Below w.heap.size w w' := by
  go_enter Try.func8, Try.ntmps8
  go_wp2_with fail
  obtain ⟨hn, he, hb, hlt, k0, k1⟩ := sh_world w
  unfold shW at hn he hb hlt k0 k1
  generalize (((w.alloc (.cells #[.string ⟨#[76]⟩] 9)).alloc (.cells #[.string ⟨#[97]⟩, .slice none 0 0, .slice none 0 0, .string ⟨#[98]⟩, .slice (some ⟨w.heap.size, 0, none⟩) 1 1, .slice none 0 0] 46)).alloc (.cells #[.string ⟨#[101]⟩, .int .i64 0, .int .i64 0, .bool true, .slice none 0 0, .slice none 0 0, .string ⟨#[102]⟩, .int .i64 0, .int .i64 1, .bool false, .slice none 0 0, .slice none 0 0] 42)).alloc (.cells #[.slice (some ⟨w.heap.size + 1, 0, none⟩) 2 2, .slice (some ⟨w.heap.size + 1 + 1, 0, none⟩) 2 2] 25) = W1 at *
  have HN := Lib.hid hn
  have HE := Lib.hid he
  have HB := Lib.hid hb
  clear hn he hb
  refine (new_any _ _ _ _ _ HN.out HE.out).mono ?_
  rintro e w2 ⟨hb2, h2⟩
  have HR := Lib.hid (sh_right (.slice (some ⟨w.heap.size, 0, none⟩) 1 1))
  have hix : ∃ p, e = .returned (.tuple #[.pointer (some ⟨p, 0, none⟩), .int .i64 0]) ∧ Index w2 p [shA, shB] [shC, shD] := by
    rcases h2 with ⟨h, _⟩ | ⟨_, p, h3, h4⟩
    · exact absurd HR.out h
    · exact ⟨p, h3, h4⟩
  clear h2
  obtain ⟨p, rfl, hx⟩ := hix
  have HX := Lib.hid hx
  have HB2 := Lib.hid (HB.out.trans (hb2.mono HB.out.size))
  have m0 := cell_below hb2 hlt k0
  have m1 := cell_below hb2 hlt k1
  have hlt2 : w.heap.size + 1 + 1 + 1 < w2.heap.size := Nat.lt_of_lt_of_le hlt hb2.size
  have HN2 := Lib.hid (HN.out.below hb2 (Nat.le_refl _))
  have HE2 := Lib.hid (HE.out.below hb2 (Nat.le_refl _))
  have HO0 := Lib.hid sh_out0
  have HO1 := Lib.hid sh_out1
  clear hx hb2 k0 k1 HN HE
  go_wp2_with fail
  refine (out_any p _ _ 0 5 _ HX.out).mono ?_
  rintro e w3 ⟨v3, rfl, hs, hb3⟩
  obtain ⟨g, o, c, rfl, hc1, hc2, hgl, ha, hb⟩ := Steps.one (show Steps w3 v3 [(0, 0)] from HO0.out ▸ hs)
  have HX3 := Lib.hid (HX.out.below hb3)
  have HN3 := Lib.hid (HN2.out.below hb3 (Nat.le_refl _))
  have HE3 := Lib.hid (HE2.out.below hb3 (Nat.le_refl _))
  have HB3 := Lib.hid (HB2.out.trans (hb3.mono HB2.out.size))
  have n0 := cell_below hb3 hlt2 m0
  have n1 := cell_below hb3 hlt2 m1
  have hlt3 := Nat.lt_of_lt_of_le hlt2 hb3.size
  clear hs hb3 m0 m1 HN2 HE2
  go_wp2_with fail
  refine (out_any p _ _ 1 2 _ HX3.out).mono ?_
  rintro e w4 ⟨v4, rfl, hs, hb4⟩
  obtain ⟨g', o', c', rfl, hc1', hc2', hgl', ha', hb'⟩ := Steps.one (show Steps w4 v4 [(1, 0)] from HO1.out ▸ hs)
  have HX4 := Lib.hid (HX3.out.below hb4)
  have HN4 := Lib.hid (HN3.out.below hb4 (Nat.le_refl _))
  have HE4 := Lib.hid (HE3.out.below hb4 (Nat.le_refl _))
  have HB4 := Lib.hid (HB3.out.trans (hb4.mono HB3.out.size))
  have l0 := cell_below hb4 hlt3 n0
  have l1 := cell_below hb4 hlt3 n1
  have q0 := cell_below hb4 hgl ha
  have q1 := cell_below hb4 hgl hb
  have HF := Lib.hid sh_find
  clear hs hb4 n0 n1 HN3 HE3 ha hb
  go_wp2_with fail
  refine (find_any p _ _ _ (sz1 _) _ HX4.out).mono ?_
  rintro e w5 ⟨rfl, rfl⟩
  rw [show FOUND (findI ([shA, shB].map (·.nm)) ⟨#[98]⟩ [shA, shB].length) = .tuple #[.int .i64 1, .bool true] by rw [show findI ([shA, shB].map (·.nm)) ⟨#[98]⟩ [shA, shB].length = 1 from HF.out]; rfl]
  go_wp2_with fail
  refine (graphRight_any _ _ _ _ _ HN4.out HE4.out).mono ?_
  rintro e w6 ⟨rfl, hb6⟩
  rw [HR.out]
  have HX6 := Lib.hid (HX4.out.below hb6)
  have HB6 := Lib.hid (HB4.out.trans (hb6.mono HB4.out.size))
  have hb7 := (Below.refl w6.heap.size w6).alloc (Nat.le_refl _) (.cells #[.string ⟨#[]⟩, .slice none 0 0, .slice none 0 0] 46)
  have HB7 := Lib.hid (HB6.out.trans (hb7.mono HB6.out.size))
  have HX7 := Lib.hid (HX6.out.below hb7)
  have HN7 := Lib.hid (sh_one w6)
  have HR1 := Lib.hid sh_right1
  clear hb6 hb7 l0 l1 q0 q1 ha' hb' HN4 HE4
  go_wp2_with fail
  refine (graphRight_any _ _ _ _ _ HN7.out (Edges.nil _)).mono ?_
  rintro e w8 ⟨rfl, hb8⟩
  rw [HR1.out]
  have HX8 := Lib.hid (HX7.out.below hb8)
  have HB8 := Lib.hid (HB7.out.trans (hb8.mono HB7.out.size))
  clear hb8
  go_wp2_with fail
  refine (labels_any p _ _ false 1 _ HX8.out).mono ?_
  rintro e w9 ⟨v9, rfl, hl9, hb9⟩
  rw [sh_lbl] at hl9
  obtain ⟨A9, c9, rfl, -, -, -, -⟩ := hl9.sl.form
  have HB9 := Lib.hid (HB8.out.trans (hb9.mono HB8.out.size))
  clear hl9 hb9
  go_wp2_with fail
  go_ret
  exact ⟨rfl, HB9.out⟩
end Go.Proofs.Ytbolojjnkkgehaa
