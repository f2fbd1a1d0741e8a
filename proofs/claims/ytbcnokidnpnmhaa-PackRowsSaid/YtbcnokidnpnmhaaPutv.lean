import Derived.Test.YtbcnokidnpnmhaaPut2
import Derived.Deep.RegionHeld3
import Derived.Deep.DrawnRows
namespace Go.Proofs.Ytbcnokidnpnmhaa
open Go.RowKit
attribute [local go_sem ↓] Go.wp_at_zero Go.wp_at_succ

theorem neg_u64 (n : Int) (h : -9223372036854775808 ≤ n) (h0 : n < 0) : bits .xor .u64 IntKind.u64.max (IntKind.u64.wrap n) = (((-1 - n).toNat : Nat) : Int) := by
  obtain ⟨m, hm⟩ : ∃ m : Nat, IntKind.u64.wrap n = (m : Int) ∧ m < 18446744073709551616 ∧ (m : Int) = n + 18446744073709551616 := ⟨(n + 18446744073709551616).toNat, by rw [IntKind.wrap_u64]; omega, by omega, by omega⟩
  rw [hm.1, xor_max m hm.2.1]
  omega
theorem pos_u64 (n : Int) (h : 0 ≤ n) (h0 : n ≤ 9223372036854775807) : IntKind.u64.wrap n = ((n.toNat : Nat) : Int) := by
  rw [IntKind.wrap_u64]
  omega

set_option maxHeartbeats 400000 in
theorem putValue_err (B : Nat) (v : Value) (l : List UInt8) (k n : Int) (f : Nat) (s : ByteArray) (w : World) (ho : OwnB w B v l)
    (HR : Hid (∀ w, Calls Try.prog 27 #[VAL k n f s] w fun e w' => e = .returned (.bool false) ∧ Below w.heap.size w w')) :
    Calls Try.prog 14 #[v, VAL k n f s] w fun e w' => ∃ v', e = .returned (.tuple #[v', .int .i64 1]) ∧ OwnB w' B v' (l) ∧ Wrote w v w' v' := by
  have HV := Lib.hid ho.lt
  go_enter Try.func14, Try.ntmps14
  go_wp2_with (go_at_call 27; refine (HR.out _).mono ?_; rintro e w1 ⟨rfl, hb⟩; obtain ⟨hc, hf⟩ := bcell hb)
  have hO : OwnB w1 B v l := (ho.alloc _).kept (grown_below hb none) (by cases v.ownBlock <;> simp)
  have hW : Wrote w v w1 v := (Wrote.of_below hb).then_alloc
  go_ret2
  exact ⟨v, rfl, hO, hW⟩

set_option maxHeartbeats 400000 in
theorem putValue_neg (B : Nat) (v : Value) (l : List UInt8) (n : Int) (f : Nat) (s : ByteArray) (w : World) (ho : OwnB w B v l) (hB : B ≤ w.heap.size) (hl : l.length < 140737488340000) (hn0 : -9223372036854775808 ≤ n) (hn : n < 0)
    (HR : Hid (∀ w, Calls Try.prog 27 #[VAL 2 n f s] w fun e w' => e = .returned (.bool true) ∧ Below w.heap.size w w')) :
    Calls Try.prog 14 #[v, VAL 2 n f s] w fun e w' => ∃ v', e = .returned (.tuple #[v', .int .i64 0]) ∧ OwnB w' B v' (l ++ ([18] ++ putB (-1 - n).toNat)) ∧ Wrote w v w' v' := by
  have c1 : decide (n < 0) = true := by simpa using hn
  have HX := Lib.hid (neg_u64 n hn0 hn)
  have HM := Lib.hid (show (-1 - n).toNat < 18446744073709551616 by omega)
  clear hn hn0
  have HV := Lib.hid ho.lt
  go_enter Try.func14, Try.ntmps14
  go_wp2_with (go_at_call 27; refine (HR.out _).mono ?_; rintro e w1 ⟨rfl, hb⟩; obtain ⟨hc, hf⟩ := bcell hb)
  have hO : OwnB w1 B v l := (ho.alloc _).kept (grown_below hb none) (by cases v.ownBlock <;> simp)
  have hW : Wrote w v w1 v := (Wrote.of_below hb).then_alloc
  have hB1 : B ≤ w1.heap.size := by have := hb.size; simp at this; omega
  have hsz : w.heap.size < w1.heap.size := by have := hb.size; simp at this; omega
  have hk0 : w1.cell? ⟨w.heap.size, 0, none⟩ = some (.int .i64 2) := by rw [hc _ _ (by simp)]; simp [go_sem]
  have hk1 : w1.cell? ⟨w.heap.size, 1, none⟩ = some (.int .i64 n) := by rw [hc _ _ (by simp)]; simp [go_sem]
  have hk2 : w1.cell? ⟨w.heap.size, 2, none⟩ = some (.float .f64 f) := by rw [hc _ _ (by simp)]; simp [go_sem]
  have hk3 : w1.cell? ⟨w.heap.size, 3, none⟩ = some (.string s) := by rw [hc _ _ (by simp)]; simp [go_sem]
  have hne : some w.heap.size ≠ v.ownBlock := fun e => by have := (HV.out _ e.symm).2; omega
  clear hc hf hb
  go_region_held3 (fun w' => w'.cell? ⟨w.heap.size, 0, none⟩ = some (.int .i64 2) ∧ w'.cell? ⟨w.heap.size, 1, none⟩ = some (.int .i64 n)) (first | go_keep | (go_split_ands; refine ⟨?_, ?_⟩ <;> (first | exact hw2.grown.cell (by simp [*]) hne | exact hw3.grown.cell (by assumption) hne2))) (first | ((refine step_app1 b5 (by rfl) (.tmp 19) (.tmp 24) (by rfl) (v := v) (l := l) (B := B) (by rfl) (by repeat (first | exact hO | apply OwnB.alloc | apply OwnB.drew)) ⟨w1.heap.size, 0, none⟩ 18 (IntKind.u8.wrap (IntKind.i64.wrap 18)) (by rfl) (by simp) (by decide) (by omega) (by simp; omega) ?_; intro v2 w2 ho2 hw2; have hne2 := hw2.near.ne hne (by simp; omega); have hsz2 : B ≤ w2.heap.size := Nat.le_trans (Nat.le_trans hB1 (by simp)) hw2.grown.size)) | ((go_at_call 11; refine (put_at B v2 (l ++ [18]) (-1 - n).toNat _ HX.out HM.out _ (by exact ho2) (by exact hsz2) (by simp; omega)).mono ?_; rintro e w3 ⟨v3, rfl, ho3, hw3⟩)))
  all_goals go_wp2
  all_goals go_ret2
  all_goals exact ⟨v3, rfl, by simpa using ho3, hW.trans ((Wrote.then_alloc (Wrote.then_drew hw2)).trans hw3)⟩


set_option maxHeartbeats 400000 in
theorem putValue_pos1 (B : Nat) (v : Value) (l : List UInt8) (n : Int) (f : Nat) (s : ByteArray) (w : World) (ho : OwnB w B v l) (hB : B ≤ w.heap.size) (hl : l.length < 140737488340000) (hn0 : 0 ≤ n) (hn : n ≤ 9223372036854775807)
    (HR : Hid (∀ w, Calls Try.prog 27 #[VAL 1 n f s] w fun e w' => e = .returned (.bool true) ∧ Below w.heap.size w w')) :
    Calls Try.prog 14 #[v, VAL 1 n f s] w fun e w' => ∃ v', e = .returned (.tuple #[v', .int .i64 0]) ∧ OwnB w' B v' (l ++ ([1] ++ putB n.toNat)) ∧ Wrote w v w' v' := by
  have c1 : decide (n < 0) = false := by simpa using hn0
  have HX := Lib.hid (pos_u64 n hn0 hn)
  have HM := Lib.hid (show n.toNat < 18446744073709551616 by omega)
  clear hn hn0
  have HV := Lib.hid ho.lt
  go_enter Try.func14, Try.ntmps14
  go_wp2_with (go_at_call 27; refine (HR.out _).mono ?_; rintro e w1 ⟨rfl, hb⟩; obtain ⟨hc, hf⟩ := bcell hb)
  have hO : OwnB w1 B v l := (ho.alloc _).kept (grown_below hb none) (by cases v.ownBlock <;> simp)
  have hW : Wrote w v w1 v := (Wrote.of_below hb).then_alloc
  have hB1 : B ≤ w1.heap.size := by have := hb.size; simp at this; omega
  have hsz : w.heap.size < w1.heap.size := by have := hb.size; simp at this; omega
  have hk0 : w1.cell? ⟨w.heap.size, 0, none⟩ = some (.int .i64 1) := by rw [hc _ _ (by simp)]; simp [go_sem]
  have hk1 : w1.cell? ⟨w.heap.size, 1, none⟩ = some (.int .i64 n) := by rw [hc _ _ (by simp)]; simp [go_sem]
  have hk2 : w1.cell? ⟨w.heap.size, 2, none⟩ = some (.float .f64 f) := by rw [hc _ _ (by simp)]; simp [go_sem]
  have hk3 : w1.cell? ⟨w.heap.size, 3, none⟩ = some (.string s) := by rw [hc _ _ (by simp)]; simp [go_sem]
  have hne : some w.heap.size ≠ v.ownBlock := fun e => by have := (HV.out _ e.symm).2; omega
  clear hc hf hb
  go_region_held3 (fun w' => w'.cell? ⟨w.heap.size, 0, none⟩ = some (.int .i64 1) ∧ w'.cell? ⟨w.heap.size, 1, none⟩ = some (.int .i64 n)) (first | go_keep | (go_split_ands; refine ⟨?_, ?_⟩ <;> (first | exact hw2.grown.cell (by simp [*]) hne | exact hw3.grown.cell (by assumption) hne2))) (first | ((refine step_app1 b5 (by rfl) (.tmp 31) (.tmp 35) (by rfl) (v := v) (l := l) (B := B) (by rfl) (by repeat (first | exact hO | apply OwnB.alloc | apply OwnB.drew)) ⟨w1.heap.size, 0, none⟩ 1 (IntKind.u8.wrap 1) (by rfl) (by simp) (by decide) (by omega) (by simp; omega) ?_; intro v2 w2 ho2 hw2; have hne2 := hw2.near.ne hne (by simp; omega); have hsz2 : B ≤ w2.heap.size := Nat.le_trans (Nat.le_trans hB1 (by simp)) hw2.grown.size)) | ((go_at_call 11; refine (put_at B v2 (l ++ [1]) n.toNat _ HX.out HM.out _ (by exact ho2) (by exact hsz2) (by simp; omega)).mono ?_; rintro e w3 ⟨v3, rfl, ho3, hw3⟩)))
  all_goals go_wp2
  all_goals go_ret2
  all_goals exact ⟨v3, rfl, by simpa using ho3, hW.trans ((Wrote.then_alloc (Wrote.then_drew hw2)).trans hw3)⟩


set_option maxHeartbeats 400000 in
theorem putValue_pos2 (B : Nat) (v : Value) (l : List UInt8) (n : Int) (f : Nat) (s : ByteArray) (w : World) (ho : OwnB w B v l) (hB : B ≤ w.heap.size) (hl : l.length < 140737488340000) (hn0 : 0 ≤ n) (hn : n ≤ 9223372036854775807)
    (HR : Hid (∀ w, Calls Try.prog 27 #[VAL 2 n f s] w fun e w' => e = .returned (.bool true) ∧ Below w.heap.size w w')) :
    Calls Try.prog 14 #[v, VAL 2 n f s] w fun e w' => ∃ v', e = .returned (.tuple #[v', .int .i64 0]) ∧ OwnB w' B v' (l ++ ([2] ++ putB n.toNat)) ∧ Wrote w v w' v' := by
  have c1 : decide (n < 0) = false := by simpa using hn0
  have HX := Lib.hid (pos_u64 n hn0 hn)
  have HM := Lib.hid (show n.toNat < 18446744073709551616 by omega)
  clear hn hn0
  have HV := Lib.hid ho.lt
  go_enter Try.func14, Try.ntmps14
  go_wp2_with (go_at_call 27; refine (HR.out _).mono ?_; rintro e w1 ⟨rfl, hb⟩; obtain ⟨hc, hf⟩ := bcell hb)
  have hO : OwnB w1 B v l := (ho.alloc _).kept (grown_below hb none) (by cases v.ownBlock <;> simp)
  have hW : Wrote w v w1 v := (Wrote.of_below hb).then_alloc
  have hB1 : B ≤ w1.heap.size := by have := hb.size; simp at this; omega
  have hsz : w.heap.size < w1.heap.size := by have := hb.size; simp at this; omega
  have hk0 : w1.cell? ⟨w.heap.size, 0, none⟩ = some (.int .i64 2) := by rw [hc _ _ (by simp)]; simp [go_sem]
  have hk1 : w1.cell? ⟨w.heap.size, 1, none⟩ = some (.int .i64 n) := by rw [hc _ _ (by simp)]; simp [go_sem]
  have hk2 : w1.cell? ⟨w.heap.size, 2, none⟩ = some (.float .f64 f) := by rw [hc _ _ (by simp)]; simp [go_sem]
  have hk3 : w1.cell? ⟨w.heap.size, 3, none⟩ = some (.string s) := by rw [hc _ _ (by simp)]; simp [go_sem]
  have hne : some w.heap.size ≠ v.ownBlock := fun e => by have := (HV.out _ e.symm).2; omega
  clear hc hf hb
  go_region_held3 (fun w' => w'.cell? ⟨w.heap.size, 0, none⟩ = some (.int .i64 2) ∧ w'.cell? ⟨w.heap.size, 1, none⟩ = some (.int .i64 n)) (first | go_keep | (go_split_ands; refine ⟨?_, ?_⟩ <;> (first | exact hw2.grown.cell (by simp [*]) hne | exact hw3.grown.cell (by assumption) hne2))) (first | ((refine step_app1 b5 (by rfl) (.tmp 31) (.tmp 35) (by rfl) (v := v) (l := l) (B := B) (by rfl) (by repeat (first | exact hO | apply OwnB.alloc | apply OwnB.drew)) ⟨w1.heap.size, 0, none⟩ 2 (IntKind.u8.wrap 2) (by rfl) (by simp) (by decide) (by omega) (by simp; omega) ?_; intro v2 w2 ho2 hw2; have hne2 := hw2.near.ne hne (by simp; omega); have hsz2 : B ≤ w2.heap.size := Nat.le_trans (Nat.le_trans hB1 (by simp)) hw2.grown.size)) | ((go_at_call 11; refine (put_at B v2 (l ++ [2]) n.toNat _ HX.out HM.out _ (by exact ho2) (by exact hsz2) (by simp; omega)).mono ?_; rintro e w3 ⟨v3, rfl, ho3, hw3⟩)))
  all_goals go_wp2
  all_goals go_ret2
  all_goals exact ⟨v3, rfl, by simpa using ho3, hW.trans ((Wrote.then_alloc (Wrote.then_drew hw2)).trans hw3)⟩


set_option maxHeartbeats 400000 in
theorem putValue_text (B : Nat) (v : Value) (l : List UInt8) (n : Int) (f : Nat) (s : ByteArray) (w : World) (ho : OwnB w B v l) (hB : B ≤ w.heap.size) (hl : l.length < 140737488340000) (hls : l.length + s.size < 140737488340000)
    (HR : Hid (∀ w, Calls Try.prog 27 #[VAL 4 n f s] w fun e w' => e = .returned (.bool true) ∧ Below w.heap.size w w')) :
    Calls Try.prog 14 #[v, VAL 4 n f s] w fun e w' => ∃ v', e = .returned (.tuple #[v', .int .i64 0]) ∧ OwnB w' B v' (l ++ ([4] ++ putTextB s.data.toList)) ∧ Wrote w v w' v' := by
  have HV := Lib.hid ho.lt
  go_enter Try.func14, Try.ntmps14
  go_wp2_with (go_at_call 27; refine (HR.out _).mono ?_; rintro e w1 ⟨rfl, hb⟩; obtain ⟨hc, hf⟩ := bcell hb)
  have hO : OwnB w1 B v l := (ho.alloc _).kept (grown_below hb none) (by cases v.ownBlock <;> simp)
  have hW : Wrote w v w1 v := (Wrote.of_below hb).then_alloc
  have hB1 : B ≤ w1.heap.size := by have := hb.size; simp at this; omega
  have hsz : w.heap.size < w1.heap.size := by have := hb.size; simp at this; omega
  have hk0 : w1.cell? ⟨w.heap.size, 0, none⟩ = some (.int .i64 4) := by rw [hc _ _ (by simp)]; simp [go_sem]
  have hk1 : w1.cell? ⟨w.heap.size, 1, none⟩ = some (.int .i64 n) := by rw [hc _ _ (by simp)]; simp [go_sem]
  have hk2 : w1.cell? ⟨w.heap.size, 2, none⟩ = some (.float .f64 f) := by rw [hc _ _ (by simp)]; simp [go_sem]
  have hk3 : w1.cell? ⟨w.heap.size, 3, none⟩ = some (.string s) := by rw [hc _ _ (by simp)]; simp [go_sem]
  have hne : some w.heap.size ≠ v.ownBlock := fun e => by have := (HV.out _ e.symm).2; omega
  clear hc hf hb
  go_region_held3 (fun w' => w'.cell? ⟨w.heap.size, 0, none⟩ = some (.int .i64 4) ∧ w'.cell? ⟨w.heap.size, 3, none⟩ = some (.string s)) (first | go_keep | (go_split_ands; refine ⟨?_, ?_⟩ <;> (first | exact hw2.grown.cell (by simp [*]) hne | exact hw3.grown.cell (by assumption) hne2))) (first | ((refine step_app1 b5 (by rfl) (.tmp 66) (.tmp 70) (by rfl) (v := v) (l := l) (B := B) (by rfl) (by repeat (first | exact hO | apply OwnB.alloc | apply OwnB.drew)) ⟨w1.heap.size, 0, none⟩ 4 (IntKind.u8.wrap 4) (by rfl) (by simp) (by decide) (by omega) (by simp; omega) ?_; intro v2 w2 ho2 hw2; have hne2 := hw2.near.ne hne (by simp; omega); have hsz2 : B ≤ w2.heap.size := Nat.le_trans (Nat.le_trans hB1 (by simp)) hw2.grown.size)) | ((go_at_call 12; refine (putText_any B v2 (l ++ [4]) s _ (by exact ho2) (by exact hsz2) (by simp; omega)).mono ?_; rintro e w3 ⟨v3, rfl, ho3, hw3⟩)))
  all_goals go_wp2
  all_goals go_ret2
  all_goals exact ⟨v3, rfl, by simpa using ho3, hW.trans ((Wrote.then_alloc (Wrote.then_drew hw2)).trans hw3)⟩


set_option maxHeartbeats 400000 in
theorem putValue_null (B : Nat) (v : Value) (l : List UInt8) (n : Int) (f : Nat) (s : ByteArray) (w : World) (ho : OwnB w B v l) (hB : B ≤ w.heap.size) (hl : l.length < 140737488340000)
    (HR : Hid (∀ w, Calls Try.prog 27 #[VAL 0 n f s] w fun e w' => e = .returned (.bool true) ∧ Below w.heap.size w w')) :
    Calls Try.prog 14 #[v, VAL 0 n f s] w fun e w' => ∃ v', e = .returned (.tuple #[v', .int .i64 0]) ∧ OwnB w' B v' (l ++ [0]) ∧ Wrote w v w' v' := by
  have HV := Lib.hid ho.lt
  go_enter Try.func14, Try.ntmps14
  go_wp2_with fail
  refine (HR.out _).mono ?_
  rintro e w1 ⟨rfl, hb⟩
  obtain ⟨hc, hf⟩ := bcell hb
  have hO : OwnB w1 B v l := (ho.alloc _).kept (grown_below hb none) (by cases v.ownBlock <;> simp)
  have hW : Wrote w v w1 v := (Wrote.of_below hb).then_alloc
  have hB1 : B ≤ w1.heap.size := by have := hb.size; simp at this; omega
  have hsz : w.heap.size < w1.heap.size := by have := hb.size; simp at this; omega
  have hk0 : w1.cell? ⟨w.heap.size, 0, none⟩ = some (.int .i64 0) := by rw [hc _ _ (by simp)]; simp [go_sem]
  have hk1 : w1.cell? ⟨w.heap.size, 1, none⟩ = some (.int .i64 n) := by rw [hc _ _ (by simp)]; simp [go_sem]
  have hk2 : w1.cell? ⟨w.heap.size, 2, none⟩ = some (.float .f64 f) := by rw [hc _ _ (by simp)]; simp [go_sem]
  have hk3 : w1.cell? ⟨w.heap.size, 3, none⟩ = some (.string s) := by rw [hc _ _ (by simp)]; simp [go_sem]
  have hne : some w.heap.size ≠ v.ownBlock := fun e => by have := (HV.out _ e.symm).2; omega
  clear hc hf hb
  go_wp2_with (at_builtin; refine wpList_app1 b5 rfl (.tmp 75) (.tmp 79) rfl (v := v) rfl (hO.alloc _) ⟨w1.heap.size, 0, none⟩ 0 _ rfl (by simp; rfl) ?_ ?_ ?_ ?_; (decide); (omega); (simp; omega); intro v2 w2 ho2 hw2)
  go_ret2
  exact ⟨v2, rfl, ho2, hW.trans hw2.then_alloc⟩

set_option maxHeartbeats 400000 in
theorem putValue_float (B : Nat) (v : Value) (l : List UInt8) (n : Int) (f : Nat) (s : ByteArray) (w : World) (ho : OwnB w B v l) (hB : B ≤ w.heap.size) (hl : l.length < 140737488340000) (hf64 : f < 18446744073709551616)
    (HR : Hid (∀ w, Calls Try.prog 27 #[VAL 3 n f s] w fun e w' => e = .returned (.bool true) ∧ Below w.heap.size w w')) :
    Calls Try.prog 14 #[v, VAL 3 n f s] w fun e w' => ∃ v', e = .returned (.tuple #[v', .int .i64 0]) ∧ OwnB w' B v' (l ++ 3 :: fixB 8 (keyB f)) ∧ Wrote w v w' v' := by
  have HF := Lib.hid hf64
  have HKL := Lib.hid (keyB_lt f hf64)
  clear hf64
  have HV := Lib.hid ho.lt
  go_enter Try.func14, Try.ntmps14
  go_wp2_with fail
  refine (HR.out _).mono ?_
  rintro e w1 ⟨rfl, hb⟩
  obtain ⟨hc, hf⟩ := bcell hb
  have hO : OwnB w1 B v l := (ho.alloc _).kept (grown_below hb none) (by cases v.ownBlock <;> simp)
  have hW : Wrote w v w1 v := (Wrote.of_below hb).then_alloc
  have hB1 : B ≤ w1.heap.size := by have := hb.size; simp at this; omega
  have hsz : w.heap.size < w1.heap.size := by have := hb.size; simp at this; omega
  have hk0 : w1.cell? ⟨w.heap.size, 0, none⟩ = some (.int .i64 3) := by rw [hc _ _ (by simp)]; simp [go_sem]
  have hk1 : w1.cell? ⟨w.heap.size, 1, none⟩ = some (.int .i64 n) := by rw [hc _ _ (by simp)]; simp [go_sem]
  have hk2 : w1.cell? ⟨w.heap.size, 2, none⟩ = some (.float .f64 f) := by rw [hc _ _ (by simp)]; simp [go_sem]
  have hk3 : w1.cell? ⟨w.heap.size, 3, none⟩ = some (.string s) := by rw [hc _ _ (by simp)]; simp [go_sem]
  have hne : some w.heap.size ≠ v.ownBlock := fun e => by have := (HV.out _ e.symm).2; omega
  clear hc hf hb
  go_wp2_with (at_builtin; refine wpList_app1 b5 rfl (.tmp 43) (.tmp 47) rfl (v := v) rfl (hO.alloc _) ⟨w1.heap.size, 0, none⟩ 3 _ rfl (by simp; rfl) ?_ ?_ ?_ ?_; (decide); (omega); (simp; omega); intro v2 w2 ho2 hw2)
  have hW2 := hW.trans hw2.then_alloc
  have hc2 : w2.cell? ⟨w.heap.size, 2, none⟩ = some (.float .f64 f) := hw2.grown.cell (cell_alloc hk2 _) hne
  have hne2 := hw2.near.ne hne (by simp; omega)
  have hsz2 : w.heap.size < w2.heap.size := by have := hw2.grown.size; simp at this; omega
  go_loopw [0, 6] (fun v0 v6 wr => ∃ j : Nat, j ≤ 8 ∧ v6 = .int .i64 ((j : Int) - 1) ∧ Hid (OwnB wr B v0 (l ++ [3] ++ fixB (8 - j) (keyB f / 256 ^ j)) ∧ Wrote w v wr v0 ∧ wr.cell? ⟨w.heap.size, 2, none⟩ = some (.float .f64 f) ∧ some w.heap.size ≠ v0.ownBlock ∧ w.heap.size < wr.heap.size)) (fun _ v6 _ => (intOf v6 + 1).toNat)
  case atStart => exact ⟨8, by omega, rfl, by simpa [fixB] using ho2, hW2, hc2, hne2, hsz2⟩
  case round =>
    obtain ⟨j, hj, rfl, HOW⟩ := hrel
    obtain ⟨hO3, hW3, hc3, hne3, hsz3⟩ := HOW.out
    have HW3 := Lib.hid hW3
    clear hW3 hc2
    have hlen : (l ++ [3] ++ fixB (8 - j) (keyB f / 256 ^ j)).length ≤ l.length + 9 := by
      simp [fixB_length]
    have hB3 : B ≤ wr.heap.size := by omega
    rcases Nat.eq_zero_or_pos j with h0 | h0
    · subst h0
      go_wp2_with fail
      go_ret2
      refine ⟨_, rfl, ?_, HW3.out⟩
      have := HOW.out.1
      simpa using this
    · obtain ⟨i, rfl⟩ : ∃ i, j = i + 1 := ⟨j - 1, by omega⟩
      have hi : ((i + 1 : Nat) : Int) - 1 = i := by omega
      rw [hi]
      have HS := Lib.hid (fixB_step (8 - (i + 1)) (keyB f) i)
      clear hi h0
      go_wp2_with fail
      refine (key_any _ HF.out _).mono ?_
      rintro e w4 ⟨rfl, rfl⟩
      go_wp2_with (at_builtin; refine wpList_app1 b5 rfl (.tmp 53) (.tmp 61) rfl (v := u0) rfl (hO3.alloc _) ⟨wr.heap.size, 0, none⟩ (UInt8.ofNat (keyB f / 256 ^ i)) _ rfl (by simp; rfl) ?_ ?_ ?_ ?_; (rw [div_256, byte_toNat]); (omega); (simp; omega); intro v5 w5 ho5 hw5)
      go_roundw
      case rel =>
        refine ⟨i, by omega, by go_num, ?_⟩
        rw [List.append_assoc, HS.out, show 8 - (i + 1) + 1 = 8 - i by omega] at ho5
        exact ⟨ho5, HW3.out.trans hw5.then_alloc, hw5.grown.cell (cell_alloc hc3 _) hne3, hw5.near.ne hne3 (by simp; omega), by have := hw5.grown.size; simp at this; omega⟩
      case measure => simp [intOf]

end Go.Proofs.Ytbcnokidnpnmhaa
