/- Proved: 'bridlewaylaw03.PackWrites' returns true for any bytes, number, text and value, and leaves its input as it was. No condition. -/
import Derived.Test.YtbcnokidnpnmhaaHold
import Derived.Test.YtbcnokidnpnmhaaRef3
import Derived.ChangeMaps5
import Derived.Deep.RegionHeld3
namespace Go.Proofs.Ytbcnokidnpnmhaa
open Go.ChangeShapes Go.WideShapes Go.ChangeAt Go.RowKit
attribute [local go_sem ↓] Go.wp_at_zero Go.wp_at_succ

/-- append(b, x...) as one step of a region that draws its order. -/
theorem step_appB {P : Program} (h5 : Byte5 P) {w : World} {ops : Array Oper} {o : Oper} {a : Act} {K : Act → World → Prop} {Q : Exit → Act → World → Prop} {E : Prop} (hgd : o.guard = none) (s x : Operand)
    (ho : o.op = .call { callee := .builtin .append, args := #[s, x], argTypes := #[22, 22] })
    {B : Nat} {v y : Value} {l m : List UInt8} (hs : a.eval s = v) (hown : OwnB w B v l) (hx : a.eval x = y) (hr : ReadsB w y m)
    (hl : l.length + m.length ≤ 140737488355328) (hB : B ≤ w.heap.size)
    (h : ∀ v' w', OwnB w' B v' (l ++ m) → Wrote w v w' v' → K (a.put o.dst v') w') : if Region.wanted o (yielded ops a.tmps) = true then Oper.wp P o a w K Q else E := by
  have hw : Region.wanted o (yielded ops a.tmps) = true := by simp [Region.wanted, hgd]
  rw [if_pos hw]
  obtain ⟨i5, hi, hz, hsz, hby⟩ := info_parts h5.hi
  rcases hr with ⟨rfl, rfl⟩ | ⟨ad, c, rfl, h1, h2, h3, h4⟩
  · have hrun := run_append_owned_none (P := P) (w := w) B 22 o.type 5 i5 1 h5.ht hi v l.length (cellsU l) hown
    unfold Oper.wp execOp
    simp only [ho, resolve, invoke, builtin, Sem.run_bind, Sem.run_pure, Result.andThen_ok, List.map_toArray, List.map_cons, List.map_nil, hs, hx, hrun]
    exact h v w (by rw [List.append_nil]; exact hown) (Wrote.refl w v)
  · obtain ⟨v', w', hr, g2, g3, g4, g9⟩ := run_append_own_at (P := P) w B 22 o.type 5 i5 (.int .u8 0) 1 1 h5.ht hi hz hsz hby rfl (by decide) v l.length (cellsU l) hown ad m.length c (cellsU m) (by rw [cellsU_length]; omega)
      (fun j u hj => by
        obtain ⟨hj1, rfl⟩ := cellsU_get hj
        rw [addr_add h3]; exact h4 j hj1)
      (fun u hu => by simp only [cellsU, List.mem_map] at hu; obtain ⟨_, _, rfl⟩ := hu; rfl) (by unfold maxLen; omega) (by omega) hB
    unfold Oper.wp execOp
    simp only [ho, resolve, invoke, builtin, Sem.run_bind, Sem.run_pure, Result.andThen_ok, List.map_toArray, List.map_cons, List.map_nil, hs, hx, hr]
    refine h v' w' ?_ ⟨g3, Near.of g9⟩
    unfold OwnB
    rw [cellsU_append, List.length_append]
    exact g2

theorem putValueB_lenW {x : Vl} (hx : Fits x) (hs : x.s.length ≤ 1000) : (putValueB x).length ≤ 100000 := by
  have hp : ∀ n, n < 18446744073709551616 → (putB n).length ≤ 9 := putB_len
  rcases right_cases hx.right with e | (e | e) | e | ⟨e, _⟩ | e
  · rw [e]; simp [putValueB]
  · rw [e]; have := hp 0 (by omega); simp [putValueB]; omega
  · rw [e]; have := hp 1 (by omega); simp [putValueB]; omega
  · have h0 := hx.n0
    have h1 := hx.n1
    rw [e]
    by_cases hn : x.n < 0
    · have := hp (-1 - x.n).toNat (by omega); simp [putValueB, hn]; omega
    · have := hp x.n.toNat (by omega); simp [putValueB, hn]; omega
  · rw [e]; simp [putValueB, fixB_length]
  · rw [e]; have := hp x.s.length (by omega); simp [putValueB, putTextB]; omega

theorem cutW_says (s : ByteArray) (q : Int) (hq : 0 ≤ q) : ∃ m : Nat, (if q < (s.size : Int) then q else (s.size : Int)) = (m : Int) ∧ (0 : Int) ≤ (m : Int) ∧ (m : Int) ≤ (s.size : Int) ∧ (m : Int) ≤ q ∧ (s.extract 0 m).size = m := by
  split
  · exact ⟨q.toNat, by omega, by omega, by omega, by omega, by simp; omega⟩
  · exact ⟨s.size, rfl, by omega, by omega, by omega, by simp⟩
theorem ownW_none (W : World) : OwnB (W.alloc (.cells #[] 5)) W.heap.size (.slice (some ⟨W.heap.size, 0, none⟩) 0 0) [] := own_lit W W.heap.size (Nat.le_refl _) [] (by simp)
theorem belowW_app {W w' : World} {v' : Value} (h : Wrote (W.alloc (.cells #[] 5)) (.slice (some ⟨W.heap.size, 0, none⟩) 0 0) w' v') : Below W.heap.size W w' :=
  wrote_below (below_alloc (Below.refl _ _) _) (by simp) (ownW_none W) h
theorem belowW_app2 {W w' w2 : World} {v' v2 : Value} {l : List UInt8} (hb : Below W.heap.size W w') (ho : OwnB w' W.heap.size v' l) (h : Wrote w' v' w2 v2) : Below W.heap.size W w2 := wrote_below hb hb.size ho h

theorem holds_below {w w' : World} {V : Value} {l : List UInt8} (h : ReadsB w V l) (hb : Below w.heap.size w w') : ReadsB w' V l ∧ (convert 22 9 V).run Try.prog w' = .ok (.string ⟨l.toArray⟩) w' := holds_of (h.below hb)

theorem putValue_q (B : Nat) (v : Value) (l : List UInt8) (k n : Int) (f : Nat) (s : ByteArray) (w : World) (q : Int) (m : List UInt8) (hq : (if rightB k n f s = true then (0 : Int) else 1) = q) (hm : (if rightB k n f s = true then putValueB ⟨k, n, f, s.data.toList⟩ else []) = m)
    (ho : OwnB w B v l) (hB : B ≤ w.heap.size)
    (hl : l.length < 140737488340000) (hls : l.length + s.size < 140737488340000) (hn0 : -9223372036854775808 ≤ n) (hn1 : n ≤ 9223372036854775807) (hf : f < 18446744073709551616) :
    Calls Try.prog 14 #[v, VAL k n f s] w fun e w' => ∃ v', e = .returned (.tuple #[v', .int .i64 q]) ∧ OwnB w' B v' (l ++ m) ∧ Wrote w v w' v' := by
  subst hq; subst hm
  exact putValue_any B v l k n f s w ho hB hl hls hn0 hn1 hf

theorem writes_walk (vm : Value) (lm0 : List UInt8) (n : Nat) (s : ByteArray) (k x : Int) (f : Nat) (hn : n < 18446744073709551616) (hx : -9223372036854775808 ≤ x ∧ x ≤ 9223372036854775807) (hf : f < 18446744073709551616)
    (w : World) (hr : ReadsB w vm lm0) (hv : ∀ b, vm.ownBlock = some b → b < w.heap.size) :
    Calls Try.prog 3 #[vm, .int .u64 n, .string s, .int .i64 k, .int .i64 x, .int .u64 f] w fun e w' => e = .returned (.bool true) ∧ Below w.heap.size w w' := by
  obtain ⟨m, hm, hm0, hms, hmq, hz⟩ := cutW_says s 300 (by omega)
  obtain ⟨A, c, rfl, hl⟩ := hr.form
  have hcap := hr.cap.2
  obtain ⟨m2, hm2, hm20, hm2l, hm2c, hm2q⟩ : ∃ m : Nat, (if (100 : Int) < (lm0.length : Int) then (100 : Int) else (lm0.length : Int)) = (m : Int) ∧ (0 : Int) ≤ (m : Int) ∧ m ≤ lm0.length ∧ (m : Int) ≤ (c : Int) ∧ m ≤ 100 := by
    split
    · exact ⟨100, rfl, by omega, by omega, by omega, by omega⟩
    · exact ⟨lm0.length, rfl, by omega, by omega, by omega, by omega⟩
  have HRM := Lib.hid (reads_take hr m2 hm2l)
  have HML := Lib.hid (show (lm0.take m2).length ≤ 100 by simp; omega)
  have HN := Lib.hid hn
  have HX := Lib.hid hx
  have HF := Lib.hid hf
  have HZ := Lib.hid hz
  clear hr hv hn hx hf hz hl hcap
  go_enter Try.func3, Try.ntmps3
  go_wp2_with fail
  refine (shown_any w).mono ?_
  rintro e w1 ⟨rfl, hb1⟩
  have hs1 := hb1.size
  have HRM1 := Lib.hid (HRM.out.below hb1)
  have HB1 := Lib.hid hb1
  clear hb1
  generalize hlb : lm0.take m2 = LB at *
  go_wp2_with (at_builtin; first | (refine wpList_appB b5 rfl (.tmp 22) (.tmp 27) rfl (B := w1.heap.size) (v := .slice (some ⟨w1.heap.size, 0, none⟩) 0 0) (l := []) (m := LB) rfl (ownW_none w1) rfl (HRM1.out.below (below_alloc (Below.refl _ _) _)) ?_ ?_ ?_; (have := HML.out; simp; omega); (simp); intro v2 w2 ho2 hw2; have hst := reads_string b5 ho2.reads; have hb2 := belowW_app hw2; have own4 := ownW_none w2; have hrd4 := ho2.reads.below (below_alloc (Below.refl w2.heap.size w2) (.cells #[] 5))) | (refine wpList_appB b5 rfl (.tmp 36) (.tmp 37) rfl (B := w2.heap.size) (v := .slice (some ⟨w2.heap.size, 0, none⟩) 0 0) (l := []) (m := [] ++ LB) rfl own4 rfl hrd4 ?_ ?_ ?_; (have := HML.out; simp; omega); (simp); intro v3 w3 ho3 hw3))
  refine (put_any w2.heap.size v3 _ n HN.out w3 ho3 (belowW_app hw3).size (by have := HML.out; simp; omega)).mono ?_
  rintro e w4 ⟨v4, rfl, ho4, hw4⟩
  have hb4 := belowW_app2 (belowW_app hw3) ho3 hw4
  simp only [List.nil_append] at ho2 ho4
  have HB2 := Lib.hid (HB1.out.trans (hb2.mono hs1))
  have hs2 := HB2.out.size
  have HB4 := Lib.hid (HB2.out.trans (hb4.mono hs2))
  have HR2 := Lib.hid (ho2.reads.below hb4)
  have HR4 := Lib.hid ho4.reads
  have own6 := ownW_none w4
  have hrd6 := HR2.out.below (below_alloc (Below.refl w4.heap.size w4) (.cells #[] 5))
  clear own4 hrd4 hst ho2 ho3 ho4 hw2 hw3 hw4 hb2 hb4 HB1 HRM1
  generalize s.extract 0 m = z at *
  have HZZ := Lib.hid (show z.size ≤ 300 by have := HZ.out; omega)
  go_wp2_with (at_builtin; first | (refine wpList_appB b5 rfl (.tmp 41) (.tmp 42) rfl (B := w4.heap.size) (v := .slice (some ⟨w4.heap.size, 0, none⟩) 0 0) (l := []) (m := LB) rfl own6 rfl hrd6 ?_ ?_ ?_; (have := HML.out; simp; omega); (simp); intro v5 w5 ho5 hw5))
  refine (putText_any w4.heap.size v5 _ z w5 ho5 (belowW_app hw5).size (by have := HML.out; have := HZZ.out; simp; omega)).mono ?_
  rintro e w6 ⟨v6, rfl, ho6, hw6⟩
  have hb6 := belowW_app2 (belowW_app hw5) ho5 hw6
  simp only [List.nil_append] at ho6
  have hs4 := HB4.out.size
  have HB6 := Lib.hid (HB4.out.trans (hb6.mono hs4))
  have HR26 := Lib.hid (HR2.out.below hb6)
  have HR46 := Lib.hid (HR4.out.below hb6)
  have HR66 := Lib.hid ho6.reads
  clear own6 hrd6 ho5 hw5 ho6 hw6 hb6 HB4 HR2 HR4
  go_wp2_with fail
  refine (value_any k x f z w6).mono ?_
  rintro e w7 ⟨rfl, rfl⟩
  go_wp2_with fail
  have hb7 : Below w6.heap.size w6 ((w6.alloc (VOBJ k x f z)).alloc (VOBJ k x f z)) := below_alloc (below_alloc (Below.refl _ _) _) _
  have va : ValAt ((w6.alloc (VOBJ k x f z)).alloc (VOBJ k x f z)) (w6.heap.size + 1) k x f z := by
    unfold ValAt
    rw [show w6.heap.size + 1 = (w6.alloc (VOBJ k x f z)).heap.size by simp]; exact heap_alloc_new _ _
  have hs6 := HB6.out.size
  have HB7 := Lib.hid (HB6.out.trans (hb7.mono hs6))
  have HR27 := Lib.hid (HR26.out.below hb7)
  have HR47 := Lib.hid (HR46.out.below hb7)
  have HR67 := Lib.hid (HR66.out.below hb7)
  have hsz7 : w6.heap.size + 1 < ((w6.alloc (VOBJ k x f z)).alloc (VOBJ k x f z)).heap.size := by simp
  clear hb7 HB6 HR26 HR46 HR66
  generalize (w6.alloc (VOBJ k x f z)).alloc (VOBJ k x f z) = w7 at *
  have a0 := va.c0
  have a1 := va.c1
  have a2 := va.c2
  have a3 := va.c3
  have VA := Lib.hid va
  clear va
  have hne : some (w6.heap.size + 1) ≠ (Value.slice (some ⟨w7.heap.size, 0, none⟩) 0 0).ownBlock := by simp [Value.ownBlock]; omega
  obtain ⟨q, hq⟩ : ∃ q : Int, (if rightB k x f z = true then (0 : Int) else 1) = q := ⟨_, rfl⟩
  obtain ⟨LV, hLV⟩ : ∃ L, (if rightB k x f z = true then putValueB ⟨k, x, f, z.data.toList⟩ else []) = L := ⟨_, rfl⟩
  have HQ := Lib.hid hq
  have HLV := Lib.hid hLV
  clear hq hLV
  go_cut [18, 19] from 51 to 58 (fun r8 e8 wx => e8 = .int .i64 q ∧ OwnB wx w7.heap.size r8 (LB ++ LV) ∧ Below w7.heap.size w7 wx)
  case first =>
    have hA1 := Lib.hid (show ([] : List UInt8).length + LB.length ≤ 140737488355328 by have := HML.out; simp; omega)
    have hA2 := Lib.hid (show w7.heap.size ≤ (w7.drew.alloc (.cells #[] 5)).heap.size by simp)
    have hA3 : ∀ {w8 : World}, (w7.drew.alloc (.cells #[] 5)).heap.size ≤ w8.heap.size → w7.heap.size ≤ w8.heap.size := fun h => Nat.le_trans hA2.out h
    have hA4 := Lib.hid (show ([] ++ LB : List UInt8).length < 140737488340000 by have := HML.out; simp; omega)
    have hA5 := Lib.hid (show ([] ++ LB : List UInt8).length + z.size < 140737488340000 by have := HML.out; have := HZZ.out; simp; omega)
    go_region_held3 (fun w' => (w'.cell? ⟨w6.heap.size + 1, 0, none⟩ = some (.int .i64 k) ∧ w'.cell? ⟨w6.heap.size + 1, 1, none⟩ = some (.int .i64 x)) ∧ (w'.cell? ⟨w6.heap.size + 1, 2, none⟩ = some (.float .f64 f) ∧ w'.cell? ⟨w6.heap.size + 1, 3, none⟩ = some (.string z))) (first | go_keep | (go_split_ands; refine ⟨⟨?_, ?_⟩, ⟨?_, ?_⟩⟩ <;> (first | exact hw8.grown.cell (by simp [*]) hne | exact hw9.grown.cell (by assumption) hne8))) (first | ((refine step_appB b5 (by rfl) (.tmp 52) (.tmp 53) (by rfl) (B := w7.heap.size) (v := .slice (some ⟨w7.heap.size, 0, none⟩) 0 0) (y := v2) (l := []) (m := LB) (by rfl) (by first | exact ownW_none w7.drew | exact (ownW_none w7).drew) (by rfl) (by first | exact HR27.out.below ((Below.refl w7.heap.size w7).drew.alloc (Nat.le_refl _) _) | exact HR27.out.below ((Below.refl w7.heap.size w7).alloc (Nat.le_refl _) _).drew) hA1.out hA2.out ?_; intro v8 w8 ho8 hw8; have hne8 := hw8.near.ne hne (by simp; omega))) | ((go_at_call 14; refine (putValue_q w7.heap.size v8 ([] ++ LB) k x f z _ q LV HQ.out HLV.out (by exact ho8) (hA3 hw8.grown.size) hA4.out hA5.out HX.out.1 HX.out.2 HF.out).mono ?_; rintro e w9 ⟨v9, rfl, ho9, hw9⟩)))
    go_wp2
    go_meet
    have hb8 : Below w7.heap.size w7 w8 := by first | exact wrote_below ((Below.refl w7.heap.size w7).drew.alloc (Nat.le_refl _) _) (by simp) (ownW_none w7.drew) hw8 | exact wrote_below ((Below.refl w7.heap.size w7).alloc (Nat.le_refl _) _).drew (by simp) (ownW_none w7).drew hw8
    exact ⟨rfl, by simpa using ho9, wrote_below hb8 hb8.size ho8 hw9⟩
  case rest =>
    obtain ⟨rfl, ho10, hb10⟩ := hcut
    have hs7 := HB7.out.size
    have HB10 := Lib.hid (HB7.out.trans (hb10.mono hs7))
    have HR210 := Lib.hid (HR27.out.below hb10)
    have HR410 := Lib.hid (HR47.out.below hb10)
    have HR610 := Lib.hid (HR67.out.below hb10)
    have va10 := VA.out.below hb10
    have HO10 := Lib.hid ho10.reads
    have hl10 : w6.heap.size + 1 < wc.heap.size := lt_of_block va10
    have hs10 := HB10.out.size
    clear HB7 HR27 HR47 HR67 VA a0 a1 a2 a3 hne ho10 hb10 hs7 hsz7
    have a0 := va10.c0
    have a1 := va10.c1
    have a2 := va10.c2
    have a3 := va10.c3
    have VA10 := Lib.hid va10
    clear va10
    go_wp2_with fail
    refine (refRight_any k x f z wc HF.out).mono ?_
    rintro e w11 ⟨rfl, hb⟩
    obtain ⟨R, hR⟩ : ∃ R, rightB k x f z = R := ⟨_, rfl⟩
    rw [hR]
    have HRR := Lib.hid hR
    clear hR
    have HB11 := Lib.hid (HB10.out.trans (hb.mono hs10))
    obtain ⟨c1, c2⟩ := holds_below HR210.out hb
    obtain ⟨c3, c4⟩ := holds_below HR410.out hb
    obtain ⟨c5, c6⟩ := holds_below HR610.out hb
    have HO11 := Lib.hid (HO10.out.below hb)
    have VA11 := Lib.hid (VA10.out.below hb)
    have hs11 := HB11.out.size
    clear HB10 HR210 HR410 HR610 HO10 VA10 hb a0 a1 a2 a3 hl10 hs10
    have hadd1 := str_add LB (putB n) (LB ++ putB n) rfl (by have := HML.out; have := putB_len n HN.out; rw [List.length_append]; omega)
    have hadd2 := str_add LB (putTextB z.data.toList) (LB ++ putTextB z.data.toList) rfl (by
      have h1 := HML.out
      have h2 : z.data.toList.length ≤ 300 := HZZ.out
      have h3 := putB_len z.data.toList.length (by omega)
      unfold putTextB
      rw [List.length_append, List.length_append]; omega)
    have HZ3 : z.size < 9000000000000000000 := by have := HZZ.out; omega
    go_upto_region 10 with fail
    generalize hpt : putTextB z.data.toList = PT at *
    generalize hpn : putB n = PN at *
    go_cut [82] from 61 to 81 (fun r wx => r = .bool false ∧ Below w11.heap.size w11 wx)
    case first =>
      go_region_held (fun w' => ((ReadsB w' v2 LB ∧ (convert 22 9 v2).run Try.prog w' = .ok (.string ⟨LB.toArray⟩) w') ∧ (ReadsB w' v4 (LB ++ PN) ∧ (convert 22 9 v4).run Try.prog w' = .ok (.string ⟨(LB ++ PN).toArray⟩) w')) ∧ (ReadsB w' v6 (LB ++ PT) ∧ (convert 22 9 v6).run Try.prog w' = .ok (.string ⟨(LB ++ PT).toArray⟩) w')) (first | (go_split_ands; refine ⟨⟨⟨?_, ?_⟩, ⟨?_, ?_⟩⟩, ⟨?_, ?_⟩⟩ <;> assumption) | (refine ⟨⟨holds_drew ?_, holds_drew ?_⟩, holds_drew ?_⟩ <;> assumption) | (go_split_ands; refine ⟨⟨holds_below ?_ hb13, holds_below ?_ hb13⟩, holds_below ?_ hb13⟩ <;> assumption) | (go_split_ands; refine ⟨⟨holds_below ?_ hb12, holds_below ?_ hb12⟩, holds_below ?_ hb12⟩ <;> assumption)) (first | ((go_at_call 16; refine (refPut_any n HN.out _).mono ?_; rw [hpn]; rintro e w12 ⟨rfl, hb12⟩)) | ((go_at_call 17; refine (refPutText_any z HZ3 _).mono ?_; rw [hpt]; rintro e w13 ⟨rfl, hb13⟩)))
      go_wp2
      go_meet
      have hb0 : Below w11.heap.size w11 w12 := (Below.refl w11.heap.size w11).drew.trans hb12
      exact ⟨rfl, hb0.trans (hb13.mono hb0.size)⟩
    case rest =>
      obtain ⟨rfl, hb14⟩ := hcut
      have HB14 := Lib.hid (HB11.out.trans (hb14.mono hs11))
      have hrd := HO11.out.below hb14
      have va14 := VA11.out.below hb14
      have hs14 := HB14.out.size
      have hl14 : w6.heap.size + 1 < wc.heap.size := lt_of_block va14
      clear HB11 HO11 VA11 hb14 hs11 c1 c2 c3 c4 c5 c6 hadd1 hadd2 hpt hpn
      cases R with
      | false =>
        obtain rfl : q = 1 := by have := HQ.out; rw [HRR.out] at this; simpa using this.symm
        obtain rfl : LV = [] := by have := HLV.out; rw [HRR.out] at this; simpa using this.symm
        rw [List.append_nil] at hrd
        have hst := reads_string b5 hrd
        clear va14 hrd HQ HLV HRR
        go_wp2_with fail
        go_ret
        exact ⟨rfl, HB14.out⟩
      | true =>
        obtain rfl : q = 0 := by have := HQ.out; rw [HRR.out] at this; simpa using this.symm
        obtain rfl : putValueB ⟨k, x, f, z.data.toList⟩ = LV := by have := HLV.out; rw [HRR.out] at this; simpa using this
        have hx1 : Fits ⟨k, x, f, z.data.toList⟩ := ⟨HX.out.1, HX.out.2, HF.out, HRR.out⟩
        have hzl : z.data.toList.length ≤ 1000 := by have h : z.data.toList.length ≤ 300 := HZZ.out; omega
        have HPV := Lib.hid (refPV_any ⟨k, x, f, z.data.toList⟩ hx1 hzl)
        have hlen : (putValueB ⟨k, x, f, z.data.toList⟩).length ≤ 100000 := by
          exact putValueB_lenW hx1 hzl
        have hadd3 := str_add LB (putValueB ⟨k, x, f, z.data.toList⟩) (LB ++ putValueB ⟨k, x, f, z.data.toList⟩) rfl (by have := HML.out; rw [List.length_append]; omega)
        obtain ⟨d1, d2⟩ := holds_of hrd
        have a0 := va14.c0
        have a1 := va14.c1
        have a2 := va14.c2
        have a3 := va14.c3
        have VA14 := Lib.hid va14
        clear va14 hrd HQ HLV HRR hx1 hlen
        generalize putValueB ⟨k, x, f, z.data.toList⟩ = PV at *
        go_wp2_with fail
        go_region_held (fun w' => ((w'.cell? ⟨w6.heap.size + 1, 0, none⟩ = some (.int .i64 k) ∧ w'.cell? ⟨w6.heap.size + 1, 1, none⟩ = some (.int .i64 x)) ∧ (w'.cell? ⟨w6.heap.size + 1, 2, none⟩ = some (.float .f64 f) ∧ w'.cell? ⟨w6.heap.size + 1, 3, none⟩ = some (.string z))) ∧ (ReadsB w' u18 (LB ++ PV) ∧ (convert 22 9 u18).run Try.prog w' = .ok (.string ⟨(LB ++ PV).toArray⟩) w')) (first | (go_split_ands; refine ⟨⟨⟨?_, ?_⟩, ⟨?_, ?_⟩⟩, ⟨?_, ?_⟩⟩ <;> assumption) | (refine ⟨⟨⟨?_, ?_⟩, ⟨?_, ?_⟩⟩, holds_drew ?_⟩ <;> assumption) | (go_split_ands; refine ⟨⟨⟨(hb15.cell hl15).trans ?_, (hb15.cell hl15).trans ?_⟩, ⟨(hb15.cell hl15).trans ?_, (hb15.cell hl15).trans ?_⟩⟩, holds_below ?_ hb15⟩ <;> assumption)) (first | ((go_at_call 18; refine (HPV.out _).mono ?_; rintro e w15 ⟨rfl, hb15⟩; have hl15 : w6.heap.size + 1 < wc.drew.heap.size := hl14)))
        go_wp2
        go_ret
        exact ⟨rfl, (HB14.out.drew).trans (hb15.mono hs14)⟩

set_option maxRecDepth 100000 in
theorem writes_lifted (os : Os) (started : os.Started) (H : Type) (enc : TypeId × Value → H) :
    ReturnsInHanded {} Try.checked os 3 .any (Rows.packWritesSpec.pre6 enc Try.prog Try.f3 Rows.packWritesRow.domain false) (Rows.packWritesSpec.post enc Try.prog Try.f3 false true false false) := by
  refine returnsInHanded_of_change (C := Try.checked) own started (by kernel_rfl) Try.func3
    (ChangeSpec.witness6 (enc := enc) (C := Try.checked) false ⟨#[], #[.slice none 0 0, .int .u64 0, .string ⟨#[]⟩, .int .i64 0, .int .i64 0, .int .u64 0], []⟩ 8 (by kernel_rfl) (by kernel_rfl) (by kernel_rfl) (by kernel_rfl)) ?_
  intro W base args ds gs before hval0 hW hcnd _
  have hval : ∀ (j : Nat) t v, Try.f3.params[j]? = some t → args[j]? = some v → Value.okWide Try.prog W .any base t v := hval0
  have hW' := hW
  obtain ⟨p, q, hA0, hV, rfl, hfz, hnd⟩ := hW
  have hA : DataW.TrodAll enc Try.prog W 0 (fun _ => true) true Try.f3.params.toList args.toList ds p := hA0
  rw [Try.params3] at hA hval
  obtain ⟨rfl, rfl⟩ := trodVars_none hV
  have hlt : ∀ x ∈ p, x.block < W.heap.size := fun x hx => hW'.lt x (by simp [hx])
  have hrd2 : Try.prog.readableRec 2 = true ∧ 2 < Try.prog.types.size := ⟨by kernel_rfl, of_decide_eq_true (by kernel_rfl)⟩
  have hrd3 : Try.prog.readableRec 3 = true ∧ 3 < Try.prog.types.size := ⟨by kernel_rfl, of_decide_eq_true (by kernel_rfl)⟩
  have hrd9 : Try.prog.readableRec 9 = true ∧ 9 < Try.prog.types.size := ⟨by kernel_rfl, of_decide_eq_true (by kernel_rfl)⟩
  have hrd22 : Try.prog.readableRec 22 = true ∧ 22 < Try.prog.types.size := ⟨by kernel_rfl, of_decide_eq_true (by kernel_rfl)⟩
  have hrd23 : Try.prog.readableRec 23 = true ∧ 23 < Try.prog.types.size := ⟨by kernel_rfl, of_decide_eq_true (by kernel_rfl)⟩
  have hargs := fun (W' : World) (hb : Below W.heap.size W W') => trodAll_below laidOut hb (by simp only [List.mem_cons, List.not_mem_nil, or_false]; rintro t (rfl | rfl | rfl | rfl | rfl | rfl) <;> first | exact hrd2 | exact hrd3 | exact hrd9 | exact hrd22 | exact hrd23) hA hlt
  obtain ⟨v0, vs0, d0, ds0, p0, q0, hargs0, rfl, rfl, h0, r0⟩ := trodAll_cons hA
  obtain ⟨v1, vs1, d1, ds1, p1, q1, rfl, rfl, rfl, h1, r1⟩ := trodAll_cons r0
  obtain ⟨v2, vs2, d2, ds2, p2, q2, rfl, rfl, rfl, h2, r2⟩ := trodAll_cons r1
  obtain ⟨v3, vs3, d3, ds3, p3, q3, rfl, rfl, rfl, h3, r3⟩ := trodAll_cons r2
  obtain ⟨v4, vs4, d4, ds4, p4, q4, rfl, rfl, rfl, h4, r4⟩ := trodAll_cons r3
  obtain ⟨v5, vs5, d5, ds5, p5, q5, rfl, rfl, rfl, h5, r5⟩ := trodAll_cons r4
  obtain ⟨rfl, rfl, rfl⟩ := trodAll_nil r5
  obtain rfl : args = #[v0, v1, v2, v3, v4, v5] := by cases args; simp_all
  obtain ⟨l0, hl0, hb0⟩ := open_bytes (hval 0 22 v0 rfl rfl) h0
  obtain ⟨a1, rfl, rfl, rfl, w1⟩ := open_int Try.underlying23 (hval 1 23 v1 rfl rfl) h1
  obtain ⟨x1, rfl, hx1⟩ := u64_of_wf w1
  obtain ⟨s2, rfl, rfl, rfl, hs2⟩ := Go.ChangeMaps.open_string Try.underlying9 (hval 2 9 v2 rfl rfl) h2
  obtain ⟨a3, rfl, rfl, rfl, w3⟩ := open_int Try.underlying3 (hval 3 3 v3 rfl rfl) h3
  have hx3 := i64_of_wf w3
  obtain ⟨a4, rfl, rfl, rfl, w4⟩ := open_int Try.underlying2 (hval 4 2 v4 rfl rfl) h4
  have hx4 := i64_of_wf w4
  obtain ⟨a5, rfl, rfl, rfl, w5⟩ := open_int Try.underlying23 (hval 5 23 v5 rfl rfl) h5
  obtain ⟨x5, rfl, hx5⟩ := u64_of_wf w5
  clear hA0 hval0
  refine (writes_walk v0 l0 x1 s2 a3 a4 x5 hx1 hx4 hx5 W hl0 hb0).mono fun e W' ⟨he, hb⟩ => ?_
  subst he
  exact ⟨_, rfl, ⟨_, _, _, [], _, [], hW', trodAll_mk1 (shut_bool Try.underlying4 _), hargs W' hb, rfl, hb.frame _, fun h => by cases h⟩⟩

theorem writes_over : Rows.packWritesRow.holds Try.pinned (OpenSpec.ofChange Rows.packWritesSpec) :=
  OpenClaim.holds_of_wide 3 Try.f3 rfl rfl rfl rfl rfl rfl rfl ⟨rfl, rfl, rfl, rfl, rfl⟩ rfl rfl rfl rfl rfl (by kernel_rfl) Try.func3 (by kernel_rfl)
    (of_decide_eq_true (by kernel_rfl)) (by unfold Func.isWrapper; first | (rw [if_pos (by decide +kernel)]; kernel_rfl) | (rw [if_neg (by decide +kernel)]; exact ⟨rfl, rfl⟩))
    (fun os started H enc _ => writes_lifted os started H enc)

theorem writes_proved : Rows.PackWritesSaid := writes_over
end Go.Proofs.Ytbcnokidnpnmhaa
