import Derived.Test.YtbolojjnkkgehaaOut
/-! The maps of names: what they tell, in plain words; Find and FindEdge. -/
namespace Go.Proofs.Ytbolojjnkkgehaa
open Go.RowKit Go.WideMaps Go.Maps

/-- The last of the first k names that is this one; -1 if none is. -/
def findI (ns : List ByteArray) (nm : ByteArray) : Nat → Int
  | 0 => -1
  | k + 1 => if strAt ns k = nm then (k : Int) else findI ns nm k
theorem findI_lt (ns : List ByteArray) (nm : ByteArray) : ∀ k, -1 ≤ findI ns nm k ∧ findI ns nm k < (k : Int)
  | 0 => by simp [findI]
  | k + 1 => by
    have := findI_lt ns nm k
    unfold findI
    split <;> omega
theorem key_inj {a b : ByteArray} (h : Lit.string a.data.toList = Lit.string b.data.toList) : a = b := by
  injection h with h
  cases a; cases b
  simpa [Array.toList_inj] using h
theorem keyLit {s : List UInt8} : WideAt.IsKeyLit (.string s) := by simp [WideAt.IsKeyLit]
theorem isMap_mapK (ns : List ByteArray) : ∀ k, Tidy (mapK ns k)
  | 0 => ⟨[], rfl, List.Pairwise.nil⟩
  | k + 1 => by rw [mapK_succ]; exact (isMap_mapK ns k).put keyLit _
theorem isMap_mapK' (ns : List ByteArray) (k : Nat) : IsMap (mapK ns k) := by
  obtain ⟨es, h, _⟩ := isMap_mapK ns k
  exact ⟨es, h⟩
theorem mapK_look (ns : List ByteArray) (nm : ByteArray) : ∀ k, has (mapK ns k) (.string nm.data.toList) = decide (0 ≤ findI ns nm k) ∧ (mapK ns k).atKey (.string nm.data.toList) (.lit (.int .i64 0)) = .lit (.int .i64 (max (findI ns nm k) 0))
  | 0 => ⟨by simp [mapK, findI, has], by simp [mapK, findI, DataW.atKey]; omega⟩
  | k + 1 => by
    obtain ⟨h1, h2⟩ := mapK_look ns nm k
    rw [mapK_succ]
    unfold findI
    by_cases e : strAt ns k = nm
    · rw [if_pos e, e]
      refine ⟨?_, ?_⟩
      · rw [has_put_same (isMap_mapK' ns k) keyLit]; simp
      · rw [atKey_put_same (isMap_mapK' ns k) keyLit]; congr 2; omega
    · rw [if_neg e]
      have hne : Lit.string nm.data.toList ≠ Lit.string (strAt ns k).data.toList := fun h => e (key_inj h).symm
      exact ⟨by rw [has_put_other hne]; exact h1, by rw [atKey_put_other hne]; exact h2⟩
theorem findI_none (ns : List ByteArray) (nm : ByteArray) : ∀ k, findI ns nm k = -1 ↔ ∀ i, i < k → strAt ns i ≠ nm
  | 0 => by simp [findI]
  | k + 1 => by
    unfold findI
    constructor
    · intro h i hi
      split at h
      · omega
      · rename_i hne
        by_cases e : i = k
        · subst e; exact hne
        · exact (findI_none ns nm k).1 h i (by omega)
    · intro h
      rw [if_neg (h k (by omega))]
      exact (findI_none ns nm k).2 fun i hi => h i (by omega)
theorem findI_some (ns : List ByteArray) (nm : ByteArray) : ∀ k, 0 ≤ findI ns nm k → strAt ns (findI ns nm k).toNat = nm
  | 0 => by simp [findI]
  | k + 1 => by
    unfold findI
    split
    · intro _; simpa
    · exact findI_some ns nm k
theorem mapK_size (ns : List ByteArray) : ∀ k, size (mapK ns k) ≤ k ∧ (size (mapK ns k) = k ↔ ∀ i j, i < j → j < k → strAt ns i ≠ strAt ns j)
  | 0 => ⟨by simp [mapK, size], by simp [mapK, size]⟩
  | k + 1 => by
    obtain ⟨h1, h2⟩ := mapK_size ns k
    rw [mapK_succ, size_put (isMap_mapK ns k), (mapK_look ns (strAt ns k) k).1]
    have h3 := findI_none ns (strAt ns k) k
    have h4 := findI_lt ns (strAt ns k) k
    by_cases hf : 0 ≤ findI ns (strAt ns k) k
    · simp only [hf, decide_true, if_true]
      refine ⟨by omega, ⟨fun h => by omega, fun h => ?_⟩⟩
      have h5 := findI_some ns (strAt ns k) k hf
      exact absurd h5 (h _ k (by omega) (by omega))
    · simp only [hf, decide_false, Bool.false_eq_true, if_false]
      refine ⟨by omega, ⟨fun h i j hij hj => ?_, fun h => ?_⟩⟩
      · by_cases e : j = k
        · subst e; exact h3.1 (by omega) i hij
        · exact h2.1 (by omega) i j hij (by omega)
      · have := h2.2 fun i j hij hj => h i j hij (by omega)
        omega
/-- All names are unlike. -/
theorem distB_iff (ns : List ByteArray) : distB ns = true ↔ ∀ i j, i < j → j < ns.length → strAt ns i ≠ strAt ns j := by
  unfold distB
  rw [beq_iff_eq]
  exact (mapK_size ns ns.length).2

theorem find_map {w : World} {p : Nat} {ns : List Nd} {es : List Ed} (h : Index w p ns es) :
    ∃ mn me, w.cell? ⟨p, 2, none⟩ = some (.map (some mn)) ∧ w.cell? ⟨p, 3, none⟩ = some (.map (some me)) ∧ MapAt w mn (ns.map (·.nm)) ns.length ∧ MapAt w me (es.map (·.nm)) es.length := by
  obtain ⟨nv, ev, mn, me, ov, xs, zs, vs, rfl, rfl, hi⟩ := h
  refine ⟨mn, me, hi.ix.c2, hi.ix.c3, ?_, ?_⟩
  · have := hi.mpn; simpa [Function.comp_def] using this
  · have := hi.mpe; simpa [Function.comp_def] using this

def FOUND (z : Int) : Value := .tuple #[.int .i64 (max z 0), .bool (decide (0 ≤ z))]

/-- (*Index).Find -/
theorem find_any (p : Nat) (ns : List Nd) (es : List Ed) (nm : ByteArray) (hsz : nm.size ≤ maxLen) (w : World) (hx : Index w p ns es) :
    Calls Try.prog 22 #[.pointer (some ⟨p, 0, none⟩), .string nm] w fun e w' => e = .returned (FOUND (findI (ns.map (·.nm)) nm ns.length)) ∧ w' = w := by
  obtain ⟨mn, me, h2, h3, hm, hm'⟩ := find_map hx
  obtain ⟨k1, k2⟩ := mapK_look (ns.map (·.nm)) nm ns.length
  have K1 := Lib.hid k1
  have K2 := Lib.hid k2
  have HM := Lib.hid hm
  have hsz' := Lib.hid hsz
  clear k1 k2 h3 hm' hm hsz hx
  unfold FOUND
  generalize findI (ns.map (·.nm)) nm ns.length = z at *
  go_enter Try.func22, Try.ntmps22
  go_wp2_with (at_lookup; refine wpList_lookup_own_ok_int _ rfl _ _ 75 rfl 9 3 .i64 law9 Try.underlying75 Try.underlying3 (zero3 _) mn _ _ rfl HM.out _ _ rfl (keyOf_string_mk Try.underlying9 hsz'.out) ?_; intro cc hat hwc; rw [K1.out])
  go_ret2
  have e := K2.out
  have e2 : (DataW.lit (H := Unit) (.int .i64 cc)) = .lit (.int .i64 (max z 0)) := hat.symm.trans e
  injection e2 with e2
  injection e2 with _ e2
  refine ⟨?_, rfl⟩
  rw [← e2]
  simp [go_sem]

/-- (*Index).FindEdge -/
theorem findEdge_any (p : Nat) (ns : List Nd) (es : List Ed) (nm : ByteArray) (hsz : nm.size ≤ maxLen) (w : World) (hx : Index w p ns es) :
    Calls Try.prog 23 #[.pointer (some ⟨p, 0, none⟩), .string nm] w fun e w' => e = .returned (FOUND (findI (es.map (·.nm)) nm es.length)) ∧ w' = w := by
  obtain ⟨mn, me, h2, h3, hm, hm'⟩ := find_map hx
  obtain ⟨k1, k2⟩ := mapK_look (es.map (·.nm)) nm es.length
  have K1 := Lib.hid k1
  have K2 := Lib.hid k2
  have HM := Lib.hid hm'
  have hsz' := Lib.hid hsz
  clear k1 k2 h2 hm' hm hsz hx
  unfold FOUND
  generalize findI (es.map (·.nm)) nm es.length = z at *
  go_enter Try.func23, Try.ntmps23
  go_wp2_with (at_lookup; refine wpList_lookup_own_ok_int _ rfl _ _ 75 rfl 9 3 .i64 law9 Try.underlying75 Try.underlying3 (zero3 _) me _ _ rfl HM.out _ _ rfl (keyOf_string_mk Try.underlying9 hsz'.out) ?_; intro cc hat hwc; rw [K1.out])
  go_ret2
  have e := K2.out
  have e2 : (DataW.lit (H := Unit) (.int .i64 cc)) = .lit (.int .i64 (max z 0)) := hat.symm.trans e
  injection e2 with e2
  injection e2 with _ e2
  refine ⟨?_, rfl⟩
  rw [← e2]
  simp [go_sem]
end Go.Proofs.Ytbolojjnkkgehaa
