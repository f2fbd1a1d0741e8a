import Derived.Test.YtbcnokidnpnmhaaGett
namespace Go.Proofs.Ytbcnokidnpnmhaa
open Go.RowKit

theorem getB_at' (l : List UInt8) (pos : Nat) (h : pos < l.length) : valueB (l.drop pos) = valueB (l[pos] :: l.drop (pos + 1)) := by
  rw [List.drop_eq_getElem_cons h]

abbrev VL (x : Vl) : Value := VAL x.k x.n x.f ⟨x.s.toArray⟩

/-- reader.value: what the bytes at the place say. -/
theorem valueR_any (pb : Nat) (v : Value) (l : List UInt8) (pos : Nat) (w : World) (h : RdAt w pb v l pos) (R : Ending → World → Prop)
    (hL : valueB (l.drop pos) = none → ∀ w', w.grownBy w' (some pb) → R LACK w')
    (hS : ∀ x k, valueB (l.drop pos) = some (x, k) → ∀ w', w.grownBy w' (some pb) → RdAt w' pb v l (pos + k) → R (.returned (VL x)) w') :
    Calls Try.prog 39 #[.pointer (some ⟨pb, 0, none⟩)] w R := by
  by_cases hp : pos < l.length
  case neg =>
    refine value_none pb v l pos w h hp R (hL ?_)
    rw [List.drop_eq_nil_of_le (by omega)]; rfl
  have hv := getB_at' l pos hp
  by_cases h0 : (l[pos]).toNat = 0
  · have hv0 : valueB (l.drop pos) = some (⟨0, 0, 0, []⟩, 1) := by rw [hv]; simp [valueB, h0]
    exact value_0 pb v l pos w h hp h0 R (fun w' hg hr => hS _ _ hv0 w' hg hr)
  by_cases h1 : (l[pos]).toNat = 1
  · have hv1 : valueB (l.drop pos) = match getB (l.drop (pos + 1)) with | none => none | some (n, k) => if n < 2 then some (⟨1, n, 0, []⟩, 1 + k) else none := by rw [hv]; simp [valueB, h1]; cases getB (l.drop (pos + 1)) <;> rfl
    refine value_1 pb v l pos w h hp h1 R (fun e => hL ?_) (fun n k e hn => hL ?_) (fun n k e hn w' hg hr => hS ⟨1, n, 0, []⟩ (1 + k) ?_ w' hg ?_)
    · rw [hv1, e]
    · rw [hv1, e]; simp [hn]
    · rw [hv1, e]; simp [hn]
    · rw [← Nat.add_assoc]; exact hr
  by_cases h2 : (l[pos]).toNat = 2
  · have hv1 : valueB (l.drop pos) = match getB (l.drop (pos + 1)) with | none => none | some (n, k) => if n < 9223372036854775808 then some (⟨2, n, 0, []⟩, 1 + k) else none := by rw [hv]; simp [valueB, h2]; cases getB (l.drop (pos + 1)) <;> rfl
    refine value_2 pb v l pos w h hp h2 R (fun e => hL ?_) (fun n k e hn => hL ?_) (fun n k e hn w' hg hr => hS ⟨2, n, 0, []⟩ (1 + k) ?_ w' hg ?_)
    · rw [hv1, e]
    · rw [hv1, e]; simp [hn]
    · rw [hv1, e]; simp [hn]
    · rw [← Nat.add_assoc]; exact hr
  by_cases h18 : (l[pos]).toNat = 18
  · have hv1 : valueB (l.drop pos) = match getB (l.drop (pos + 1)) with | none => none | some (n, k) => if n < 9223372036854775808 then some (⟨2, -1 - n, 0, []⟩, 1 + k) else none := by rw [hv]; simp [valueB, h18]; cases getB (l.drop (pos + 1)) <;> rfl
    refine value_18 pb v l pos w h hp h18 R (fun e => hL ?_) (fun n k e hn => hL ?_) (fun n k e hn w' hg hr => hS ⟨2, -1 - n, 0, []⟩ (1 + k) ?_ w' hg ?_)
    · rw [hv1, e]
    · rw [hv1, e]; simp [hn]
    · rw [hv1, e]; simp [hn]
    · rw [← Nat.add_assoc]; exact hr
  by_cases h3 : (l[pos]).toNat = 3
  · have hv1 : valueB (l.drop pos) = if l.length - (pos + 1) < 8 then none else if keyB (ofKeyB (valB ((l.drop (pos + 1)).take 8))) = valB ((l.drop (pos + 1)).take 8) then some (⟨3, 0, ofKeyB (valB ((l.drop (pos + 1)).take 8)), []⟩, 9) else none := by
      rw [hv]; simp [valueB, h3]
    refine value_3 pb v l pos w h hp h3 R (fun e => hL ?_) (fun k e hk hn => hL ?_) (fun k e hk hn w' hg hr => hS ⟨3, 0, ofKeyB k, []⟩ 9 ?_ w' hg ?_)
    · rw [hv1, if_pos e]
    · rw [hv1, if_neg e, ← hk, if_neg hn]
    · rw [hv1, if_neg e, ← hk, if_pos hn]
    · exact hr
  by_cases h4 : (l[pos]).toNat = 4
  · have hv1 : valueB (l.drop pos) = match textB (l.drop (pos + 1)) with | none => none | some (s, k) => some (⟨4, 0, 0, s⟩, 1 + k) := by rw [hv]; simp [valueB, h4]; cases textB (l.drop (pos + 1)) <;> rfl
    refine value_4 pb v l pos w h hp h4 R (fun e => hL ?_) (fun s k e w' hg hr => hS ⟨4, 0, 0, s⟩ (1 + k) ?_ w' hg ?_)
    · rw [hv1, e]
    · rw [hv1, e]
    · rw [← Nat.add_assoc]; exact hr
  · refine value_other pb v l pos w h hp _ rfl ?_ ?_ ?_ ?_ ?_ ?_ R (hL ?_)
    all_goals first | (rw [hv]; simp [valueB, h0, h1, h2, h18, h3, h4]; done) | (rw [beq_eq_false_iff_ne]; omega)

/-- Four cells of one block. -/
theorem four_set {w : World} {b : Nat} {k n k' n' : Int} {f f' : Nat} {s s' : ByteArray} (h : w.heap[b]? = some (VOBJ k n f s)) :
    ((((w.setCell ⟨b, 0, none⟩ (.int .i64 k')).setCell ⟨b, 1, none⟩ (.int .i64 n')).setCell ⟨b, 2, none⟩ (.float .f64 f')).setCell ⟨b, 3, none⟩ (.string s')).heap[b]? = some (VOBJ k' n' f' s') :=
  ValAt.set3 (ValAt.set2 (ValAt.set1 (ValAt.set0 h k') n') f') s'
end Go.Proofs.Ytbcnokidnpnmhaa
