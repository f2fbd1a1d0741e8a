import Derived.Test.YtbolojjnkkgehaaIdx
import Derived.Laws.Cover3
namespace Go.Proofs.Ytbolojjnkkgehaa
open Go.RowKit

/-- append(s, x...): elements that are read somewhere onto a slice of the call's own. -/
theorem wpList_appR {t e : TypeId} {size bytes : Nat} (hty : Ty t e size bytes) {w : World} {ops : Array Oper} {rest : List Oper} {o : Oper} {a : Act} {Q : Exit → Act → World → Prop} (hgd : o.guard = none) (s x : Operand)
    (ho : o.op = .call { callee := .builtin .append, args := #[s, x], argTypes := #[t, t] })
    {B : Nat} {v : Value} {n : Nat} {xs : List Value} (hs : a.eval s = v) (hown : w.ownsRow B e size v n xs)
    (A : Addr) (m c : Nat) (news : List Value) (hx : a.eval x = .slice (some A) m c) (hl : news.length = m * size) (hnews : ReadsL w (some A) news) (h1 : ∀ u ∈ news, u.oneCell' = true)
    (h63 : n + m ≤ 9223372036854775807) (hby : (n + m) * bytes ≤ 140737488355328) (hB : B ≤ w.heap.size)
    (h : ∀ v' w', w'.ownsRow B e size v' (n + m) (xs ++ news) → w.grownBy w' v.ownBlock → Near w v v' → wpList Try.prog ops Q rest (a.put o.dst v') w') : wpList Try.prog ops Q (o :: rest) a w := by
  obtain ⟨i, z, hi, hz, hsz, hbt, hzc⟩ := hty.hi
  refine wpList_append_own_at w hgd s x t ho B e i z size bytes hty.ht hi hz hsz hbt hzc hty.pos v n xs hs hown A m c news hx hl (fun j u hj => ?_) h1 (by unfold maxLen; omega) hby hB ?_
  · obtain ⟨b, o, h2, h3⟩ := hnews j u hj
    cases h2
    rw [addr_add0]
    exact h3
  · intro v' w' h6 h7 h8 h9
    refine h v' w' h6 h7 ?_
    intro k hk
    rcases h9 with e9 | e9
    · exact .inl (by rw [← e9]; exact hk)
    · rw [hk] at e9; simp at e9; exact .inr (by omega)

/-- 's == nil' of a slice. -/
theorem run_eq_slice_nil {t e : TypeId} (h : Try.prog.underlying t = some (.slice e)) (a : Option Addr) (l c : Nat) (w : World) : (binOp .eql t (.slice a l c) (.slice none 0 0)).run Try.prog w = .ok (.bool a.isNone) w := by
  simp only [binOp]
  simp [run_equal_slice_nil w t e a l c h]

theorem own_empty (w : World) (B : Nat) (hB : B ≤ w.heap.size) (e size : Nat) : (w.alloc (.cells #[] e)).ownsRow B e size (.slice (some ⟨w.heap.size, 0, none⟩) 0 0) 0 [] := by
  have := World.ownsRow_lit (base := B) (e := e) (size := size) w #[] 0 hB (by unfold maxLen; omega) (by simp)
  simpa using this

/-- slices.Clone, of texts -/
theorem cloneS_any (v : Value) (n : Nat) (cs : List Value) (w : World) (hv : SliceR w v n cs) (hl : cs.length = n * 1) (hone : ∀ u ∈ cs, u.oneCell' = true) (hb : n * 16 ≤ 140737488355328) :
    Calls Try.prog 41 #[v] w fun e w' => ∃ v', e = .returned v' ∧ w'.ownsRow w.heap.size 9 1 v' n cs ∧ Below w.heap.size w w' := by
  obtain ⟨A, c, rfl, hnc, hcm, hnil, hrd⟩ := hv.form
  have HB := Lib.hid hb
  have HL := Lib.hid hl
  clear hb hl
  cases A with
  | none =>
    obtain rfl := hnil rfl
    obtain rfl : n = 0 := by omega
    have hcs : cs = [] := List.eq_nil_of_length_eq_zero (by have := HL.out; omega)
    subst hcs
    clear hrd hone
    have heq := run_eq_slice_nil tyS.ht
    go_enter Try.func41, Try.ntmps41
    go_wp2_with fail
    go_ret
    exact ⟨_, rfl, World.ownsRow_nil _ _ _ _, Below.refl _ _⟩
  | some ad =>
    have HRD := Lib.hid hrd
    have HON := Lib.hid hone
    clear hrd hone hnil
    have HO := Lib.hid (own_empty w w.heap.size (Nat.le_refl _) 9 1)
    have heq := run_eq_slice_nil tyS.ht
    go_enter Try.func41, Try.ntmps41
    go_wp2_with (at_builtin; refine wpList_appR tyS rfl (.tmp 5) (.tmp 6) rfl rfl HO.out ad n c cs rfl HL.out (HRD.out.below ((Below.refl w.heap.size w).alloc (Nat.le_refl _) _) (Nat.le_refl _)) HON.out ?_ ?_ ?_ ?_; (omega); (have := HB.out; omega); (simp); intro v2 w2 ho2 hg2 hn2)
    go_ret
    rw [Nat.zero_add, List.nil_append] at ho2
    exact ⟨_, rfl, ho2, ((Below.refl w.heap.size w).alloc (Nat.le_refl _) _).grown hg2 (by simp) (fun k hk => by cases hk; exact Nat.le_refl _)⟩

/-- slices.Clone, of nodes -/
theorem cloneN_any (v : Value) (n : Nat) (cs : List Value) (w : World) (hv : SliceR w v n cs) (hl : cs.length = n * 3) (hone : ∀ u ∈ cs, u.oneCell' = true) (hb : n * 64 ≤ 140737488355328) :
    Calls Try.prog 48 #[v] w fun e w' => ∃ v', e = .returned v' ∧ w'.ownsRow w.heap.size 46 3 v' n cs ∧ Below w.heap.size w w' := by
  obtain ⟨A, c, rfl, hnc, hcm, hnil, hrd⟩ := hv.form
  have HB := Lib.hid hb
  have HL := Lib.hid hl
  clear hb hl
  cases A with
  | none =>
    obtain rfl := hnil rfl
    obtain rfl : n = 0 := by omega
    have hcs : cs = [] := List.eq_nil_of_length_eq_zero (by have := HL.out; omega)
    subst hcs
    clear hrd hone
    have heq := run_eq_slice_nil tyN.ht
    go_enter Try.func48, Try.ntmps48
    go_wp2_with fail
    go_ret
    exact ⟨_, rfl, World.ownsRow_nil _ _ _ _, Below.refl _ _⟩
  | some ad =>
    have HRD := Lib.hid hrd
    have HON := Lib.hid hone
    clear hrd hone hnil
    have HO := Lib.hid (own_empty w w.heap.size (Nat.le_refl _) 46 3)
    have heq := run_eq_slice_nil tyN.ht
    go_enter Try.func48, Try.ntmps48
    go_wp2_with (at_builtin; refine wpList_appR tyN rfl (.tmp 5) (.tmp 6) rfl rfl HO.out ad n c cs rfl HL.out (HRD.out.below ((Below.refl w.heap.size w).alloc (Nat.le_refl _) _) (Nat.le_refl _)) HON.out ?_ ?_ ?_ ?_; (omega); (have := HB.out; omega); (simp); intro v2 w2 ho2 hg2 hn2)
    go_ret
    rw [Nat.zero_add, List.nil_append] at ho2
    exact ⟨_, rfl, ho2, ((Below.refl w.heap.size w).alloc (Nat.le_refl _) _).grown hg2 (by simp) (fun k hk => by cases hk; exact Nat.le_refl _)⟩

/-- slices.Clone, of edges -/
theorem cloneE_any (v : Value) (n : Nat) (cs : List Value) (w : World) (hv : SliceR w v n cs) (hl : cs.length = n * 6) (hone : ∀ u ∈ cs, u.oneCell' = true) (hb : n * 88 ≤ 140737488355328) :
    Calls Try.prog 49 #[v] w fun e w' => ∃ v', e = .returned v' ∧ w'.ownsRow w.heap.size 42 6 v' n cs ∧ Below w.heap.size w w' := by
  obtain ⟨A, c, rfl, hnc, hcm, hnil, hrd⟩ := hv.form
  have HB := Lib.hid hb
  have HL := Lib.hid hl
  clear hb hl
  cases A with
  | none =>
    obtain rfl := hnil rfl
    obtain rfl : n = 0 := by omega
    have hcs : cs = [] := List.eq_nil_of_length_eq_zero (by have := HL.out; omega)
    subst hcs
    clear hrd hone
    have heq := run_eq_slice_nil tyE.ht
    go_enter Try.func49, Try.ntmps49
    go_wp2_with fail
    go_ret
    exact ⟨_, rfl, World.ownsRow_nil _ _ _ _, Below.refl _ _⟩
  | some ad =>
    have HRD := Lib.hid hrd
    have HON := Lib.hid hone
    clear hrd hone hnil
    have HO := Lib.hid (own_empty w w.heap.size (Nat.le_refl _) 42 6)
    have heq := run_eq_slice_nil tyE.ht
    go_enter Try.func49, Try.ntmps49
    go_wp2_with (at_builtin; refine wpList_appR tyE rfl (.tmp 5) (.tmp 6) rfl rfl HO.out ad n c cs rfl HL.out (HRD.out.below ((Below.refl w.heap.size w).alloc (Nat.le_refl _) _) (Nat.le_refl _)) HON.out ?_ ?_ ?_ ?_; (omega); (have := HB.out; omega); (simp); intro v2 w2 ho2 hg2 hn2)
    go_ret
    rw [Nat.zero_add, List.nil_append] at ho2
    exact ⟨_, rfl, ho2, ((Below.refl w.heap.size w).alloc (Nat.le_refl _) _).grown hg2 (by simp) (fun k hk => by cases hk; exact Nat.le_refl _)⟩

/-- slices.Clone, of properties -/
theorem cloneP_any (v : Value) (n : Nat) (cs : List Value) (w : World) (hv : SliceR w v n cs) (hl : cs.length = n * 5) (hone : ∀ u ∈ cs, u.oneCell' = true) (hb : n * 56 ≤ 140737488355328) :
    Calls Try.prog 50 #[v] w fun e w' => ∃ v', e = .returned v' ∧ w'.ownsRow w.heap.size 55 5 v' n cs ∧ Below w.heap.size w w' := by
  obtain ⟨A, c, rfl, hnc, hcm, hnil, hrd⟩ := hv.form
  have HB := Lib.hid hb
  have HL := Lib.hid hl
  clear hb hl
  cases A with
  | none =>
    obtain rfl := hnil rfl
    obtain rfl : n = 0 := by omega
    have hcs : cs = [] := List.eq_nil_of_length_eq_zero (by have := HL.out; omega)
    subst hcs
    clear hrd hone
    have heq := run_eq_slice_nil tyP.ht
    go_enter Try.func50, Try.ntmps50
    go_wp2_with fail
    go_ret
    exact ⟨_, rfl, World.ownsRow_nil _ _ _ _, Below.refl _ _⟩
  | some ad =>
    have HRD := Lib.hid hrd
    have HON := Lib.hid hone
    clear hrd hone hnil
    have HO := Lib.hid (own_empty w w.heap.size (Nat.le_refl _) 55 5)
    have heq := run_eq_slice_nil tyP.ht
    go_enter Try.func50, Try.ntmps50
    go_wp2_with (at_builtin; refine wpList_appR tyP rfl (.tmp 5) (.tmp 6) rfl rfl HO.out ad n c cs rfl HL.out (HRD.out.below ((Below.refl w.heap.size w).alloc (Nat.le_refl _) _) (Nat.le_refl _)) HON.out ?_ ?_ ?_ ?_; (omega); (have := HB.out; omega); (simp); intro v2 w2 ho2 hg2 hn2)
    go_ret
    rw [Nat.zero_add, List.nil_append] at ho2
    exact ⟨_, rfl, ho2, ((Below.refl w.heap.size w).alloc (Nat.le_refl _) _).grown hg2 (by simp) (fun k hk => by cases hk; exact Nat.le_refl _)⟩
end Go.Proofs.Ytbolojjnkkgehaa
