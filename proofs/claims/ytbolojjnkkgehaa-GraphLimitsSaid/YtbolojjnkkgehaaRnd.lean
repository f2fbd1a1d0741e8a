import Derived.OrdersIn
import Derived.Test.YtbolojjnkkgehaaGr
/-! A region whose order is drawn, in whatever fence (a round's too): a state and a world for each set of operations that have come up. -/
namespace Go.Proofs.Ytbolojjnkkgehaa
open Go.RowKit

/-- Number i has come up, too. -/
def upd (L : Nat → Bool) (i : Nat) : Nat → Bool := fun j => j == i || L j
/-- What has come up has come up behind what it waits for. -/
def Closed (ops : Array Oper) (L : Nat → Bool) : Prop := ∀ i o, ops[i]? = some o → L i = true → ∀ e ∈ o.after, Region.binds .any e = true → L e.on = true
def back (ops : Array Oper) : Bool := (List.range ops.size).all fun i => match ops[i]? with | some o => o.after.all fun e => !Region.binds .any e || decide (e.on < i) | none => true

theorem ready_iff {ops : Array Oper} {listed : Array Bool} {i : Nat} (h : i ∈ Region.ready .any ops listed) : i < ops.size ∧ listed.getD i true = false ∧ ∃ o, ops[i]? = some o ∧ ∀ e ∈ o.after, Region.binds .any e = true → listed.getD e.on false = true := by
  simp only [Region.ready, List.mem_filter, List.mem_range, Bool.and_eq_true, Bool.not_eq_true'] at h
  obtain ⟨h1, h2, h3⟩ := h
  refine ⟨h1, h2, ops[i], by simp [h1], ?_⟩
  simp only [Array.getElem?_eq_getElem h1, Option.map_some, Option.getD_some] at h3
  intro e he hb
  have := (Array.all_eq_true.1 h3)
  obtain ⟨k, hk, rfl⟩ := Array.mem_iff_getElem.1 he
  have h4 := this k hk
  simpa [hb] using h4

/-- Something may come up while not all have. -/
theorem ready_some {ops : Array Oper} {listed : Array Bool} (hs : listed.size = ops.size) (hb : back ops = true) (h : Region.ready .any ops listed = []) : ∀ i, i < ops.size → listed.getD i true = true := by
  intro i
  induction i using Nat.strongRecOn with
  | ind i ih =>
    intro hi
    cases hl : listed.getD i true with
    | true => rfl
    | false =>
      have hm : i ∈ Region.ready .any ops listed := by
        simp only [Region.ready, List.mem_filter, List.mem_range, Bool.and_eq_true, Bool.not_eq_true']
        refine ⟨hi, hl, ?_⟩
        simp only [Array.getElem?_eq_getElem hi, Option.map_some, Option.getD_some]
        rw [Array.all_eq_true]
        intro k hk
        have h1 := List.all_eq_true.1 hb i (by simpa using hi)
        simp only [Array.getElem?_eq_getElem hi] at h1
        have h2 := Array.all_eq_true.1 h1 k hk
        cases hbd : Region.binds .any (ops[i].after[k]) with
        | false => simp
        | true =>
          simp only [hbd, Bool.not_true, Bool.false_or, decide_eq_true_eq] at h2
          have h3 := ih _ h2 (by omega)
          simp only [Bool.not_true, Bool.false_or]
          rw [Array.getD_eq_getD_getElem?] at h3 ⊢
          rw [Array.getElem?_eq_getElem (by omega)] at h3 ⊢
          exact h3
      rw [h] at hm
      cases hm

theorem order_free {F : Fence} {n : Nat} {P : Program} {ops : Array Oper} {Q : Exit → Act → World → Prop} (A : (Nat → Bool) → Act) (W : (Nat → Bool) → World) (hb : back ops = true)
    (step : ∀ L i o, ops[i]? = some o → L i = false → (∀ e ∈ o.after, Region.binds .any e = true → L e.on = true) → Closed ops L → ∀ K : Act → World → Prop, K (A (upd L i)) (W (upd L i)) → wpOpIn F n P ops Q i K (A L) (W L))
    (fin : ∀ L, (∀ i, i < ops.size → L i = true) → Q .normal (A L) (W L)) :
    ∀ (fuel : Nat) (listed : Array Bool) (L : Nat → Bool), listed.size = ops.size → (∀ i, i < ops.size → listed.getD i true = L i) → (((List.range ops.size).filter fun i => !L i).length ≤ fuel) → Closed ops L →
      wpAnyIn F n P .any ops Q fuel listed (A L) (W L) := by
  intro fuel
  induction fuel with
  | zero =>
    intro listed L hs hL hf hc
    have hall : ∀ i, i < ops.size → L i = true := fun i hi => by
      cases h : L i with
      | true => rfl
      | false =>
        have : i ∈ (List.range ops.size).filter fun i => !L i := by simp [hi, h]
        have := List.length_pos_of_mem this
        omega
    refine ⟨?_, fin L hall⟩
    cases hr : Region.ready .any ops listed with
    | nil => rfl
    | cons i r =>
      have := ready_iff (i := i) (by rw [hr]; simp)
      have h2 := hL i this.1
      rw [this.2.1, hall i this.1] at h2
      cases h2
  | succ fuel ih =>
    intro listed L hs hL hf hc
    refine ⟨fun hr => fin L fun i hi => by rw [← hL i hi]; exact ready_some hs hb hr i hi, fun i hi => ?_⟩
    obtain ⟨h1, h2, o, ho, h3⟩ := ready_iff hi
    have hLi : L i = false := by rw [← hL i h1]; exact h2
    have hdep : ∀ e ∈ o.after, Region.binds .any e = true → L e.on = true := fun e he hbd => by
      have h4 := h3 e he hbd
      rcases Nat.lt_or_ge e.on ops.size with h5 | h5
      · rw [← hL _ h5, Array.getD_eq_getD_getElem?]
        rw [Array.getD_eq_getD_getElem?] at h4
        rw [Array.getElem?_eq_getElem (by omega)] at h4 ⊢
        exact h4
      · rw [Array.getD_eq_getD_getElem?, Array.getElem?_eq_none (by omega)] at h4
        cases h4
    refine step L i o ho hLi hdep hc _ (ih _ (upd L i) (by simpa using hs) ?_ ?_ ?_)
    · intro j hj
      rw [Array.getD_eq_getD_getElem?, Array.getElem?_setIfInBounds]
      by_cases e : i = j
      · subst e
        simp [upd, hs, h1]
      · rw [if_neg e, ← Array.getD_eq_getD_getElem?, hL j hj]
        have : (j == i) = false := by simpa using fun h => e h.symm
        simp [upd, this]
    · have hlt : ((List.range ops.size).filter fun j => !upd L i j).length < ((List.range ops.size).filter fun j => !L j).length := by
        have e1 : ((List.range ops.size).filter fun j => !upd L i j) = (((List.range ops.size).filter fun j => !L j).filter fun j => !(j == i)) := by
          rw [List.filter_filter]
          congr 1
          funext j
          simp [upd, Bool.not_or]
        rw [e1]
        have hmem : i ∈ (List.range ops.size).filter fun j => !L j := by simp [h1, hLi]
        exact List.length_filter_lt_length_iff_exists.2 ⟨i, hmem, by simp⟩
      omega
    · intro j oj hoj hj e he hbd
      simp only [upd, Bool.or_eq_true, beq_iff_eq] at hj ⊢
      rcases hj with rfl | hj
      · rw [ho] at hoj
        cases hoj
        exact .inr (hdep e he hbd)
      · exact .inr (hc j oj hoj hj e he hbd)

/-- A region that draws its order. -/
theorem wpIn_region_free {F : Fence} {n : Nat} {P : Program} {id : Nat} {ops : Array Oper} {Q : Exit → Act → World → Prop} {a : Act} {w : World} (hm : P.follows .mixedOrders = true) (hb : back ops = true)
    (A : (Nat → Bool) → Act) (W : (Nat → Bool) → World) (hA : A (fun _ => false) = a) (hW : W (fun _ => false) = w.drew)
    (step : ∀ L i o, ops[i]? = some o → L i = false → (∀ e ∈ o.after, Region.binds .any e = true → L e.on = true) → Closed ops L → ∀ K : Act → World → Prop, K (A (upd L i)) (W (upd L i)) → wpOpIn F n P ops Q i K (A L) (W L))
    (fin : ∀ L, (∀ i, i < ops.size → L i = true) → Q .normal (A L) (W L)) : (Code.region id ops true).wpIn F n P Q a w := by
  refine wpIn_region_any hm ?_
  have := order_free (F := F) (n := n) (P := P) (Q := Q) A W hb step fin ops.size (Array.replicate ops.size false) (fun _ => false) (by simp) (fun i hi => by simp [Array.getD_eq_getD_getElem?, hi]) (by simpa using List.length_filter_le _ (List.range ops.size)) (fun i o _ h => by cases h)
  rw [hA, hW] at this
  exact this
end Go.Proofs.Ytbolojjnkkgehaa
