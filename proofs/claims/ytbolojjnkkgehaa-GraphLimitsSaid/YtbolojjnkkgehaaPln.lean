import Derived.Test.YtbolojjnkkgehaaStp
/-! Plain facts on leads: who leads there leads back; how many there are. -/
namespace Go.Proofs.Ytbolojjnkkgehaa
open Go.RowKit

theorem bo41 : bits .or .i64 4 1 = 5 := by decide
theorem bo22 : bits .or .i64 2 2 = 2 := by decide
theorem ba11 : bits .and .i64 1 1 = 1 := by decide
theorem ba12 : bits .and .i64 1 2 = 0 := by decide
theorem ba14 : bits .and .i64 1 4 = 0 := by decide
theorem ba15 : bits .and .i64 1 5 = 1 := by decide
theorem ba17 : bits .and .i64 1 7 = 1 := by decide
theorem ba21 : bits .and .i64 2 1 = 0 := by decide
theorem ba22 : bits .and .i64 2 2 = 2 := by decide
theorem ba24 : bits .and .i64 2 4 = 0 := by decide
theorem ba25 : bits .and .i64 2 5 = 0 := by decide
theorem ba27 : bits .and .i64 2 7 = 2 := by decide
theorem ba41 : bits .and .i64 4 1 = 0 := by decide
theorem ba42 : bits .and .i64 4 2 = 0 := by decide
theorem ba44 : bits .and .i64 4 4 = 4 := by decide
theorem ba45 : bits .and .i64 4 5 = 4 := by decide
theorem ba47 : bits .and .i64 4 7 = 4 := by decide
theorem ba51 : bits .and .i64 5 1 = 1 := by decide
theorem ba52 : bits .and .i64 5 2 = 0 := by decide
theorem ba54 : bits .and .i64 5 4 = 4 := by decide
theorem ba55 : bits .and .i64 5 5 = 5 := by decide
theorem ba57 : bits .and .i64 5 7 = 5 := by decide

/-- How an edge leads from i. -/
def oneL (i : Int) (k : Nat) (d : Ed) : List Ld := lstZ (ledZ k d) i
theorem oneL_eq (i : Int) (k : Nat) (d : Ed) : oneL i k d = if d.src = i then [⟨k, d.dst, if d.src = d.dst then (if d.dir then 5 else 2) else if d.dir then 4 else 2⟩] else if d.dst = i then [⟨k, d.src, if d.dir then 1 else 2⟩] else [] := by
  obtain ⟨nm, s, t, dir, ls, ps⟩ := d
  unfold oneL ledZ lstZ
  rw [bo41, bo22]
  dsimp only
  by_cases h : s = t
  · subst h
    by_cases h1 : s = i
    · simp [h1]
    · simp [h1]
  · rw [if_neg h]
    by_cases h1 : s = i
    · subst h1
      have h2 : ¬ t = s := fun e => h e.symm
      simp [h, h2]
    · by_cases h2 : t = i
      · simp [h1, h2]
      · simp [h1, h2]
/-- Where one goes from i, by the first m edges. -/
def pickN (q : Int) (es : List Ed) (m : Nat) (i : Int) : List (Int × Int) := pickL q (lstZ (tokT es m) i)
def pick1 (q i : Int) (k : Nat) (d : Ed) : List (Int × Int) := pickL q (oneL i k d)
theorem pickL_append (q : Int) (a b : List Ld) : pickL q (a ++ b) = pickL q a ++ pickL q b := by simp [pickL]
theorem pickN_succ (q : Int) (es : List Ed) (m : Nat) (i : Int) : pickN q es (m + 1) i = pickN q es m i ++ pick1 q i m (edD es m) := by
  unfold pickN
  rw [tokT_succ, lstZ_append, pickL_append]
  rfl
theorem pickN_zero (q : Int) (es : List Ed) (i : Int) : pickN q es 0 i = [] := rfl
theorem outL_in {n : Nat} {es : List Ed} {i : Int} (h : inB n i = true) (q : Int) : outL n es i q = pickN q es es.length i := by
  unfold outL
  rw [if_pos h]
  rfl

def mk1 (k : Nat) (t m q : Int) : List (Int × Int) := if bits .and .i64 m q != 0 then [((k : Int), t)] else []
theorem pickL_one (q : Int) (k : Nat) (t m : Int) : pickL q [⟨k, t, m⟩] = mk1 k t m q := by
  unfold pickL mk1
  simp only [List.filter_cons, List.filter_nil, goes]
  by_cases h : (bits .and .i64 m q != 0) = true <;> simp [h]
theorem mk1_mem {k : Nat} {t m q : Int} {x : Int × Int} (h : x ∈ mk1 k t m q) : x = ((k : Int), t) := by
  unfold mk1 at h
  split at h
  · simpa using h
  · simp at h
theorem mk1_rise (k : Nat) (t m q : Int) : (mk1 k t m q).Pairwise fun a b => a.1 < b.1 := by unfold mk1; split <;> simp
/-- One edge: what it gives by each mask. -/
theorem pick1_eq (q i : Int) (k : Nat) (d : Ed) : pick1 q i k d = if d.src = i then mk1 k d.dst (if d.src = d.dst then (if d.dir then 5 else 2) else if d.dir then 4 else 2) q else if d.dst = i then mk1 k d.src (if d.dir then 1 else 2) q else [] := by
  unfold pick1
  rw [oneL_eq, ← pickL_one, ← pickL_one]
  by_cases h1 : d.src = i
  · simp only [if_pos h1]
  · simp only [if_neg h1]
    by_cases h2 : d.dst = i
    · simp only [if_pos h2]
    · simp only [if_neg h2]; rfl

theorem pickN_mem {q : Int} {es : List Ed} {i : Int} {x : Int × Int} : ∀ {m : Nat}, x ∈ pickN q es m i ↔ ∃ k, k < m ∧ x ∈ pick1 q i k (edD es k)
  | 0 => by simp [pickN_zero]
  | m + 1 => by
    rw [pickN_succ, List.mem_append, pickN_mem (m := m)]
    constructor
    · rintro (⟨k, h1, h2⟩ | h)
      · exact ⟨k, by omega, h2⟩
      · exact ⟨m, by omega, h⟩
    · rintro ⟨k, h1, h2⟩
      by_cases e : k = m
      · subst e; exact .inr h2
      · exact .inl ⟨k, by omega, h2⟩
/-- What one edge gives is of that edge, from one end to the other. -/
theorem pick1_mem {q i : Int} {k : Nat} {d : Ed} {x : Int × Int} (h : x ∈ pick1 q i k d) : x.1 = (k : Int) ∧ (d.src = i ∧ x.2 = d.dst ∨ d.dst = i ∧ x.2 = d.src) := by
  rw [pick1_eq] at h
  split at h
  · rw [mk1_mem h]; exact ⟨rfl, .inl ⟨by assumption, rfl⟩⟩
  · split at h
    · rw [mk1_mem h]; exact ⟨rfl, .inr ⟨by assumption, rfl⟩⟩
    · simp at h
/-- The masks there and back. -/
def backM (q q' : Int) : Prop := (q = 1 ∧ q' = 4) ∨ (q = 2 ∧ q' = 2) ∨ (q = 4 ∧ q' = 1)
theorem mk1_nz {k : Nat} {t m q : Int} {x : Int × Int} (h : x ∈ mk1 k t m q) : (bits .and .i64 m q != 0) = true := by
  unfold mk1 at h
  split at h
  · assumption
  · simp at h
theorem mk1_in {k : Nat} {t m q : Int} (h : (bits .and .i64 m q != 0) = true) : ((k : Int), t) ∈ mk1 k t m q := by
  unfold mk1
  rw [if_pos h]
  simp
theorem back_loop {q q' : Int} (hq : backM q q') (dir : Bool) (h : (bits .and .i64 (if dir then 5 else 2) q != 0) = true) : (bits .and .i64 (if dir then 5 else 2) q' != 0) = true := by
  rcases hq with ⟨rfl, rfl⟩ | ⟨rfl, rfl⟩ | ⟨rfl, rfl⟩ <;> cases dir <;> revert h <;> decide
theorem back_fro {q q' : Int} (hq : backM q q') (dir : Bool) (h : (bits .and .i64 (if dir then 4 else 2) q != 0) = true) : (bits .and .i64 (if dir then 1 else 2) q' != 0) = true := by
  rcases hq with ⟨rfl, rfl⟩ | ⟨rfl, rfl⟩ | ⟨rfl, rfl⟩ <;> cases dir <;> revert h <;> decide
theorem back_to {q q' : Int} (hq : backM q q') (dir : Bool) (h : (bits .and .i64 (if dir then 1 else 2) q != 0) = true) : (bits .and .i64 (if dir then 4 else 2) q' != 0) = true := by
  rcases hq with ⟨rfl, rfl⟩ | ⟨rfl, rfl⟩ | ⟨rfl, rfl⟩ <;> cases dir <;> revert h <;> decide
theorem pick1_back {q q' i : Int} {k : Nat} {d : Ed} {x : Int × Int} (hq : backM q q') (h : x ∈ pick1 q i k d) : ((k : Int), i) ∈ pick1 q' x.2 k d := by
  obtain ⟨nm, s, t, dir, ls, ps⟩ := d
  rw [pick1_eq] at h ⊢
  dsimp only at h ⊢
  by_cases h1 : s = i
  · subst h1
    rw [if_pos rfl] at h
    rw [mk1_mem h]
    have h0 := mk1_nz h
    dsimp only
    by_cases h2 : s = t
    · subst h2
      rw [if_pos rfl] at h0
      rw [if_pos rfl, if_pos rfl]
      exact mk1_in (back_loop hq dir h0)
    · rw [if_neg h2] at h0
      rw [if_neg h2, if_pos rfl]
      exact mk1_in (back_fro hq dir h0)
  · rw [if_neg h1] at h
    by_cases h2 : t = i
    · subst h2
      rw [if_pos rfl] at h
      rw [mk1_mem h]
      have h0 := mk1_nz h
      dsimp only
      rw [if_pos rfl, if_neg h1]
      exact mk1_in (back_to hq dir h0)
    · rw [if_neg h2] at h
      simp at h
/-- Whoever leads there leads back. -/
theorem pickN_back {q q' i : Int} {es : List Ed} {m : Nat} {x : Int × Int} (hq : backM q q') (h : x ∈ pickN q es m i) : hasB (pickN q' es m x.2) x.1 i = true := by
  obtain ⟨k, h1, h2⟩ := pickN_mem.1 h
  have h3 := pick1_back hq h2
  have h4 := (pick1_mem h2).1
  unfold hasB
  rw [List.any_eq_true]
  exact ⟨(k, i), pickN_mem.2 ⟨k, h1, h3⟩, by simp [h4]⟩

theorem pickN_lt {q : Int} {es : List Ed} {i : Int} : ∀ {m : Nat} {x : Int × Int}, x ∈ pickN q es m i → 0 ≤ x.1 ∧ x.1 < (m : Int) := fun {m x} h => by
  obtain ⟨k, h1, h2⟩ := pickN_mem.1 h
  have := (pick1_mem h2).1
  omega
/-- The edges rise. -/
theorem pickN_rise (q : Int) (es : List Ed) (i : Int) : ∀ m, (pickN q es m i).Pairwise fun a b => a.1 < b.1
  | 0 => by simp [pickN_zero]
  | m + 1 => by
    rw [pickN_succ, List.pairwise_append]
    refine ⟨pickN_rise q es i m, ?_, fun a ha b hb => ?_⟩
    · rw [pick1_eq]
      split
      · exact mk1_rise _ _ _ _
      · split
        · exact mk1_rise _ _ _ _
        · simp
    · have h1 := pickN_lt ha
      have h2 := (pick1_mem hb).1
      omega

/-- Is it a directed edge of one node with itself? -/
def dlN (es : List Ed) (x : Int × Int) : Nat := if (edD es x.1.toNat).src = (edD es x.1.toNat).dst ∧ (edD es x.1.toNat).dir = true then 1 else 0
def lpN (es : List Ed) (x : Int × Int) : Nat := if (edD es x.1.toNat).src = (edD es x.1.toNat).dst then 2 else 1
theorem pick1_count (es : List Ed) (i : Int) (k : Nat) : (pick1 1 i k (edD es k)).length + (pick1 2 i k (edD es k)).length + (pick1 4 i k (edD es k)).length = (pick1 7 i k (edD es k)).length + ((pick1 7 i k (edD es k)).map (dlN es)).sum := by
  simp only [pick1_eq]
  by_cases h1 : (edD es k).src = i
  · simp only [if_pos h1]
    by_cases h2 : (edD es k).src = (edD es k).dst
    · cases hd : (edD es k).dir <;> simp [h2, hd, mk1, dlN, ba51, ba52, ba54, ba57, ba21, ba22, ba24, ba27]
    · cases hd : (edD es k).dir <;> simp [h2, hd, mk1, dlN, ba41, ba42, ba44, ba47, ba21, ba22, ba24, ba27]
  · simp only [if_neg h1]
    by_cases h2 : (edD es k).dst = i
    · have h3 : ¬ (edD es k).src = (edD es k).dst := fun e => h1 (e.trans h2)
      cases hd : (edD es k).dir <;> simp [h2, hd, h1, mk1, dlN, ba11, ba12, ba14, ba17, ba21, ba22, ba24, ba27]
    · simp [h2]
theorem pickN_count (es : List Ed) (i : Int) : ∀ m, (pickN 1 es m i).length + (pickN 2 es m i).length + (pickN 4 es m i).length = (pickN 7 es m i).length + ((pickN 7 es m i).map (dlN es)).sum
  | 0 => by simp [pickN_zero]
  | m + 1 => by
    have h1 := pickN_count es i m
    have h2 := pick1_count es i m
    simp only [pickN_succ, List.length_append, List.map_append, List.sum_append]
    omega

theorem pick1_ends (es : List Ed) (i : Int) (k : Nat) : ((pick1 7 i k (edD es k)).map (lpN es)).sum = (if (edD es k).src = i then 1 else 0) + (if (edD es k).dst = i then 1 else 0) := by
  rw [pick1_eq]
  by_cases h1 : (edD es k).src = i
  · simp only [if_pos h1]
    by_cases h2 : (edD es k).src = (edD es k).dst
    · have h3 : (edD es k).dst = i := h2.symm.trans h1
      cases hd : (edD es k).dir <;> simp [h1, h3, mk1, lpN, ba57, ba27]
    · have h3 : ¬ (edD es k).dst = i := fun e => h2 (h1.trans e.symm)
      cases hd : (edD es k).dir <;> simp [h2, h3, mk1, lpN, ba47, ba27]
  · simp only [if_neg h1]
    by_cases h2 : (edD es k).dst = i
    · have h3 : ¬ (edD es k).src = (edD es k).dst := fun e => h1 (e.trans h2)
      cases hd : (edD es k).dir <;> simp [h2, h1, mk1, lpN, ba17, ba27]
    · simp [h2]
def endS (es : List Ed) (m n : Nat) : Nat := ((List.range n).map fun i : Nat => ((pickN 7 es m (i : Int)).map (lpN es)).sum).sum
theorem endS_succ (es : List Ed) (m n : Nat) : endS es m (n + 1) = endS es m n + ((pickN 7 es m (n : Int)).map (lpN es)).sum := by simp [endS, List.range_succ, List.sum_append]
theorem hit_sum (s : Int) : ∀ n : Nat, ((List.range n).map fun i : Nat => if s = (i : Int) then 1 else 0).sum = if inB n s then 1 else 0
  | 0 => by simp [inB]
  | n + 1 => by
    rw [List.range_succ, List.map_append, List.sum_append, hit_sum s n]
    simp only [List.map_cons, List.map_nil, List.sum_cons, List.sum_nil, inB, Bool.and_eq_true, decide_eq_true_eq]
    split <;> split <;> split <;> omega
theorem sum_add (f g : Nat → Nat) : ∀ l : List Nat, (l.map fun i => f i + g i).sum = (l.map f).sum + (l.map g).sum
  | [] => rfl
  | a :: l => by simp only [List.map_cons, List.sum_cons, sum_add f g l]; omega
theorem zeros : ∀ l : List Nat, (l.map fun _ => 0).sum = 0
  | [] => rfl
  | a :: l => by simp only [List.map_cons, List.sum_cons, zeros l]
/-- All directions: each edge leads from both its ends. -/
theorem endS_all (es : List Ed) (n : Nat) : ∀ m, (∀ k, k < m → inB n (edD es k).src = true ∧ inB n (edD es k).dst = true) → endS es m n = 2 * m
  | 0, _ => by simp only [endS, pickN_zero, List.map_nil, List.sum_nil]; exact zeros _
  | m + 1, h => by
    have h1 := endS_all es n m fun k hk => h k (by omega)
    obtain ⟨h2, h3⟩ := h m (by omega)
    have h4 : endS es (m + 1) n = endS es m n + ((List.range n).map fun i : Nat => ((pick1 7 (i : Int) m (edD es m)).map (lpN es)).sum).sum := by
      unfold endS
      rw [← sum_add]
      simp only [pickN_succ, List.map_append, List.sum_append]
    have h5 : ((List.range n).map fun i : Nat => ((pick1 7 (i : Int) m (edD es m)).map (lpN es)).sum).sum = 2 := by
      simp only [pick1_ends]
      rw [sum_add, hit_sum, hit_sum, h2, h3]
      rfl
    omega
end Go.Proofs.Ytbolojjnkkgehaa
