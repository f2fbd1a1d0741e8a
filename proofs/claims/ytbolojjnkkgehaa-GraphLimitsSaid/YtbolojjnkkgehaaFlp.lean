import Derived.Test.YtbolojjnkkgehaaPln
/-! Plain facts on graphs whose edges are turned, or are not directed. -/
namespace Go.Proofs.Ytbolojjnkkgehaa
open Go.RowKit

def flD (d : Ed) : Ed := { d with dir := false }
def bkD (d : Ed) : Ed := { d with src := d.dst, dst := d.src }
theorem edD_mapf (f : Ed → Ed) (hf : f ⟨⟨#[]⟩, 0, 0, false, [], []⟩ = ⟨⟨#[]⟩, 0, 0, false, [], []⟩) (es : List Ed) (k : Nat) : edD (es.map f) k = f (edD es k) := by
  unfold edD
  by_cases h : k < es.length
  · simp [List.getD_eq_getElem?_getD, h]
  · simp [List.getD_eq_getElem?_getD, List.getElem?_eq_none (Nat.le_of_not_lt h), hf]
theorem pickN_map (f : Ed → Ed) (hf : f ⟨⟨#[]⟩, 0, 0, false, [], []⟩ = ⟨⟨#[]⟩, 0, 0, false, [], []⟩) (q q' : Int) (hp : ∀ i k d, pick1 q i k (f d) = pick1 q' i k d) (es : List Ed) (i : Int) : ∀ m, pickN q (es.map f) m i = pickN q' es m i := by
  intro m
  induction m with
  | zero => rw [pickN_zero, pickN_zero]
  | succ m ih => rw [pickN_succ, pickN_succ, ih, edD_mapf f hf, hp]
theorem outL_map (f : Ed → Ed) (hf : f ⟨⟨#[]⟩, 0, 0, false, [], []⟩ = ⟨⟨#[]⟩, 0, 0, false, [], []⟩) (q q' : Int) (hp : ∀ i k d, pick1 q i k (f d) = pick1 q' i k d) (n : Nat) (es : List Ed) (i : Int) : outL n (es.map f) i q = outL n es i q' := by
  cases h : inB n i with
  | false => simp [outL, h]
  | true => rw [outL_in h, outL_in h, pickN_map f hf q q' hp, List.length_map]
theorem flat2 (i : Int) (k : Nat) (d : Ed) : pick1 2 i k (flD d) = pick1 7 i k d := by
  obtain ⟨nm, s, t, dir, ls, ps⟩ := d
  simp only [pick1_eq, flD]
  by_cases h1 : s = i
  · simp only [if_pos h1]
    by_cases h2 : s = t
    · simp only [if_pos h2]
      cases dir <;> simp [mk1, ba22, ba57, ba27]
    · simp only [if_neg h2]
      cases dir <;> simp [mk1, ba22, ba47, ba27]
  · simp only [if_neg h1]
    by_cases h2 : t = i
    · simp only [if_pos h2]
      cases dir <;> simp [mk1, ba22, ba17, ba27]
    · simp only [if_neg h2]
theorem flat5 (i : Int) (k : Nat) (d : Ed) : pick1 5 i k (flD d) = [] := by
  obtain ⟨nm, s, t, dir, ls, ps⟩ := d
  simp only [pick1_eq, flD]
  by_cases h1 : s = i
  · simp only [if_pos h1]
    by_cases h2 : s = t
    · simp only [if_pos h2]; simp [mk1, ba25]
    · simp only [if_neg h2]; simp [mk1, ba25]
  · simp only [if_neg h1]
    by_cases h2 : t = i
    · simp only [if_pos h2]; simp [mk1, ba25]
    · simp only [if_neg h2]
theorem flat5N (es : List Ed) (i : Int) : ∀ m, pickN 5 (es.map flD) m i = [] := by
  intro m
  induction m with
  | zero => rw [pickN_zero]
  | succ m ih => rw [pickN_succ, ih, edD_mapf flD rfl, flat5]; rfl
theorem outL_flat5 (n : Nat) (es : List Ed) (i : Int) : outL n (es.map flD) i 5 = [] := by
  cases h : inB n i with
  | false => simp [outL, h]
  | true => rw [outL_in h, flat5N]
theorem back_all (q q' : Int) (hq : (q = 1 ∧ q' = 4) ∨ (q = 4 ∧ q' = 1) ∨ (q = 2 ∧ q' = 2)) (i : Int) (k : Nat) (d : Ed) : pick1 q i k (bkD d) = pick1 q' i k d := by
  obtain ⟨nm, s, t, dir, ls, ps⟩ := d
  simp only [pick1_eq, bkD]
  by_cases h1 : s = i
  · by_cases h2 : t = i
    · subst h1; subst h2
      simp only [if_pos]
      rcases hq with ⟨rfl, rfl⟩ | ⟨rfl, rfl⟩ | ⟨rfl, rfl⟩ <;> cases dir <;> simp [mk1, ba51, ba54, ba52, ba21, ba24, ba22]
    · have h3 : ¬ s = t := fun e => h2 (e.symm.trans h1)
      have h4 : ¬ t = s := fun e => h3 e.symm
      simp only [if_pos h1, if_neg h2, if_neg h3]
      rcases hq with ⟨rfl, rfl⟩ | ⟨rfl, rfl⟩ | ⟨rfl, rfl⟩ <;> cases dir <;> simp [mk1, ba11, ba12, ba14, ba41, ba42, ba44, ba21, ba24, ba22]
  · by_cases h2 : t = i
    · have h3 : ¬ t = s := fun e => h1 (e.symm.trans h2)
      simp only [if_neg h1, if_pos h2, if_neg h3]
      rcases hq with ⟨rfl, rfl⟩ | ⟨rfl, rfl⟩ | ⟨rfl, rfl⟩ <;> cases dir <;> simp [mk1, ba11, ba12, ba14, ba41, ba42, ba44, ba21, ba24, ba22]
    · simp only [if_neg h1, if_neg h2]

/-- A right graph stays right: the ends turned, or no edge directed. -/
theorem rightN_map {xs : List NX} {es zs : List EX} (f : Ed → Ed) (hz : zs.map (·.d) = es.map fun x => f x.d) (hn : ∀ d, (f d).nm = d.nm) (he : ∀ n d, edgeB n (f d) = edgeB n d) : rightN xs zs = rightN xs es := by
  have hl : zs.length = es.length := by have := congrArg List.length hz; simpa using this
  have hnm : zs.map (·.d.nm) = es.map (·.d.nm) := by
    have h := congrArg (List.map (·.nm)) hz
    simp only [List.map_map] at h
    have e : ((fun x : Ed => x.nm) ∘ fun x : EX => f x.d) = fun x : EX => x.d.nm := by funext x; exact hn x.d
    rw [e] at h
    exact h
  have hat : ∀ j, j < es.length → (edAt zs j).d = f (edAt es j).d := fun j hj => by
    have h1 : (zs.map (·.d))[j]? = (es.map fun x => f x.d)[j]? := by rw [hz]
    rw [edAt_eq (by omega), edAt_eq hj]
    simpa [hj, show j < zs.length by omega] using h1
  have hok : okE xs zs zs.length = okE xs es es.length := by
    unfold okE okN startB
    rw [hnm, hl]
    congr 1
    rw [Bool.eq_iff_iff, List.all_eq_true, List.all_eq_true]
    constructor
    · intro h j hj
      have := h j hj
      rw [hat j (by simpa using hj), he] at this
      exact this
    · intro h j hj
      have := h j hj
      rw [hat j (by simpa using hj), he]
      exact this
  unfold rightN
  rw [hok, hl]
theorem edgeB_fl (n : Nat) (d : Ed) : edgeB n (flD d) = edgeB n d := rfl
theorem edgeB_bk (n : Nat) (d : Ed) : edgeB n (bkD d) = edgeB n d := by
  unfold edgeB bkD
  rw [Bool.and_comm (inB n d.dst)]
end Go.Proofs.Ytbolojjnkkgehaa
