import Derived.Test.YtbolojjnkkgehaaTg2
/-! The reference's Out; Graph. -/
namespace Go.Proofs.Ytbolojjnkkgehaa
open Go.RowKit

theorem bits_nz (a b : Int) : (bits .and .i64 a b != 0) = (BitVec.ofInt 64 a &&& BitVec.ofInt 64 b != 0#64) := by
  show (IntKind.i64.wrap (((BitVec.ofInt 64 a &&& BitVec.ofInt 64 b).toNat : Nat) : Int) != 0) = _
  generalize BitVec.ofInt 64 a &&& BitVec.ofInt 64 b = v
  have hv := v.isLt
  have h0 : v = 0#64 ↔ v.toNat = 0 := ⟨fun h => by rw [h]; rfl, fun h => BitVec.eq_of_toNat_eq (by rw [h]; rfl)⟩
  have hw : IntKind.i64.wrap (v.toNat : Int) = 0 ↔ v.toNat = 0 := by
    rw [IntKind.wrap_i64]
    omega
  by_cases h : v.toNat = 0
  · rw [hw.2 h, h0.2 h]; rfl
  · have h1 : IntKind.i64.wrap (v.toNat : Int) ≠ 0 := fun e => h (hw.1 e)
    have h2 : v ≠ 0#64 := fun e => h (h0.1 e)
    rw [bne_iff_ne.2 h1, bne_iff_ne.2 h2]
theorem bits_comm (a b : Int) : (bits .and .i64 a b != 0) = (bits .and .i64 b a != 0) := by rw [bits_nz, bits_nz, BitVec.and_comm]
theorem bits_five (q : Int) : (bits .and .i64 5 q != 0) = ((bits .and .i64 q 4 != 0) || (bits .and .i64 q 1 != 0)) := by
  rw [bits_nz, bits_nz, bits_nz, BitVec.and_comm (BitVec.ofInt 64 q) (BitVec.ofInt 64 4), BitVec.and_comm (BitVec.ofInt 64 q) (BitVec.ofInt 64 1)]
  have h5 : BitVec.ofInt 64 5 = BitVec.ofInt 64 4 ||| BitVec.ofInt 64 1 := by decide
  rw [h5]
  generalize BitVec.ofInt 64 q = v
  generalize BitVec.ofInt 64 4 = a
  generalize BitVec.ofInt 64 1 = b
  have hd : (a ||| b) &&& v = (a &&& v) ||| (b &&& v) := by
    apply BitVec.eq_of_getLsbD_eq
    intro i hi
    simp only [BitVec.getLsbD_and, BitVec.getLsbD_or]
    cases a.getLsbD i <;> cases b.getLsbD i <;> cases v.getLsbD i <;> rfl
  rw [hd]
  generalize a &&& v = x
  generalize b &&& v = y
  by_cases hx : x = 0#64
  · subst hx
    simp
  · have h1 : x ||| y ≠ 0#64 := fun e => hx (by
      apply BitVec.eq_of_getLsbD_eq
      intro i hi
      have := congrArg (fun z => BitVec.getLsbD z i) e
      simp only [BitVec.getLsbD_or, BitVec.getLsbD_zero] at this ⊢
      cases h : x.getLsbD i
      · rfl
      · rw [h] at this; simp at this)
    rw [bne_iff_ne.2 h1, bne_iff_ne.2 hx]
    rfl
/-- One edge: what the reference says. -/
theorem ref_one (q i : Int) (k : Nat) (d : Ed) : pick1 q i k d = if d.src = i ∨ d.dst = i then (if leadB d.src d.dst d.dir i (d.src + d.dst - i) q then [((k : Int), d.src + d.dst - i)] else []) else [] := by
  obtain ⟨nm, s, t, dir, ls, ps⟩ := d
  rw [pick1_eq]
  unfold mk1 leadB
  dsimp only
  by_cases h1 : s = i
  · subst h1
    have e : s + t - s = t := by omega
    have hor : (s = s ∨ t = s) = True := by simp
    simp only [if_true, e, hor]
    by_cases h2 : t = s
    · subst h2
      cases dir with
      | true => simp only [if_true, true_or, or_true, or_self, beq_self_eq_true, Bool.true_and]; rw [bits_five]
      | false => simp only [if_true, true_or, or_true, or_self, Bool.false_eq_true, if_false, beq_self_eq_true, Bool.true_and, Bool.or_true]; rw [bits_comm]
    · have h3 : ¬ s = t := fun e => h2 e.symm
      have h4 : (t == s) = false := by simpa using h2
      simp only [if_neg h3]
      cases dir with
      | true => simp only [if_true, true_or, or_true, or_self, beq_self_eq_true, Bool.true_and, h4, Bool.false_and, Bool.or_false]; rw [bits_comm]
      | false => simp only [if_true, true_or, or_true, or_self, Bool.false_eq_true, if_false, beq_self_eq_true, Bool.true_and, h4, Bool.false_and, Bool.or_false]; rw [bits_comm]
  · rw [if_neg h1]
    by_cases h2 : t = i
    · subst h2
      have e : s + t - t = s := by omega
      have h4 : (s == t) = false := by simpa using h1
      have hor : (s = t ∨ t = t) = True := by simp
      simp only [if_true, e, hor]
      cases dir with
      | true => simp only [if_true, true_or, or_true, or_self, beq_self_eq_true, Bool.true_and, h4, Bool.false_and, Bool.false_or]; rw [bits_comm]
      | false => simp only [if_true, true_or, or_true, or_self, Bool.false_eq_true, if_false, beq_self_eq_true, Bool.true_and, h4, Bool.false_and, Bool.false_or]; rw [bits_comm]
    · rw [if_neg h2, if_neg (fun h => h.elim h1 h2)]
end Go.Proofs.Ytbolojjnkkgehaa
