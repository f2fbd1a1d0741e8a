import Derived.Test.YtbolojjnkkgehaaLab
/-! shown: the small graph. -/
namespace Go.Proofs.Ytbolojjnkkgehaa
open Go.RowKit

def shA : Nd := ⟨⟨#[97]⟩, [], []⟩
def shB : Nd := ⟨⟨#[98]⟩, [⟨#[76]⟩], []⟩
def shC : Ed := ⟨⟨#[101]⟩, 0, 0, true, [], []⟩
def shD : Ed := ⟨⟨#[102]⟩, 0, 1, false, [], []⟩
def shN (lv : Value) : List NX := [⟨shA, .slice none 0 0, .slice none 0 0⟩, ⟨shB, lv, .slice none 0 0⟩]
def shE : List EX := [⟨shC, .slice none 0 0, .slice none 0 0⟩, ⟨shD, .slice none 0 0, .slice none 0 0⟩]
def shO : List NX := [⟨⟨⟨#[]⟩, [], []⟩, .slice none 0 0, .slice none 0 0⟩]
theorem sh_right (lv : Value) : rightN (shN lv) shE = 0 := by
  have h1 : distB [⟨#[97]⟩, ⟨#[98]⟩] = true := by decide +kernel
  have h2 : distB [⟨#[101]⟩, ⟨#[102]⟩] = true := by decide +kernel
  have h3 : nodeB shA = true := by decide +kernel
  have h4 : nodeB shB = true := by decide +kernel
  have h5 : edgeB 2 shC = true := by decide +kernel
  have h6 : edgeB 2 shD = true := by decide +kernel
  simp [rightN, okE, okN, startB, shN, shE, List.range_succ, ndAt, edAt, h1, h2, h3, h4, h5, h6, show shA.nm = ⟨#[97]⟩ from rfl, show shB.nm = ⟨#[98]⟩ from rfl, show shC.nm = ⟨#[101]⟩ from rfl, show shD.nm = ⟨#[102]⟩ from rfl]
theorem sh_right1 : rightN shO [] = 1 := by
  have h3 : nodeB ⟨⟨#[]⟩, [], []⟩ = false := by decide +kernel
  simp [rightN, okE, okN, shO, List.range_succ, ndAt, h3]
theorem sh_out0 : outL 2 [shC, shD] 0 5 = [(0, 0)] := by decide +kernel
theorem sh_out1 : outL 2 [shC, shD] 1 2 = [(1, 0)] := by decide +kernel
theorem sh_find : findI [⟨#[97]⟩, ⟨#[98]⟩] ⟨#[98]⟩ 2 = 1 := by decide +kernel
theorem sh_lbl : lblL [shA, shB] [shC, shD] false 1 = [⟨#[76]⟩] := by decide +kernel
end Go.Proofs.Ytbolojjnkkgehaa
