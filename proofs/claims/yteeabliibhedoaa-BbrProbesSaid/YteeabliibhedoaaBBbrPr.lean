/- Contracts and plain facts: BbrPr. -/
import Derived.Test.YteeabliibhedoaaBArith
import Derived.Test.YteeabliibhedoaaBBbrM
import Derived.Test.YteeabliibhedoaaBBbrMm
import Derived.Test.YteeabliibhedoaaXw
import Derived.Test.YteeabliibhedoaaK
set_option linter.unusedVariables false
set_option linter.unusedSimpArgs false
set_option linter.unusedSectionVars false
namespace Go.X
namespace BbrPr
open Arith BbrM BbrMm
/-- The samples of BbrProbes. -/
def pA : Sm := (1000, 10000, 0, 1000, 1000, 10000, 0, 10000, false)
def pB (k : Int) : Sm := (10000001001 + k, 20000, 10000, 2000, 2000, 10000, 0, 3000, false)
def pC (k : Int) : Sm := (10000001001 + k + 1, 21000, 20000, 2000, 2000, 1000, 0, 3000, false)
def pD (k : Int) : Sm := (10000001001 + k + 200000000, 22000, 21000, 2000, 2000, 1000, 0, 3000, false)
def pE (k : Int) : Sm := (10000001001 + k + 2 + 200000000, 23000, 22000, 2000, 2000, 1000, 0, 3000, false)
def m1 : Md := mUpd (mNew 1000) pA 2000
def m2 (k : Int) : Md := mUpd m1 (pB k) 2000
def m3 (k : Int) : Md := mUpd (m2 k) (pC k) 2000
def m4 (k : Int) : Md := mUpd (m3 k) (pD k) 2000
def m5 (k : Int) : Md := mUpd (m4 k) (pE k) 2000
def okP (k : Nat) : Bool :=
  (m2 k).mode == 3 && (m2 k).win == 4000 && mGain (m2 k) == 256 && (m3 k).mode == 3 && (m4 k).mode == 3 && (m4 k).p.full && (m5 k).mode == 2 && decide ((m5 k).win ≥ m1.win) && (m5 k).b.best == 2000
theorem okP_all : ∀ k : Nat, k < 1000 → okP k = true := by decide +kernel
theorem okP_at {k : Nat} (h : okP k = true) : (m2 k).mode = 3 ∧ (m2 k).win = 4000 ∧ mGain (m2 k) = 256 ∧ (m3 k).mode = 3 ∧ (m4 k).mode = 3 ∧ (m4 k).p.full = true ∧ (m5 k).mode = 2 ∧ (m5 k).win ≥ m1.win ∧ (m5 k).b.best = 2000 := by
  unfold okP at h
  simp only [Bool.and_eq_true, beq_iff_eq, decide_eq_true_eq] at h
  obtain ⟨⟨⟨⟨⟨⟨⟨⟨h1, h2⟩, h3⟩, h4⟩, h5⟩, h6⟩, h7⟩, h8⟩, h9⟩ := h
  exact ⟨h1, h2, h3, h4, h5, h6, h7, h8, h9⟩
end BbrPr

end Go.X
