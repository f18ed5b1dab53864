/- Contracts and plain facts: FqR. -/
import Derived.Test.YtjahkildlilabaaBPlain
import Derived.Test.YtjahkildlilabaaBArith
import Derived.Test.YtjahkildlilabaaBArithC
import Derived.Test.YtjahkildlilabaaBLists
import Derived.Test.YtjahkildlilabaaBTreeM
import Derived.Test.YtjahkildlilabaaBTreeN
import Derived.Test.YtjahkildlilabaaBTreeA
import Derived.Test.YtjahkildlilabaaBTreeB
import Derived.Test.YtjahkildlilabaaBTreeC
import Derived.Test.YtjahkildlilabaaBTreeD
import Derived.Test.YtjahkildlilabaaBTreeE
import Derived.Test.YtjahkildlilabaaBTreeF
import Derived.Test.YtjahkildlilabaaBFqM
import Derived.Test.YtjahkildlilabaaBFqC
import Derived.Test.YtjahkildlilabaaBFqD
import Derived.Test.YtjahkildlilabaaBFqE
import Derived.Test.YtjahkildlilabaaBFqG
import Derived.Test.YtjahkildlilabaaBFqH
import Derived.Test.YtjahkildlilabaaBFqI
import Derived.Test.YtjahkildlilabaaBFqK
import Derived.Test.YtjahkildlilabaaBFqN
import Derived.Test.YtjahkildlilabaaBFqQ
import Derived.Test.YtjahkildlilabaaXw
import Derived.Test.YtjahkildlilabaaK
import Derived.Test.YtjahkildlilabaaF0
import Derived.Test.YtjahkildlilabaaF1
set_option linter.unusedVariables false
set_option linter.unusedSimpArgs false
set_option linter.unusedSectionVars false
namespace Go.X
open Go.Proofs
namespace FqR
open Arith ArithC Lists _root_.Go.X.Tree TreeC TreeD TreeE TreeF FqM FqC FqD FqE FqG FqH FqI FqK FqN FqQ
/-! ### Plays -/
abbrev KD : Ks := [.int .i64, .int .u64, .int .i64, .int .u64, .int .i64, .int .u64, .bool, .sl, .int .i64, .int .i64, .int .i64, .int .i64, .int .u64, .int .u64, .bool, .int .i64, .int .i64, .bool]
abbrev DD := Ks.T KD
abbrev dG (d : DD) : Int := d.2.1
abbrev dS (d : DD) : Sg := (d.2.2.1, d.2.2.2.1, d.2.2.2.2.1, d.2.2.2.2.2.1, d.2.2.2.2.2.2.1)
abbrev dR (d : DD) : Sl := d.2.2.2.2.2.2.2.1
abbrev dC (d : DD) : Cf := (d.2.2.2.2.2.2.2.2.1, d.2.2.2.2.2.2.2.2.2.1, d.2.2.2.2.2.2.2.2.2.2.1, d.2.2.2.2.2.2.2.2.2.2.2.1, d.2.2.2.2.2.2.2.2.2.2.2.2.1, d.2.2.2.2.2.2.2.2.2.2.2.2.2.1, d.2.2.2.2.2.2.2.2.2.2.2.2.2.2.1, d.2.2.2.2.2.2.2.2.2.2.2.2.2.2.2.1, d.2.2.2.2.2.2.2.2.2.2.2.2.2.2.2.2.1)
abbrev OpD := DD × List Int
def opsD (d : Sl) (ps : List OpD) : SP := rarr d KD (ps.map Prod.fst) ^ rl (fun p : OpD => rarr (dR p.1) KU p.2) ps
structure OkD (p : OpD) : Prop where
  g : U (dG p.1)
  s : U (sFr (dS p.1)) ∧ U (sSt (dS p.1))
  c : 0 ≤ cH (dC p.1) ∧ U (cR (dC p.1))
  r : ∀ y ∈ p.2, U y
theorem okD_of {p : OpD} (h : ∀ k n, Lf.int k n ∈ Ks.mk KD p.1 → (Lit.int k n).wf = true) (hr : ∀ y ∈ p.2, ∀ k n, Lf.int k n ∈ Ks.mk KU y → (Lit.int k n).wf = true) : OkD p where
  g := wf_u (h .u64 (dG p.1) (List.mem_of_getElem? (i := 1) rfl))
  s := ⟨wf_u (h .u64 (sFr (dS p.1)) (List.mem_of_getElem? (i := 3) rfl)), wf_u (h .u64 (sSt (dS p.1)) (List.mem_of_getElem? (i := 5) rfl))⟩
  c := ⟨(wf_u (h .u64 (cH (dC p.1)) (List.mem_of_getElem? (i := 12) rfl))).1, wf_u (h .u64 (cR (dC p.1)) (List.mem_of_getElem? (i := 13) rfl))⟩
  r := fun y hy => wf_u (hr y hy .u64 y (List.mem_of_getElem? (i := 0) rfl))
def nowF (now ago : Int) : Int := if 4611686018427387904 < addI now (ago.tmod 2000000000) then 4611686018427387904 else addI now (ago.tmod 2000000000)
theorem nowF_r {now ago : Int} (h1 : 0 ≤ now ∧ now ≤ 4611686018427387904) (h2 : U ago) : (0 ≤ nowF now ago ∧ nowF now ago ≤ 4611686018427387904) ∧ now ≤ nowF now ago ∧ U (ago.tmod 2000000000) := by
  have h3 := Int.tmod_nonneg 2000000000 h2.1
  have h4 := Int.tmod_lt_of_pos ago (show (0 : Int) < 2000000000 by decide)
  unfold nowF addI U
  refine ⟨?_, ?_, by omega⟩ <;> (repeat' split) <;> omega
theorem u_big {x : Int} (h : 0 ≤ x ∧ x ≤ 4611686018427387904) : U x := by unfold U; omega
theorem seen_none {v : Qm} {i : Nat} (s : Sl) (hf : v.fl i = none) : seenF v (i : Int) s = (noF, false) ∧ sgF v (i : Int) = [] := by
  have hh : hasF v (i : Int) = false := by unfold hasF; rw [Int.toNat_natCast, hf]; simp
  unfold seenF sgF
  rw [if_neg (by rw [hh]; simp), if_neg (by rw [hh]; simp)]
  exact ⟨rfl, rfl⟩
theorem seen_some {v : Qm} {i : Nat} {f : Fl} (s : Sl) (hi : i < 8) (hf : v.fl i = some f) : seenF v (i : Int) s = (((i : Int), f.cr, plc v i, f.nx, f.si, s), true) ∧ sgF v (i : Int) = f.sg := by
  have hh : hasF v (i : Int) = true := by
    unfold hasF
    rw [Int.toNat_natCast, hf, Bool.and_eq_true, decide_eq_true_eq]
    exact ⟨by omega, rfl⟩
  unfold seenF sgF
  rw [if_pos hh, if_pos hh, Int.toNat_natCast, hf]
  exact ⟨rfl, rfl⟩
end FqR

end Go.X
