/- Contracts and plain facts: FqK. -/
import Derived.Test.YtjahkildlilabaaBPlain
import Derived.Test.YtjahkildlilabaaBArith
import Derived.Test.YtjahkildlilabaaBArithC
import Derived.Test.YtjahkildlilabaaBLists
import Derived.Test.YtjahkildlilabaaBTreeM
import Derived.Test.YtjahkildlilabaaBTreeN
import Derived.Test.YtjahkildlilabaaBTreeA
import Derived.Test.YtjahkildlilabaaBTreeB
import Derived.Test.YtjahkildlilabaaBTreeC
import Derived.Test.YtjahkildlilabaaBTreeD
import Derived.Test.YtjahkildlilabaaBTreeE
import Derived.Test.YtjahkildlilabaaBTreeF
import Derived.Test.YtjahkildlilabaaBFqM
import Derived.Test.YtjahkildlilabaaBFqC
import Derived.Test.YtjahkildlilabaaBFqD
import Derived.Test.YtjahkildlilabaaBFqE
import Derived.Test.YtjahkildlilabaaBFqG
import Derived.Test.YtjahkildlilabaaBFqH
import Derived.Test.YtjahkildlilabaaBFqJ
import Derived.Test.YtjahkildlilabaaXw
import Derived.Test.YtjahkildlilabaaK
import Derived.Test.YtjahkildlilabaaF0
import Derived.Test.YtjahkildlilabaaF1
set_option linter.unusedVariables false
set_option linter.unusedSimpArgs false
set_option linter.unusedSectionVars false
namespace Go.X
open Go.Proofs
namespace FqK
open Arith ArithC Lists _root_.Go.X.Tree TreeC TreeD TreeE TreeF FqM FqC FqD FqE FqG FqH FqJ
/-! ### One flow alone -/
def one (c : Cf) (i : Nat) (f : Fl) (lv : LV) (ks : List Key) : Qm := ⟨c, upF (fun _ => none) i (some f), lv, ks, f.sg.length⟩
theorem one_fl (c : Cf) (i : Nat) (f : Fl) (lv : LV) (ks : List Key) : (one c i f lv ks).fl i = some f := by show upF (fun _ => none) i (some f) i = _; exact upF_same _ _ _
theorem enq_new {c : Cf} (hc : OkC c) {s : Sg} {now : Int} (hk : 0 ≤ sK s ∧ sK s ≤ 7) (hl : 1 ≤ sLn s ∧ sLn s ≤ 65536) (hn : now < 3000000000) (hf : ¬ (sSt s > addI now (cH c) ∧ cD c = true)) :
    enqF (newF c) s now = ((0, 0), one c (sK s).toNat ⟨cF c, 0, 0, [drawn (newF c) s now]⟩ ([sK s], []) []) := by
  have hv := OkQ.new hc
  have h0 : fate4 (newF c) s now = 0 := by
    unfold fate4
    have h1 := hc.l
    have h2 := hc.w
    rw [if_neg (by show ¬ (0 : Int) ≥ cL c; omega), if_neg (by show ¬ (0 : Int) ≥ cW c; omega), if_neg hf]
  unfold enqF
  rw [if_neg (fun h => h hk), if_neg (fun h => h hl), coll_same hv hn, fate_eq hv, if_pos h0, FqM.add_eq]
  have hw : wakeL (newF c) (sK s).toNat = ([sK s], []) := by
    unfold wakeL
    rw [if_neg (by
      have : plc (newF c) (sK s).toNat = 0 := plc_0.2 ⟨by simp [inL], fun f h => by cases h⟩
      rw [this]; simp), pushed (by omega) (by simp [inL])]
    show ([] ++ [((sK s).toNat : Int)], []) = _
    rw [show (((sK s).toNat : Nat) : Int) = sK s by omega]; rfl
  rw [hw]
  rfl
/-! ### What departs -/
/-! ### One flow departs -/
end FqK

end Go.X
