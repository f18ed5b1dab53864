/- Contracts and plain facts: FqR FqW. -/
import Derived.Test.YtjahkildlilabaaGreatBArith
import Derived.Test.YtjahkildlilabaaGreatBInts
import Derived.Test.YtjahkildlilabaaGreatBListsO
import Derived.Test.YtjahkildlilabaaGreatBTreeN
import Derived.Test.YtjahkildlilabaaGreatBTreeB
import Derived.Test.YtjahkildlilabaaGreatBTreeD
import Derived.Test.YtjahkildlilabaaGreatBTreeF
import Derived.Test.YtjahkildlilabaaGreatBFqC
import Derived.Test.YtjahkildlilabaaGreatBFqE
import Derived.Test.YtjahkildlilabaaGreatBFqH
import Derived.Test.YtjahkildlilabaaGreatBFqK
import Derived.Test.YtjahkildlilabaaGreatBFqQ
import Derived.Test.YtjahkildlilabaaGreatXw
import Derived.Test.YtjahkildlilabaaGreatK
import Derived.Test.YtjahkildlilabaaGreatF0
import Derived.Test.YtjahkildlilabaaGreatF1
set_option linter.unusedVariables false
set_option linter.unusedSimpArgs false
set_option linter.unusedSectionVars false
namespace Go.X
open Go.Proofs
namespace FqR
open Arith ArithC Lists _root_.Go.X.Tree TreeC TreeD TreeE TreeF FqM FqC FqD FqE FqG FqH FqI FqK FqN FqQ
/-! ### Plays -/
abbrev KD : Ks := [.int .i64, .int .u64, .int .i64, .int .u64, .int .i64, .int .u64, .bool, .sl, .int .i64, .int .i64, .int .i64, .int .i64, .int .u64, .int .u64, .bool, .int .i64, .int .i64, .bool]
abbrev DD := Ks.T KD
abbrev dG (d : DD) : Int := d.2.1
abbrev dS (d : DD) : Sg := (d.2.2.1, d.2.2.2.1, d.2.2.2.2.1, d.2.2.2.2.2.1, d.2.2.2.2.2.2.1)
abbrev dR (d : DD) : Sl := d.2.2.2.2.2.2.2.1
abbrev dC (d : DD) : Cf := (d.2.2.2.2.2.2.2.2.1, d.2.2.2.2.2.2.2.2.2.1, d.2.2.2.2.2.2.2.2.2.2.1, d.2.2.2.2.2.2.2.2.2.2.2.1, d.2.2.2.2.2.2.2.2.2.2.2.2.1, d.2.2.2.2.2.2.2.2.2.2.2.2.2.1, d.2.2.2.2.2.2.2.2.2.2.2.2.2.2.1, d.2.2.2.2.2.2.2.2.2.2.2.2.2.2.2.1, d.2.2.2.2.2.2.2.2.2.2.2.2.2.2.2.2.1)
abbrev OpD := DD × List Int
def opsD (d : Sl) (ps : List OpD) : SP := rarr d KD (ps.map Prod.fst) ^ rl (fun p : OpD => rarr (dR p.1) KU p.2) ps
structure OkD (p : OpD) : Prop where
  g : U (dG p.1)
  s : U (sFr (dS p.1)) ∧ U (sSt (dS p.1))
  c : 0 ≤ cH (dC p.1) ∧ U (cR (dC p.1))
  r : ∀ y ∈ p.2, U y
theorem okD_of {p : OpD} (h : ∀ k n, Lf.int k n ∈ Ks.mk KD p.1 → (Lit.int k n).wf = true) (hr : ∀ y ∈ p.2, ∀ k n, Lf.int k n ∈ Ks.mk KU y → (Lit.int k n).wf = true) : OkD p where
  g := wf_u (h .u64 (dG p.1) (List.mem_of_getElem? (i := 1) rfl))
  s := ⟨wf_u (h .u64 (sFr (dS p.1)) (List.mem_of_getElem? (i := 3) rfl)), wf_u (h .u64 (sSt (dS p.1)) (List.mem_of_getElem? (i := 5) rfl))⟩
  c := ⟨(wf_u (h .u64 (cH (dC p.1)) (List.mem_of_getElem? (i := 12) rfl))).1, wf_u (h .u64 (cR (dC p.1)) (List.mem_of_getElem? (i := 13) rfl))⟩
  r := fun y hy => wf_u (hr y hy .u64 y (List.mem_of_getElem? (i := 0) rfl))
theorem rd_dR {ps : List OpD} {i : Nat} {o : OpD} (h : ps[i]? = some o) : Rd (dR o.1) (rl (fun p : OpD => rarr (dR p.1) KU p.2) ps) KU o.2 := rd_rl h (rd_rarr _ _ _)
theorem u_big {x : Int} (h : 0 ≤ x ∧ x ≤ 4611686018427387904) : U x := by unfold U; omega
theorem Time_tri (g : Ks.T KF) (x : Sg) (l : List Sg) : Tri Tryz.prog N_canterref20_Time [.agg (Ks.mk KF g)] [.lf (.int .u64)] (emp ^ rarr g.2.2.2.2.2 KS (x :: l)) (fun r => pur (r = if sSt x > g.2.2.2.1 then sSt x else g.2.2.2.1) emp) :=
  tri_0 (call_canterref20_Time g) fun w0 S R h => by
    unfold W_canterref20_Time
    refine w_new h fun n1 w h => w_drw h fun w h => w_ld h rfl (w_ld h rfl ?_)
    refine w_idx (s := g.2.2.2.2.2) h (by decide) (by simp) ?_
    refine w_ldA h g.2.2.2.2.2 0 3 x rfl rfl (by decide) rfl ?_
    exact Own.retP rfl h.emp'
end FqR

namespace FqW
open Arith ArithC Lists ListsO _root_.Go.X.Tree TreeC TreeD TreeE TreeF FqM FqC FqD FqE FqG FqH FqI FqK FqN FqQ FqR
abbrev RF := Ks.T KF
def upR (r : Nat → RF) (i : Nat) (x : RF) : Nat → RF := fun j => if j = i then x else r j
theorem upR_same (r : Nat → RF) (i : Nat) (x : RF) : upR r i x i = x := by simp [upR]
theorem upR_ne (r : Nat → RF) {i j : Nat} (x : RF) (h : j ≠ i) : upR r i x j = r j := by simp [upR, h]
def upT (t : Nat → Bool) (i : Nat) (x : Bool) : Nat → Bool := fun j => if j = i then x else t j
theorem upT_same (t : Nat → Bool) (i : Nat) (x : Bool) : upT t i x i = x := by simp [upT]
theorem upT_ne (t : Nat → Bool) {i j : Nat} (x : Bool) (h : j ≠ i) : upT t i x j = t j := by simp [upT, h]
abbrev rqP (c : Cf) (r : Nat → RF) (t : Nat → Bool) : List Lf := [.int .i64 (cQ c), .int .i64 (cF c), .int .i64 (cL c), .int .i64 (cW c), .int .u64 (cH c), .int .u64 (cR c), .bool (cD c), .int .i64 (cCap c), .int .i64 (cMss c), .int .i64 (r 0).1, .int .i64 (r 0).2.1, .int .i64 (r 0).2.2.1, .int .u64 (r 0).2.2.2.1, .int .u64 (r 0).2.2.2.2.1, .sl (r 0).2.2.2.2.2, .int .i64 (r 1).1, .int .i64 (r 1).2.1, .int .i64 (r 1).2.2.1, .int .u64 (r 1).2.2.2.1, .int .u64 (r 1).2.2.2.2.1, .sl (r 1).2.2.2.2.2, .int .i64 (r 2).1, .int .i64 (r 2).2.1, .int .i64 (r 2).2.2.1, .int .u64 (r 2).2.2.2.1, .int .u64 (r 2).2.2.2.2.1, .sl (r 2).2.2.2.2.2, .int .i64 (r 3).1, .int .i64 (r 3).2.1, .int .i64 (r 3).2.2.1, .int .u64 (r 3).2.2.2.1, .int .u64 (r 3).2.2.2.2.1, .sl (r 3).2.2.2.2.2, .int .i64 (r 4).1, .int .i64 (r 4).2.1, .int .i64 (r 4).2.2.1, .int .u64 (r 4).2.2.2.1, .int .u64 (r 4).2.2.2.2.1, .sl (r 4).2.2.2.2.2, .int .i64 (r 5).1, .int .i64 (r 5).2.1, .int .i64 (r 5).2.2.1, .int .u64 (r 5).2.2.2.1, .int .u64 (r 5).2.2.2.2.1, .sl (r 5).2.2.2.2.2, .int .i64 (r 6).1, .int .i64 (r 6).2.1, .int .i64 (r 6).2.2.1, .int .u64 (r 6).2.2.2.1, .int .u64 (r 6).2.2.2.2.1, .sl (r 6).2.2.2.2.2, .int .i64 (r 7).1, .int .i64 (r 7).2.1, .int .i64 (r 7).2.2.1, .int .u64 (r 7).2.2.2.1, .int .u64 (r 7).2.2.2.2.1, .sl (r 7).2.2.2.2.2, .bool (t 0), .bool (t 1), .bool (t 2), .bool (t 3), .bool (t 4), .bool (t 5), .bool (t 6), .bool (t 7)]
theorem rq_at (c : Cf) (r : Nat → RF) (t : Nat → Bool) (a b : Sl) {i : Nat} (hi : i < 8) : Ks.un KF (((rqP c r t ++ [Lf.sl a, Lf.sl b]).drop (0 + 9 + i * 6)).take 6) = some (r i) := by
  have : i = 0 ∨ i = 1 ∨ i = 2 ∨ i = 3 ∨ i = 4 ∨ i = 5 ∨ i = 6 ∨ i = 7 := by omega
  rcases this with rfl | rfl | rfl | rfl | rfl | rfl | rfl | rfl <;> rfl
theorem rq_chk (c : Cf) (r : Nat → RF) (t : Nat → Bool) (a b : Sl) {i : Nat} (hi : i < 8) : ((rqP c r t ++ [Lf.sl a, Lf.sl b]).drop (0 + 9 + i * 6)).take 6 = Ks.mk KF (r i) := by
  have : i = 0 ∨ i = 1 ∨ i = 2 ∨ i = 3 ∨ i = 4 ∨ i = 5 ∨ i = 6 ∨ i = 7 := by omega
  rcases this with rfl | rfl | rfl | rfl | rfl | rfl | rfl | rfl <;> rfl
theorem rq_at1 (c : Cf) (r : Nat → RF) (t : Nat → Bool) (a b : Sl) {i : Nat} (hi : i < 8) : Ks.un [.int .i64] (((rqP c r t ++ [Lf.sl a, Lf.sl b]).drop (0 + 9 + i * 6 + 1)).take 1) = some (r i).2.1 := by
  have : i = 0 ∨ i = 1 ∨ i = 2 ∨ i = 3 ∨ i = 4 ∨ i = 5 ∨ i = 6 ∨ i = 7 := by omega
  rcases this with rfl | rfl | rfl | rfl | rfl | rfl | rfl | rfl <;> rfl
theorem rq_at2 (c : Cf) (r : Nat → RF) (t : Nat → Bool) (a b : Sl) {i : Nat} (hi : i < 8) : Ks.un [.int .i64] (((rqP c r t ++ [Lf.sl a, Lf.sl b]).drop (0 + 9 + i * 6 + 2)).take 1) = some (r i).2.2.1 := by
  have : i = 0 ∨ i = 1 ∨ i = 2 ∨ i = 3 ∨ i = 4 ∨ i = 5 ∨ i = 6 ∨ i = 7 := by omega
  rcases this with rfl | rfl | rfl | rfl | rfl | rfl | rfl | rfl <;> rfl
theorem rq_at4 (c : Cf) (r : Nat → RF) (t : Nat → Bool) (a b : Sl) {i : Nat} (hi : i < 8) : Ks.un [.int .u64] (((rqP c r t ++ [Lf.sl a, Lf.sl b]).drop (0 + 9 + i * 6 + 4)).take 1) = some (r i).2.2.2.2.1 := by
  have : i = 0 ∨ i = 1 ∨ i = 2 ∨ i = 3 ∨ i = 4 ∨ i = 5 ∨ i = 6 ∨ i = 7 := by omega
  rcases this with rfl | rfl | rfl | rfl | rfl | rfl | rfl | rfl <;> rfl
theorem rq_at5 (c : Cf) (r : Nat → RF) (t : Nat → Bool) (a b : Sl) {i : Nat} (hi : i < 8) : Ks.un [.sl] (((rqP c r t ++ [Lf.sl a, Lf.sl b]).drop (0 + 9 + i * 6 + 5)).take 1) = some (r i).2.2.2.2.2 := by
  have : i = 0 ∨ i = 1 ∨ i = 2 ∨ i = 3 ∨ i = 4 ∨ i = 5 ∨ i = 6 ∨ i = 7 := by omega
  rcases this with rfl | rfl | rfl | rfl | rfl | rfl | rfl | rfl <;> rfl
theorem rq_chk5 (c : Cf) (r : Nat → RF) (t : Nat → Bool) (a b : Sl) {i : Nat} (hi : i < 8) : ((rqP c r t ++ [Lf.sl a, Lf.sl b]).drop (0 + 9 + i * 6 + 5)).take 1 = [.sl (r i).2.2.2.2.2] := by
  have : i = 0 ∨ i = 1 ∨ i = 2 ∨ i = 3 ∨ i = 4 ∨ i = 5 ∨ i = 6 ∨ i = 7 := by omega
  rcases this with rfl | rfl | rfl | rfl | rfl | rfl | rfl | rfl <;> rfl
theorem rq_th (c : Cf) (r : Nat → RF) (t : Nat → Bool) (a b : Sl) {i : Nat} (hi : i < 8) : Ks.un [.bool] (((rqP c r t ++ [Lf.sl a, Lf.sl b]).drop (0 + 57 + i * 1)).take 1) = some (t i) := by
  have : i = 0 ∨ i = 1 ∨ i = 2 ∨ i = 3 ∨ i = 4 ∨ i = 5 ∨ i = 6 ∨ i = 7 := by omega
  rcases this with rfl | rfl | rfl | rfl | rfl | rfl | rfl | rfl <;> rfl
theorem rq_up (c : Cf) (r : Nat → RF) (t : Nat → Bool) (a b : Sl) {i : Nat} (hi : i < 8) (x : RF) : upd (rqP c r t ++ [Lf.sl a, Lf.sl b]) (0 + 9 + i * 6) (Ks.mk KF x) = rqP c (upR r i x) t ++ [Lf.sl a, Lf.sl b] := by
  have : i = 0 ∨ i = 1 ∨ i = 2 ∨ i = 3 ∨ i = 4 ∨ i = 5 ∨ i = 6 ∨ i = 7 := by omega
  rcases this with rfl | rfl | rfl | rfl | rfl | rfl | rfl | rfl <;> rfl
theorem rq_up1 (c : Cf) (r : Nat → RF) (t : Nat → Bool) (a b : Sl) {i : Nat} (hi : i < 8) (x : Int) : upd (rqP c r t ++ [Lf.sl a, Lf.sl b]) (0 + 9 + i * 6 + 1) [.int .i64 x] = rqP c (upR r i ((r i).1, x, (r i).2.2.1, (r i).2.2.2.1, (r i).2.2.2.2.1, (r i).2.2.2.2.2)) t ++ [Lf.sl a, Lf.sl b] := by
  have : i = 0 ∨ i = 1 ∨ i = 2 ∨ i = 3 ∨ i = 4 ∨ i = 5 ∨ i = 6 ∨ i = 7 := by omega
  rcases this with rfl | rfl | rfl | rfl | rfl | rfl | rfl | rfl <;> rfl
theorem rq_up2 (c : Cf) (r : Nat → RF) (t : Nat → Bool) (a b : Sl) {i : Nat} (hi : i < 8) (x : Int) : upd (rqP c r t ++ [Lf.sl a, Lf.sl b]) (0 + 9 + i * 6 + 2) [.int .i64 x] = rqP c (upR r i ((r i).1, (r i).2.1, x, (r i).2.2.2.1, (r i).2.2.2.2.1, (r i).2.2.2.2.2)) t ++ [Lf.sl a, Lf.sl b] := by
  have : i = 0 ∨ i = 1 ∨ i = 2 ∨ i = 3 ∨ i = 4 ∨ i = 5 ∨ i = 6 ∨ i = 7 := by omega
  rcases this with rfl | rfl | rfl | rfl | rfl | rfl | rfl | rfl <;> rfl
theorem rq_up3 (c : Cf) (r : Nat → RF) (t : Nat → Bool) (a b : Sl) {i : Nat} (hi : i < 8) (x : Int) : upd (rqP c r t ++ [Lf.sl a, Lf.sl b]) (0 + 9 + i * 6 + 3) [.int .u64 x] = rqP c (upR r i ((r i).1, (r i).2.1, (r i).2.2.1, x, (r i).2.2.2.2.1, (r i).2.2.2.2.2)) t ++ [Lf.sl a, Lf.sl b] := by
  have : i = 0 ∨ i = 1 ∨ i = 2 ∨ i = 3 ∨ i = 4 ∨ i = 5 ∨ i = 6 ∨ i = 7 := by omega
  rcases this with rfl | rfl | rfl | rfl | rfl | rfl | rfl | rfl <;> rfl
theorem rq_up4 (c : Cf) (r : Nat → RF) (t : Nat → Bool) (a b : Sl) {i : Nat} (hi : i < 8) (x : Int) : upd (rqP c r t ++ [Lf.sl a, Lf.sl b]) (0 + 9 + i * 6 + 4) [.int .u64 x] = rqP c (upR r i ((r i).1, (r i).2.1, (r i).2.2.1, (r i).2.2.2.1, x, (r i).2.2.2.2.2)) t ++ [Lf.sl a, Lf.sl b] := by
  have : i = 0 ∨ i = 1 ∨ i = 2 ∨ i = 3 ∨ i = 4 ∨ i = 5 ∨ i = 6 ∨ i = 7 := by omega
  rcases this with rfl | rfl | rfl | rfl | rfl | rfl | rfl | rfl <;> rfl
theorem rq_up5 (c : Cf) (r : Nat → RF) (t : Nat → Bool) (a b : Sl) {i : Nat} (hi : i < 8) (x : Sl) : upd (rqP c r t ++ [Lf.sl a, Lf.sl b]) (0 + 9 + i * 6 + 5) [.sl x] = rqP c (upR r i ((r i).1, (r i).2.1, (r i).2.2.1, (r i).2.2.2.1, (r i).2.2.2.2.1, x)) t ++ [Lf.sl a, Lf.sl b] := by
  have : i = 0 ∨ i = 1 ∨ i = 2 ∨ i = 3 ∨ i = 4 ∨ i = 5 ∨ i = 6 ∨ i = 7 := by omega
  rcases this with rfl | rfl | rfl | rfl | rfl | rfl | rfl | rfl <;> rfl
theorem rq_upt (c : Cf) (r : Nat → RF) (t : Nat → Bool) (a b : Sl) {i : Nat} (hi : i < 8) (x : Bool) : upd (rqP c r t ++ [Lf.sl a, Lf.sl b]) (0 + 57 + i * 1) [.bool x] = rqP c r (upT t i x) ++ [Lf.sl a, Lf.sl b] := by
  have : i = 0 ∨ i = 1 ∨ i = 2 ∨ i = 3 ∨ i = 4 ∨ i = 5 ∨ i = 6 ∨ i = 7 := by omega
  rcases this with rfl | rfl | rfl | rfl | rfl | rfl | rfl | rfl <;> rfl
/-! ### The reference's queue in memory -/
def sgs (v : Qm) (j : Nat) : List Sg := match v.fl j with
  | none => []
  | some f => f.sg
abbrev zF : RF := (0, 0, 0, 0, 0, ⟨none, 0, 0⟩)
def rowF (v : Qm) (j : Nat) (s : Sl) : RF := match v.fl j with
  | none => zF
  | some f => ((j : Int), f.cr, plc v j, f.nx, f.si, s)
abbrev slR (x : RF) : Sl := x.2.2.2.2.2
structure Rq (v : Qm) (r : Nat → RF) (t : Nat → Bool) : Prop where
  t : ∀ j, j < 8 → t j = (v.fl j).isSome
  r : ∀ j, j < 8 → r j = rowF v j (slR (r j))
abbrev sgP (r : Nat → RF) (xs : Nat → List Sg) : Nat → SP := fun j => arr (slR (r j)) KS (xs j)
def rque (b : Nat) (v : Qm) : SP := exq (fun x : (Nat → RF) × (Nat → Bool) => Rq v x.1 x.2) (fun x => lso b (rqP v.c x.1 x.2) v.lv ^ bigS (sgP x.1 (sgs v)) 8)
instance (b : Nat) (v : Qm) : NoR (rque b v) := by unfold rque; infer_instance
section
variable {w0 w : World} {S0 R0 : Nat → Prop} {F G : SP}
theorem _root_.Go.X.Own.rque (h : Own w0 S0 R0 w F) (b : Nat) (v : Qm) [tk : Take (FqW.rque b v) F G] : ∃ r t, Rq v r t ∧ Own w0 S0 R0 w (lso b (rqP v.c r t) v.lv ^ bigS (sgP r (sgs v)) 8 ^ G) := by
  obtain ⟨x, hx, h⟩ := (h.le tk.le).outq
  exact ⟨x.1, x.2, hx, h.fin⟩
theorem _root_.Go.X.Own.mkRque (h : Own w0 S0 R0 w F) (b : Nat) (v : Qm) (r : Nat → RF) (t : Nat → Bool) (hr : Rq v r t) [tk : Take (lso b (rqP v.c r t) v.lv ^ bigS (sgP r (sgs v)) 8) F G] : Own w0 S0 R0 w (FqW.rque b v ^ G) :=
  (h.le tk.le).inq (f := fun x : (Nat → RF) × (Nat → Bool) => lso b (rqP v.c x.1 x.2) v.lv ^ bigS (sgP x.1 (sgs v)) 8) (φ := fun x => Rq v x.1 x.2) (r, t) hr
theorem _root_.Go.X.Own.sgO (h : Own w0 S0 R0 w F) (r : Nat → RF) (xs : Nat → List Sg) {i : Nat} (hi : i < 8) [tk : Take (bigS (sgP r xs) 8) F G] : Own w0 S0 R0 w (arr (slR (r i)) KS (xs i) ^ bigS (but (sgP r xs) i) 8 ^ G) :=
  ((h.le tk.le).le (star_mono (big_out (sgP r xs) hi) Le.rfl)).le (star_assoc _ _ _)
theorem _root_.Go.X.Own.sgI (h : Own w0 S0 R0 w F) (r r' : Nat → RF) (xs ys : Nat → List Sg) {i : Nat} (hi : i < 8) (hr : ∀ j, j ≠ i → r' j = r j) (hx : ∀ j, j ≠ i → ys j = xs j) [tk : Take (arr (slR (r' i)) KS (ys i) ^ bigS (but (sgP r xs) i) 8) F G] : Own w0 S0 R0 w (bigS (sgP r' ys) 8 ^ G) := by
  have e : bigS (but (sgP r xs) i) 8 = bigS (but (sgP r' ys) i) 8 := bigS_congr 8 fun j _ => by
    unfold but
    split
    · rfl
    · rename_i e; show arr _ KS _ = arr _ KS _; rw [hr j e, hx j e]
  have h := h.le tk.le
  rw [e] at h
  exact h.le (star_mono (big_in (sgP r' ys) hi) Le.rfl)
end
theorem Rq.none {v : Qm} {r : Nat → RF} {t : Nat → Bool} (h : Rq v r t) {i : Nat} (hi : i < 8) (hf : v.fl i = none) : t i = false ∧ r i = zF ∧ sgs v i = [] := by
  have h1 := h.t i hi
  have h2 := h.r i hi
  unfold rowF at h2
  rw [hf] at h1 h2
  exact ⟨h1, h2, by unfold sgs; rw [hf]⟩
theorem Rq.some {v : Qm} {r : Nat → RF} {t : Nat → Bool} (h : Rq v r t) {i : Nat} (hi : i < 8) {f : Fl} (hf : v.fl i = some f) : t i = true ∧ r i = ((i : Int), f.cr, plc v i, f.nx, f.si, slR (r i)) ∧ sgs v i = f.sg := by
  have h1 := h.t i hi
  have h2 := h.r i hi
  unfold rowF at h2
  rw [hf] at h1 h2
  exact ⟨h1, h2, by unfold sgs; rw [hf]⟩
/-! ### Who waits for the least time -/
def firstF (v : Qm) : Int := match v.ks with
  | [] => -1
  | k :: _ => k.2
def tmO (v : Qm) (j : Nat) : Int := match v.fl j with
  | none => 0
  | some f => timeF f
def Best (v : Qm) (k : Nat) (x : Int) : Prop := (x = -1 ∧ ∀ j, j < k → plc v j ≠ 3) ∨ ∃ m : Nat, x = (m : Int) ∧ m < k ∧ plc v m = 3 ∧ ∀ j, j < k → plc v j = 3 → tmO v m < tmO v j ∨ (tmO v m = tmO v j ∧ m ≤ j)
theorem best_first {v : Qm} (hv : OkQ v) {x : Int} (h : Best v 8 x) : x = firstF v := by
  have hmem : ∀ k ∈ v.ks, ∃ i : Nat, i < 8 ∧ plc v i = 3 ∧ k = (tmO v i, (i : Int)) := fun k hk => by
    obtain ⟨i, f, h1, h2, h3, h4⟩ := (hv.ks k).1 hk
    exact ⟨i, (hv.fl i f h1).1, plc_3.2 ⟨h3, f, h1, h2⟩, by rw [h4]; unfold tmO; rw [h1]⟩
  unfold firstF
  rcases h with ⟨e, h⟩ | ⟨m, e, hm, hp, h⟩
  · cases hk : v.ks with
    | nil => exact e
    | cons k l =>
      obtain ⟨i, hi, hp, _⟩ := hmem k (by rw [hk]; simp)
      exact absurd hp (h i hi)
  · obtain ⟨h3, f, hf, hs⟩ := plc_3.1 hp
    have hin : (tmO v m, (m : Int)) ∈ v.ks := (hv.ks _).2 ⟨m, f, hf, hs, h3, by unfold tmO; rw [hf]⟩
    cases hk : v.ks with
    | nil => rw [hk] at hin; cases hin
    | cons k l =>
      obtain ⟨i, hi, hpi, he⟩ := hmem k (by rw [hk]; simp)
      have hb := h i hi hpi
      rw [hk] at hin
      rcases List.mem_cons.1 hin with e2 | hin
      · rw [e, ← e2]
      · have hsr := hv.srt
        rw [hk] at hsr
        have := (List.pairwise_cons.1 hsr).1 _ hin
        rw [klt_iff, he] at this
        have h4 : tmO v i < tmO v m ∨ (tmO v i = tmO v m ∧ (i : Int) < (m : Int)) := this
        omega
theorem first_tri (b : Nat) (v : Qm) (hv : OkQ v) (r : Nat → RF) (t : Nat → Bool) (hq : Rq v r t) : Tri Tryz.prog N_canterref20_Queue_first [.lf (.ptr (some ⟨b, 0⟩))] [.lf (.int .i64)] (lso b (rqP v.c r t) v.lv ^ bigS (sgP r (sgs v)) 8) (fun x => pur (x = firstF v) (lso b (rqP v.c r t) v.lv ^ bigS (sgP r (sgs v)) 8)) :=
  tri_0 (call_canterref20_Queue_first (some ⟨b, 0⟩)) fun w0 S R h => by
    unfold W_canterref20_Queue_first
    refine w_loop (fun _ : Int × Int => lso b (rqP v.c r t) v.lv ^ bigS (sgP r (sgs v)) 8) (fun y : Int × Int => (0 ≤ y.2 ∧ y.2 ≤ 8) ∧ Best v y.2.toNat y.1) (fun y : Int × Int => (8 - y.2).toNat) h ⟨by decide, .inl ⟨rfl, fun j hj => absurd hj (by simp)⟩⟩ ?_
    rintro (y0 : Int × Int) w ⟨hk, hb⟩ h
    obtain ⟨x, k⟩ := y0
    dsimp only at hk hb
    have hwk : IntKind.i64.wrap (k + 1) = k + 1 := wi (by omega) (by omega)
    refine w_ite (fun c => ?_) fun c => ?_
    · have c8 : k < 8 := by simpa using c
      clear c
      obtain ⟨j, hj⟩ : ∃ j : Nat, k = (j : Int) := ⟨k.toNat, by omega⟩
      have hj8 : j < 8 := by omega
      have hj1 : (k + 1).toNat = j + 1 := by omega
      rw [hj] at hb hwk hj1 ⊢
      rw [Int.toNat_natCast] at hb
      refine w_join h (fun _ => lso b (rqP v.c r t) v.lv ^ bigS (sgP r (sgs v)) 8) (fun y : Bool => (y = true → Best v (j + 1) (j : Int)) ∧ (y = false → Best v (j + 1) x)) (fun (y : Bool) w hy h => ?_) ?_
      · refine w_ite (fun c => ?_) fun c => ?_
        · rw [hwk]
          exact ⟨⟨⟨by show 0 ≤ (j : Int) + 1 ∧ (j : Int) + 1 ≤ 8; omega, by show Best v ((j : Int) + 1).toNat (j : Int); rw [hj1]; exact hy.1 c⟩, h⟩, by show (8 - ((j : Int) + 1)).toNat < (8 - (j : Int)).toNat; omega⟩
        · rw [hwk]
          exact ⟨⟨⟨by show 0 ≤ (j : Int) + 1 ∧ (j : Int) + 1 ≤ 8; omega, by show Best v ((j : Int) + 1).toNat x; rw [hj1]; exact hy.2 c⟩, h⟩, by show (8 - ((j : Int) + 1)).toNat < (8 - (j : Int)).toNat; omega⟩
      · have skip : plc v j ≠ 3 → Best v (j + 1) x := fun hp => by
          rcases hb with ⟨e, h⟩ | ⟨m, e, hm, hpm, h⟩
          · exact .inl ⟨e, fun q hq => by
              by_cases e2 : q = j
              · rw [e2]; exact hp
              · exact h q (by omega)⟩
          · exact .inr ⟨m, e, by omega, hpm, fun q hq hpq => by
              by_cases e2 : q = j
              · rw [e2] at hpq; exact absurd hpq hp
              · exact h q (by omega) hpq⟩
        obtain ⟨s1, s2, h⟩ := h.lso b (rqP v.c r t) v.lv
        refine w_drw h fun w h => w_deref ⟨by omega, ?_⟩
        rw [Int.toNat_natCast]
        refine w_ld h (rq_th v.c r t s1 s2 hj8) ?_
        cases hf : v.fl j with
        | none =>
          rw [(hq.none hj8 hf).1]
          refine w_ite (fun c => (by cases c)) fun _ => ⟨⟨fun e => (by cases e), fun _ => skip fun e => ?_⟩, (h.mkLso b (rqP v.c r t) s1 s2 v.lv).fin⟩
          obtain ⟨_, f, hf2, _⟩ := plc_3.1 e
          rw [hf] at hf2; cases hf2
        | some f =>
          obtain ⟨q1, q2, q3⟩ := hq.some hj8 hf
          rw [q1]
          refine w_ite (fun _ => ?_) fun c => (by cases c)
          refine w_deref ⟨by omega, ?_⟩
          refine w_ld h (rq_at2 v.c r t s1 s2 hj8) ?_
          have e2 : (r j).2.2.1 = plc v j := by rw [q2]
          rw [e2]
          refine w_ite (fun c => ?_) fun c => ?_
          · have hp : plc v j = 3 := by simpa using c
            obtain ⟨_, f', hf', hs⟩ := plc_3.1 hp
            rw [hf] at hf'
            cases hf'
            refine w_ite (fun c2 => ?_) fun c2 => ?_
            · have c2 : x < 0 := by simpa using c2
              refine ⟨⟨fun _ => ?_, fun e => (by cases e)⟩, (h.mkLso b (rqP v.c r t) s1 s2 v.lv).fin⟩
              rcases hb with ⟨e, h⟩ | ⟨m, e, _⟩
              · exact .inr ⟨j, rfl, by omega, hp, fun q hq hpq => by
                  by_cases e2 : q = j
                  · rw [e2]; exact .inr ⟨rfl, Nat.le_refl _⟩
                  · exact absurd hpq (h q (by omega))⟩
              · omega
            · have c2 : ¬ x < 0 := by simpa using c2
              obtain ⟨m, e, hm, hpm, hbm⟩ : ∃ m : Nat, x = (m : Int) ∧ m < j ∧ plc v m = 3 ∧ ∀ q, q < j → plc v q = 3 → tmO v m < tmO v q ∨ (tmO v m = tmO v q ∧ m ≤ q) := by
                rcases hb with ⟨e, _⟩ | h
                · omega
                · exact h
              have hm8 : m < 8 := by omega
              obtain ⟨_, g, hg, hgs⟩ := plc_3.1 hpm
              obtain ⟨p1, p2, p3⟩ := hq.some hm8 hg
              have hmx : x.toNat = m := by omega
              refine w_deref (w_deref ⟨by omega, by omega, ?_⟩)
              dsimp only
              rw [hmx]
              refine w_ld h (rq_at v.c r t s1 s2 hj8) (w_ld h (rq_at v.c r t s1 s2 hm8) ?_)
              cases hss : f.sg with
              | nil => exact absurd hss hs
              | cons a1 l1 =>
              cases hgg : g.sg with
              | nil => exact absurd hgg hgs
              | cons a2 l2 =>
              rw [hss] at q3
              rw [hgg] at p3
              have h := h.sgO r (sgs v) hj8
              rw [q3] at h
              refine w_callL (Time_tri (r j) a1 l1) h fun r13 w h => ?_
              obtain ⟨hr13, h⟩ := h.purP; rw [hr13]
              have h := h.sgI r r (sgs v) (sgs v) hj8 (fun _ _ => rfl) (fun _ _ => rfl) (tk := by rw [q3]; infer_instance)
              refine w_chk h (rq_chk v.c r t s1 s2 hm8) ?_
              have h := h.sgO r (sgs v) hm8
              rw [p3] at h
              refine w_callL (Time_tri (r m) a2 l2) h fun r14 w h => ?_
              obtain ⟨hr14, h⟩ := h.purP; rw [hr14]
              have h := h.sgI r r (sgs v) (sgs v) hm8 (fun _ _ => rfl) (fun _ _ => rfl) (tk := by rw [p3]; infer_instance)
              have t1 : (if sSt a1 > (r j).2.2.2.1 then sSt a1 else (r j).2.2.2.1) = tmO v j := by
                have : (r j).2.2.2.1 = f.nx := by rw [q2]
                rw [this]; unfold tmO timeF; rw [hf]; simp only; rw [hss]
              have t2 : (if sSt a2 > (r m).2.2.2.1 then sSt a2 else (r m).2.2.2.1) = tmO v m := by
                have : (r m).2.2.2.1 = g.nx := by rw [p2]
                rw [this]; unfold tmO timeF; rw [hg]; simp only; rw [hgg]
              rw [t1, t2]
              refine ⟨⟨fun c => ?_, fun c => ?_⟩, (h.mkLso b (rqP v.c r t) s1 s2 v.lv).fin⟩
              · have c : tmO v j < tmO v m := of_decide_eq_true c
                refine .inr ⟨j, rfl, by omega, hp, fun q hq hpq => ?_⟩
                by_cases e2 : q = j
                · rw [e2]; exact .inr ⟨rfl, Nat.le_refl _⟩
                · have := hbm q (by omega) hpq
                  left; omega
              · have c : ¬ tmO v j < tmO v m := of_decide_eq_false c
                refine .inr ⟨m, e, by omega, hpm, fun q hq hpq => ?_⟩
                by_cases e2 : q = j
                · rw [e2]; omega
                · exact hbm q (by omega) hpq
          · have hp : plc v j ≠ 3 := by simpa using c
            exact ⟨⟨fun e => (by cases e), fun _ => skip hp⟩, (h.mkLso b (rqP v.c r t) s1 s2 v.lv).fin⟩
    · have c : ¬ k < 8 := by simpa using c
      have e : k.toNat = 8 := by omega
      rw [e] at hb
      exact Own.retP (best_first hv hb) h
end FqW


end Go.X
