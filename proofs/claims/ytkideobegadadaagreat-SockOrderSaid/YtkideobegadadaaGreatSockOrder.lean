/- 'Rows.SockOrderSaid'. -/
import Derived.Test.YtkideobegadadaaGreatRows
import Derived.Test.YtkideobegadadaaGreatXy
import Derived.Test.YtkideobegadadaaGreatK
import Derived.Test.YtkideobegadadaaGreatBArith
import Derived.Test.YtkideobegadadaaGreatBWf
import Derived.Test.YtkideobegadadaaGreatBDelays
import Derived.Test.YtkideobegadadaaGreatBTarget
import Derived.Test.YtkideobegadadaaGreatBBbrMm
import Derived.Test.YtkideobegadadaaGreatBBbrG
import Derived.Test.YtkideobegadadaaGreatBBbrP
import Derived.Test.YtkideobegadadaaGreatBBbrQ
import Derived.Test.YtkideobegadadaaGreatBBbrN
import Derived.Test.YtkideobegadadaaGreatBBbrU
import Derived.Test.YtkideobegadadaaGreatBSockB
import Derived.Test.YtkideobegadadaaGreatBSockC
import Derived.Test.YtkideobegadadaaGreatBSockE
import Derived.Test.YtkideobegadadaaGreatBSockG
import Derived.Test.YtkideobegadadaaGreatBSockI
import Derived.Test.YtkideobegadadaaGreatBSockK
import Derived.Test.YtkideobegadadaaGreatBSockN
import Derived.Test.YtkideobegadadaaGreatBSockP
import Derived.Test.YtkideobegadadaaGreatBSockV
import Derived.Test.YtkideobegadadaaGreatBSockX
namespace Go.Proofs.YtkideobegadadaaGreat.sockOrder
open Go.ChangeShapes Go.WideShapes Go.ChangeAt Go.RowKit Go.X
set_option linter.unusedVariables false
theorem own : ownKnob Tryz.prog.godebug = none := by kernel_rfl
theorem laidOut : laidOutB Tryz.prog = true := by kernel_rfl
theorem walk (a0 : Ks.T K_i4u2bi2) (g0 : rowOk (Ks.mk K_i4u2bi2 a0)) (s1 : Sl) (x1 : List (Ks.T K_i2u2s × List (Ks.T [.int .u64, .int .u64]))) (n1 : Nrm s1) (l1 : s1.len = x1.length) (c1 : s1.len ≤ s1.cap) (m1 : x1.length ≤ maxLen) (g1 : ∀ p ∈ x1, rowOk (Ks.mk K_i2u2s p.1) ∧ p.2.length ≤ maxLen ∧ ∀ y ∈ p.2, rowOk (Ks.mk [.int .u64, .int .u64] y)) (w : World) (h1 : SlRd w s1 5 (flat K_i2u2s (x1.map Prod.fst))) (k1 : ∀ p ∈ x1, SlRd w ((fun z : Ks.T K_i2u2s => z.2.2.2.2) p.1) 2 (flat [.int .u64, .int .u64] p.2) ∧ ((fun z : Ks.T K_i2u2s => z.2.2.2.2) p.1).len = p.2.length) :
    Calls Tryz.prog 4 #[(V1.agg (Ks.mk K_i4u2bi2 a0)).enc, (Lf.sl s1).enc] w fun e w' => e = .returned (.bool true) ∧ Below w.heap.size w w' := by
  have t := law_read (w := w) (SockX.order_tri a0 s1 x1 (Conf.okC_of fun k n hl => g0 _ hl) (fun p hp => SockV.okO_of fun k n hl => (g1 p hp).1 _ hl)) (readOk_star (readOk_rarr h1 (by rw [List.length_map]; exact l1)) (readOk_rl fun p hp => readOk_rarr (k1 p hp).1 (k1 p hp).2))
  exact t
set_option maxRecDepth 100000 in
theorem lifted (os : Os) (started : os.Started) (H : Type) (enc : TypeId × Value → H) :
    ReturnsInHanded {} Tryz.checked os 4 .any (Rows.sockOrderSpec.pre6 enc Tryz.prog Tryz.f4 Rows.sockOrderRow.domain false) (Rows.sockOrderSpec.post enc Tryz.prog Tryz.f4 false true false false) := by
  refine returnsInHanded_of_change (C := Tryz.checked) own started (by kernel_rfl) Tryz.func4
    (ChangeSpec.witness6 (enc := enc) (C := Tryz.checked) false ⟨#[], #[(V1.agg [.int .i64 0, .int .i64 0, .int .i64 0, .int .i64 0, .int .u64 0, .int .u64 0, .bool false, .int .i64 0, .int .i64 0]).enc, .slice none 0 0], []⟩ 4 (by kernel_rfl) (by kernel_rfl) (by kernel_rfl) (by kernel_rfl)) ?_
  intro W base args ds gs before hval0 hW hcnd _
  have hval : ∀ (j : Nat) t v, Tryz.f4.params[j]? = some t → args[j]? = some v → Value.okWide Tryz.prog W .any base t v := hval0
  have hW' := hW
  obtain ⟨p, q, hA0, hV, rfl, hfz, hnd⟩ := hW
  have hA : DataW.TrodAll enc Tryz.prog W 0 (fun _ => true) true Tryz.f4.params.toList args.toList ds p := hA0
  rw [Tryz.params4] at hA hval
  obtain ⟨v0, vs0, d0, ds0, p0, q0, hargs, rfl, rfl, h0, r0⟩ := trodAll_cons hA
  obtain ⟨v1, vs1, d1, ds1, p1, q1, rfl, rfl, rfl, h1, r1⟩ := trodAll_cons r0
  obtain ⟨rfl, rfl, rfl⟩ := trodAll_nil r1
  obtain rfl : args = #[v0, v1] := by cases args; simp_all
  obtain ⟨rfl, rfl⟩ := trodVars_none hV
  obtain ⟨a0, rfl, g0⟩ := row_rd 1 (ks := K_i4u2bi2) (t := 27) (ts := [3, 3, 3, 3, 22, 22, 4, 3, 3]) (by kernel_rfl) (by kernel_rfl) (by kernel_rfl) (hval 0 27 v0 rfl rfl) h0
  obtain ⟨s1, z1, rfl, n1, k1, l1, m1, g1⟩ := rows_rd 2 (ks := K_i2u2s) Tryz.underlying43 (ts := [3, 3, 22, 22, 45]) (by kernel_rfl) (by kernel_rfl) (by kernel_rfl) (by simp) (hval 1 43 v1 rfl rfl) h1
  obtain ⟨x1, hx1, hp1⟩ := nest_rd (n := 0) (ks := K_i2u2s) (ks' := [.int .u64, .int .u64]) (ts' := [22, 22]) 4 (fun z : Ks.T K_i2u2s => z.2.2.2.2) (fun _ => rfl) (u := 45) rfl Tryz.underlying45 (by kernel_rfl) (by kernel_rfl) (by kernel_rfl) (by simp) g1 (by simp)
  rw [← hx1] at k1 l1 m1
  rw [List.length_map] at l1 m1
  have c1 := cap_rd Tryz.underlying43 n1 (hval 1 43 _ rfl rfl)
  clear hA0 hval0
  refine (walk a0 (rowOk_of g0 (by simp [Ks.len])) s1 x1 n1 l1 c1 m1 (fun p hp => ⟨(hp1 p hp).1, (hp1 p hp).2.2.2.1, (hp1 p hp).2.2.2.2⟩) W k1 (fun p hp => ⟨(hp1 p hp).2.1, (hp1 p hp).2.2.1⟩)).mono fun e W' ⟨he, hg⟩ => ?_
  subst he
  have hlt0 : ∀ x ∈ p0, x.block < W.heap.size := fun x hx => by simpa using hW'.lt x (by simp [hx])
  have hlt1 : ∀ x ∈ p1, x.block < W.heap.size := fun x hx => by simpa using hW'.lt x (by simp [hx])
  exact ⟨_, rfl, post_of_below hW' (fun _ _ _ => trodAll_cons_mk (shut_bool Tryz.underlying4 _) trodAll_mk0)
    (trodAll_cons_mk (Below.trod laidOut (by kernel_rfl) (of_decide_eq_true (by kernel_rfl)) h0 hg hlt0) (trodAll_cons_mk (Below.trod laidOut (by kernel_rfl) (of_decide_eq_true (by kernel_rfl)) h1 hg hlt1) trodAll_mk0)) rfl rfl hg⟩
theorem over : Rows.sockOrderRow.holds Tryz.pinned (OpenSpec.ofChange Rows.sockOrderSpec) :=
  OpenClaim.holds_of_wide 4 Tryz.f4 rfl rfl rfl rfl rfl rfl rfl ⟨rfl, rfl, rfl, rfl, rfl⟩ rfl rfl rfl rfl rfl (by kernel_rfl) Tryz.func4 (by kernel_rfl)
    (of_decide_eq_true (by kernel_rfl)) (by unfold Func.isWrapper; first | (rw [if_pos (by decide +kernel)]; kernel_rfl) | (rw [if_neg (by decide +kernel)]; exact ⟨rfl, rfl⟩))
    (fun os started H enc _ => lifted os started H enc)
theorem proved : Rows.SockOrderSaid := over
#print axioms proved
end Go.Proofs.YtkideobegadadaaGreat.sockOrder
