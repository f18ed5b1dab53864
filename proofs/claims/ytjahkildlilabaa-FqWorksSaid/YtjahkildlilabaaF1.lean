/- What each function of the program computes, as a weakest precondition, printed by program; the kernel sees that the code says so. -/
import Derived.Test.YtjahkildlilabaaK
import Derived.Test.YtjahkildlilabaaProg
set_option linter.unusedVariables false
namespace Go.X
open Go.Proofs
/-- canter/rbtree.compare -/
def W_rbtree_compare (a : Int × Int) (b : Int × Int) (R : Rs.T [.lf (.int .i64)] → WP) : WP :=
  new (Ks.mk [.int .u64, .int .u64] a) fun n1 =>
  new (Ks.mk [.int .u64, .int .u64] b) fun n2 =>
  drw <|
  ld [.int .u64] ⟨n1, 0⟩ fun (x3 : Int) =>
  ld [.int .u64] ⟨n2, 0⟩ fun (x4 : Int) =>
  ld [.int .u64] ⟨n1, 1⟩ fun (x5 : Int) =>
  ld [.int .u64] ⟨n2, 1⟩ fun (x6 : Int) =>
  call Try.prog N_cmp_Compare_uint64 [.lf (.int .u64 x3), .lf (.int .u64 x4)] [.lf (.int .i64)] fun (r7 : Int) =>
  chk ⟨n2, 1⟩ (Ks.mk [.int .u64] x6) <|
  chk ⟨n1, 1⟩ (Ks.mk [.int .u64] x5) <|
  call Try.prog N_cmp_Compare_uint64 [.lf (.int .u64 x5), .lf (.int .u64 x6)] [.lf (.int .i64)] fun (r8 : Int) =>
  new [.int .i64 r7, .int .i64 r8] fun n9 =>
  call Try.prog N_cmp_Or_int [.lf (.sl ⟨some ⟨n9, 0⟩, 2, 2⟩)] [.lf (.int .i64)] fun (r10 : Int) =>
  R r10
theorem sem_rbtree_compare (a : Int × Int) (b : Int × Int) (R : Rs.T [.lf (.int .i64)] → WP) : Same (semF Try.prog Try.f82 (.s .o (.s (.d (.f 0 [2] (.f 2 [3] (.f 5 [2] (.f 7 [3] (.f 1 [5] (.f 3 [7] (.f 6 [10] (.f 8 [12] (.w 4 [6, 8] (.w 9 [11, 13] (.w 10 [9, 14] (.w 11 [15] (.w 12 [16] .fin)))))))))))))) .o)) [.agg (Ks.mk [.int .u64, .int .u64] a), .agg (Ks.mk [.int .u64, .int .u64] b)] [.lf (.int .i64)] R) (fun w => W_rbtree_compare a b R w) := ⟨by kernel_rfl⟩
theorem call_rbtree_compare (a : Int × Int) (b : Int × Int) (R : Rs.T [.lf (.int .i64)] → WP) (w : World) (h : W_rbtree_compare a b R w) :
    CallX Try.prog N_rbtree_compare ([.agg (Ks.mk [.int .u64, .int .u64] a), .agg (Ks.mk [.int .u64, .int .u64] b)].map V1.enc) w fun v w' => ∃ x, v = (retTV (Rs.mk [.lf (.int .i64)] x)).enc ∧ R x w' :=
  callX_of_semF Try.func82 (by kernel_rfl) (by kernel_rfl) (sem_rbtree_compare a b R) h


/-- canter/sat.Add -/
def W_sat_Add (a : Int) (b : Int) (R : Rs.T [.lf (.int .u64)] → WP) : WP :=
  call Try.prog N_math_bits_Add64 [.lf (.int .u64 a), .lf (.int .u64 b), .lf (.int .u64 (0:Int))] [.lf (.int .u64), .lf (.int .u64)] fun (r1 : Int × Int) =>
  ite' (decide (r1.2 > (0:Int))) (
  R (18446744073709551615:Int)) <|
  R r1.1
theorem sem_sat_Add (a : Int) (b : Int) (R : Rs.T [.lf (.int .u64)] → WP) : Same (semF Try.prog Try.f59 (.s .o (.s .o (.s (.s .o (.s (.s .o .o) .o)) (.s .o .o)))) [.lf (.int .u64 a), .lf (.int .u64 b)] [.lf (.int .u64)] R) (fun w => W_sat_Add a b R w) := ⟨by kernel_rfl⟩
theorem call_sat_Add (a : Int) (b : Int) (R : Rs.T [.lf (.int .u64)] → WP) (w : World) (h : W_sat_Add a b R w) :
    CallX Try.prog N_sat_Add ([.lf (.int .u64 a), .lf (.int .u64 b)].map V1.enc) w fun v w' => ∃ x, v = (retTV (Rs.mk [.lf (.int .u64)] x)).enc ∧ R x w' :=
  callX_of_semF Try.func59 (by kernel_rfl) (by kernel_rfl) (sem_sat_Add a b R) h


/-- slices.Clone[[]canter/api.Seg,canter/api.Seg] -/
def W_slices_Clone_sapiSegapiSeg (s : Sl) (R : Rs.T [.lf .sl] → WP) : WP :=
  ite' (Sl.isNil s) (
  R ⟨none, 0, 0⟩) <|
  new [] fun n1 =>
  app 5 ⟨some ⟨n1, 0⟩, 0, 0⟩ s fun s2 =>
  R s2
theorem sem_slices_Clone_sapiSegapiSeg (s : Sl) (R : Rs.T [.lf .sl] → WP) : Same (semF Try.prog Try.f41 (.s .o (.s (.s .o (.s (.s .o .o) .o)) (.s .o .o))) [.lf (.sl s)] [.lf .sl] R) (fun w => W_slices_Clone_sapiSegapiSeg s R w) := ⟨by kernel_rfl⟩
theorem call_slices_Clone_sapiSegapiSeg (s : Sl) (R : Rs.T [.lf .sl] → WP) (w : World) (h : W_slices_Clone_sapiSegapiSeg s R w) :
    CallX Try.prog N_slices_Clone_sapiSegapiSeg ([.lf (.sl s)].map V1.enc) w fun v w' => ∃ x, v = (retTV (Rs.mk [.lf .sl] x)).enc ∧ R x w' :=
  callX_of_semF Try.func41 (by kernel_rfl) (by kernel_rfl) (sem_slices_Clone_sapiSegapiSeg s R) h


/-- slices.Concat[[]int,int] -/
def W_slices_Concat_sintint (slices : Sl) (R : Rs.T [.lf .sl] → WP) : WP :=
  loop [.int .i64, .int .i64] ((0:Int), (0:Int)) fun J1 (y2 : Int × Int) =>
  ite' (decide (y2.2 < ((slices.len : Nat) : Int))) (
  idx slices y2.2 1 fun q3 =>
  ld [.sl] q3 fun (x4 : Sl) =>
  ite' (decide ((IntKind.i64.wrap (y2.1 + ((x4.len : Nat) : Int))) < (0:Int))) (
  wno) <|
  J1 ((IntKind.i64.wrap (y2.1 + ((x4.len : Nat) : Int))), (IntKind.i64.wrap (y2.2 + (1:Int))))) <|
  call Try.prog N_slices_Grow_sintint [.lf (.sl ⟨none, 0, 0⟩), .lf (.int .i64 y2.1)] [.lf .sl] fun (r5 : Sl) =>
  loop [.sl, .int .i64] (r5, (0:Int)) fun J6 (y7 : Sl × Int) =>
  ite' (decide (y7.2 < ((slices.len : Nat) : Int))) (
  idx slices y7.2 1 fun q8 =>
  ld [.sl] q8 fun (x9 : Sl) =>
  app 1 y7.1 x9 fun s10 =>
  J6 (s10, (IntKind.i64.wrap (y7.2 + (1:Int))))) <|
  R y7.1
theorem sem_slices_Concat_sintint (slices : Sl) (R : Rs.T [.lf .sl] → WP) : Same (semF Try.prog Try.f81 (.s .o (.s .o (.s (.s .o (.b (.l [(3, .lf (.int .i64)), (11, .lf (.int .i64))] (.s .o (.s (.s .o .o) (.s (.b (.s .o (.s .o (.s .o (.s .o .o))))) .o)))))) (.s .o (.s (.s .o (.b (.l [(6, .lf .sl), (27, .lf (.int .i64))] (.s .o (.s (.s .o .o) (.s (.b (.s .o .o)) .o)))))) (.s .o .o)))))) [.lf (.sl slices)] [.lf .sl] R) (fun w => W_slices_Concat_sintint slices R w) := ⟨by kernel_rfl⟩
theorem call_slices_Concat_sintint (slices : Sl) (R : Rs.T [.lf .sl] → WP) (w : World) (h : W_slices_Concat_sintint slices R w) :
    CallX Try.prog N_slices_Concat_sintint ([.lf (.sl slices)].map V1.enc) w fun v w' => ∃ x, v = (retTV (Rs.mk [.lf .sl] x)).enc ∧ R x w' :=
  callX_of_semF Try.func81 (by kernel_rfl) (by kernel_rfl) (sem_slices_Concat_sintint slices R) h


/-- slices.DeleteFunc[[]int,int] -/
def W_slices_DeleteFunc_sintint (s : Sl) (del : Fv) (R : Rs.T [.lf .sl] → WP) : WP :=
  call Try.prog N_slices_IndexFunc_sintint [.lf (.sl s), .lf (.fn del)] [.lf (.int .i64)] fun (r1 : Int) =>
  ite' (r1 == (-1:Int)) (
  R s) <|
  loop [.int .i64, .int .i64] (r1, (IntKind.i64.wrap (r1 + (1:Int)))) fun J2 (y3 : Int × Int) =>
  ite' (decide (y3.2 < ((s.len : Nat) : Int))) (
  idx s y3.2 1 fun q4 =>
  ld [.int .i64] q4 fun (x5 : Int) =>
  callv Try.prog del [.lf (.int .i64 x5)] [.lf .bool] fun (r6 : Bool) =>
  ite' (!r6) (
  idx s y3.1 1 fun q7 =>
  st q7 [.int .i64 x5] <|
  J2 ((IntKind.i64.wrap (y3.1 + (1:Int))), (IntKind.i64.wrap (y3.2 + (1:Int))))) <|
  J2 (y3.1, (IntKind.i64.wrap (y3.2 + (1:Int))))) <|
  slc s (some y3.1) none none 1 fun s8 =>
  clr [.int .i64 (0:Int)] s8 <|
  slc s none (some y3.1) none 1 fun s9 =>
  R s9
theorem sem_slices_DeleteFunc_sintint (s : Sl) (del : Fv) (R : Rs.T [.lf .sl] → WP) : Same (semF Try.prog Try.f76 (.s .o (.s .o (.s (.s .o (.s (.s .o .o) .o)) (.s (.s .o (.b (.l [(5, .lf (.int .i64)), (6, .lf (.int .i64))] (.s (.s .o (.s .o .o)) (.s (.b (.s .o (.s .o (.s (.s .o .o) .o)))) .o))))) (.s .o (.s .o .o)))))) [.lf (.sl s), .lf (.fn del)] [.lf .sl] R) (fun w => W_slices_DeleteFunc_sintint s del R w) := ⟨by kernel_rfl⟩
theorem call_slices_DeleteFunc_sintint (s : Sl) (del : Fv) (R : Rs.T [.lf .sl] → WP) (w : World) (h : W_slices_DeleteFunc_sintint s del R w) :
    CallX Try.prog N_slices_DeleteFunc_sintint ([.lf (.sl s), .lf (.fn del)].map V1.enc) w fun v w' => ∃ x, v = (retTV (Rs.mk [.lf .sl] x)).enc ∧ R x w' :=
  callX_of_semF Try.func76 (by kernel_rfl) (by kernel_rfl) (sem_slices_DeleteFunc_sintint s del R) h


/-- slices.Grow[[]int,int] -/
def W_slices_Grow_sintint (s : Sl) (n : Int) (R : Rs.T [.lf .sl] → WP) : WP :=
  join [] (fun J1 =>
  ite' (decide (n < (0:Int))) (
  wno) <|
  J1 ()) fun (y2 : Unit) =>
  ite' (decide ((IntKind.i64.wrap (n - (IntKind.i64.wrap (((s.cp : Nat) : Int) - ((s.len : Nat) : Int))))) > (0:Int))) (
  slc s none (some ((s.cp : Nat) : Int)) none 1 fun s3 =>
  appz [.int .i64 (0:Int)] 1 s3 (IntKind.i64.wrap (n - (IntKind.i64.wrap (((s.cp : Nat) : Int) - ((s.len : Nat) : Int))))) fun s4 =>
  slc s4 none (some ((s.len : Nat) : Int)) none 1 fun s5 =>
  R s5) <|
  R s
theorem sem_slices_Grow_sintint (s : Sl) (n : Int) (R : Rs.T [.lf .sl] → WP) : Same (semF Try.prog Try.f87 (.s .o (.j [] (.s .o (.s .o .o)) (.s (.s .o (.s .o (.s .o .o))) (.s .o .o)))) [.lf (.sl s), .lf (.int .i64 n)] [.lf .sl] R) (fun w => W_slices_Grow_sintint s n R w) := ⟨by kernel_rfl⟩
theorem call_slices_Grow_sintint (s : Sl) (n : Int) (R : Rs.T [.lf .sl] → WP) (w : World) (h : W_slices_Grow_sintint s n R w) :
    CallX Try.prog N_slices_Grow_sintint ([.lf (.sl s), .lf (.int .i64 n)].map V1.enc) w fun v w' => ∃ x, v = (retTV (Rs.mk [.lf .sl] x)).enc ∧ R x w' :=
  callX_of_semF Try.func87 (by kernel_rfl) (by kernel_rfl) (sem_slices_Grow_sintint s n R) h


/-- slices.IndexFunc[[]int,int] -/
def W_slices_IndexFunc_sintint (s : Sl) (f : Fv) (R : Rs.T [.lf (.int .i64)] → WP) : WP :=
  loop [.int .i64] (0:Int) fun J1 (y2 : Int) =>
  ite' (decide (y2 < ((s.len : Nat) : Int))) (
  idx s y2 1 fun q3 =>
  ld [.int .i64] q3 fun (x4 : Int) =>
  callv Try.prog f [.lf (.int .i64 x4)] [.lf .bool] fun (r5 : Bool) =>
  ite' r5 (
  R y2) <|
  J1 (IntKind.i64.wrap (y2 + (1:Int)))) <|
  R (-1:Int)
theorem sem_slices_IndexFunc_sintint (s : Sl) (f : Fv) (R : Rs.T [.lf (.int .i64)] → WP) : Same (semF Try.prog Try.f86 (.s .o (.s (.s .o (.b (.l [(8, .lf (.int .i64))] (.s .o (.s (.s .o .o) (.s (.b (.s .o (.s .o (.s (.s .o .o) .o)))) .o)))))) (.s .o .o))) [.lf (.sl s), .lf (.fn f)] [.lf (.int .i64)] R) (fun w => W_slices_IndexFunc_sintint s f R w) := ⟨by kernel_rfl⟩
theorem call_slices_IndexFunc_sintint (s : Sl) (f : Fv) (R : Rs.T [.lf (.int .i64)] → WP) (w : World) (h : W_slices_IndexFunc_sintint s f R w) :
    CallX Try.prog N_slices_IndexFunc_sintint ([.lf (.sl s), .lf (.fn f)].map V1.enc) w fun v w' => ∃ x, v = (retTV (Rs.mk [.lf (.int .i64)] x)).enc ∧ R x w' :=
  callX_of_semF Try.func86 (by kernel_rfl) (by kernel_rfl) (sem_slices_IndexFunc_sintint s f R) h


/-- canter/wide.Div -/
def W_wide_Div (hi : Int) (lo : Int) (c : Int) (R : Rs.T [.lf (.int .u64), .lf (.int .i64)] → WP) : WP :=
  ite' (c == (0:Int)) (
  R ((0:Int), (1:Int))) <|
  ite' (decide (hi ≥ c)) (
  R ((0:Int), (3:Int))) <|
  loop K_u3i (hi, lo, (0:Int), (0:Int)) fun J1 (y2 : T_u3i) =>
  ite' (y2.2.2.2 == (64:Int)) (
  R (y2.2.2.1, (0:Int))) <|
  req (0 ≤ (63:Int)) <|
  req (0 ≤ (1:Int)) <|
  req (0 ≤ (63:Int)) <|
  req (0 ≤ (1:Int)) <|
  req (0 ≤ (1:Int)) <|
  ite' (((y2.1.fdiv (2 ^ min (63:Int).toNat IntKind.u64.bits)) == (0:Int)) && (decide ((IntKind.u64.wrap (BitVec.ofInt IntKind.u64.bits (IntKind.u64.wrap (y2.1 * 2 ^ min (1:Int).toNat IntKind.u64.bits)) ||| BitVec.ofInt IntKind.u64.bits (y2.2.1.fdiv (2 ^ min (63:Int).toNat IntKind.u64.bits))).toNat) < c))) (
  J1 ((IntKind.u64.wrap (BitVec.ofInt IntKind.u64.bits (IntKind.u64.wrap (y2.1 * 2 ^ min (1:Int).toNat IntKind.u64.bits)) ||| BitVec.ofInt IntKind.u64.bits (y2.2.1.fdiv (2 ^ min (63:Int).toNat IntKind.u64.bits))).toNat), (IntKind.u64.wrap (y2.2.1 * 2 ^ min (1:Int).toNat IntKind.u64.bits)), (IntKind.u64.wrap (y2.2.2.1 * 2 ^ min (1:Int).toNat IntKind.u64.bits)), (IntKind.i64.wrap (y2.2.2.2 + (1:Int))))) <|
  J1 ((IntKind.u64.wrap ((IntKind.u64.wrap (BitVec.ofInt IntKind.u64.bits (IntKind.u64.wrap (y2.1 * 2 ^ min (1:Int).toNat IntKind.u64.bits)) ||| BitVec.ofInt IntKind.u64.bits (y2.2.1.fdiv (2 ^ min (63:Int).toNat IntKind.u64.bits))).toNat) - c)), (IntKind.u64.wrap (y2.2.1 * 2 ^ min (1:Int).toNat IntKind.u64.bits)), (IntKind.u64.wrap (BitVec.ofInt IntKind.u64.bits (IntKind.u64.wrap (y2.2.2.1 * 2 ^ min (1:Int).toNat IntKind.u64.bits)) ||| BitVec.ofInt IntKind.u64.bits (1:Int)).toNat), (IntKind.i64.wrap (y2.2.2.2 + (1:Int))))
theorem sem_wide_Div (hi : Int) (lo : Int) (c : Int) (R : Rs.T [.lf (.int .u64), .lf (.int .i64)] → WP) : Same (semF Try.prog Try.f95 (.s .o (.s (.b (.s .o (.s (.s .o .o) (.s .o (.s (.s .o .o) .o))))) (.s .o (.s .o (.s .o (.s (.b (.l [(0, .lf (.int .u64)), (1, .lf (.int .u64)), (8, .lf (.int .u64)), (9, .lf (.int .i64))] (.b (.s (.s .o (.s .o .o)) (.s .o (.s .o (.s .o (.s (.s .o (.s .o .o)) .o)))))))) (.s .o .o))))))) [.lf (.int .u64 hi), .lf (.int .u64 lo), .lf (.int .u64 c)] [.lf (.int .u64), .lf (.int .i64)] R) (fun w => W_wide_Div hi lo c R w) := ⟨by kernel_rfl⟩
theorem call_wide_Div (hi : Int) (lo : Int) (c : Int) (R : Rs.T [.lf (.int .u64), .lf (.int .i64)] → WP) (w : World) (h : W_wide_Div hi lo c R w) :
    CallX Try.prog N_wide_Div ([.lf (.int .u64 hi), .lf (.int .u64 lo), .lf (.int .u64 c)].map V1.enc) w fun v w' => ∃ x, v = (retTV (Rs.mk [.lf (.int .u64), .lf (.int .i64)] x)).enc ∧ R x w' :=
  callX_of_semF Try.func95 (by kernel_rfl) (by kernel_rfl) (sem_wide_Div hi lo c R) h


/-- canter/wide.Mul -/
def W_wide_Mul (a : Int) (b : Int) (R : Rs.T [.lf (.int .u64), .lf (.int .u64)] → WP) : WP :=
  call Try.prog N_math_bits_Mul64 [.lf (.int .u64 a), .lf (.int .u64 b)] [.lf (.int .u64), .lf (.int .u64)] fun (r1 : Int × Int) =>
  R (r1.1, r1.2)
theorem sem_wide_Mul (a : Int) (b : Int) (R : Rs.T [.lf (.int .u64), .lf (.int .u64)] → WP) : Same (semF Try.prog Try.f94 (.s .o (.s .o .o)) [.lf (.int .u64 a), .lf (.int .u64 b)] [.lf (.int .u64), .lf (.int .u64)] R) (fun w => W_wide_Mul a b R w) := ⟨by kernel_rfl⟩
theorem call_wide_Mul (a : Int) (b : Int) (R : Rs.T [.lf (.int .u64), .lf (.int .u64)] → WP) (w : World) (h : W_wide_Mul a b R w) :
    CallX Try.prog N_wide_Mul ([.lf (.int .u64 a), .lf (.int .u64 b)].map V1.enc) w fun v w' => ∃ x, v = (retTV (Rs.mk [.lf (.int .u64), .lf (.int .u64)] x)).enc ∧ R x w' :=
  callX_of_semF Try.func94 (by kernel_rfl) (by kernel_rfl) (sem_wide_Mul a b R) h


/-- canter/wide.MulDiv -/
def W_wide_MulDiv (a : Int) (b : Int) (c : Int) (R : Rs.T [.lf (.int .u64)] → WP) : WP :=
  call Try.prog N_wide_Mul [.lf (.int .u64 a), .lf (.int .u64 b)] [.lf (.int .u64), .lf (.int .u64)] fun (r1 : Int × Int) =>
  ite' ((r1.1 == (0:Int)) && (r1.2 == (0:Int))) (
  R (0:Int)) <|
  call Try.prog N_wide_Div [.lf (.int .u64 r1.1), .lf (.int .u64 r1.2), .lf (.int .u64 c)] [.lf (.int .u64), .lf (.int .i64)] fun (r2 : Int × Int) =>
  ite' (r2.2 != (0:Int)) (
  R (18446744073709551615:Int)) <|
  R r2.1
theorem sem_wide_MulDiv (a : Int) (b : Int) (c : Int) (R : Rs.T [.lf (.int .u64)] → WP) : Same (semF Try.prog Try.f84 (.s .o (.s .o (.s (.s .o (.s (.s .o .o) .o)) (.s .o (.s (.s .o (.s (.s .o .o) .o)) (.s .o .o)))))) [.lf (.int .u64 a), .lf (.int .u64 b), .lf (.int .u64 c)] [.lf (.int .u64)] R) (fun w => W_wide_MulDiv a b c R w) := ⟨by kernel_rfl⟩
theorem call_wide_MulDiv (a : Int) (b : Int) (c : Int) (R : Rs.T [.lf (.int .u64)] → WP) (w : World) (h : W_wide_MulDiv a b c R w) :
    CallX Try.prog N_wide_MulDiv ([.lf (.int .u64 a), .lf (.int .u64 b), .lf (.int .u64 c)].map V1.enc) w fun v w' => ∃ x, v = (retTV (Rs.mk [.lf (.int .u64)] x)).enc ∧ R x w' :=
  callX_of_semF Try.func84 (by kernel_rfl) (by kernel_rfl) (sem_wide_MulDiv a b c R) h



end Go.X
