/- What each function of the program computes, as a weakest precondition, printed by program; the kernel sees that the code says so. -/
import Derived.Test.YtjahkildlilabaaK
import Derived.Test.YtjahkildlilabaaProg
set_option linter.unusedVariables false
namespace Go.X
open Go.Proofs
/-- canter/wide.Div -/
def W_wide_Div (hi : Int) (lo : Int) (c : Int) (R : Rs.T [.lf (.int .u64), .lf (.int .i64)] → WP) : WP :=
  ite' (c == (0:Int)) (
  R ((0:Int), (1:Int))) <|
  ite' (decide (hi ≥ c)) (
  R ((0:Int), (3:Int))) <|
  loop K_u3i (hi, lo, (0:Int), (0:Int)) fun J1 (y2 : T_u3i) =>
  ite' (y2.2.2.2 == (64:Int)) (
  R (y2.2.2.1, (0:Int))) <|
  req (0 ≤ (63:Int)) <|
  req (0 ≤ (1:Int)) <|
  req (0 ≤ (63:Int)) <|
  req (0 ≤ (1:Int)) <|
  req (0 ≤ (1:Int)) <|
  ite' (((y2.1.fdiv (2 ^ min (63:Int).toNat IntKind.u64.bits)) == (0:Int)) && (decide ((IntKind.u64.wrap (BitVec.ofInt IntKind.u64.bits (IntKind.u64.wrap (y2.1 * 2 ^ min (1:Int).toNat IntKind.u64.bits)) ||| BitVec.ofInt IntKind.u64.bits (y2.2.1.fdiv (2 ^ min (63:Int).toNat IntKind.u64.bits))).toNat) < c))) (
  J1 ((IntKind.u64.wrap (BitVec.ofInt IntKind.u64.bits (IntKind.u64.wrap (y2.1 * 2 ^ min (1:Int).toNat IntKind.u64.bits)) ||| BitVec.ofInt IntKind.u64.bits (y2.2.1.fdiv (2 ^ min (63:Int).toNat IntKind.u64.bits))).toNat), (IntKind.u64.wrap (y2.2.1 * 2 ^ min (1:Int).toNat IntKind.u64.bits)), (IntKind.u64.wrap (y2.2.2.1 * 2 ^ min (1:Int).toNat IntKind.u64.bits)), (IntKind.i64.wrap (y2.2.2.2 + (1:Int))))) <|
  J1 ((IntKind.u64.wrap ((IntKind.u64.wrap (BitVec.ofInt IntKind.u64.bits (IntKind.u64.wrap (y2.1 * 2 ^ min (1:Int).toNat IntKind.u64.bits)) ||| BitVec.ofInt IntKind.u64.bits (y2.2.1.fdiv (2 ^ min (63:Int).toNat IntKind.u64.bits))).toNat) - c)), (IntKind.u64.wrap (y2.2.1 * 2 ^ min (1:Int).toNat IntKind.u64.bits)), (IntKind.u64.wrap (BitVec.ofInt IntKind.u64.bits (IntKind.u64.wrap (y2.2.2.1 * 2 ^ min (1:Int).toNat IntKind.u64.bits)) ||| BitVec.ofInt IntKind.u64.bits (1:Int)).toNat), (IntKind.i64.wrap (y2.2.2.2 + (1:Int))))
theorem sem_wide_Div (hi : Int) (lo : Int) (c : Int) (R : Rs.T [.lf (.int .u64), .lf (.int .i64)] → WP) : Same (semF Try.prog Try.f95 (.s .o (.s (.b (.s .o (.s (.s .o .o) (.s .o (.s (.s .o .o) .o))))) (.s .o (.s .o (.s .o (.s (.b (.l [(0, .lf (.int .u64)), (1, .lf (.int .u64)), (8, .lf (.int .u64)), (9, .lf (.int .i64))] (.b (.s (.s .o (.s .o .o)) (.s .o (.s .o (.s .o (.s (.s .o (.s .o .o)) .o)))))))) (.s .o .o))))))) [.lf (.int .u64 hi), .lf (.int .u64 lo), .lf (.int .u64 c)] [.lf (.int .u64), .lf (.int .i64)] R) (fun w => W_wide_Div hi lo c R w) := ⟨by kernel_rfl⟩
theorem call_wide_Div (hi : Int) (lo : Int) (c : Int) (R : Rs.T [.lf (.int .u64), .lf (.int .i64)] → WP) (w : World) (h : W_wide_Div hi lo c R w) :
    CallX Try.prog N_wide_Div ([.lf (.int .u64 hi), .lf (.int .u64 lo), .lf (.int .u64 c)].map V1.enc) w fun v w' => ∃ x, v = (retTV (Rs.mk [.lf (.int .u64), .lf (.int .i64)] x)).enc ∧ R x w' :=
  callX_of_semF Try.func95 (by kernel_rfl) (by kernel_rfl) (sem_wide_Div hi lo c R) h


/-- canter/wide.Mul -/
def W_wide_Mul (a : Int) (b : Int) (R : Rs.T [.lf (.int .u64), .lf (.int .u64)] → WP) : WP :=
  call Try.prog N_math_bits_Mul64 [.lf (.int .u64 a), .lf (.int .u64 b)] [.lf (.int .u64), .lf (.int .u64)] fun (r1 : Int × Int) =>
  R (r1.1, r1.2)
theorem sem_wide_Mul (a : Int) (b : Int) (R : Rs.T [.lf (.int .u64), .lf (.int .u64)] → WP) : Same (semF Try.prog Try.f94 (.s .o (.s .o .o)) [.lf (.int .u64 a), .lf (.int .u64 b)] [.lf (.int .u64), .lf (.int .u64)] R) (fun w => W_wide_Mul a b R w) := ⟨by kernel_rfl⟩
theorem call_wide_Mul (a : Int) (b : Int) (R : Rs.T [.lf (.int .u64), .lf (.int .u64)] → WP) (w : World) (h : W_wide_Mul a b R w) :
    CallX Try.prog N_wide_Mul ([.lf (.int .u64 a), .lf (.int .u64 b)].map V1.enc) w fun v w' => ∃ x, v = (retTV (Rs.mk [.lf (.int .u64), .lf (.int .u64)] x)).enc ∧ R x w' :=
  callX_of_semF Try.func94 (by kernel_rfl) (by kernel_rfl) (sem_wide_Mul a b R) h


/-- canter/wide.MulDiv -/
def W_wide_MulDiv (a : Int) (b : Int) (c : Int) (R : Rs.T [.lf (.int .u64)] → WP) : WP :=
  call Try.prog N_wide_Mul [.lf (.int .u64 a), .lf (.int .u64 b)] [.lf (.int .u64), .lf (.int .u64)] fun (r1 : Int × Int) =>
  ite' ((r1.1 == (0:Int)) && (r1.2 == (0:Int))) (
  R (0:Int)) <|
  call Try.prog N_wide_Div [.lf (.int .u64 r1.1), .lf (.int .u64 r1.2), .lf (.int .u64 c)] [.lf (.int .u64), .lf (.int .i64)] fun (r2 : Int × Int) =>
  ite' (r2.2 != (0:Int)) (
  R (18446744073709551615:Int)) <|
  R r2.1
theorem sem_wide_MulDiv (a : Int) (b : Int) (c : Int) (R : Rs.T [.lf (.int .u64)] → WP) : Same (semF Try.prog Try.f84 (.s .o (.s .o (.s (.s .o (.s (.s .o .o) .o)) (.s .o (.s (.s .o (.s (.s .o .o) .o)) (.s .o .o)))))) [.lf (.int .u64 a), .lf (.int .u64 b), .lf (.int .u64 c)] [.lf (.int .u64)] R) (fun w => W_wide_MulDiv a b c R w) := ⟨by kernel_rfl⟩
theorem call_wide_MulDiv (a : Int) (b : Int) (c : Int) (R : Rs.T [.lf (.int .u64)] → WP) (w : World) (h : W_wide_MulDiv a b c R w) :
    CallX Try.prog N_wide_MulDiv ([.lf (.int .u64 a), .lf (.int .u64 b), .lf (.int .u64 c)].map V1.enc) w fun v w' => ∃ x, v = (retTV (Rs.mk [.lf (.int .u64)] x)).enc ∧ R x w' :=
  callX_of_semF Try.func84 (by kernel_rfl) (by kernel_rfl) (sem_wide_MulDiv a b c R) h



end Go.X
