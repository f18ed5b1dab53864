/- What each function of the program computes, as a weakest precondition, printed by program; the kernel sees that the code says so. -/
import Derived.Test.YteeabliibhedoaaK
import Derived.Test.YteeabliibhedoaaProg
set_option linter.unusedVariables false
namespace Go.X
open Go.Proofs
/-- canter/winmax.New -/
def W_winmax_New (window : Int) (R : Rs.T [.lf .ptr] → WP) : WP :=
  new [.int .u64 window, .int .u64 (0:Int), .int .u64 (0:Int), .int .u64 (0:Int), .int .u64 (0:Int), .int .u64 (0:Int), .int .u64 (0:Int), .int .u64 (0:Int)] fun n1 =>
  R (some ⟨n1, 0⟩)
theorem sem_winmax_New (window : Int) (R : Rs.T [.lf .ptr] → WP) : Same (semF Try.prog Try.f23 (.s .o (.s .o (.s .o .o))) [.lf (.int .u64 window)] [.lf .ptr] R) (fun w => W_winmax_New window R w) := ⟨by kernel_rfl⟩
theorem call_winmax_New (window : Int) (R : Rs.T [.lf .ptr] → WP) (w : World) (h : W_winmax_New window R w) :
    CallX Try.prog N_winmax_New ([.lf (.int .u64 window)].map V1.enc) w fun v w' => ∃ x, v = (retTV (Rs.mk [.lf .ptr] x)).enc ∧ R x w' :=
  callX_of_semF Try.func23 (by kernel_rfl) (by kernel_rfl) (sem_winmax_New window R) h


/-- canter/winmax.near -/
def W_winmax_near (t : Int) (s : Int × Int) (window : Int) (R : Rs.T [.lf .bool] → WP) : WP :=
  new (Ks.mk [.int .u64, .int .u64] s) fun n1 =>
  ld [.int .u64] ⟨n1, 0⟩ fun (x2 : Int) =>
  R (decide ((IntKind.u64.wrap (t - (if x2 < t then x2 else t))) ≤ window))
theorem sem_winmax_near (t : Int) (s : Int × Int) (window : Int) (R : Rs.T [.lf .bool] → WP) : Same (semF Try.prog Try.f99 (.s .o (.s .o .o)) [.lf (.int .u64 t), .agg (Ks.mk [.int .u64, .int .u64] s), .lf (.int .u64 window)] [.lf .bool] R) (fun w => W_winmax_near t s window R w) := ⟨by kernel_rfl⟩
theorem call_winmax_near (t : Int) (s : Int × Int) (window : Int) (R : Rs.T [.lf .bool] → WP) (w : World) (h : W_winmax_near t s window R w) :
    CallX Try.prog N_winmax_near ([.lf (.int .u64 t), .agg (Ks.mk [.int .u64, .int .u64] s), .lf (.int .u64 window)].map V1.enc) w fun v w' => ∃ x, v = (retTV (Rs.mk [.lf .bool] x)).enc ∧ R x w' :=
  callX_of_semF Try.func99 (by kernel_rfl) (by kernel_rfl) (sem_winmax_near t s window R) h



end Go.X
