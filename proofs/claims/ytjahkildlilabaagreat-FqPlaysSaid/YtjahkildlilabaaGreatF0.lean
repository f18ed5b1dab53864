/- What each function of the program computes, as a weakest precondition, printed by program; the kernel sees that the code says so. -/
import Derived.Test.YtjahkildlilabaaGreatK
import Derived.Test.YtjahkildlilabaaGreatProg
set_option linter.unusedVariables false
namespace Go.X
open Go.Proofs
/-- (*canter/arena.Arena).Free -/
def W_arena_Arena_Free (a : Option Pt) (i : Int) (R : Rs.T [.lf (.int .i64)] → WP) : WP :=
  ite' a.isNone (
  R (2:Int)) <|
  join [.bool] (fun J1 =>
  ite' (decide (i < (0:Int))) (
  J1 true) <|
  deref a fun q3 =>
  ld [.int .i64] ⟨q3.b, q3.o + 2⟩ fun (x4 : Int) =>
  J1 (decide (i ≥ x4))) fun (y2 : Bool) =>
  ite' y2 (
  R (1:Int)) <|
  call Tryz.prog N_arena_Arena_Has [.lf (.ptr a), .lf (.int .i64 i)] [.lf .bool] fun (r5 : Bool) =>
  ite' (!r5) (
  R (7:Int)) <|
  deref a fun q6 =>
  ld [.sl] q6 fun (x7 : Sl) =>
  idx x7 i 1 fun q8 =>
  st q8 [.bool false] <|
  deref a fun q9 =>
  ld [.sl] ⟨q9.b, q9.o + 1⟩ fun (x10 : Sl) =>
  new [.int .i64 i] fun n11 =>
  app 1 x10 ⟨some ⟨n11, 0⟩, 1, 1⟩ fun s12 =>
  deref a fun q13 =>
  st ⟨q13.b, q13.o + 1⟩ [.sl s12] <|
  R (0:Int)
theorem sem_arena_Arena_Free (a : Option Pt) (i : Int) (R : Rs.T [.lf (.int .i64)] → WP) : Same (semF Tryz.prog Tryz.f80 (.s .o (.s (.b (.s .o (.s (.s .o .o) (.j [(8, .lf .bool)] .o (.s (.s .o .o) (.s .o (.s (.s .o .o) .o))))))) (.s .o (.s .o (.s .o .o))))) [.lf (.ptr a), .lf (.int .i64 i)] [.lf (.int .i64)] R) (fun w => W_arena_Arena_Free a i R w) := ⟨by kernel_rfl⟩
theorem call_arena_Arena_Free (a : Option Pt) (i : Int) (R : Rs.T [.lf (.int .i64)] → WP) (w : World) (h : W_arena_Arena_Free a i R w) :
    CallX Tryz.prog N_arena_Arena_Free ([.lf (.ptr a), .lf (.int .i64 i)].map V1.enc) w fun v w' => ∃ x, v = (retTV (Rs.mk [.lf (.int .i64)] x)).enc ∧ R x w' :=
  callX_of_semF Tryz.func80 (by kernel_rfl) (by kernel_rfl) (sem_arena_Arena_Free a i R) h


/-- (*canter/arena.Arena).Get -/
def W_arena_Arena_Get (d : Option Pt) (R : Rs.T [.lf (.int .i64), .lf (.int .i64)] → WP) : WP :=
  ite' d.isNone (
  R ((0:Int), (2:Int))) <|
  deref d fun q1 =>
  ld [.sl] ⟨q1.b, q1.o + 1⟩ fun (x2 : Sl) =>
  ite' (decide (((x2.len : Nat) : Int) > (0:Int))) (
  deref d fun q3 =>
  ld [.sl] ⟨q3.b, q3.o + 1⟩ fun (x4 : Sl) =>
  idx x4 (IntKind.i64.wrap (((x2.len : Nat) : Int) - (1:Int))) 1 fun q5 =>
  ld [.int .i64] q5 fun (x6 : Int) =>
  deref d fun q7 =>
  ld [.sl] ⟨q7.b, q7.o + 1⟩ fun (x8 : Sl) =>
  slc x8 none (some (IntKind.i64.wrap (((x2.len : Nat) : Int) - (1:Int)))) none 1 fun s9 =>
  deref d fun q10 =>
  st ⟨q10.b, q10.o + 1⟩ [.sl s9] <|
  deref d fun q11 =>
  ld [.sl] q11 fun (x12 : Sl) =>
  idx x12 x6 1 fun q13 =>
  st q13 [.bool true] <|
  R (x6, (0:Int))) <|
  drw <|
  deref d fun q14 =>
  deref d fun q15 =>
  ld [.sl] q14 fun (x16 : Sl) =>
  ld [.int .i64] ⟨q15.b, q15.o + 2⟩ fun (x17 : Int) =>
  ite' (decide (((x16.len : Nat) : Int) ≥ x17)) (
  R ((0:Int), (5:Int))) <|
  deref d fun q18 =>
  ld [.sl] q18 fun (x19 : Sl) =>
  new [.bool true] fun n20 =>
  app 1 x19 ⟨some ⟨n20, 0⟩, 1, 1⟩ fun s21 =>
  deref d fun q22 =>
  st q22 [.sl s21] <|
  deref d fun q23 =>
  ld [.sl] q23 fun (x24 : Sl) =>
  R ((IntKind.i64.wrap (((x24.len : Nat) : Int) - (1:Int))), (0:Int))
theorem sem_arena_Arena_Get (d : Option Pt) (R : Rs.T [.lf (.int .i64), .lf (.int .i64)] → WP) : Same (semF Tryz.prog Tryz.f69 (.s .o (.s (.s .o (.s (.s .o .o) .o)) (.s (.s .o (.s .o (.s (.s .o (.s .o (.s .o (.s .o .o)))) .o))) (.s (.s (.d (.f 0 [0] (.f 5 [0] (.f 1 [40] (.f 6 [45] (.f 2 [41] (.f 7 [46] (.f 3 [42] (.f 8 [47] (.f 4 [43] (.f 9 [44, 48] .fin))))))))))) (.s (.s .o .o) .o)) (.s .o (.s .o .o)))))) [.lf (.ptr d)] [.lf (.int .i64), .lf (.int .i64)] R) (fun w => W_arena_Arena_Get d R w) := ⟨by kernel_rfl⟩
theorem call_arena_Arena_Get (d : Option Pt) (R : Rs.T [.lf (.int .i64), .lf (.int .i64)] → WP) (w : World) (h : W_arena_Arena_Get d R w) :
    CallX Tryz.prog N_arena_Arena_Get ([.lf (.ptr d)].map V1.enc) w fun v w' => ∃ x, v = (retTV (Rs.mk [.lf (.int .i64), .lf (.int .i64)] x)).enc ∧ R x w' :=
  callX_of_semF Tryz.func69 (by kernel_rfl) (by kernel_rfl) (sem_arena_Arena_Get d R) h


/-- (*canter/arena.Arena).Has -/
def W_arena_Arena_Has (a : Option Pt) (i : Int) (R : Rs.T [.lf .bool] → WP) : WP :=
  ite' ((!a.isNone) && (decide (i ≥ (0:Int)))) (
  deref a fun q1 =>
  ld [.sl] q1 fun (x2 : Sl) =>
  ite' (decide (i < ((x2.len : Nat) : Int))) (
  deref a fun q3 =>
  ld [.sl] q3 fun (x4 : Sl) =>
  idx x4 i 1 fun q5 =>
  ld [.bool] q5 fun (x6 : Bool) =>
  R x6) <|
  R false) <|
  R false
theorem sem_arena_Arena_Has (a : Option Pt) (i : Int) (R : Rs.T [.lf .bool] → WP) : Same (semF Tryz.prog Tryz.f97 (.s .o (.s .o .o)) [.lf (.ptr a), .lf (.int .i64 i)] [.lf .bool] R) (fun w => W_arena_Arena_Has a i R w) := ⟨by kernel_rfl⟩
theorem call_arena_Arena_Has (a : Option Pt) (i : Int) (R : Rs.T [.lf .bool] → WP) (w : World) (h : W_arena_Arena_Has a i R w) :
    CallX Tryz.prog N_arena_Arena_Has ([.lf (.ptr a), .lf (.int .i64 i)].map V1.enc) w fun v w' => ∃ x, v = (retTV (Rs.mk [.lf .bool] x)).enc ∧ R x w' :=
  callX_of_semF Tryz.func97 (by kernel_rfl) (by kernel_rfl) (sem_arena_Arena_Has a i R) h


/-- canter/arena.New -/
def W_arena_New (n : Int) (R : Rs.T [.lf .ptr] → WP) : WP :=
  new [.sl ⟨none, 0, 0⟩, .sl ⟨none, 0, 0⟩, .int .i64 (if (4096:Int) < (if (0:Int) > n then (0:Int) else n) then (4096:Int) else (if (0:Int) > n then (0:Int) else n))] fun n1 =>
  R (some ⟨n1, 0⟩)
theorem sem_arena_New (n : Int) (R : Rs.T [.lf .ptr] → WP) : Same (semF Tryz.prog Tryz.f63 (.s .o (.s .o .o)) [.lf (.int .i64 n)] [.lf .ptr] R) (fun w => W_arena_New n R w) := ⟨by kernel_rfl⟩
theorem call_arena_New (n : Int) (R : Rs.T [.lf .ptr] → WP) (w : World) (h : W_arena_New n R w) :
    CallX Tryz.prog N_arena_New ([.lf (.int .i64 n)].map V1.enc) w fun v w' => ∃ x, v = (retTV (Rs.mk [.lf .ptr] x)).enc ∧ R x w' :=
  callX_of_semF Tryz.func63 (by kernel_rfl) (by kernel_rfl) (sem_arena_New n R) h


/-- canter/canterhelp.Flow -/
def W_canterhelp_Flow (a : T_i3u2s) (b : T_i3u2s) (R : Rs.T [.lf .bool] → WP) : WP :=
  new (Ks.mk K_i3u2s a) fun n1 =>
  new (Ks.mk K_i3u2s b) fun n2 =>
  ld [.int .i64] ⟨n1, 0⟩ fun (x3 : Int) =>
  ld [.int .i64] ⟨n2, 0⟩ fun (x4 : Int) =>
  ite' (x3 == x4) (
  ld [.int .i64] ⟨n1, 1⟩ fun (x5 : Int) =>
  ld [.int .i64] ⟨n2, 1⟩ fun (x6 : Int) =>
  ite' (x5 == x6) (
  ld [.int .i64] ⟨n1, 2⟩ fun (x7 : Int) =>
  ld [.int .i64] ⟨n2, 2⟩ fun (x8 : Int) =>
  ite' (x7 == x8) (
  ld [.int .u64] ⟨n1, 3⟩ fun (x9 : Int) =>
  ld [.int .u64] ⟨n2, 3⟩ fun (x10 : Int) =>
  ite' (x9 == x10) (
  ld [.int .u64] ⟨n1, 4⟩ fun (x11 : Int) =>
  ld [.int .u64] ⟨n2, 4⟩ fun (x12 : Int) =>
  ite' (x11 == x12) (
  ld [.sl] ⟨n1, 5⟩ fun (x13 : Sl) =>
  ld [.sl] ⟨n2, 5⟩ fun (x14 : Sl) =>
  call Tryz.prog N_canterhelp_Plain_apiSeg [.lf (.sl x13), .lf (.sl x14)] [.lf .bool] fun (r15 : Bool) =>
  R r15) <|
  R false) <|
  R false) <|
  R false) <|
  R false) <|
  R false
theorem sem_canterhelp_Flow (a : T_i3u2s) (b : T_i3u2s) (R : Rs.T [.lf .bool] → WP) : Same (semF Tryz.prog Tryz.f62 (.s .o (.s .o .o)) [.agg (Ks.mk K_i3u2s a), .agg (Ks.mk K_i3u2s b)] [.lf .bool] R) (fun w => W_canterhelp_Flow a b R w) := ⟨by kernel_rfl⟩
theorem call_canterhelp_Flow (a : T_i3u2s) (b : T_i3u2s) (R : Rs.T [.lf .bool] → WP) (w : World) (h : W_canterhelp_Flow a b R w) :
    CallX Tryz.prog N_canterhelp_Flow ([.agg (Ks.mk K_i3u2s a), .agg (Ks.mk K_i3u2s b)].map V1.enc) w fun v w' => ∃ x, v = (retTV (Rs.mk [.lf .bool] x)).enc ∧ R x w' :=
  callX_of_semF Tryz.func62 (by kernel_rfl) (by kernel_rfl) (sem_canterhelp_Flow a b R) h


/-- canter/canterhelp.In[int] -/
def W_canterhelp_In_int (l : Sl) (x : Int) (R : Rs.T [.lf .bool] → WP) : WP :=
  loop [.int .i64] (0:Int) fun J1 (y2 : Int) =>
  ite' (decide (y2 < ((l.len : Nat) : Int))) (
  idx l y2 1 fun q3 =>
  ld [.int .i64] q3 fun (x4 : Int) =>
  ite' (x4 == x) (
  R true) <|
  J1 (IntKind.i64.wrap (y2 + (1:Int)))) <|
  R false
theorem sem_canterhelp_In_int (l : Sl) (x : Int) (R : Rs.T [.lf .bool] → WP) : Same (semF Tryz.prog Tryz.f99 (.s .o (.s (.s .o (.b (.l [(5, .lf (.int .i64))] (.s (.s .o (.s .o .o)) (.s (.b (.s .o (.s (.s .o .o) .o))) .o))))) (.s .o .o))) [.lf (.sl l), .lf (.int .i64 x)] [.lf .bool] R) (fun w => W_canterhelp_In_int l x R w) := ⟨by kernel_rfl⟩
theorem call_canterhelp_In_int (l : Sl) (x : Int) (R : Rs.T [.lf .bool] → WP) (w : World) (h : W_canterhelp_In_int l x R w) :
    CallX Tryz.prog N_canterhelp_In_int ([.lf (.sl l), .lf (.int .i64 x)].map V1.enc) w fun v w' => ∃ x, v = (retTV (Rs.mk [.lf .bool] x)).enc ∧ R x w' :=
  callX_of_semF Tryz.func99 (by kernel_rfl) (by kernel_rfl) (sem_canterhelp_In_int l x R) h


/-- canter/canterhelp.Kept[uint64] -/
def W_canterhelp_Kept_uint64 (out : Sl) (l : Sl) (fill : Int) (R : Rs.T [.lf .bool] → WP) : WP :=
  call Tryz.prog N_canterhelp_Plain_uint64 [.lf (.sl out), .lf (.sl l)] [.lf .bool] fun (r1 : Bool) =>
  ite' ((!r1) || (decide (((out.cp : Nat) : Int) < (IntKind.i64.wrap (((l.len : Nat) : Int) + (3:Int)))))) (
  R false) <|
  slc out none (some (IntKind.i64.wrap (((l.len : Nat) : Int) + (3:Int)))) none 1 fun s2 =>
  loop [.int .i64] ((l.len : Nat) : Int) fun J3 (y4 : Int) =>
  ite' (decide (y4 < ((s2.len : Nat) : Int))) (
  idx s2 y4 1 fun q5 =>
  ld [.int .u64] q5 fun (x6 : Int) =>
  ite' (x6 != fill) (
  R false) <|
  J3 (IntKind.i64.wrap (y4 + (1:Int)))) <|
  R true
theorem sem_canterhelp_Kept_uint64 (out : Sl) (l : Sl) (fill : Int) (R : Rs.T [.lf .bool] → WP) : Same (semF Tryz.prog Tryz.f11 (.s .o (.s (.s .o (.s (.s .o .o) .o)) (.s .o (.s (.s .o (.b (.l [(8, .lf (.int .i64))] (.s (.s .o (.s .o .o)) (.s (.b (.s .o (.s (.s .o .o) .o))) .o))))) (.s .o .o))))) [.lf (.sl out), .lf (.sl l), .lf (.int .u64 fill)] [.lf .bool] R) (fun w => W_canterhelp_Kept_uint64 out l fill R w) := ⟨by kernel_rfl⟩
theorem call_canterhelp_Kept_uint64 (out : Sl) (l : Sl) (fill : Int) (R : Rs.T [.lf .bool] → WP) (w : World) (h : W_canterhelp_Kept_uint64 out l fill R w) :
    CallX Tryz.prog N_canterhelp_Kept_uint64 ([.lf (.sl out), .lf (.sl l), .lf (.int .u64 fill)].map V1.enc) w fun v w' => ∃ x, v = (retTV (Rs.mk [.lf .bool] x)).enc ∧ R x w' :=
  callX_of_semF Tryz.func11 (by kernel_rfl) (by kernel_rfl) (sem_canterhelp_Kept_uint64 out l fill R) h


/-- canter/canterhelp.Own[uint64] -/
def W_canterhelp_Own_uint64 (l : Sl) (fill : Int) (R : Rs.T [.lf .sl] → WP) : WP :=
  mk [.int .u64 (0:Int)] (0:Int) (IntKind.i64.wrap (((l.len : Nat) : Int) + (3:Int))) fun s1 =>
  app 1 s1 l fun s2 =>
  slc s2 none (some (IntKind.i64.wrap (((l.len : Nat) : Int) + (3:Int)))) none 1 fun s3 =>
  loop [.int .i64] ((l.len : Nat) : Int) fun J4 (y5 : Int) =>
  ite' (decide (y5 < ((s3.len : Nat) : Int))) (
  idx s3 y5 1 fun q6 =>
  st q6 [.int .u64 fill] <|
  J4 (IntKind.i64.wrap (y5 + (1:Int)))) <|
  R s2
theorem sem_canterhelp_Own_uint64 (l : Sl) (fill : Int) (R : Rs.T [.lf .sl] → WP) : Same (semF Tryz.prog Tryz.f8 (.s .o (.s .o (.s .o (.s .o (.s (.s .o (.b (.l [(7, .lf (.int .i64))] (.s (.s .o (.s .o .o)) (.s (.b .o) .o))))) (.s .o .o)))))) [.lf (.sl l), .lf (.int .u64 fill)] [.lf .sl] R) (fun w => W_canterhelp_Own_uint64 l fill R w) := ⟨by kernel_rfl⟩
theorem call_canterhelp_Own_uint64 (l : Sl) (fill : Int) (R : Rs.T [.lf .sl] → WP) (w : World) (h : W_canterhelp_Own_uint64 l fill R w) :
    CallX Tryz.prog N_canterhelp_Own_uint64 ([.lf (.sl l), .lf (.int .u64 fill)].map V1.enc) w fun v w' => ∃ x, v = (retTV (Rs.mk [.lf .sl] x)).enc ∧ R x w' :=
  callX_of_semF Tryz.func8 (by kernel_rfl) (by kernel_rfl) (sem_canterhelp_Own_uint64 l fill R) h


/-- canter/canterhelp.Plain[canter/api.Seg] -/
def W_canterhelp_Plain_apiSeg (a : Sl) (b : Sl) (R : Rs.T [.lf .bool] → WP) : WP :=
  call Tryz.prog N_canterhelp_Same_apiSeg [.lf (.sl a), .lf (.sl b), .lf (.fn (.mk (.func N_canterhelp_Plain_apiSeg_c1) [] []))] [.lf .bool] fun (r1 : Bool) =>
  R r1
theorem sem_canterhelp_Plain_apiSeg (a : Sl) (b : Sl) (R : Rs.T [.lf .bool] → WP) : Same (semF Tryz.prog Tryz.f15 (.s .o (.s .o .o)) [.lf (.sl a), .lf (.sl b)] [.lf .bool] R) (fun w => W_canterhelp_Plain_apiSeg a b R w) := ⟨by kernel_rfl⟩
theorem call_canterhelp_Plain_apiSeg (a : Sl) (b : Sl) (R : Rs.T [.lf .bool] → WP) (w : World) (h : W_canterhelp_Plain_apiSeg a b R w) :
    CallX Tryz.prog N_canterhelp_Plain_apiSeg ([.lf (.sl a), .lf (.sl b)].map V1.enc) w fun v w' => ∃ x, v = (retTV (Rs.mk [.lf .bool] x)).enc ∧ R x w' :=
  callX_of_semF Tryz.func15 (by kernel_rfl) (by kernel_rfl) (sem_canterhelp_Plain_apiSeg a b R) h


/-- canter/canterhelp.Plain[canter/api.Seg]$1 -/
def W_canterhelp_Plain_apiSeg_c1 (x : T_iuiub) (y : T_iuiub) (R : Rs.T [.lf .bool] → WP) : WP :=
  new (Ks.mk K_iuiub x) fun n1 =>
  new (Ks.mk K_iuiub y) fun n2 =>
  ld K_iuiub ⟨n1, 0⟩ fun (x3 : T_iuiub) =>
  ld K_iuiub ⟨n2, 0⟩ fun (x4 : T_iuiub) =>
  R ((x3.1 == x4.1) && ((x3.2.1 == x4.2.1) && ((x3.2.2.1 == x4.2.2.1) && ((x3.2.2.2.1 == x4.2.2.2.1) && (x3.2.2.2.2 == x4.2.2.2.2)))))
theorem sem_canterhelp_Plain_apiSeg_c1 (x : T_iuiub) (y : T_iuiub) (R : Rs.T [.lf .bool] → WP) : Same (semF Tryz.prog Tryz.f45 (.s .o (.s .o .o)) [.agg (Ks.mk K_iuiub x), .agg (Ks.mk K_iuiub y)] [.lf .bool] R) (fun w => W_canterhelp_Plain_apiSeg_c1 x y R w) := ⟨by kernel_rfl⟩
theorem call_canterhelp_Plain_apiSeg_c1 (x : T_iuiub) (y : T_iuiub) (R : Rs.T [.lf .bool] → WP) (w : World) (h : W_canterhelp_Plain_apiSeg_c1 x y R w) :
    CallX Tryz.prog N_canterhelp_Plain_apiSeg_c1 ([.agg (Ks.mk K_iuiub x), .agg (Ks.mk K_iuiub y)].map V1.enc) w fun v w' => ∃ x, v = (retTV (Rs.mk [.lf .bool] x)).enc ∧ R x w' :=
  callX_of_semF Tryz.func45 (by kernel_rfl) (by kernel_rfl) (sem_canterhelp_Plain_apiSeg_c1 x y R) h


/-- canter/canterhelp.Plain[uint64] -/
def W_canterhelp_Plain_uint64 (a : Sl) (b : Sl) (R : Rs.T [.lf .bool] → WP) : WP :=
  call Tryz.prog N_canterhelp_Same_uint64 [.lf (.sl a), .lf (.sl b), .lf (.fn (.mk (.func N_canterhelp_Plain_uint64_c1) [] []))] [.lf .bool] fun (r1 : Bool) =>
  R r1
theorem sem_canterhelp_Plain_uint64 (a : Sl) (b : Sl) (R : Rs.T [.lf .bool] → WP) : Same (semF Tryz.prog Tryz.f42 (.s .o (.s .o .o)) [.lf (.sl a), .lf (.sl b)] [.lf .bool] R) (fun w => W_canterhelp_Plain_uint64 a b R w) := ⟨by kernel_rfl⟩
theorem call_canterhelp_Plain_uint64 (a : Sl) (b : Sl) (R : Rs.T [.lf .bool] → WP) (w : World) (h : W_canterhelp_Plain_uint64 a b R w) :
    CallX Tryz.prog N_canterhelp_Plain_uint64 ([.lf (.sl a), .lf (.sl b)].map V1.enc) w fun v w' => ∃ x, v = (retTV (Rs.mk [.lf .bool] x)).enc ∧ R x w' :=
  callX_of_semF Tryz.func42 (by kernel_rfl) (by kernel_rfl) (sem_canterhelp_Plain_uint64 a b R) h


/-- canter/canterhelp.Plain[uint64]$1 -/
def W_canterhelp_Plain_uint64_c1 (x : Int) (y : Int) (R : Rs.T [.lf .bool] → WP) : WP :=
  R (x == y)
theorem sem_canterhelp_Plain_uint64_c1 (x : Int) (y : Int) (R : Rs.T [.lf .bool] → WP) : Same (semF Tryz.prog Tryz.f76 (.s .o (.s .o .o)) [.lf (.int .u64 x), .lf (.int .u64 y)] [.lf .bool] R) (fun w => W_canterhelp_Plain_uint64_c1 x y R w) := ⟨by kernel_rfl⟩
theorem call_canterhelp_Plain_uint64_c1 (x : Int) (y : Int) (R : Rs.T [.lf .bool] → WP) (w : World) (h : W_canterhelp_Plain_uint64_c1 x y R w) :
    CallX Tryz.prog N_canterhelp_Plain_uint64_c1 ([.lf (.int .u64 x), .lf (.int .u64 y)].map V1.enc) w fun v w' => ∃ x, v = (retTV (Rs.mk [.lf .bool] x)).enc ∧ R x w' :=
  callX_of_semF Tryz.func76 (by kernel_rfl) (by kernel_rfl) (sem_canterhelp_Plain_uint64_c1 x y R) h


/-- canter/canterhelp.Same[canter/api.Seg] -/
def W_canterhelp_Same_apiSeg (a : Sl) (b : Sl) (one : Fv) (R : Rs.T [.lf .bool] → WP) : WP :=
  ite' (((a.len : Nat) : Int) != ((b.len : Nat) : Int)) (
  R false) <|
  loop [.int .i64] (0:Int) fun J1 (y2 : Int) =>
  ite' (decide (y2 < ((a.len : Nat) : Int))) (
  drw <|
  idx a y2 5 fun q3 =>
  idx b y2 5 fun q4 =>
  ld K_iuiub q3 fun (x5 : T_iuiub) =>
  ld K_iuiub q4 fun (x6 : T_iuiub) =>
  callv Tryz.prog one [.agg (Ks.mk K_iuiub x5), .agg (Ks.mk K_iuiub x6)] [.lf .bool] fun (r7 : Bool) =>
  ite' (!r7) (
  R false) <|
  J1 (IntKind.i64.wrap (y2 + (1:Int)))) <|
  R true
theorem sem_canterhelp_Same_apiSeg (a : Sl) (b : Sl) (one : Fv) (R : Rs.T [.lf .bool] → WP) : Same (semF Tryz.prog Tryz.f44 (.s .o (.s (.s .o (.s (.s .o .o) .o)) (.s (.s .o (.b (.l [(7, .lf (.int .i64))] (.s (.s .o (.s .o .o)) (.s (.b (.s (.d (.f 0 [2] (.f 1 [0] (.f 2 [7] (.f 5 [1] (.f 6 [7] (.f 3 [20, 21] (.f 7 [24, 25] (.f 4 [22] (.f 8 [26] (.w 9 [19, 23, 27] (.f 10 [28] .fin)))))))))))) (.s (.s .o .o) .o))) .o))))) (.s .o .o)))) [.lf (.sl a), .lf (.sl b), .lf (.fn one)] [.lf .bool] R) (fun w => W_canterhelp_Same_apiSeg a b one R w) := ⟨by kernel_rfl⟩
theorem call_canterhelp_Same_apiSeg (a : Sl) (b : Sl) (one : Fv) (R : Rs.T [.lf .bool] → WP) (w : World) (h : W_canterhelp_Same_apiSeg a b one R w) :
    CallX Tryz.prog N_canterhelp_Same_apiSeg ([.lf (.sl a), .lf (.sl b), .lf (.fn one)].map V1.enc) w fun v w' => ∃ x, v = (retTV (Rs.mk [.lf .bool] x)).enc ∧ R x w' :=
  callX_of_semF Tryz.func44 (by kernel_rfl) (by kernel_rfl) (sem_canterhelp_Same_apiSeg a b one R) h


/-- canter/canterhelp.Same[uint64] -/
def W_canterhelp_Same_uint64 (a : Sl) (b : Sl) (one : Fv) (R : Rs.T [.lf .bool] → WP) : WP :=
  ite' (((a.len : Nat) : Int) != ((b.len : Nat) : Int)) (
  R false) <|
  loop [.int .i64] (0:Int) fun J1 (y2 : Int) =>
  ite' (decide (y2 < ((a.len : Nat) : Int))) (
  drw <|
  idx a y2 1 fun q3 =>
  idx b y2 1 fun q4 =>
  ld [.int .u64] q3 fun (x5 : Int) =>
  ld [.int .u64] q4 fun (x6 : Int) =>
  callv Tryz.prog one [.lf (.int .u64 x5), .lf (.int .u64 x6)] [.lf .bool] fun (r7 : Bool) =>
  ite' (!r7) (
  R false) <|
  J1 (IntKind.i64.wrap (y2 + (1:Int)))) <|
  R true
theorem sem_canterhelp_Same_uint64 (a : Sl) (b : Sl) (one : Fv) (R : Rs.T [.lf .bool] → WP) : Same (semF Tryz.prog Tryz.f75 (.s .o (.s (.s .o (.s (.s .o .o) .o)) (.s (.s .o (.b (.l [(7, .lf (.int .i64))] (.s (.s .o (.s .o .o)) (.s (.b (.s (.d (.f 0 [2] (.f 1 [0] (.f 2 [7] (.f 5 [1] (.f 6 [7] (.f 3 [20, 21] (.f 7 [24, 25] (.f 4 [22] (.f 8 [26] (.w 9 [19, 23, 27] (.f 10 [28] .fin)))))))))))) (.s (.s .o .o) .o))) .o))))) (.s .o .o)))) [.lf (.sl a), .lf (.sl b), .lf (.fn one)] [.lf .bool] R) (fun w => W_canterhelp_Same_uint64 a b one R w) := ⟨by kernel_rfl⟩
theorem call_canterhelp_Same_uint64 (a : Sl) (b : Sl) (one : Fv) (R : Rs.T [.lf .bool] → WP) (w : World) (h : W_canterhelp_Same_uint64 a b one R w) :
    CallX Tryz.prog N_canterhelp_Same_uint64 ([.lf (.sl a), .lf (.sl b), .lf (.fn one)].map V1.enc) w fun v w' => ∃ x, v = (retTV (Rs.mk [.lf .bool] x)).enc ∧ R x w' :=
  callX_of_semF Tryz.func75 (by kernel_rfl) (by kernel_rfl) (sem_canterhelp_Same_uint64 a b one R) h


/-- canter/canterlaw20.FqPlays -/
def W_canterlaw20_FqPlays (d : T_i4u2bi2) (o : Sl) (R : Rs.T [.lf .bool] → WP) : WP :=
  new (Ks.mk K_i4u2bi2 d) fun n1 =>
  ld K_i4u2bi2 ⟨n1, 0⟩ fun (x2 : T_i4u2bi2) =>
  call Tryz.prog N_canterplay_Config [.agg (Ks.mk K_i4u2bi2 x2)] [.agg K_i4u2bi2] fun (r3 : T_i4u2bi2) =>
  st ⟨n1, 0⟩ (Ks.mk K_i4u2bi2 r3) <|
  ld K_i4u2bi2 ⟨n1, 0⟩ fun (x4 : T_i4u2bi2) =>
  call Tryz.prog N_fq_New [.agg (Ks.mk K_i4u2bi2 x4)] [.lf .ptr, .lf (.int .i64)] fun (r5 : Option Pt × Int) =>
  ld K_i4u2bi2 ⟨n1, 0⟩ fun (x6 : T_i4u2bi2) =>
  new [.int .i64 x6.1, .int .i64 x6.2.1, .int .i64 x6.2.2.1, .int .i64 x6.2.2.2.1, .int .u64 x6.2.2.2.2.1, .int .u64 x6.2.2.2.2.2.1, .bool x6.2.2.2.2.2.2.1, .int .i64 x6.2.2.2.2.2.2.2.1, .int .i64 x6.2.2.2.2.2.2.2.2, .int .i64 (0:Int), .int .i64 (0:Int), .int .i64 (0:Int), .int .u64 (0:Int), .int .u64 (0:Int), .sl ⟨none, 0, 0⟩, .int .i64 (0:Int), .int .i64 (0:Int), .int .i64 (0:Int), .int .u64 (0:Int), .int .u64 (0:Int), .sl ⟨none, 0, 0⟩, .int .i64 (0:Int), .int .i64 (0:Int), .int .i64 (0:Int), .int .u64 (0:Int), .int .u64 (0:Int), .sl ⟨none, 0, 0⟩, .int .i64 (0:Int), .int .i64 (0:Int), .int .i64 (0:Int), .int .u64 (0:Int), .int .u64 (0:Int), .sl ⟨none, 0, 0⟩, .int .i64 (0:Int), .int .i64 (0:Int), .int .i64 (0:Int), .int .u64 (0:Int), .int .u64 (0:Int), .sl ⟨none, 0, 0⟩, .int .i64 (0:Int), .int .i64 (0:Int), .int .i64 (0:Int), .int .u64 (0:Int), .int .u64 (0:Int), .sl ⟨none, 0, 0⟩, .int .i64 (0:Int), .int .i64 (0:Int), .int .i64 (0:Int), .int .u64 (0:Int), .int .u64 (0:Int), .sl ⟨none, 0, 0⟩, .int .i64 (0:Int), .int .i64 (0:Int), .int .i64 (0:Int), .int .u64 (0:Int), .int .u64 (0:Int), .sl ⟨none, 0, 0⟩, .bool false, .bool false, .bool false, .bool false, .bool false, .bool false, .bool false, .bool false, .sl ⟨none, 0, 0⟩, .sl ⟨none, 0, 0⟩] fun n7 =>
  call Tryz.prog N_canterlaw20_awake [] [.lf .bool] fun (r8 : Bool) =>
  ite' (((!r8) || (r5.2 != (0:Int))) || r5.1.isNone) (
  R false) <|
  loop [.int .u64, .int .i64] ((0:Int), (0:Int)) fun J9 (y10 : Int × Int) =>
  ite' ((decide (y10.2 < ((o.len : Nat) : Int))) && (decide (y10.2 < (100:Int)))) (
  idx o y10.2 18 fun q11 =>
  ld K_iuiuiubsi4u2bi2b q11 fun (x12 : T_iuiuiubsi4u2bi2b) =>
  new [.int .i64 (0:Int), .int .u64 (0:Int), .int .i64 (0:Int), .int .u64 (0:Int), .int .i64 (0:Int), .int .u64 (0:Int), .bool false, .sl ⟨none, 0, 0⟩, .int .i64 (0:Int), .int .i64 (0:Int), .int .i64 (0:Int), .int .i64 (0:Int), .int .u64 (0:Int), .int .u64 (0:Int), .bool false, .int .i64 (0:Int), .int .i64 (0:Int), .bool false] fun n13 =>
  st ⟨n13, 0⟩ (Ks.mk K_iuiuiubsi4u2bi2b x12) <|
  ld [.int .u64] ⟨n13, 1⟩ fun (x14 : Int) =>
  call Tryz.prog N_canterref01_Add [.lf (.int .u64 y10.1), .lf (.int .u64 x14)] [.lf (.int .u64)] fun (r15 : Int) =>
  join [.bool] (fun J16 =>
  ld [.int .i64] ⟨n13, 0⟩ fun (x18 : Int) =>
  join [.bool] (fun J19 =>
  ite' (x18 == (2:Int)) (
  J19 (x18 == (2:Int))) <|
  J19 (x18 == (3:Int))) fun (y20 : Bool) =>
  ite' y20 (
  ld [.sl] ⟨n13, 7⟩ fun (x21 : Sl) =>
  ite' (decide (((x21.len : Nat) : Int) > (12:Int))) (
  R true) <|
  ld [.sl] ⟨n13, 7⟩ fun (x22 : Sl) =>
  call Tryz.prog N_canterhelp_Own_uint64 [.lf (.sl x22), .lf (.int .u64 (71:Int))] [.lf .sl] fun (r23 : Sl) =>
  call Tryz.prog N_fq_Queue_Dequeue [.lf (.ptr r5.1), .lf (.int .u64 (if (4611686018427387904:Int) < r15 then (4611686018427387904:Int) else r15)), .lf (.sl r23)] [.agg K_iuiub, .lf .bool] fun (r24 : T_iuiub × Bool) =>
  new [.int .i64 (0:Int), .int .u64 (0:Int), .int .i64 (0:Int), .int .u64 (0:Int), .bool false] fun n25 =>
  st ⟨n25, 0⟩ (Ks.mk K_iuiub r24.1) <|
  ld [.sl] ⟨n13, 7⟩ fun (x26 : Sl) =>
  call Tryz.prog N_canterref20_Queue_Dequeue [.lf (.ptr (some ⟨n7, 0⟩)), .lf (.int .u64 (if (4611686018427387904:Int) < r15 then (4611686018427387904:Int) else r15)), .lf (.sl x26)] [.agg K_iuiub, .lf .bool] fun (r27 : T_iuiub × Bool) =>
  new [.int .i64 (0:Int), .int .u64 (0:Int), .int .i64 (0:Int), .int .u64 (0:Int), .bool false] fun n28 =>
  st ⟨n28, 0⟩ (Ks.mk K_iuiub r27.1) <|
  ld K_iuiub ⟨n25, 0⟩ fun (x29 : T_iuiub) =>
  ld K_iuiub ⟨n28, 0⟩ fun (x30 : T_iuiub) =>
  ite' (((x29.1 == x30.1) && ((x29.2.1 == x30.2.1) && ((x29.2.2.1 == x30.2.2.1) && ((x29.2.2.2.1 == x30.2.2.2.1) && (x29.2.2.2.2 == x30.2.2.2.2))))) && (r24.2 == r27.2)) (
  ld [.sl] ⟨n13, 7⟩ fun (x31 : Sl) =>
  call Tryz.prog N_canterhelp_Kept_uint64 [.lf (.sl r23), .lf (.sl x31), .lf (.int .u64 (71:Int))] [.lf .bool] fun (r32 : Bool) =>
  J16 r32) <|
  J16 false) <|
  ite' (x18 == (4:Int)) (
  ld K_i4u2bi2 ⟨n13, 8⟩ fun (x33 : T_i4u2bi2) =>
  new [.int .i64 (0:Int), .int .i64 (0:Int), .int .i64 (0:Int), .int .i64 (0:Int), .int .u64 (0:Int), .int .u64 (0:Int), .bool false, .int .i64 (0:Int), .int .i64 (0:Int)] fun n34 =>
  st ⟨n34, 0⟩ (Ks.mk K_i4u2bi2 x33) <|
  join [] (fun J35 =>
  ld [.bool] ⟨n13, 17⟩ fun (x37 : Bool) =>
  ite' (!x37) (
  ld K_i4u2bi2 ⟨n34, 0⟩ fun (x38 : T_i4u2bi2) =>
  call Tryz.prog N_canterplay_Config [.agg (Ks.mk K_i4u2bi2 x38)] [.agg K_i4u2bi2] fun (r39 : T_i4u2bi2) =>
  st ⟨n34, 0⟩ (Ks.mk K_i4u2bi2 r39) <|
  J35 ()) <|
  J35 ()) fun (y36 : Unit) =>
  ld K_i4u2bi2 ⟨n34, 0⟩ fun (x40 : T_i4u2bi2) =>
  call Tryz.prog N_fq_Queue_Set [.lf (.ptr r5.1), .agg (Ks.mk K_i4u2bi2 x40)] [.lf (.int .i64)] fun (r41 : Int) =>
  join [.bool] (fun J42 =>
  drw <|
  ld K_i4u2bi2 ⟨n34, 0⟩ fun (x44 : T_i4u2bi2) =>
  call Tryz.prog N_canterref20_May [.agg (Ks.mk K_i4u2bi2 x44)] [.lf .bool] fun (r45 : Bool) =>
  ite' ((r41 == (0:Int)) == r45) (
  ite' (r41 == (0:Int)) (
  ld K_i4u2bi2 ⟨n34, 0⟩ fun (x46 : T_i4u2bi2) =>
  ld K_i4u2bi2 ⟨n34, 0⟩ fun (x47 : T_i4u2bi2) =>
  call Tryz.prog N_fq_May [.agg (Ks.mk K_i4u2bi2 x46)] [.lf .bool] fun (r48 : Bool) =>
  chk ⟨n34, 0⟩ (Ks.mk K_i4u2bi2 x47) <|
  call Tryz.prog N_canterref20_May [.agg (Ks.mk K_i4u2bi2 x47)] [.lf .bool] fun (r49 : Bool) =>
  J42 (r48 == r49)) <|
  ite' (r41 == (13:Int)) (
  ld K_i4u2bi2 ⟨n34, 0⟩ fun (x50 : T_i4u2bi2) =>
  ld K_i4u2bi2 ⟨n34, 0⟩ fun (x51 : T_i4u2bi2) =>
  call Tryz.prog N_fq_May [.agg (Ks.mk K_i4u2bi2 x50)] [.lf .bool] fun (r52 : Bool) =>
  chk ⟨n34, 0⟩ (Ks.mk K_i4u2bi2 x51) <|
  call Tryz.prog N_canterref20_May [.agg (Ks.mk K_i4u2bi2 x51)] [.lf .bool] fun (r53 : Bool) =>
  J42 (r52 == r53)) <|
  J42 false) <|
  J42 false) fun (y43 : Bool) =>
  ld K_i4u2bi2 ⟨n34, 0⟩ fun (x54 : T_i4u2bi2) =>
  call Tryz.prog N_canterref20_May [.agg (Ks.mk K_i4u2bi2 x54)] [.lf .bool] fun (r55 : Bool) =>
  ite' r55 (
  ld K_i4u2bi2 ⟨n34, 0⟩ fun (x56 : T_i4u2bi2) =>
  deref (some ⟨n7, 0⟩) fun q57 =>
  st q57 (Ks.mk K_i4u2bi2 x56) <|
  J16 y43) <|
  J16 y43) <|
  ite' (x18 == (5:Int)) (
  drw <|
  ld [.int .i64] ⟨n13, 2⟩ fun (x58 : Int) =>
  ld [.int .i64] ⟨n13, 2⟩ fun (x59 : Int) =>
  call Tryz.prog N_fq_Queue_Close [.lf (.ptr r5.1), .lf (.int .i64 x58)] [.lf .sl] fun (r60 : Sl) =>
  chk ⟨n13, 2⟩ (Ks.mk [.int .i64] x59) <|
  call Tryz.prog N_canterref20_Queue_Close [.lf (.ptr (some ⟨n7, 0⟩)), .lf (.int .i64 x59)] [.lf .sl] fun (r61 : Sl) =>
  call Tryz.prog N_canterhelp_Plain_apiSeg [.lf (.sl r60), .lf (.sl r61)] [.lf .bool] fun (r62 : Bool) =>
  J16 r62) <|
  ld K_iuiub ⟨n13, 2⟩ fun (x63 : T_iuiub) =>
  new [.int .i64 (0:Int), .int .u64 (0:Int), .int .i64 (0:Int), .int .u64 (0:Int), .bool false] fun n64 =>
  st ⟨n64, 0⟩ (Ks.mk K_iuiub x63) <|
  join [] (fun J65 =>
  ld [.bool] ⟨n13, 17⟩ fun (x67 : Bool) =>
  ite' (!x67) (
  ld K_iuiub ⟨n64, 0⟩ fun (x68 : T_iuiub) =>
  call Tryz.prog N_canterplay_Seg [.agg (Ks.mk K_iuiub x68)] [.agg K_iuiub] fun (r69 : T_iuiub) =>
  st ⟨n64, 0⟩ (Ks.mk K_iuiub r69) <|
  J65 ()) <|
  J65 ()) fun (y66 : Unit) =>
  ld K_iuiub ⟨n64, 0⟩ fun (x70 : T_iuiub) =>
  call Tryz.prog N_fq_Queue_Enqueue [.lf (.ptr r5.1), .agg (Ks.mk K_iuiub x70), .lf (.int .u64 (if (4611686018427387904:Int) < r15 then (4611686018427387904:Int) else r15))] [.lf (.int .i64), .lf (.int .i64)] fun (r71 : Int × Int) =>
  ld K_iuiub ⟨n64, 0⟩ fun (x72 : T_iuiub) =>
  call Tryz.prog N_canterref20_Queue_Enqueue [.lf (.ptr (some ⟨n7, 0⟩)), .agg (Ks.mk K_iuiub x72), .lf (.int .u64 (if (4611686018427387904:Int) < r15 then (4611686018427387904:Int) else r15))] [.lf (.int .i64), .lf (.int .i64)] fun (r73 : Int × Int) =>
  J16 ((r71.1 == r73.1) && (r71.2 == r73.2))) fun (y17 : Bool) =>
  ite' (!y17) (
  R false) <|
  call Tryz.prog N_canterlaw20_alike [.lf (.ptr r5.1), .lf (.ptr (some ⟨n7, 0⟩))] [.lf .bool] fun (r74 : Bool) =>
  ite' (!r74) (
  R false) <|
  J9 ((if (4611686018427387904:Int) < r15 then (4611686018427387904:Int) else r15), (IntKind.i64.wrap (y10.2 + (1:Int))))) <|
  R true
theorem sem_canterlaw20_FqPlays (d : T_i4u2bi2) (o : Sl) (R : Rs.T [.lf .bool] → WP) : Same (semF Tryz.prog Tryz.f3 (.s .o (.s .o (.s .o (.s .o (.s (.s .o (.s (.s .o .o) .o)) (.s .o (.s (.s .o (.b (.l [(8, .lf (.int .u64)), (9, .lf (.int .i64))] (.s (.s .o (.s .o .o)) (.s (.b (.s .o (.s .o (.s .o (.j [(11, .lf .bool)] (.s .o (.b (.j [(94, .lf .bool)] (.s .o (.s .o .o)) (.s (.s (.s .o (.s (.s .o .o) .o)) (.s .o (.s .o (.s .o .o)))) (.s .o (.s (.s .o (.j [] (.s .o (.s .o .o)) (.s .o (.j [(11, .lf .bool)] (.d (.f 0 [18] (.f 2 [17] (.f 1 [145] (.w 3 [147] (.f 4 [146, 148] (.f 5 [149] (.f 6 [18, 150] (.f 7 [150, 151] (.f 8 [150, 152] (.f 9 [18, 153] (.f 10 [153, 154] (.f 11 [150, 153, 155] (.f 12 [150, 156] (.f 13 [157] (.f 14 [17, 158] (.f 16 [17, 158] (.w 15 [158, 159] (.w 17 [158, 161] (.f 18 [158, 160, 162] (.f 19 [158, 163] (.w 20 [164] .fin)))))))))))))))))))))) (.s .o (.s .o .o)))))) (.s .o (.s (.d (.f 0 [5] (.f 1 [10] (.f 5 [7] (.f 6 [10] (.f 2 [174] (.f 7 [179] (.f 3 [175] (.f 8 [180] (.w 4 [173, 176] (.w 9 [178, 181] (.w 10 [177, 182] (.w 11 [183] .fin))))))))))))) (.s .o (.j [] (.s .o (.s .o .o)) (.s .o (.s .o .o)))))))))))) (.s .o (.s (.s .o .o) .o))))))) .o))))) (.s .o .o)))))))) [.agg (Ks.mk K_i4u2bi2 d), .lf (.sl o)] [.lf .bool] R) (fun w => W_canterlaw20_FqPlays d o R w) := ⟨by kernel_rfl⟩
theorem call_canterlaw20_FqPlays (d : T_i4u2bi2) (o : Sl) (R : Rs.T [.lf .bool] → WP) (w : World) (h : W_canterlaw20_FqPlays d o R w) :
    CallX Tryz.prog N_canterlaw20_FqPlays ([.agg (Ks.mk K_i4u2bi2 d), .lf (.sl o)].map V1.enc) w fun v w' => ∃ x, v = (retTV (Rs.mk [.lf .bool] x)).enc ∧ R x w' :=
  callX_of_semF Tryz.func3 (by kernel_rfl) (by kernel_rfl) (sem_canterlaw20_FqPlays d o R) h


/-- canter/canterlaw20.alike -/
def W_canterlaw20_alike (q : Option Pt) (w' : Option Pt) (R : Rs.T [.lf .bool] → WP) : WP :=
  call Tryz.prog N_fq_Queue_Watchdog [.lf (.ptr q)] [.lf (.int .u64), .lf .bool] fun (r1 : Int × Bool) =>
  call Tryz.prog N_canterref20_Queue_Watchdog [.lf (.ptr w')] [.lf (.int .u64), .lf .bool] fun (r2 : Int × Bool) =>
  join [] (fun J3 =>
  ite' ((r1.1 != r2.1) || (!(r1.2 == r2.2))) (
  R false) <|
  call Tryz.prog N_fq_Queue_Len [.lf (.ptr q)] [.lf (.int .i64)] fun (r5 : Int) =>
  call Tryz.prog N_canterref20_Queue_Len [.lf (.ptr w')] [.lf (.int .i64)] fun (r6 : Int) =>
  ite' (r5 != r6) (
  R false) <|
  J3 ()) fun (y4 : Unit) =>
  loop [.int .i64] (-1:Int) fun J7 (y8 : Int) =>
  ite' (decide (y8 ≤ (8:Int))) (
  call Tryz.prog N_fq_Queue_Flow [.lf (.ptr q), .lf (.int .i64 y8)] [.agg K_i3u2s, .lf .bool] fun (r9 : T_i3u2s × Bool) =>
  new [.int .i64 (0:Int), .int .i64 (0:Int), .int .i64 (0:Int), .int .u64 (0:Int), .int .u64 (0:Int), .sl ⟨none, 0, 0⟩] fun n10 =>
  st ⟨n10, 0⟩ (Ks.mk K_i3u2s r9.1) <|
  call Tryz.prog N_canterref20_Queue_Flow [.lf (.ptr w'), .lf (.int .i64 y8)] [.agg K_i3u2s, .lf .bool] fun (r11 : T_i3u2s × Bool) =>
  new [.int .i64 (0:Int), .int .i64 (0:Int), .int .i64 (0:Int), .int .u64 (0:Int), .int .u64 (0:Int), .sl ⟨none, 0, 0⟩] fun n12 =>
  st ⟨n12, 0⟩ (Ks.mk K_i3u2s r11.1) <|
  ite' (!(r9.2 == r11.2)) (
  R false) <|
  ld K_i3u2s ⟨n10, 0⟩ fun (x13 : T_i3u2s) =>
  ld K_i3u2s ⟨n12, 0⟩ fun (x14 : T_i3u2s) =>
  call Tryz.prog N_canterhelp_Flow [.agg (Ks.mk K_i3u2s x13), .agg (Ks.mk K_i3u2s x14)] [.lf .bool] fun (r15 : Bool) =>
  ite' (!r15) (
  R false) <|
  J7 (IntKind.i64.wrap (y8 + (1:Int)))) <|
  R true
theorem sem_canterlaw20_alike (q : Option Pt) (w' : Option Pt) (R : Rs.T [.lf .bool] → WP) : Same (semF Tryz.prog Tryz.f21 (.s .o (.s .o (.s .o (.j [] (.s .o (.s (.s .o .o) .o)) (.s (.s .o (.b (.l [(9, .lf (.int .i64))] (.s (.s .o (.s .o .o)) (.s (.b (.s .o (.s .o (.s .o (.s (.s .o .o) .o))))) .o))))) (.s .o .o)))))) [.lf (.ptr q), .lf (.ptr w')] [.lf .bool] R) (fun w => W_canterlaw20_alike q w' R w) := ⟨by kernel_rfl⟩
theorem call_canterlaw20_alike (q : Option Pt) (w' : Option Pt) (R : Rs.T [.lf .bool] → WP) (w : World) (h : W_canterlaw20_alike q w' R w) :
    CallX Tryz.prog N_canterlaw20_alike ([.lf (.ptr q), .lf (.ptr w')].map V1.enc) w fun v w' => ∃ x, v = (retTV (Rs.mk [.lf .bool] x)).enc ∧ R x w' :=
  callX_of_semF Tryz.func21 (by kernel_rfl) (by kernel_rfl) (sem_canterlaw20_alike q w' R) h


/-- canter/canterlaw20.awake -/
def W_canterlaw20_awake  (R : Rs.T [.lf .bool] → WP) : WP :=
  call Tryz.prog N_canterref20_Plain [] [.agg K_i4u2bi2] fun (r1 : T_i4u2bi2) =>
  call Tryz.prog N_fq_New [.agg (Ks.mk K_i4u2bi2 r1)] [.lf .ptr, .lf (.int .i64)] fun (r2 : Option Pt × Int) =>
  ite' ((r2.2 != (0:Int)) || r2.1.isNone) (
  R false) <|
  call Tryz.prog N_fq_Queue_Enqueue [.lf (.ptr r2.1), .agg [.int .i64 (1:Int), .int .u64 (0:Int), .int .i64 (100:Int), .int .u64 (0:Int), .bool false], .lf (.int .u64 (5:Int))] [.lf (.int .i64), .lf (.int .i64)] fun (r3 : Int × Int) =>
  call Tryz.prog N_fq_Queue_Dequeue [.lf (.ptr r2.1), .lf (.int .u64 (5:Int)), .lf (.sl ⟨none, 0, 0⟩)] [.agg K_iuiub, .lf .bool] fun (r4 : T_iuiub × Bool) =>
  new [.int .i64 (0:Int), .int .u64 (0:Int), .int .i64 (0:Int), .int .u64 (0:Int), .bool false] fun n5 =>
  st ⟨n5, 0⟩ (Ks.mk K_iuiub r4.1) <|
  ite' (((r3.2 == (0:Int)) && (r3.1 == (0:Int))) && r4.2) (
  ld [.int .i64] ⟨n5, 2⟩ fun (x6 : Int) =>
  ite' (x6 == (100:Int)) (
  call Tryz.prog N_fq_Queue_Len [.lf (.ptr r2.1)] [.lf (.int .i64)] fun (r7 : Int) =>
  R (r7 == (0:Int))) <|
  R false) <|
  R false
theorem sem_canterlaw20_awake  (R : Rs.T [.lf .bool] → WP) : Same (semF Tryz.prog Tryz.f6 (.s .o (.s .o (.s (.s .o (.s (.s .o .o) .o)) (.s .o (.s .o (.s .o .o)))))) [] [.lf .bool] R) (fun w => W_canterlaw20_awake  R w) := ⟨by kernel_rfl⟩
theorem call_canterlaw20_awake  (R : Rs.T [.lf .bool] → WP) (w : World) (h : W_canterlaw20_awake  R w) :
    CallX Tryz.prog N_canterlaw20_awake ([].map V1.enc) w fun v w' => ∃ x, v = (retTV (Rs.mk [.lf .bool] x)).enc ∧ R x w' :=
  callX_of_semF Tryz.func6 (by kernel_rfl) (by kernel_rfl) (sem_canterlaw20_awake  R) h


/-- canter/canterplay.Config -/
def W_canterplay_Config (d : T_i4u2bi2) (R : Rs.T [.agg K_i4u2bi2] → WP) : WP :=
  new (Ks.mk K_i4u2bi2 d) fun n1 =>
  new [.int .i64 (0:Int), .int .i64 (0:Int), .int .i64 (0:Int), .int .i64 (0:Int), .int .u64 (0:Int), .int .u64 (0:Int), .bool false, .int .i64 (0:Int), .int .i64 (0:Int)] fun n2 =>
  call Tryz.prog N_canterref20_Plain [] [.agg K_i4u2bi2] fun (r3 : T_i4u2bi2) =>
  new [.int .i64 (0:Int), .int .i64 (0:Int), .int .i64 (0:Int), .int .i64 (0:Int), .int .u64 (0:Int), .int .u64 (0:Int), .bool false, .int .i64 (0:Int), .int .i64 (0:Int)] fun n4 =>
  st ⟨n4, 0⟩ (Ks.mk K_i4u2bi2 r3) <|
  join [] (fun J5 =>
  join [.bool] (fun J7 =>
  ld [.int .i64] ⟨n1, 0⟩ fun (x9 : Int) =>
  ite' (decide (x9 ≥ (100:Int))) (
  ld [.int .i64] ⟨n1, 0⟩ fun (x10 : Int) =>
  J7 (decide (x10 ≤ (65536:Int)))) <|
  J7 false) fun (y8 : Bool) =>
  ite' y8 (
  ld [.int .i64] ⟨n1, 0⟩ fun (x11 : Int) =>
  st ⟨n4, 0⟩ [.int .i64 x11] <|
  J5 ()) <|
  J5 ()) fun (y6 : Unit) =>
  join [] (fun J12 =>
  join [.bool] (fun J14 =>
  ld [.int .i64] ⟨n1, 1⟩ fun (x16 : Int) =>
  ite' (decide (x16 ≥ (100:Int))) (
  ld [.int .i64] ⟨n1, 1⟩ fun (x17 : Int) =>
  J14 (decide (x17 ≤ (65536:Int)))) <|
  J14 false) fun (y15 : Bool) =>
  ite' y15 (
  ld [.int .i64] ⟨n1, 1⟩ fun (x18 : Int) =>
  st ⟨n4, 1⟩ [.int .i64 x18] <|
  J12 ()) <|
  J12 ()) fun (y13 : Unit) =>
  join [] (fun J19 =>
  join [.bool] (fun J21 =>
  ld [.int .i64] ⟨n1, 2⟩ fun (x23 : Int) =>
  ite' (decide (x23 ≥ (1:Int))) (
  ld [.int .i64] ⟨n1, 2⟩ fun (x24 : Int) =>
  J21 (decide (x24 ≤ (512:Int)))) <|
  J21 false) fun (y22 : Bool) =>
  ite' y22 (
  ld [.int .i64] ⟨n1, 2⟩ fun (x25 : Int) =>
  st ⟨n4, 2⟩ [.int .i64 x25] <|
  J19 ()) <|
  J19 ()) fun (y20 : Unit) =>
  join [] (fun J26 =>
  join [.bool] (fun J28 =>
  ld [.int .i64] ⟨n1, 3⟩ fun (x30 : Int) =>
  ite' (decide (x30 ≥ (1:Int))) (
  ld [.int .i64] ⟨n1, 3⟩ fun (x31 : Int) =>
  J28 (decide (x31 ≤ (512:Int)))) <|
  J28 false) fun (y29 : Bool) =>
  ite' y29 (
  ld [.int .i64] ⟨n1, 3⟩ fun (x32 : Int) =>
  st ⟨n4, 3⟩ [.int .i64 x32] <|
  J26 ()) <|
  J26 ()) fun (y27 : Unit) =>
  join [] (fun J33 =>
  ld [.int .u64] ⟨n1, 4⟩ fun (x35 : Int) =>
  ite' (decide (x35 ≤ (4611686018427387904:Int))) (
  ld [.int .u64] ⟨n1, 4⟩ fun (x36 : Int) =>
  st ⟨n4, 4⟩ [.int .u64 x36] <|
  J33 ()) <|
  J33 ()) fun (y34 : Unit) =>
  join [] (fun J37 =>
  join [.bool] (fun J39 =>
  ld [.int .i64] ⟨n1, 7⟩ fun (x41 : Int) =>
  ite' (decide (x41 ≥ (1:Int))) (
  ld [.int .i64] ⟨n1, 7⟩ fun (x42 : Int) =>
  J39 (decide (x42 ≤ (1073741824:Int)))) <|
  J39 false) fun (y40 : Bool) =>
  ite' y40 (
  ld [.int .i64] ⟨n1, 7⟩ fun (x43 : Int) =>
  st ⟨n4, 7⟩ [.int .i64 x43] <|
  J37 ()) <|
  J37 ()) fun (y38 : Unit) =>
  join [] (fun J44 =>
  join [.bool] (fun J46 =>
  ld [.int .i64] ⟨n1, 8⟩ fun (x48 : Int) =>
  ite' (decide (x48 ≥ (100:Int))) (
  ld [.int .i64] ⟨n1, 8⟩ fun (x49 : Int) =>
  J46 (decide (x49 ≤ (9000:Int)))) <|
  J46 false) fun (y47 : Bool) =>
  ite' y47 (
  ld [.int .i64] ⟨n1, 8⟩ fun (x50 : Int) =>
  st ⟨n4, 8⟩ [.int .i64 x50] <|
  J44 ()) <|
  J44 ()) fun (y45 : Unit) =>
  drw <|
  ld [.int .u64] ⟨n1, 5⟩ fun (x51 : Int) =>
  ld [.bool] ⟨n1, 6⟩ fun (x52 : Bool) =>
  st ⟨n4, 5⟩ [.int .u64 x51] <|
  chk ⟨n1, 6⟩ (Ks.mk [.bool] x52) <|
  st ⟨n4, 6⟩ [.bool x52] <|
  ld K_i4u2bi2 ⟨n4, 0⟩ fun (x53 : T_i4u2bi2) =>
  st ⟨n2, 0⟩ (Ks.mk K_i4u2bi2 x53) <|
  ld K_i4u2bi2 ⟨n2, 0⟩ fun (x54 : T_i4u2bi2) =>
  R x54
theorem sem_canterplay_Config (d : T_i4u2bi2) (R : Rs.T [.agg K_i4u2bi2] → WP) : Same (semF Tryz.prog Tryz.f4 (.s .o (.s .o (.j [] (.j [(12, .lf .bool)] .o (.s .o .o)) (.j [] (.j [(23, .lf .bool)] .o (.s .o .o)) (.j [] (.j [(34, .lf .bool)] .o (.s .o .o)) (.j [] (.j [(45, .lf .bool)] .o (.s .o .o)) (.j [] (.s .o (.s .o .o)) (.j [] (.j [(62, .lf .bool)] .o (.s .o .o)) (.j [] (.j [(73, .lf .bool)] .o (.s .o .o)) (.s (.d (.f 0 [1] (.f 2 [1] (.f 1 [77] (.f 3 [79] (.f 4 [3] (.w 5 [78, 81] (.f 6 [3] (.w 7 [80, 82] .fin))))))))) (.s .o .o))))))))))) [.agg (Ks.mk K_i4u2bi2 d)] [.agg K_i4u2bi2] R) (fun w => W_canterplay_Config d R w) := ⟨by kernel_rfl⟩
theorem call_canterplay_Config (d : T_i4u2bi2) (R : Rs.T [.agg K_i4u2bi2] → WP) (w : World) (h : W_canterplay_Config d R w) :
    CallX Tryz.prog N_canterplay_Config ([.agg (Ks.mk K_i4u2bi2 d)].map V1.enc) w fun v w' => ∃ x, v = (retTV (Rs.mk [.agg K_i4u2bi2] x)).enc ∧ R x w' :=
  callX_of_semF Tryz.func4 (by kernel_rfl) (by kernel_rfl) (sem_canterplay_Config d R) h


/-- canter/canterplay.Seg -/
def W_canterplay_Seg (s : T_iuiub) (R : Rs.T [.agg K_iuiub] → WP) : WP :=
  new (Ks.mk K_iuiub s) fun n1 =>
  new [.int .i64 (0:Int), .int .u64 (0:Int), .int .i64 (0:Int), .int .u64 (0:Int), .bool false] fun n2 =>
  ld [.int .i64] ⟨n1, 0⟩ fun (x3 : Int) =>
  st ⟨n1, 0⟩ [.int .i64 (IntKind.i64.wrap ((IntKind.u64.wrap x3).tmod (8:Int)))] <|
  ld [.int .i64] ⟨n1, 2⟩ fun (x4 : Int) =>
  st ⟨n1, 2⟩ [.int .i64 (IntKind.i64.wrap ((1:Int) + (IntKind.i64.wrap ((IntKind.u64.wrap x4).tmod (65536:Int)))))] <|
  ld K_iuiub ⟨n1, 0⟩ fun (x5 : T_iuiub) =>
  st ⟨n2, 0⟩ (Ks.mk K_iuiub x5) <|
  ld K_iuiub ⟨n2, 0⟩ fun (x6 : T_iuiub) =>
  R x6
theorem sem_canterplay_Seg (s : T_iuiub) (R : Rs.T [.agg K_iuiub] → WP) : Same (semF Tryz.prog Tryz.f18 (.s .o (.s .o (.s .o (.s .o .o)))) [.agg (Ks.mk K_iuiub s)] [.agg K_iuiub] R) (fun w => W_canterplay_Seg s R w) := ⟨by kernel_rfl⟩
theorem call_canterplay_Seg (s : T_iuiub) (R : Rs.T [.agg K_iuiub] → WP) (w : World) (h : W_canterplay_Seg s R w) :
    CallX Tryz.prog N_canterplay_Seg ([.agg (Ks.mk K_iuiub s)].map V1.enc) w fun v w' => ∃ x, v = (retTV (Rs.mk [.agg K_iuiub] x)).enc ∧ R x w' :=
  callX_of_semF Tryz.func18 (by kernel_rfl) (by kernel_rfl) (sem_canterplay_Seg s R) h


/-- canter/canterref01.Add -/
def W_canterref01_Add (a : Int) (b : Int) (R : Rs.T [.lf (.int .u64)] → WP) : WP :=
  ite' (decide (a > (IntKind.u64.wrap ((18446744073709551615:Int) - b)))) (
  R (18446744073709551615:Int)) <|
  R (IntKind.u64.wrap (a + b))
theorem sem_canterref01_Add (a : Int) (b : Int) (R : Rs.T [.lf (.int .u64)] → WP) : Same (semF Tryz.prog Tryz.f7 (.s .o (.s (.s .o (.s (.s .o .o) .o)) (.s .o .o))) [.lf (.int .u64 a), .lf (.int .u64 b)] [.lf (.int .u64)] R) (fun w => W_canterref01_Add a b R w) := ⟨by kernel_rfl⟩
theorem call_canterref01_Add (a : Int) (b : Int) (R : Rs.T [.lf (.int .u64)] → WP) (w : World) (h : W_canterref01_Add a b R w) :
    CallX Tryz.prog N_canterref01_Add ([.lf (.int .u64 a), .lf (.int .u64 b)].map V1.enc) w fun v w' => ∃ x, v = (retTV (Rs.mk [.lf (.int .u64)] x)).enc ∧ R x w' :=
  callX_of_semF Tryz.func7 (by kernel_rfl) (by kernel_rfl) (sem_canterref01_Add a b R) h


/-- canter/canterref01.Delay -/
def W_canterref01_Delay (size : Int) (rate : Int) (R : Rs.T [.lf (.int .u64)] → WP) : WP :=
  ite' ((decide (size < (1:Int))) || (rate == (18446744073709551615:Int))) (
  R (0:Int)) <|
  call Tryz.prog N_canterref01_MulDiv [.lf (.int .u64 (IntKind.u64.wrap size)), .lf (.int .u64 (1000000000:Int)), .lf (.int .u64 rate)] [.lf (.int .u64)] fun (r1 : Int) =>
  R (if (1000000000:Int) < r1 then (1000000000:Int) else r1)
theorem sem_canterref01_Delay (size : Int) (rate : Int) (R : Rs.T [.lf (.int .u64)] → WP) : Same (semF Tryz.prog Tryz.f39 (.s .o (.s (.s .o (.s (.s .o .o) .o)) (.s .o .o))) [.lf (.int .i64 size), .lf (.int .u64 rate)] [.lf (.int .u64)] R) (fun w => W_canterref01_Delay size rate R w) := ⟨by kernel_rfl⟩
theorem call_canterref01_Delay (size : Int) (rate : Int) (R : Rs.T [.lf (.int .u64)] → WP) (w : World) (h : W_canterref01_Delay size rate R w) :
    CallX Tryz.prog N_canterref01_Delay ([.lf (.int .i64 size), .lf (.int .u64 rate)].map V1.enc) w fun v w' => ∃ x, v = (retTV (Rs.mk [.lf (.int .u64)] x)).enc ∧ R x w' :=
  callX_of_semF Tryz.func39 (by kernel_rfl) (by kernel_rfl) (sem_canterref01_Delay size rate R) h


/-- canter/canterref01.Div -/
def W_canterref01_Div (hi : Int) (lo : Int) (c : Int) (R : Rs.T [.lf (.int .u64), .lf (.int .i64)] → WP) : WP :=
  ite' (c == (0:Int)) (
  R ((0:Int), (1:Int))) <|
  ite' (decide (hi ≥ c)) (
  R ((0:Int), (3:Int))) <|
  loop K_u3i (lo, (0:Int), hi, (0:Int)) fun J1 (y2 : T_u3i) =>
  ite' (decide (y2.2.2.2 < (64:Int))) (
  req (0 ≤ (63:Int)) <|
  req (0 ≤ (1:Int)) <|
  req (0 ≤ (63:Int)) <|
  req (0 ≤ (1:Int)) <|
  req (0 ≤ (1:Int)) <|
  ite' (((y2.2.2.1.fdiv (2 ^ min (63:Int).toNat IntKind.u64.bits)) == (1:Int)) || (decide ((IntKind.u64.wrap (BitVec.ofInt IntKind.u64.bits (IntKind.u64.wrap (y2.2.2.1 * 2 ^ min (1:Int).toNat IntKind.u64.bits)) ||| BitVec.ofInt IntKind.u64.bits (y2.1.fdiv (2 ^ min (63:Int).toNat IntKind.u64.bits))).toNat) ≥ c))) (
  J1 ((IntKind.u64.wrap (y2.1 * 2 ^ min (1:Int).toNat IntKind.u64.bits)), (IntKind.u64.wrap (BitVec.ofInt IntKind.u64.bits (IntKind.u64.wrap (y2.2.1 * 2 ^ min (1:Int).toNat IntKind.u64.bits)) ||| BitVec.ofInt IntKind.u64.bits (1:Int)).toNat), (IntKind.u64.wrap ((IntKind.u64.wrap (BitVec.ofInt IntKind.u64.bits (IntKind.u64.wrap (y2.2.2.1 * 2 ^ min (1:Int).toNat IntKind.u64.bits)) ||| BitVec.ofInt IntKind.u64.bits (y2.1.fdiv (2 ^ min (63:Int).toNat IntKind.u64.bits))).toNat) - c)), (IntKind.i64.wrap (y2.2.2.2 + (1:Int))))) <|
  J1 ((IntKind.u64.wrap (y2.1 * 2 ^ min (1:Int).toNat IntKind.u64.bits)), (IntKind.u64.wrap (y2.2.1 * 2 ^ min (1:Int).toNat IntKind.u64.bits)), (IntKind.u64.wrap (BitVec.ofInt IntKind.u64.bits (IntKind.u64.wrap (y2.2.2.1 * 2 ^ min (1:Int).toNat IntKind.u64.bits)) ||| BitVec.ofInt IntKind.u64.bits (y2.1.fdiv (2 ^ min (63:Int).toNat IntKind.u64.bits))).toNat), (IntKind.i64.wrap (y2.2.2.2 + (1:Int))))) <|
  R (y2.2.1, (0:Int))
theorem sem_canterref01_Div (hi : Int) (lo : Int) (c : Int) (R : Rs.T [.lf (.int .u64), .lf (.int .i64)] → WP) : Same (semF Tryz.prog Tryz.f96 (.s .o (.s (.s .o (.s (.s .o .o) .o)) (.s (.s .o (.s (.s .o .o) .o)) (.s .o (.s (.s .o (.b (.l [(1, .lf (.int .u64)), (8, .lf (.int .u64)), (9, .lf (.int .u64)), (10, .lf (.int .i64))] (.s (.s .o (.s .o .o)) (.s (.b (.s .o (.s .o (.s .o (.s .o (.s .o (.s (.s .o .o) .o))))))) .o))))) (.s .o .o)))))) [.lf (.int .u64 hi), .lf (.int .u64 lo), .lf (.int .u64 c)] [.lf (.int .u64), .lf (.int .i64)] R) (fun w => W_canterref01_Div hi lo c R w) := ⟨by kernel_rfl⟩
theorem call_canterref01_Div (hi : Int) (lo : Int) (c : Int) (R : Rs.T [.lf (.int .u64), .lf (.int .i64)] → WP) (w : World) (h : W_canterref01_Div hi lo c R w) :
    CallX Tryz.prog N_canterref01_Div ([.lf (.int .u64 hi), .lf (.int .u64 lo), .lf (.int .u64 c)].map V1.enc) w fun v w' => ∃ x, v = (retTV (Rs.mk [.lf (.int .u64), .lf (.int .i64)] x)).enc ∧ R x w' :=
  callX_of_semF Tryz.func96 (by kernel_rfl) (by kernel_rfl) (sem_canterref01_Div hi lo c R) h


/-- canter/canterref01.Lesser -/
def W_canterref01_Lesser (a : Int) (b : Int) (R : Rs.T [.lf (.int .u64)] → WP) : WP :=
  ite' (a == (0:Int)) (
  ite' (b == (0:Int)) (
  R (if (18446744073709551615:Int) < (18446744073709551615:Int) then (18446744073709551615:Int) else (18446744073709551615:Int))) <|
  R (if b < (18446744073709551615:Int) then b else (18446744073709551615:Int))) <|
  ite' (b == (0:Int)) (
  R (if (18446744073709551615:Int) < a then (18446744073709551615:Int) else a)) <|
  R (if b < a then b else a)
theorem sem_canterref01_Lesser (a : Int) (b : Int) (R : Rs.T [.lf (.int .u64)] → WP) : Same (semF Tryz.prog Tryz.f40 (.s .o (.s (.s .o (.s .o .o)) (.s (.s .o (.s .o .o)) (.s .o .o)))) [.lf (.int .u64 a), .lf (.int .u64 b)] [.lf (.int .u64)] R) (fun w => W_canterref01_Lesser a b R w) := ⟨by kernel_rfl⟩
theorem call_canterref01_Lesser (a : Int) (b : Int) (R : Rs.T [.lf (.int .u64)] → WP) (w : World) (h : W_canterref01_Lesser a b R w) :
    CallX Tryz.prog N_canterref01_Lesser ([.lf (.int .u64 a), .lf (.int .u64 b)].map V1.enc) w fun v w' => ∃ x, v = (retTV (Rs.mk [.lf (.int .u64)] x)).enc ∧ R x w' :=
  callX_of_semF Tryz.func40 (by kernel_rfl) (by kernel_rfl) (sem_canterref01_Lesser a b R) h


/-- canter/canterref01.MulDiv -/
def W_canterref01_MulDiv (a : Int) (b : Int) (c : Int) (R : Rs.T [.lf (.int .u64)] → WP) : WP :=
  call Tryz.prog N_canterref01_Wide [.lf (.int .u64 a), .lf (.int .u64 b)] [.lf (.int .u64), .lf (.int .u64)] fun (r1 : Int × Int) =>
  ite' ((r1.1 == (0:Int)) && (r1.2 == (0:Int))) (
  R (0:Int)) <|
  call Tryz.prog N_canterref01_Div [.lf (.int .u64 r1.1), .lf (.int .u64 r1.2), .lf (.int .u64 c)] [.lf (.int .u64), .lf (.int .i64)] fun (r2 : Int × Int) =>
  ite' (r2.2 != (0:Int)) (
  R (18446744073709551615:Int)) <|
  R r2.1
theorem sem_canterref01_MulDiv (a : Int) (b : Int) (c : Int) (R : Rs.T [.lf (.int .u64)] → WP) : Same (semF Tryz.prog Tryz.f74 (.s .o (.s .o (.s (.s .o (.s (.s .o .o) .o)) (.s .o (.s (.s .o (.s (.s .o .o) .o)) (.s .o .o)))))) [.lf (.int .u64 a), .lf (.int .u64 b), .lf (.int .u64 c)] [.lf (.int .u64)] R) (fun w => W_canterref01_MulDiv a b c R w) := ⟨by kernel_rfl⟩
theorem call_canterref01_MulDiv (a : Int) (b : Int) (c : Int) (R : Rs.T [.lf (.int .u64)] → WP) (w : World) (h : W_canterref01_MulDiv a b c R w) :
    CallX Tryz.prog N_canterref01_MulDiv ([.lf (.int .u64 a), .lf (.int .u64 b), .lf (.int .u64 c)].map V1.enc) w fun v w' => ∃ x, v = (retTV (Rs.mk [.lf (.int .u64)] x)).enc ∧ R x w' :=
  callX_of_semF Tryz.func74 (by kernel_rfl) (by kernel_rfl) (sem_canterref01_MulDiv a b c R) h


/-- canter/canterref01.Wide -/
def W_canterref01_Wide (a : Int) (b : Int) (R : Rs.T [.lf (.int .u64), .lf (.int .u64)] → WP) : WP :=
  req (0 ≤ (32:Int)) <|
  req (0 ≤ (32:Int)) <|
  req (0 ≤ (32:Int)) <|
  req (0 ≤ (32:Int)) <|
  req (0 ≤ (32:Int)) <|
  req (0 ≤ (32:Int)) <|
  req (0 ≤ (32:Int)) <|
  R ((IntKind.u64.wrap ((IntKind.u64.wrap ((IntKind.u64.wrap ((IntKind.u64.wrap ((a.fdiv (2 ^ min (32:Int).toNat IntKind.u64.bits)) * (b.fdiv (2 ^ min (32:Int).toNat IntKind.u64.bits)))) + ((IntKind.u64.wrap ((a.fdiv (2 ^ min (32:Int).toNat IntKind.u64.bits)) * (IntKind.u64.wrap (BitVec.ofInt IntKind.u64.bits b &&& BitVec.ofInt IntKind.u64.bits (4294967295:Int)).toNat))).fdiv (2 ^ min (32:Int).toNat IntKind.u64.bits)))) + ((IntKind.u64.wrap ((IntKind.u64.wrap (BitVec.ofInt IntKind.u64.bits a &&& BitVec.ofInt IntKind.u64.bits (4294967295:Int)).toNat) * (b.fdiv (2 ^ min (32:Int).toNat IntKind.u64.bits)))).fdiv (2 ^ min (32:Int).toNat IntKind.u64.bits)))) + ((IntKind.u64.wrap ((IntKind.u64.wrap (((IntKind.u64.wrap ((IntKind.u64.wrap (BitVec.ofInt IntKind.u64.bits a &&& BitVec.ofInt IntKind.u64.bits (4294967295:Int)).toNat) * (IntKind.u64.wrap (BitVec.ofInt IntKind.u64.bits b &&& BitVec.ofInt IntKind.u64.bits (4294967295:Int)).toNat))).fdiv (2 ^ min (32:Int).toNat IntKind.u64.bits)) + (IntKind.u64.wrap (BitVec.ofInt IntKind.u64.bits (IntKind.u64.wrap ((a.fdiv (2 ^ min (32:Int).toNat IntKind.u64.bits)) * (IntKind.u64.wrap (BitVec.ofInt IntKind.u64.bits b &&& BitVec.ofInt IntKind.u64.bits (4294967295:Int)).toNat))) &&& BitVec.ofInt IntKind.u64.bits (4294967295:Int)).toNat))) + (IntKind.u64.wrap (BitVec.ofInt IntKind.u64.bits (IntKind.u64.wrap ((IntKind.u64.wrap (BitVec.ofInt IntKind.u64.bits a &&& BitVec.ofInt IntKind.u64.bits (4294967295:Int)).toNat) * (b.fdiv (2 ^ min (32:Int).toNat IntKind.u64.bits)))) &&& BitVec.ofInt IntKind.u64.bits (4294967295:Int)).toNat))).fdiv (2 ^ min (32:Int).toNat IntKind.u64.bits)))), (IntKind.u64.wrap (BitVec.ofInt IntKind.u64.bits (IntKind.u64.wrap ((IntKind.u64.wrap ((IntKind.u64.wrap (((IntKind.u64.wrap ((IntKind.u64.wrap (BitVec.ofInt IntKind.u64.bits a &&& BitVec.ofInt IntKind.u64.bits (4294967295:Int)).toNat) * (IntKind.u64.wrap (BitVec.ofInt IntKind.u64.bits b &&& BitVec.ofInt IntKind.u64.bits (4294967295:Int)).toNat))).fdiv (2 ^ min (32:Int).toNat IntKind.u64.bits)) + (IntKind.u64.wrap (BitVec.ofInt IntKind.u64.bits (IntKind.u64.wrap ((a.fdiv (2 ^ min (32:Int).toNat IntKind.u64.bits)) * (IntKind.u64.wrap (BitVec.ofInt IntKind.u64.bits b &&& BitVec.ofInt IntKind.u64.bits (4294967295:Int)).toNat))) &&& BitVec.ofInt IntKind.u64.bits (4294967295:Int)).toNat))) + (IntKind.u64.wrap (BitVec.ofInt IntKind.u64.bits (IntKind.u64.wrap ((IntKind.u64.wrap (BitVec.ofInt IntKind.u64.bits a &&& BitVec.ofInt IntKind.u64.bits (4294967295:Int)).toNat) * (b.fdiv (2 ^ min (32:Int).toNat IntKind.u64.bits)))) &&& BitVec.ofInt IntKind.u64.bits (4294967295:Int)).toNat))) * 2 ^ min (32:Int).toNat IntKind.u64.bits)) ||| BitVec.ofInt IntKind.u64.bits (IntKind.u64.wrap (BitVec.ofInt IntKind.u64.bits (IntKind.u64.wrap ((IntKind.u64.wrap (BitVec.ofInt IntKind.u64.bits a &&& BitVec.ofInt IntKind.u64.bits (4294967295:Int)).toNat) * (IntKind.u64.wrap (BitVec.ofInt IntKind.u64.bits b &&& BitVec.ofInt IntKind.u64.bits (4294967295:Int)).toNat))) &&& BitVec.ofInt IntKind.u64.bits (4294967295:Int)).toNat)).toNat))
theorem sem_canterref01_Wide (a : Int) (b : Int) (R : Rs.T [.lf (.int .u64), .lf (.int .u64)] → WP) : Same (semF Tryz.prog Tryz.f95 (.s .o (.s .o (.s .o (.s .o (.s .o (.s .o .o)))))) [.lf (.int .u64 a), .lf (.int .u64 b)] [.lf (.int .u64), .lf (.int .u64)] R) (fun w => W_canterref01_Wide a b R w) := ⟨by kernel_rfl⟩
theorem call_canterref01_Wide (a : Int) (b : Int) (R : Rs.T [.lf (.int .u64), .lf (.int .u64)] → WP) (w : World) (h : W_canterref01_Wide a b R w) :
    CallX Tryz.prog N_canterref01_Wide ([.lf (.int .u64 a), .lf (.int .u64 b)].map V1.enc) w fun v w' => ∃ x, v = (retTV (Rs.mk [.lf (.int .u64), .lf (.int .u64)] x)).enc ∧ R x w' :=
  callX_of_semF Tryz.func95 (by kernel_rfl) (by kernel_rfl) (sem_canterref01_Wide a b R) h


/-- (*canter/canterref04.Lists).Head -/
def W_canterref04_Lists_Head (l : Option Pt) (R : Rs.T [.lf (.int .i64), .lf .bool, .lf .bool] → WP) : WP :=
  deref l fun q1 =>
  ld [.sl] q1 fun (x2 : Sl) =>
  ite' (decide (((x2.len : Nat) : Int) > (0:Int))) (
  deref l fun q3 =>
  ld [.sl] q3 fun (x4 : Sl) =>
  idx x4 (0:Int) 1 fun q5 =>
  ld [.int .i64] q5 fun (x6 : Int) =>
  R (x6, true, true)) <|
  deref l fun q7 =>
  ld [.sl] ⟨q7.b, q7.o + 1⟩ fun (x8 : Sl) =>
  ite' (decide (((x8.len : Nat) : Int) > (0:Int))) (
  deref l fun q9 =>
  ld [.sl] ⟨q9.b, q9.o + 1⟩ fun (x10 : Sl) =>
  idx x10 (0:Int) 1 fun q11 =>
  ld [.int .i64] q11 fun (x12 : Int) =>
  R (x12, false, true)) <|
  R ((0:Int), false, false)
theorem sem_canterref04_Lists_Head (l : Option Pt) (R : Rs.T [.lf (.int .i64), .lf .bool, .lf .bool] → WP) : Same (semF Tryz.prog Tryz.f38 (.s .o (.s (.s .o (.s (.s .o .o) .o)) (.s (.s .o (.s (.s .o .o) .o)) (.s .o .o)))) [.lf (.ptr l)] [.lf (.int .i64), .lf .bool, .lf .bool] R) (fun w => W_canterref04_Lists_Head l R w) := ⟨by kernel_rfl⟩
theorem call_canterref04_Lists_Head (l : Option Pt) (R : Rs.T [.lf (.int .i64), .lf .bool, .lf .bool] → WP) (w : World) (h : W_canterref04_Lists_Head l R w) :
    CallX Tryz.prog N_canterref04_Lists_Head ([.lf (.ptr l)].map V1.enc) w fun v w' => ∃ x, v = (retTV (Rs.mk [.lf (.int .i64), .lf .bool, .lf .bool] x)).enc ∧ R x w' :=
  callX_of_semF Tryz.func38 (by kernel_rfl) (by kernel_rfl) (sem_canterref04_Lists_Head l R) h


/-- (*canter/canterref04.Lists).Place -/
def W_canterref04_Lists_Place (l : Option Pt) (sock : Int) (R : Rs.T [.lf (.int .i64)] → WP) : WP :=
  deref l fun q1 =>
  ld [.sl] q1 fun (x2 : Sl) =>
  call Tryz.prog N_canterhelp_In_int [.lf (.sl x2), .lf (.int .i64 sock)] [.lf .bool] fun (r3 : Bool) =>
  ite' r3 (
  R (1:Int)) <|
  deref l fun q4 =>
  ld [.sl] ⟨q4.b, q4.o + 1⟩ fun (x5 : Sl) =>
  call Tryz.prog N_canterhelp_In_int [.lf (.sl x5), .lf (.int .i64 sock)] [.lf .bool] fun (r6 : Bool) =>
  ite' r6 (
  R (2:Int)) <|
  R (0:Int)
theorem sem_canterref04_Lists_Place (l : Option Pt) (sock : Int) (R : Rs.T [.lf (.int .i64)] → WP) : Same (semF Tryz.prog Tryz.f83 (.s .o (.s (.b (.s .o (.s (.s .o .o) (.s .o (.s (.s .o .o) .o))))) (.s .o .o))) [.lf (.ptr l), .lf (.int .i64 sock)] [.lf (.int .i64)] R) (fun w => W_canterref04_Lists_Place l sock R w) := ⟨by kernel_rfl⟩
theorem call_canterref04_Lists_Place (l : Option Pt) (sock : Int) (R : Rs.T [.lf (.int .i64)] → WP) (w : World) (h : W_canterref04_Lists_Place l sock R w) :
    CallX Tryz.prog N_canterref04_Lists_Place ([.lf (.ptr l), .lf (.int .i64 sock)].map V1.enc) w fun v w' => ∃ x, v = (retTV (Rs.mk [.lf (.int .i64)] x)).enc ∧ R x w' :=
  callX_of_semF Tryz.func83 (by kernel_rfl) (by kernel_rfl) (sem_canterref04_Lists_Place l sock R) h


/-- (*canter/canterref04.Lists).Push -/
def W_canterref04_Lists_Push (l : Option Pt) (sock : Int) (fresh : Bool) (R : Rs.T [.lf (.int .i64)] → WP) : WP :=
  ite' ((decide (sock < (0:Int))) || (decide (sock ≥ (8:Int)))) (
  R (8:Int)) <|
  call Tryz.prog N_canterref04_Lists_Place [.lf (.ptr l), .lf (.int .i64 sock)] [.lf (.int .i64)] fun (r1 : Int) =>
  ite' (r1 != (0:Int)) (
  R (6:Int)) <|
  ite' fresh (
  deref l fun q2 =>
  ld [.sl] q2 fun (x3 : Sl) =>
  app 1 ⟨none, 0, 0⟩ x3 fun s4 =>
  new [.int .i64 sock] fun n5 =>
  app 1 s4 ⟨some ⟨n5, 0⟩, 1, 1⟩ fun s6 =>
  deref l fun q7 =>
  st q7 [.sl s6] <|
  R (0:Int)) <|
  deref l fun q8 =>
  ld [.sl] ⟨q8.b, q8.o + 1⟩ fun (x9 : Sl) =>
  app 1 ⟨none, 0, 0⟩ x9 fun s10 =>
  new [.int .i64 sock] fun n11 =>
  app 1 s10 ⟨some ⟨n11, 0⟩, 1, 1⟩ fun s12 =>
  deref l fun q13 =>
  st ⟨q13.b, q13.o + 1⟩ [.sl s12] <|
  R (0:Int)
theorem sem_canterref04_Lists_Push (l : Option Pt) (sock : Int) (fresh : Bool) (R : Rs.T [.lf (.int .i64)] → WP) : Same (semF Tryz.prog Tryz.f57 (.s .o (.s (.s .o (.s (.s .o .o) .o)) (.s (.s .o (.s (.s .o .o) .o)) (.s (.s .o (.s .o .o)) (.s .o .o))))) [.lf (.ptr l), .lf (.int .i64 sock), .lf (.bool fresh)] [.lf (.int .i64)] R) (fun w => W_canterref04_Lists_Push l sock fresh R w) := ⟨by kernel_rfl⟩
theorem call_canterref04_Lists_Push (l : Option Pt) (sock : Int) (fresh : Bool) (R : Rs.T [.lf (.int .i64)] → WP) (w : World) (h : W_canterref04_Lists_Push l sock fresh R w) :
    CallX Tryz.prog N_canterref04_Lists_Push ([.lf (.ptr l), .lf (.int .i64 sock), .lf (.bool fresh)].map V1.enc) w fun v w' => ∃ x, v = (retTV (Rs.mk [.lf (.int .i64)] x)).enc ∧ R x w' :=
  callX_of_semF Tryz.func57 (by kernel_rfl) (by kernel_rfl) (sem_canterref04_Lists_Push l sock fresh R) h


/-- (*canter/canterref04.Lists).Remove -/
def W_canterref04_Lists_Remove (l : Option Pt) (sock : Int) (R : Rs.T [.lf .bool] → WP) : WP :=
  call Tryz.prog N_canterref04_Lists_Place [.lf (.ptr l), .lf (.int .i64 sock)] [.lf (.int .i64)] fun (r1 : Int) =>
  drw <|
  deref l fun q2 =>
  deref l fun q3 =>
  ld [.sl] q2 fun (x4 : Sl) =>
  ld [.sl] ⟨q3.b, q3.o + 1⟩ fun (x5 : Sl) =>
  call Tryz.prog N_canterref04_without [.lf (.sl x4), .lf (.int .i64 sock)] [.lf .sl] fun (r6 : Sl) =>
  chk ⟨q3.b, q3.o + 1⟩ (Ks.mk [.sl] x5) <|
  call Tryz.prog N_canterref04_without [.lf (.sl x5), .lf (.int .i64 sock)] [.lf .sl] fun (r7 : Sl) =>
  deref l fun q8 =>
  st q8 [.sl r6] <|
  deref l fun q9 =>
  st ⟨q9.b, q9.o + 1⟩ [.sl r7] <|
  R (r1 != (0:Int))
theorem sem_canterref04_Lists_Remove (l : Option Pt) (sock : Int) (R : Rs.T [.lf .bool] → WP) : Same (semF Tryz.prog Tryz.f51 (.s .o (.s .o (.s (.d (.f 0 [0] (.f 1 [0] (.f 2 [0] (.f 6 [1] (.f 8 [0] (.f 12 [1] (.f 3 [12] (.f 9 [18] (.f 4 [13] (.f 10 [19] (.f 5 [14] (.f 11 [20] (.w 7 [15, 16] (.w 13 [21, 22] (.f 14 [10] (.f 15 [24] (.w 16 [17, 25] (.f 17 [11] (.f 18 [26] (.w 19 [23, 27] .fin))))))))))))))))))))) (.s .o .o)))) [.lf (.ptr l), .lf (.int .i64 sock)] [.lf .bool] R) (fun w => W_canterref04_Lists_Remove l sock R w) := ⟨by kernel_rfl⟩
theorem call_canterref04_Lists_Remove (l : Option Pt) (sock : Int) (R : Rs.T [.lf .bool] → WP) (w : World) (h : W_canterref04_Lists_Remove l sock R w) :
    CallX Tryz.prog N_canterref04_Lists_Remove ([.lf (.ptr l), .lf (.int .i64 sock)].map V1.enc) w fun v w' => ∃ x, v = (retTV (Rs.mk [.lf .bool] x)).enc ∧ R x w' :=
  callX_of_semF Tryz.func51 (by kernel_rfl) (by kernel_rfl) (sem_canterref04_Lists_Remove l sock R) h


/-- canter/canterref04.without -/
def W_canterref04_without (l : Sl) (x : Int) (R : Rs.T [.lf .sl] → WP) : WP :=
  loop [.sl, .int .i64] (⟨none, 0, 0⟩, (0:Int)) fun J1 (y2 : Sl × Int) =>
  ite' (decide (y2.2 < ((l.len : Nat) : Int))) (
  idx l y2.2 1 fun q3 =>
  ld [.int .i64] q3 fun (x4 : Int) =>
  ite' (x4 != x) (
  idx l y2.2 1 fun q5 =>
  ld [.int .i64] q5 fun (x6 : Int) =>
  new [.int .i64 x6] fun n7 =>
  app 1 y2.1 ⟨some ⟨n7, 0⟩, 1, 1⟩ fun s8 =>
  J1 (s8, (IntKind.i64.wrap (y2.2 + (1:Int))))) <|
  J1 (y2.1, (IntKind.i64.wrap (y2.2 + (1:Int))))) <|
  R y2.1
theorem sem_canterref04_without (l : Sl) (x : Int) (R : Rs.T [.lf .sl] → WP) : Same (semF Tryz.prog Tryz.f84 (.s .o (.s .o (.s (.s .o (.b (.l [(5, .lf .sl), (6, .lf (.int .i64))] (.s (.s .o (.s .o .o)) (.s (.b (.s .o (.s .o .o))) .o))))) (.s .o .o)))) [.lf (.sl l), .lf (.int .i64 x)] [.lf .sl] R) (fun w => W_canterref04_without l x R w) := ⟨by kernel_rfl⟩
theorem call_canterref04_without (l : Sl) (x : Int) (R : Rs.T [.lf .sl] → WP) (w : World) (h : W_canterref04_without l x R w) :
    CallX Tryz.prog N_canterref04_without ([.lf (.sl l), .lf (.int .i64 x)].map V1.enc) w fun v w' => ∃ x, v = (retTV (Rs.mk [.lf .sl] x)).enc ∧ R x w' :=
  callX_of_semF Tryz.func84 (by kernel_rfl) (by kernel_rfl) (sem_canterref04_without l x R) h


/-- canter/canterref20.May -/
def W_canterref20_May (d : T_i4u2bi2) (R : Rs.T [.lf .bool] → WP) : WP :=
  new (Ks.mk K_i4u2bi2 d) fun n1 =>
  ld [.int .i64] ⟨n1, 0⟩ fun (x2 : Int) =>
  ite' (decide (x2 ≥ (100:Int))) (
  ld [.int .i64] ⟨n1, 0⟩ fun (x3 : Int) =>
  ite' (decide (x3 ≤ (65536:Int))) (
  ld [.int .i64] ⟨n1, 1⟩ fun (x4 : Int) =>
  ite' (decide (x4 ≥ (100:Int))) (
  ld [.int .i64] ⟨n1, 1⟩ fun (x5 : Int) =>
  ite' (decide (x5 ≤ (65536:Int))) (
  ld [.int .i64] ⟨n1, 2⟩ fun (x6 : Int) =>
  ite' (decide (x6 ≥ (1:Int))) (
  ld [.int .i64] ⟨n1, 2⟩ fun (x7 : Int) =>
  ite' (decide (x7 ≤ (512:Int))) (
  ld [.int .i64] ⟨n1, 3⟩ fun (x8 : Int) =>
  ite' (decide (x8 ≥ (1:Int))) (
  ld [.int .i64] ⟨n1, 3⟩ fun (x9 : Int) =>
  ite' (decide (x9 ≤ (512:Int))) (
  ld [.int .u64] ⟨n1, 4⟩ fun (x10 : Int) =>
  ite' (decide (x10 ≤ (4611686018427387904:Int))) (
  ld [.int .i64] ⟨n1, 7⟩ fun (x11 : Int) =>
  ite' (decide (x11 ≥ (1:Int))) (
  ld [.int .i64] ⟨n1, 7⟩ fun (x12 : Int) =>
  ite' (decide (x12 ≤ (1073741824:Int))) (
  ld [.int .i64] ⟨n1, 8⟩ fun (x13 : Int) =>
  ite' (decide (x13 ≥ (100:Int))) (
  ld [.int .i64] ⟨n1, 8⟩ fun (x14 : Int) =>
  R (decide (x14 ≤ (9000:Int)))) <|
  R false) <|
  R false) <|
  R false) <|
  R false) <|
  R false) <|
  R false) <|
  R false) <|
  R false) <|
  R false) <|
  R false) <|
  R false) <|
  R false
theorem sem_canterref20_May (d : T_i4u2bi2) (R : Rs.T [.lf .bool] → WP) : Same (semF Tryz.prog Tryz.f13 (.s .o (.s .o .o)) [.agg (Ks.mk K_i4u2bi2 d)] [.lf .bool] R) (fun w => W_canterref20_May d R w) := ⟨by kernel_rfl⟩
theorem call_canterref20_May (d : T_i4u2bi2) (R : Rs.T [.lf .bool] → WP) (w : World) (h : W_canterref20_May d R w) :
    CallX Tryz.prog N_canterref20_May ([.agg (Ks.mk K_i4u2bi2 d)].map V1.enc) w fun v w' => ∃ x, v = (retTV (Rs.mk [.lf .bool] x)).enc ∧ R x w' :=
  callX_of_semF Tryz.func13 (by kernel_rfl) (by kernel_rfl) (sem_canterref20_May d R) h


/-- canter/canterref20.Plain -/
def W_canterref20_Plain  (R : Rs.T [.agg K_i4u2bi2] → WP) : WP :=
  new [.int .i64 (0:Int), .int .i64 (0:Int), .int .i64 (0:Int), .int .i64 (0:Int), .int .u64 (0:Int), .int .u64 (0:Int), .bool false, .int .i64 (0:Int), .int .i64 (0:Int)] fun n1 =>
  st ⟨n1, 0⟩ [.int .i64 (3000:Int), .int .i64 (15000:Int), .int .i64 (100:Int), .int .i64 (50:Int), .int .u64 (10000000000:Int), .int .u64 (0:Int), .bool false, .int .i64 (100000:Int), .int .i64 (1000:Int)] <|
  ld K_i4u2bi2 ⟨n1, 0⟩ fun (x2 : T_i4u2bi2) =>
  R x2
theorem sem_canterref20_Plain  (R : Rs.T [.agg K_i4u2bi2] → WP) : Same (semF Tryz.prog Tryz.f22 (.s .o (.s .o .o)) [] [.agg K_i4u2bi2] R) (fun w => W_canterref20_Plain  R w) := ⟨by kernel_rfl⟩
theorem call_canterref20_Plain  (R : Rs.T [.agg K_i4u2bi2] → WP) (w : World) (h : W_canterref20_Plain  R w) :
    CallX Tryz.prog N_canterref20_Plain ([].map V1.enc) w fun v w' => ∃ x, v = (retTV (Rs.mk [.agg K_i4u2bi2] x)).enc ∧ R x w' :=
  callX_of_semF Tryz.func22 (by kernel_rfl) (by kernel_rfl) (sem_canterref20_Plain  R) h


/-- (*canter/canterref20.Queue).Close -/
def W_canterref20_Queue_Close (q : Option Pt) (i : Int) (R : Rs.T [.lf .sl] → WP) : WP :=
  join [] (fun J1 =>
  ite' ((decide (i < (0:Int))) || (decide (i ≥ (8:Int)))) (
  R ⟨none, 0, 0⟩) <|
  deref q fun q3 =>
  req (0 ≤ i ∧ i < 8) <|
  ld [.bool] ⟨q3.b, q3.o + 57 + i.toNat * 1⟩ fun (x4 : Bool) =>
  ite' (!x4) (
  R ⟨none, 0, 0⟩) <|
  J1 ()) fun (y2 : Unit) =>
  deref q fun q5 =>
  req (0 ≤ i ∧ i < 8) <|
  ld [.sl] ⟨q5.b, q5.o + 9 + i.toNat * 6 + 5⟩ fun (x6 : Sl) =>
  deref q fun q7 =>
  call Tryz.prog N_canterref04_Lists_Remove [.lf (.ptr (some ⟨q7.b, q7.o + 65⟩)), .lf (.int .i64 i)] [.lf .bool] fun (r8 : Bool) =>
  drw <|
  deref q fun q9 =>
  deref q fun q10 =>
  req (0 ≤ i ∧ i < 8) <|
  st ⟨q9.b, q9.o + 57 + i.toNat * 1⟩ [.bool false] <|
  req (0 ≤ i ∧ i < 8) <|
  st ⟨q10.b, q10.o + 9 + i.toNat * 6⟩ [.int .i64 (0:Int), .int .i64 (0:Int), .int .i64 (0:Int), .int .u64 (0:Int), .int .u64 (0:Int), .sl ⟨none, 0, 0⟩] <|
  R x6
theorem sem_canterref20_Queue_Close (q : Option Pt) (i : Int) (R : Rs.T [.lf .sl] → WP) : Same (semF Tryz.prog Tryz.f17 (.s .o (.j [] (.s .o (.s (.s .o .o) .o)) (.s .o (.s .o (.s (.d (.f 0 [0] (.f 1 [1] (.f 2 [0] (.f 3 [1] (.f 4 [] (.f 5 [33] (.f 9 [35] (.f 6 [38] (.f 10 [41] (.f 7 [34, 39] (.w 8 [40] (.f 11 [36, 42] (.w 12 [37, 43] .fin)))))))))))))) (.s .o .o)))))) [.lf (.ptr q), .lf (.int .i64 i)] [.lf .sl] R) (fun w => W_canterref20_Queue_Close q i R w) := ⟨by kernel_rfl⟩
theorem call_canterref20_Queue_Close (q : Option Pt) (i : Int) (R : Rs.T [.lf .sl] → WP) (w : World) (h : W_canterref20_Queue_Close q i R w) :
    CallX Tryz.prog N_canterref20_Queue_Close ([.lf (.ptr q), .lf (.int .i64 i)].map V1.enc) w fun v w' => ∃ x, v = (retTV (Rs.mk [.lf .sl] x)).enc ∧ R x w' :=
  callX_of_semF Tryz.func17 (by kernel_rfl) (by kernel_rfl) (sem_canterref20_Queue_Close q i R) h


/-- (*canter/canterref20.Queue).Dequeue -/
def W_canterref20_Queue_Dequeue (d : Option Pt) (o : Int) (a : Sl) (R : Rs.T [.agg K_iuiub, .lf .bool] → WP) : WP :=
  new [.int .i64 (0:Int), .int .u64 (0:Int), .int .i64 (0:Int), .int .u64 (0:Int), .bool false] fun n1 =>
  join [] (fun J2 =>
  call Tryz.prog N_canterref20_Queue_first [.lf (.ptr d)] [.lf (.int .i64)] fun (r4 : Int) =>
  loop [.int .i64] r4 fun J5 (y6 : Int) =>
  join [] (fun J7 =>
  ite' (decide (y6 ≥ (0:Int))) (
  deref d fun q9 =>
  req (0 ≤ y6 ∧ y6 < 8) <|
  ld K_i3u2s ⟨q9.b, q9.o + 9 + y6.toNat * 6⟩ fun (x10 : T_i3u2s) =>
  call Tryz.prog N_canterref20_Time [.agg (Ks.mk K_i3u2s x10)] [.lf (.int .u64)] fun (r11 : Int) =>
  ite' (decide (r11 ≤ o)) (
  J7 ()) <|
  J2 ()) <|
  J2 ()) fun (y8 : Unit) =>
  call Tryz.prog N_canterref20_Queue_put [.lf (.ptr d), .lf (.int .i64 y6), .lf (.int .i64 (2:Int))] [] fun (r12 : Unit) =>
  call Tryz.prog N_canterref20_Queue_first [.lf (.ptr d)] [.lf (.int .i64)] fun (r13 : Int) =>
  J5 r13) fun (y3 : Unit) =>
  loop [] () fun J14 (y15 : Unit) =>
  deref d fun q16 =>
  call Tryz.prog N_canterref04_Lists_Head [.lf (.ptr (some ⟨q16.b, q16.o + 65⟩))] [.lf (.int .i64), .lf .bool, .lf .bool] fun (r17 : Int × Bool × Bool) =>
  ite' (!r17.2.2) (
  st ⟨n1, 0⟩ [.int .i64 (0:Int), .int .u64 (0:Int), .int .i64 (0:Int), .int .u64 (0:Int), .bool false] <|
  ld K_iuiub ⟨n1, 0⟩ fun (x18 : T_iuiub) =>
  R (x18, false)) <|
  deref d fun q19 =>
  req (0 ≤ r17.1 ∧ r17.1 < 8) <|
  deref (some ⟨q19.b, q19.o + 9 + r17.1.toNat * 6⟩) fun q20 =>
  ld [.int .i64] ⟨q20.b, q20.o + 1⟩ fun (x21 : Int) =>
  ite' (decide (x21 ≤ (0:Int))) (
  drw <|
  deref (some ⟨q19.b, q19.o + 9 + r17.1.toNat * 6⟩) fun q22 =>
  deref d fun q23 =>
  ld [.int .i64] ⟨q22.b, q22.o + 1⟩ fun (x24 : Int) =>
  ld [.int .i64] q23 fun (x25 : Int) =>
  deref (some ⟨q19.b, q19.o + 9 + r17.1.toNat * 6⟩) fun q26 =>
  st ⟨q26.b, q26.o + 1⟩ [.int .i64 (IntKind.i64.wrap (x24 + x25))] <|
  call Tryz.prog N_canterref20_Queue_put [.lf (.ptr d), .lf (.int .i64 r17.1), .lf (.int .i64 (2:Int))] [] fun (r27 : Unit) =>
  J14 ()) <|
  join [.bool] (fun J28 =>
  deref (some ⟨q19.b, q19.o + 9 + r17.1.toNat * 6⟩) fun q30 =>
  ld [.sl] ⟨q30.b, q30.o + 5⟩ fun (x31 : Sl) =>
  ite' ((((x31.len : Nat) : Int) == (0:Int)) && r17.2.1) (
  deref d fun q32 =>
  ld [.sl] ⟨q32.b, q32.o + 66⟩ fun (x33 : Sl) =>
  J28 (decide (((x33.len : Nat) : Int) > (0:Int)))) <|
  J28 false) fun (y29 : Bool) =>
  ite' y29 (
  call Tryz.prog N_canterref20_Queue_put [.lf (.ptr d), .lf (.int .i64 r17.1), .lf (.int .i64 (2:Int))] [] fun (r34 : Unit) =>
  J14 ()) <|
  deref (some ⟨q19.b, q19.o + 9 + r17.1.toNat * 6⟩) fun q35 =>
  ld [.sl] ⟨q35.b, q35.o + 5⟩ fun (x36 : Sl) =>
  ite' (((x36.len : Nat) : Int) == (0:Int)) (
  call Tryz.prog N_canterref20_Queue_put [.lf (.ptr d), .lf (.int .i64 r17.1), .lf (.int .i64 (0:Int))] [] fun (r37 : Unit) =>
  deref (some ⟨q19.b, q19.o + 9 + r17.1.toNat * 6⟩) fun q38 =>
  st ⟨q38.b, q38.o + 4⟩ [.int .u64 o] <|
  J14 ()) <|
  deref (some ⟨q19.b, q19.o + 9 + r17.1.toNat * 6⟩) fun q39 =>
  ld K_i3u2s q39 fun (x40 : T_i3u2s) =>
  call Tryz.prog N_canterref20_Time [.agg (Ks.mk K_i3u2s x40)] [.lf (.int .u64)] fun (r41 : Int) =>
  ite' (decide (r41 > o)) (
  call Tryz.prog N_canterref20_Queue_put [.lf (.ptr d), .lf (.int .i64 r17.1), .lf (.int .i64 (3:Int))] [] fun (r42 : Unit) =>
  J14 ()) <|
  deref (some ⟨q19.b, q19.o + 9 + r17.1.toNat * 6⟩) fun q43 =>
  ld [.sl] ⟨q43.b, q43.o + 5⟩ fun (x44 : Sl) =>
  idx x44 (0:Int) 5 fun q45 =>
  ld K_iuiub q45 fun (x46 : T_iuiub) =>
  new [.int .i64 (0:Int), .int .u64 (0:Int), .int .i64 (0:Int), .int .u64 (0:Int), .bool false] fun n47 =>
  st ⟨n47, 0⟩ (Ks.mk K_iuiub x46) <|
  deref (some ⟨q19.b, q19.o + 9 + r17.1.toNat * 6⟩) fun q48 =>
  ld [.sl] ⟨q48.b, q48.o + 5⟩ fun (x49 : Sl) =>
  slc x49 (some (1:Int)) none none 5 fun s50 =>
  app 5 ⟨none, 0, 0⟩ s50 fun s51 =>
  deref (some ⟨q19.b, q19.o + 9 + r17.1.toNat * 6⟩) fun q52 =>
  st ⟨q52.b, q52.o + 5⟩ [.sl s51] <|
  drw <|
  deref (some ⟨q19.b, q19.o + 9 + r17.1.toNat * 6⟩) fun q53 =>
  ld [.int .i64] ⟨n47, 2⟩ fun (x54 : Int) =>
  ld [.int .i64] ⟨q53.b, q53.o + 1⟩ fun (x55 : Int) =>
  deref (some ⟨q19.b, q19.o + 9 + r17.1.toNat * 6⟩) fun q56 =>
  st ⟨q56.b, q56.o + 1⟩ [.int .i64 (IntKind.i64.wrap (x55 - x54))] <|
  drw <|
  ld [.int .i64] ⟨n47, 2⟩ fun (x57 : Int) =>
  deref d fun q58 =>
  ld [.int .u64] ⟨q58.b, q58.o + 5⟩ fun (x59 : Int) =>
  call Tryz.prog N_canterref20_rate [.lf (.sl a), .lf (.int .i64 r17.1)] [.lf (.int .u64)] fun (r60 : Int) =>
  chk ⟨q58.b, q58.o + 5⟩ (Ks.mk [.int .u64] x59) <|
  chk ⟨n47, 2⟩ (Ks.mk [.int .i64] x57) <|
  call Tryz.prog N_canterref01_Lesser [.lf (.int .u64 r60), .lf (.int .u64 x59)] [.lf (.int .u64)] fun (r61 : Int) =>
  chk ⟨n47, 2⟩ (Ks.mk [.int .i64] x57) <|
  call Tryz.prog N_canterref01_Delay [.lf (.int .i64 x57), .lf (.int .u64 r61)] [.lf (.int .u64)] fun (r62 : Int) =>
  call Tryz.prog N_canterref01_Add [.lf (.int .u64 o), .lf (.int .u64 r62)] [.lf (.int .u64)] fun (r63 : Int) =>
  deref (some ⟨q19.b, q19.o + 9 + r17.1.toNat * 6⟩) fun q64 =>
  st ⟨q64.b, q64.o + 3⟩ [.int .u64 r63] <|
  ld K_iuiub ⟨n47, 0⟩ fun (x65 : T_iuiub) =>
  st ⟨n1, 0⟩ (Ks.mk K_iuiub x65) <|
  ld K_iuiub ⟨n1, 0⟩ fun (x66 : T_iuiub) =>
  R (x66, true)
theorem sem_canterref20_Queue_Dequeue (d : Option Pt) (o : Int) (a : Sl) (R : Rs.T [.agg K_iuiub, .lf .bool] → WP) : Same (semF Tryz.prog Tryz.f10 (.s .o (.j [] (.s .o (.b (.l [(8, .lf (.int .i64))] (.j [] (.s .o (.s .o .o)) (.s (.b .o) .o))))) (.b (.l [] (.b (.s .o (.s (.s .o (.s (.s .o .o) .o)) (.s .o (.b (.s .o (.s (.s (.d (.f 0 [12] (.f 1 [12] (.f 5 [0] (.f 2 [100] (.f 6 [104] (.f 3 [101] (.f 7 [105] (.f 4 [102] (.f 8 [106] (.f 9 [107] (.f 10 [103, 108] (.f 11 [99] (.f 12 [110] (.w 13 [109, 111] .fin))))))))))))))) .o) (.j [(115, .lf .bool)] .o (.s .o (.s .o (.s (.s .o .o) (.s .o (.s .o (.s .o (.s .o (.s (.d (.f 0 [12] (.f 1 [12] (.f 5 [13] (.f 2 [66] (.f 6 [70] (.f 3 [67] (.f 4 [68] (.f 7 [69, 71] (.f 8 [65] (.f 9 [73] (.w 10 [72, 74] .fin)))))))))))) (.s (.d (.f 0 [12] (.f 1 [1] (.f 2 [13] (.f 4 [2] (.f 5 [9] (.f 7 [0] (.f 3 [77] (.f 8 [82] (.f 9 [83] (.f 10 [84] (.f 11 [85] (.w 6 [79, 80] (.w 12 [81, 86] (.w 13 [78, 87] (.w 14 [76, 88] (.f 15 [75] (.f 16 [90] (.w 17 [89, 91] .fin))))))))))))))))))) (.s .o .o)))))))))))))))))))))) [.lf (.ptr d), .lf (.int .u64 o), .lf (.sl a)] [.agg K_iuiub, .lf .bool] R) (fun w => W_canterref20_Queue_Dequeue d o a R w) := ⟨by kernel_rfl⟩
theorem call_canterref20_Queue_Dequeue (d : Option Pt) (o : Int) (a : Sl) (R : Rs.T [.agg K_iuiub, .lf .bool] → WP) (w : World) (h : W_canterref20_Queue_Dequeue d o a R w) :
    CallX Tryz.prog N_canterref20_Queue_Dequeue ([.lf (.ptr d), .lf (.int .u64 o), .lf (.sl a)].map V1.enc) w fun v w' => ∃ x, v = (retTV (Rs.mk [.agg K_iuiub, .lf .bool] x)).enc ∧ R x w' :=
  callX_of_semF Tryz.func10 (by kernel_rfl) (by kernel_rfl) (sem_canterref20_Queue_Dequeue d o a R) h


/-- (*canter/canterref20.Queue).Enqueue -/
def W_canterref20_Queue_Enqueue (d : Option Pt) (o : T_iuiub) (a : Int) (R : Rs.T [.lf (.int .i64), .lf (.int .i64)] → WP) : WP :=
  new (Ks.mk K_iuiub o) fun n1 =>
  join [] (fun J2 =>
  ld [.int .i64] ⟨n1, 0⟩ fun (x4 : Int) =>
  ite' (decide (x4 < (0:Int))) (
  R ((0:Int), (8:Int))) <|
  ld [.int .i64] ⟨n1, 0⟩ fun (x5 : Int) =>
  ite' (decide (x5 ≥ (8:Int))) (
  R ((0:Int), (8:Int))) <|
  J2 ()) fun (y3 : Unit) =>
  join [] (fun J6 =>
  ld [.int .i64] ⟨n1, 2⟩ fun (x8 : Int) =>
  ite' (decide (x8 < (1:Int))) (
  R ((0:Int), (1:Int))) <|
  ld [.int .i64] ⟨n1, 2⟩ fun (x9 : Int) =>
  ite' (decide (x9 > (65536:Int))) (
  R ((0:Int), (1:Int))) <|
  J6 ()) fun (y7 : Unit) =>
  call Tryz.prog N_canterref20_Queue_collect [.lf (.ptr d), .lf (.int .u64 a)] [] fun (r10 : Unit) =>
  drw <|
  ld [.int .i64] ⟨n1, 0⟩ fun (x11 : Int) =>
  deref d fun q12 =>
  req (0 ≤ x11 ∧ x11 < 8) <|
  deref d fun q13 =>
  ld [.int .u64] ⟨q13.b, q13.o + 4⟩ fun (x14 : Int) =>
  call Tryz.prog N_canterref01_Add [.lf (.int .u64 a), .lf (.int .u64 x14)] [.lf (.int .u64)] fun (r15 : Int) =>
  join [] (fun J16 =>
  drw <|
  deref d fun q18 =>
  ld [.int .i64] ⟨q18.b, q18.o + 2⟩ fun (x19 : Int) =>
  call Tryz.prog N_canterref20_Queue_Len [.lf (.ptr d)] [.lf (.int .i64)] fun (r20 : Int) =>
  chk ⟨q18.b, q18.o + 2⟩ (Ks.mk [.int .i64] x19) <|
  ite' (decide (r20 ≥ x19)) (
  R ((2:Int), (0:Int))) <|
  drw <|
  deref (some ⟨q12.b, q12.o + 9 + x11.toNat * 6⟩) fun q21 =>
  deref d fun q22 =>
  ld [.sl] ⟨q21.b, q21.o + 5⟩ fun (x23 : Sl) =>
  ld [.int .i64] ⟨q22.b, q22.o + 3⟩ fun (x24 : Int) =>
  ite' (decide (((x23.len : Nat) : Int) ≥ x24)) (
  R ((3:Int), (0:Int))) <|
  ld [.int .u64] ⟨n1, 3⟩ fun (x25 : Int) =>
  ite' (decide (x25 > r15)) (
  deref d fun q26 =>
  ld [.bool] ⟨q26.b, q26.o + 6⟩ fun (x27 : Bool) =>
  ite' x27 (
  R ((4:Int), (0:Int))) <|
  J16 ()) <|
  J16 ()) fun (y17 : Unit) =>
  ld [.int .u64] ⟨n1, 3⟩ fun (x28 : Int) =>
  st ⟨n1, 3⟩ [.int .u64 (if r15 < x28 then r15 else x28)] <|
  join [] (fun J29 =>
  drw <|
  ld [.int .i64] ⟨n1, 0⟩ fun (x31 : Int) =>
  deref d fun q32 =>
  req (0 ≤ x31 ∧ x31 < 8) <|
  ld [.bool] ⟨q32.b, q32.o + 57 + x31.toNat * 1⟩ fun (x33 : Bool) =>
  ite' (!x33) (
  drw <|
  ld [.int .i64] ⟨n1, 0⟩ fun (x34 : Int) =>
  deref d fun q35 =>
  req (0 ≤ x34 ∧ x34 < 8) <|
  st ⟨q35.b, q35.o + 57 + x34.toNat * 1⟩ [.bool true] <|
  drw <|
  ld [.int .i64] ⟨n1, 0⟩ fun (x36 : Int) =>
  deref d fun q37 =>
  ld [.int .i64] ⟨q37.b, q37.o + 1⟩ fun (x38 : Int) =>
  deref (some ⟨q12.b, q12.o + 9 + x11.toNat * 6⟩) fun q39 =>
  st q39 [.int .i64 x36, .int .i64 x38, .int .i64 (0:Int), .int .u64 (0:Int), .int .u64 (0:Int), .sl ⟨none, 0, 0⟩] <|
  J29 ()) <|
  join [.bool] (fun J40 =>
  deref (some ⟨q12.b, q12.o + 9 + x11.toNat * 6⟩) fun q42 =>
  ld [.int .i64] ⟨q42.b, q42.o + 2⟩ fun (x43 : Int) =>
  ite' (x43 == (0:Int)) (
  deref (some ⟨q12.b, q12.o + 9 + x11.toNat * 6⟩) fun q44 =>
  ld [.int .u64] ⟨q44.b, q44.o + 4⟩ fun (x45 : Int) =>
  call Tryz.prog N_canterref01_Add [.lf (.int .u64 x45), .lf (.int .u64 (40000000:Int))] [.lf (.int .u64)] fun (r46 : Int) =>
  J40 (decide (r46 ≤ a))) <|
  J40 false) fun (y41 : Bool) =>
  ite' y41 (
  drw <|
  deref (some ⟨q12.b, q12.o + 9 + x11.toNat * 6⟩) fun q47 =>
  deref d fun q48 =>
  ld [.int .i64] ⟨q47.b, q47.o + 1⟩ fun (x49 : Int) =>
  ld [.int .i64] q48 fun (x50 : Int) =>
  deref (some ⟨q12.b, q12.o + 9 + x11.toNat * 6⟩) fun q51 =>
  st ⟨q51.b, q51.o + 1⟩ [.int .i64 (if x50 > x49 then x50 else x49)] <|
  J29 ()) <|
  J29 ()) fun (y30 : Unit) =>
  drw <|
  ld K_iuiub ⟨n1, 0⟩ fun (x52 : T_iuiub) =>
  deref (some ⟨q12.b, q12.o + 9 + x11.toNat * 6⟩) fun q53 =>
  ld [.sl] ⟨q53.b, q53.o + 5⟩ fun (x54 : Sl) =>
  both (
  app 5 ⟨none, 0, 0⟩ x54 fun s55 =>
  chk ⟨n1, 0⟩ (Ks.mk K_iuiub x52) <|
  new [.int .i64 x52.1, .int .u64 x52.2.1, .int .i64 x52.2.2.1, .int .u64 x52.2.2.2.1, .bool x52.2.2.2.2] fun n56 =>
  chk ⟨q53.b, q53.o + 5⟩ (Ks.mk [.sl] x54) <|
  app 5 s55 ⟨some ⟨n56, 0⟩, 1, 1⟩ fun s57 =>
  deref (some ⟨q12.b, q12.o + 9 + x11.toNat * 6⟩) fun q58 =>
  st ⟨q58.b, q58.o + 5⟩ [.sl s57] <|
  deref (some ⟨q12.b, q12.o + 9 + x11.toNat * 6⟩) fun q59 =>
  ld [.int .i64] ⟨q59.b, q59.o + 2⟩ fun (x60 : Int) =>
  ite' (x60 == (0:Int)) (
  deref (some ⟨q12.b, q12.o + 9 + x11.toNat * 6⟩) fun q61 =>
  st ⟨q61.b, q61.o + 2⟩ [.int .i64 (1:Int)] <|
  deref (some ⟨q12.b, q12.o + 9 + x11.toNat * 6⟩) fun q62 =>
  st ⟨q62.b, q62.o + 4⟩ [.int .u64 (0:Int)] <|
  drw <|
  deref d fun q63 =>
  ld [.int .i64] ⟨n1, 0⟩ fun (x64 : Int) =>
  call Tryz.prog N_canterref04_Lists_Push [.lf (.ptr (some ⟨q63.b, q63.o + 65⟩)), .lf (.int .i64 x64), .lf (.bool true)] [.lf (.int .i64)] fun (r65 : Int) =>
  R ((0:Int), (0:Int))) <|
  R ((0:Int), (0:Int))) <|
  new [.int .i64 x52.1, .int .u64 x52.2.1, .int .i64 x52.2.2.1, .int .u64 x52.2.2.2.1, .bool x52.2.2.2.2] fun n66 =>
  chk ⟨q53.b, q53.o + 5⟩ (Ks.mk [.sl] x54) <|
  app 5 ⟨none, 0, 0⟩ x54 fun s67 =>
  chk ⟨n1, 0⟩ (Ks.mk K_iuiub x52) <|
  app 5 s67 ⟨some ⟨n66, 0⟩, 1, 1⟩ fun s68 =>
  deref (some ⟨q12.b, q12.o + 9 + x11.toNat * 6⟩) fun q69 =>
  st ⟨q69.b, q69.o + 5⟩ [.sl s68] <|
  deref (some ⟨q12.b, q12.o + 9 + x11.toNat * 6⟩) fun q70 =>
  ld [.int .i64] ⟨q70.b, q70.o + 2⟩ fun (x71 : Int) =>
  ite' (x71 == (0:Int)) (
  deref (some ⟨q12.b, q12.o + 9 + x11.toNat * 6⟩) fun q72 =>
  st ⟨q72.b, q72.o + 2⟩ [.int .i64 (1:Int)] <|
  deref (some ⟨q12.b, q12.o + 9 + x11.toNat * 6⟩) fun q73 =>
  st ⟨q73.b, q73.o + 4⟩ [.int .u64 (0:Int)] <|
  drw <|
  deref d fun q74 =>
  ld [.int .i64] ⟨n1, 0⟩ fun (x75 : Int) =>
  call Tryz.prog N_canterref04_Lists_Push [.lf (.ptr (some ⟨q74.b, q74.o + 65⟩)), .lf (.int .i64 x75), .lf (.bool true)] [.lf (.int .i64)] fun (r76 : Int) =>
  R ((0:Int), (0:Int))) <|
  R ((0:Int), (0:Int))
theorem sem_canterref20_Queue_Enqueue (d : Option Pt) (o : T_iuiub) (a : Int) (R : Rs.T [.lf (.int .i64), .lf (.int .i64)] → WP) : Same (semF Tryz.prog Tryz.f20 (.s .o (.j [] (.s .o (.s (.s .o .o) .o)) (.j [] (.s .o (.s (.s .o .o) .o)) (.s .o (.s (.d (.f 0 [0] (.f 1 [4] (.f 2 [30] (.f 3 [29] (.f 4 [32] (.f 5 [31, 33] (.w 6 [34] .fin)))))))) (.s .o (.j [] (.b (.s (.d (.f 0 [0] (.f 2 [0] (.f 3 [45] (.f 4 [46] (.f 5 [47] (.f 6 [48] (.w 1 [43] (.f 7 [44, 49] (.w 8 [50] .fin)))))))))) (.s (.s .o .o) (.s (.d (.f 0 [8] (.f 5 [0] (.f 1 [52] (.f 6 [57] (.f 2 [53] (.f 7 [58] (.f 3 [54] (.f 8 [59] (.f 4 [55] (.f 9 [60] (.f 10 [56, 61] (.w 11 [62] .fin))))))))))))) (.s (.s .o .o) (.s .o (.s (.s .o .o) .o))))))) (.s .o (.j [] (.s (.d (.f 0 [0] (.f 1 [4] (.f 2 [81] (.f 3 [80] (.f 4 [83] (.f 5 [82, 84] (.f 6 [85] (.f 7 [86] .fin))))))))) (.s (.s (.d (.f 0 [0] (.f 1 [4] (.f 2 [89] (.f 3 [88] (.f 4 [91] (.f 5 [90, 92] (.w 6 [93] .fin)))))))) (.d (.f 0 [8] (.f 1 [4] (.f 3 [0] (.f 2 [95] (.f 4 [97] (.f 5 [98] (.f 6 [99] (.f 7 [100] (.f 8 [96, 101] (.f 9 [94] (.w 10 [102, 103] .fin))))))))))))) (.j [(117, .lf .bool)] .o (.s (.d (.f 0 [8] (.f 1 [8] (.f 5 [0] (.f 2 [119] (.f 6 [123] (.f 3 [120] (.f 7 [124] (.f 4 [121] (.f 8 [125] (.f 9 [126] (.f 10 [122, 127] (.f 11 [118] (.f 12 [129] (.w 13 [128, 130] .fin))))))))))))))) .o)))) (.s (.d (.f 0 [8] (.f 1 [8] (.f 6 [4] (.f 2 [132] (.f 3 [133] (.f 4 [134] (.wa 5 [135] (.w 7 [137] (.w 8 [136, 138] (.f 9 [131] (.f 10 [140] (.w 11 [139, 141] .fin))))) (.w 7 [137] (.w 5 [135] (.w 8 [136, 138] (.f 9 [131] (.f 10 [140] (.w 11 [139, 141] .fin)))))))))))))) (.s (.s .o (.s (.s .o (.d (.f 0 [0] (.f 3 [4] (.f 1 [153] (.f 4 [156] (.f 2 [154] (.w 5 [155, 157] .fin)))))))) .o)) (.s .o .o)))))))))))) [.lf (.ptr d), .agg (Ks.mk K_iuiub o), .lf (.int .u64 a)] [.lf (.int .i64), .lf (.int .i64)] R) (fun w => W_canterref20_Queue_Enqueue d o a R w) := ⟨by kernel_rfl⟩
theorem call_canterref20_Queue_Enqueue (d : Option Pt) (o : T_iuiub) (a : Int) (R : Rs.T [.lf (.int .i64), .lf (.int .i64)] → WP) (w : World) (h : W_canterref20_Queue_Enqueue d o a R w) :
    CallX Tryz.prog N_canterref20_Queue_Enqueue ([.lf (.ptr d), .agg (Ks.mk K_iuiub o), .lf (.int .u64 a)].map V1.enc) w fun v w' => ∃ x, v = (retTV (Rs.mk [.lf (.int .i64), .lf (.int .i64)] x)).enc ∧ R x w' :=
  callX_of_semF Tryz.func20 (by kernel_rfl) (by kernel_rfl) (sem_canterref20_Queue_Enqueue d o a R) h


/-- (*canter/canterref20.Queue).Flow -/
def W_canterref20_Queue_Flow (q : Option Pt) (i : Int) (R : Rs.T [.agg K_i3u2s, .lf .bool] → WP) : WP :=
  new [.int .i64 (0:Int), .int .i64 (0:Int), .int .i64 (0:Int), .int .u64 (0:Int), .int .u64 (0:Int), .sl ⟨none, 0, 0⟩] fun n1 =>
  join [] (fun J2 =>
  ite' ((decide (i < (0:Int))) || (decide (i ≥ (8:Int)))) (
  st ⟨n1, 0⟩ [.int .i64 (0:Int), .int .i64 (0:Int), .int .i64 (0:Int), .int .u64 (0:Int), .int .u64 (0:Int), .sl ⟨none, 0, 0⟩] <|
  ld K_i3u2s ⟨n1, 0⟩ fun (x4 : T_i3u2s) =>
  R (x4, false)) <|
  deref q fun q5 =>
  req (0 ≤ i ∧ i < 8) <|
  ld [.bool] ⟨q5.b, q5.o + 57 + i.toNat * 1⟩ fun (x6 : Bool) =>
  ite' (!x6) (
  st ⟨n1, 0⟩ [.int .i64 (0:Int), .int .i64 (0:Int), .int .i64 (0:Int), .int .u64 (0:Int), .int .u64 (0:Int), .sl ⟨none, 0, 0⟩] <|
  ld K_i3u2s ⟨n1, 0⟩ fun (x7 : T_i3u2s) =>
  R (x7, false)) <|
  J2 ()) fun (y3 : Unit) =>
  deref q fun q8 =>
  req (0 ≤ i ∧ i < 8) <|
  ld K_i3u2s ⟨q8.b, q8.o + 9 + i.toNat * 6⟩ fun (x9 : T_i3u2s) =>
  new [.int .i64 (0:Int), .int .i64 (0:Int), .int .i64 (0:Int), .int .u64 (0:Int), .int .u64 (0:Int), .sl ⟨none, 0, 0⟩] fun n10 =>
  st ⟨n10, 0⟩ (Ks.mk K_i3u2s x9) <|
  ld [.sl] ⟨n10, 5⟩ fun (x11 : Sl) =>
  app 5 ⟨none, 0, 0⟩ x11 fun s12 =>
  st ⟨n10, 5⟩ [.sl s12] <|
  ld K_i3u2s ⟨n10, 0⟩ fun (x13 : T_i3u2s) =>
  st ⟨n1, 0⟩ (Ks.mk K_i3u2s x13) <|
  ld K_i3u2s ⟨n1, 0⟩ fun (x14 : T_i3u2s) =>
  R (x14, true)
theorem sem_canterref20_Queue_Flow (q : Option Pt) (i : Int) (R : Rs.T [.agg K_i3u2s, .lf .bool] → WP) : Same (semF Tryz.prog Tryz.f61 (.s .o (.j [] (.s .o (.s (.s .o .o) .o)) (.s .o (.s .o (.s .o .o))))) [.lf (.ptr q), .lf (.int .i64 i)] [.agg K_i3u2s, .lf .bool] R) (fun w => W_canterref20_Queue_Flow q i R w) := ⟨by kernel_rfl⟩
theorem call_canterref20_Queue_Flow (q : Option Pt) (i : Int) (R : Rs.T [.agg K_i3u2s, .lf .bool] → WP) (w : World) (h : W_canterref20_Queue_Flow q i R w) :
    CallX Tryz.prog N_canterref20_Queue_Flow ([.lf (.ptr q), .lf (.int .i64 i)].map V1.enc) w fun v w' => ∃ x, v = (retTV (Rs.mk [.agg K_i3u2s, .lf .bool] x)).enc ∧ R x w' :=
  callX_of_semF Tryz.func61 (by kernel_rfl) (by kernel_rfl) (sem_canterref20_Queue_Flow q i R) h


/-- (*canter/canterref20.Queue).Len -/
def W_canterref20_Queue_Len (q : Option Pt) (R : Rs.T [.lf (.int .i64)] → WP) : WP :=
  loop [.int .i64, .int .i64] ((0:Int), (0:Int)) fun J1 (y2 : Int × Int) =>
  ite' (decide (y2.2 < (8:Int))) (
  deref q fun q3 =>
  req (0 ≤ y2.2 ∧ y2.2 < 8) <|
  ld [.sl] ⟨q3.b, q3.o + 9 + y2.2.toNat * 6 + 5⟩ fun (x4 : Sl) =>
  J1 ((IntKind.i64.wrap (y2.1 + ((x4.len : Nat) : Int))), (IntKind.i64.wrap (y2.2 + (1:Int))))) <|
  R y2.1
theorem sem_canterref20_Queue_Len (q : Option Pt) (R : Rs.T [.lf (.int .i64)] → WP) : Same (semF Tryz.prog Tryz.f56 (.s .o (.s .o (.s (.s .o (.b (.l [(3, .lf (.int .i64)), (4, .lf (.int .i64))] (.s (.s .o (.s .o .o)) (.s (.b .o) .o))))) (.s .o .o)))) [.lf (.ptr q)] [.lf (.int .i64)] R) (fun w => W_canterref20_Queue_Len q R w) := ⟨by kernel_rfl⟩
theorem call_canterref20_Queue_Len (q : Option Pt) (R : Rs.T [.lf (.int .i64)] → WP) (w : World) (h : W_canterref20_Queue_Len q R w) :
    CallX Tryz.prog N_canterref20_Queue_Len ([.lf (.ptr q)].map V1.enc) w fun v w' => ∃ x, v = (retTV (Rs.mk [.lf (.int .i64)] x)).enc ∧ R x w' :=
  callX_of_semF Tryz.func56 (by kernel_rfl) (by kernel_rfl) (sem_canterref20_Queue_Len q R) h


/-- (*canter/canterref20.Queue).Watchdog -/
def W_canterref20_Queue_Watchdog (q : Option Pt) (R : Rs.T [.lf (.int .u64), .lf .bool] → WP) : WP :=
  call Tryz.prog N_canterref20_Queue_first [.lf (.ptr q)] [.lf (.int .i64)] fun (r1 : Int) =>
  ite' (decide (r1 < (0:Int))) (
  R ((0:Int), false)) <|
  deref q fun q2 =>
  req (0 ≤ r1 ∧ r1 < 8) <|
  ld K_i3u2s ⟨q2.b, q2.o + 9 + r1.toNat * 6⟩ fun (x3 : T_i3u2s) =>
  call Tryz.prog N_canterref20_Time [.agg (Ks.mk K_i3u2s x3)] [.lf (.int .u64)] fun (r4 : Int) =>
  R (r4, true)
theorem sem_canterref20_Queue_Watchdog (q : Option Pt) (R : Rs.T [.lf (.int .u64), .lf .bool] → WP) : Same (semF Tryz.prog Tryz.f59 (.s .o (.s .o (.s (.s .o (.s (.s .o .o) .o)) (.s .o .o)))) [.lf (.ptr q)] [.lf (.int .u64), .lf .bool] R) (fun w => W_canterref20_Queue_Watchdog q R w) := ⟨by kernel_rfl⟩
theorem call_canterref20_Queue_Watchdog (q : Option Pt) (R : Rs.T [.lf (.int .u64), .lf .bool] → WP) (w : World) (h : W_canterref20_Queue_Watchdog q R w) :
    CallX Tryz.prog N_canterref20_Queue_Watchdog ([.lf (.ptr q)].map V1.enc) w fun v w' => ∃ x, v = (retTV (Rs.mk [.lf (.int .u64), .lf .bool] x)).enc ∧ R x w' :=
  callX_of_semF Tryz.func59 (by kernel_rfl) (by kernel_rfl) (sem_canterref20_Queue_Watchdog q R) h


/-- (*canter/canterref20.Queue).collect -/
def W_canterref20_Queue_collect (q : Option Pt) (now : Int) (R : Rs.T [] → WP) : WP :=
  loop [.int .i64] (0:Int) fun J1 (y2 : Int) =>
  ite' (decide (y2 < (8:Int))) (
  join [.bool] (fun J3 =>
  deref q fun q5 =>
  req (0 ≤ y2 ∧ y2 < 8) <|
  ld [.bool] ⟨q5.b, q5.o + 57 + y2.toNat * 1⟩ fun (x6 : Bool) =>
  ite' x6 (
  deref q fun q7 =>
  req (0 ≤ y2 ∧ y2 < 8) <|
  ld [.int .i64] ⟨q7.b, q7.o + 9 + y2.toNat * 6 + 2⟩ fun (x8 : Int) =>
  ite' (x8 == (0:Int)) (
  deref q fun q9 =>
  req (0 ≤ y2 ∧ y2 < 8) <|
  ld [.int .u64] ⟨q9.b, q9.o + 9 + y2.toNat * 6 + 4⟩ fun (x10 : Int) =>
  call Tryz.prog N_canterref01_Add [.lf (.int .u64 x10), .lf (.int .u64 (3000000000:Int))] [.lf (.int .u64)] fun (r11 : Int) =>
  J3 (decide (r11 ≤ now))) <|
  J3 false) <|
  J3 false) fun (y4 : Bool) =>
  ite' y4 (
  drw <|
  deref q fun q12 =>
  deref q fun q13 =>
  req (0 ≤ y2 ∧ y2 < 8) <|
  st ⟨q12.b, q12.o + 57 + y2.toNat * 1⟩ [.bool false] <|
  req (0 ≤ y2 ∧ y2 < 8) <|
  st ⟨q13.b, q13.o + 9 + y2.toNat * 6⟩ [.int .i64 (0:Int), .int .i64 (0:Int), .int .i64 (0:Int), .int .u64 (0:Int), .int .u64 (0:Int), .sl ⟨none, 0, 0⟩] <|
  J1 (IntKind.i64.wrap (y2 + (1:Int)))) <|
  J1 (IntKind.i64.wrap (y2 + (1:Int)))) <|
  R ()
theorem sem_canterref20_Queue_collect (q : Option Pt) (now : Int) (R : Rs.T [] → WP) : Same (semF Tryz.prog Tryz.f55 (.s .o (.b (.l [(4, .lf (.int .i64))] (.s (.s .o (.s .o .o)) (.s (.b (.j [(36, .lf .bool)] .o (.s (.d (.f 0 [0] (.f 1 [4] (.f 2 [0] (.f 3 [4] (.f 4 [] (.f 5 [37] (.f 9 [39] (.f 6 [42] (.f 10 [45] (.f 7 [38, 43] (.w 8 [44] (.f 11 [40, 46] (.w 12 [41, 47] .fin)))))))))))))) .o))) .o))))) [.lf (.ptr q), .lf (.int .u64 now)] [] R) (fun w => W_canterref20_Queue_collect q now R w) := ⟨by kernel_rfl⟩
theorem call_canterref20_Queue_collect (q : Option Pt) (now : Int) (R : Rs.T [] → WP) (w : World) (h : W_canterref20_Queue_collect q now R w) :
    CallX Tryz.prog N_canterref20_Queue_collect ([.lf (.ptr q), .lf (.int .u64 now)].map V1.enc) w fun v w' => ∃ x, v = (retTV (Rs.mk [] x)).enc ∧ R x w' :=
  callX_of_semF Tryz.func55 (by kernel_rfl) (by kernel_rfl) (sem_canterref20_Queue_collect q now R) h


/-- (*canter/canterref20.Queue).first -/
def W_canterref20_Queue_first (q : Option Pt) (R : Rs.T [.lf (.int .i64)] → WP) : WP :=
  loop [.int .i64, .int .i64] ((-1:Int), (0:Int)) fun J1 (y2 : Int × Int) =>
  ite' (decide (y2.2 < (8:Int))) (
  join [.bool] (fun J3 =>
  drw <|
  deref q fun q5 =>
  req (0 ≤ y2.2 ∧ y2.2 < 8) <|
  ld [.bool] ⟨q5.b, q5.o + 57 + y2.2.toNat * 1⟩ fun (x6 : Bool) =>
  ite' x6 (
  deref q fun q7 =>
  req (0 ≤ y2.2 ∧ y2.2 < 8) <|
  ld [.int .i64] ⟨q7.b, q7.o + 9 + y2.2.toNat * 6 + 2⟩ fun (x8 : Int) =>
  ite' (x8 == (3:Int)) (
  ite' (decide (y2.1 < (0:Int))) (
  J3 true) <|
  deref q fun q9 =>
  deref q fun q10 =>
  req (0 ≤ y2.2 ∧ y2.2 < 8) <|
  req (0 ≤ y2.1 ∧ y2.1 < 8) <|
  ld K_i3u2s ⟨q9.b, q9.o + 9 + y2.2.toNat * 6⟩ fun (x11 : T_i3u2s) =>
  ld K_i3u2s ⟨q10.b, q10.o + 9 + y2.1.toNat * 6⟩ fun (x12 : T_i3u2s) =>
  call Tryz.prog N_canterref20_Time [.agg (Ks.mk K_i3u2s x11)] [.lf (.int .u64)] fun (r13 : Int) =>
  chk ⟨q10.b, q10.o + 9 + y2.1.toNat * 6⟩ (Ks.mk K_i3u2s x12) <|
  call Tryz.prog N_canterref20_Time [.agg (Ks.mk K_i3u2s x12)] [.lf (.int .u64)] fun (r14 : Int) =>
  J3 (decide (r13 < r14))) <|
  J3 false) <|
  J3 false) fun (y4 : Bool) =>
  ite' y4 (
  J1 (y2.2, (IntKind.i64.wrap (y2.2 + (1:Int))))) <|
  J1 (y2.1, (IntKind.i64.wrap (y2.2 + (1:Int))))) <|
  R y2.1
theorem sem_canterref20_Queue_first (q : Option Pt) (R : Rs.T [.lf (.int .i64)] → WP) : Same (semF Tryz.prog Tryz.f35 (.s .o (.s .o (.s (.s .o (.b (.l [(3, .lf (.int .i64)), (4, .lf (.int .i64))] (.s (.s .o (.s .o .o)) (.s (.b (.j [(45, .lf .bool)] (.d (.f 0 [0] (.f 1 [4] (.f 2 [9] (.f 3 [11] (.f 4 [10, 12] (.f 5 [13] (.f 6 [14] (.f 7 [0, 15] (.f 8 [4, 15] (.f 9 [15, 16] (.f 10 [15, 18] (.f 11 [15, 17, 19] (.f 12 [15, 20] (.f 13 [15, 21] (.f 14 [15, 22] (.f 15 [15, 23] (.f 16 [24] (.f 17 [3, 25] (.f 18 [25, 26] (.f 19 [25, 27] (.f 20 [0, 28] (.f 21 [4, 28] (.f 27 [0, 28] (.f 28 [3, 28] (.f 22 [28, 29] (.f 29 [28, 36] (.f 23 [28, 31] (.f 30 [28, 38] (.f 24 [28, 30, 32] (.f 31 [28, 37, 39] (.f 25 [28, 33] (.f 32 [28, 40] (.w 26 [28, 34] (.w 33 [28, 41] (.f 34 [28, 35, 42] (.f 35 [25, 28, 43] (.f 36 [25, 44] .fin)))))))))))))))))))))))))))))))))))))) (.s .o .o))) .o))))) (.s .o .o)))) [.lf (.ptr q)] [.lf (.int .i64)] R) (fun w => W_canterref20_Queue_first q R w) := ⟨by kernel_rfl⟩
theorem call_canterref20_Queue_first (q : Option Pt) (R : Rs.T [.lf (.int .i64)] → WP) (w : World) (h : W_canterref20_Queue_first q R w) :
    CallX Tryz.prog N_canterref20_Queue_first ([.lf (.ptr q)].map V1.enc) w fun v w' => ∃ x, v = (retTV (Rs.mk [.lf (.int .i64)] x)).enc ∧ R x w' :=
  callX_of_semF Tryz.func35 (by kernel_rfl) (by kernel_rfl) (sem_canterref20_Queue_first q R) h


/-- (*canter/canterref20.Queue).put -/
def W_canterref20_Queue_put (q : Option Pt) (i : Int) (place : Int) (R : Rs.T [] → WP) : WP :=
  deref q fun q1 =>
  call Tryz.prog N_canterref04_Lists_Remove [.lf (.ptr (some ⟨q1.b, q1.o + 65⟩)), .lf (.int .i64 i)] [.lf .bool] fun (r2 : Bool) =>
  deref q fun q3 =>
  req (0 ≤ i ∧ i < 8) <|
  st ⟨q3.b, q3.o + 9 + i.toNat * 6 + 2⟩ [.int .i64 place] <|
  ite' ((place == (1:Int)) || (place == (2:Int))) (
  deref q fun q4 =>
  call Tryz.prog N_canterref04_Lists_Push [.lf (.ptr (some ⟨q4.b, q4.o + 65⟩)), .lf (.int .i64 i), .lf (.bool (place == (1:Int)))] [.lf (.int .i64)] fun (r5 : Int) =>
  R ()) <|
  R ()
theorem sem_canterref20_Queue_put (q : Option Pt) (i : Int) (place : Int) (R : Rs.T [] → WP) : Same (semF Tryz.prog Tryz.f37 (.s .o (.s .o (.s .o (.s .o .o)))) [.lf (.ptr q), .lf (.int .i64 i), .lf (.int .i64 place)] [] R) (fun w => W_canterref20_Queue_put q i place R w) := ⟨by kernel_rfl⟩
theorem call_canterref20_Queue_put (q : Option Pt) (i : Int) (place : Int) (R : Rs.T [] → WP) (w : World) (h : W_canterref20_Queue_put q i place R w) :
    CallX Tryz.prog N_canterref20_Queue_put ([.lf (.ptr q), .lf (.int .i64 i), .lf (.int .i64 place)].map V1.enc) w fun v w' => ∃ x, v = (retTV (Rs.mk [] x)).enc ∧ R x w' :=
  callX_of_semF Tryz.func37 (by kernel_rfl) (by kernel_rfl) (sem_canterref20_Queue_put q i place R) h


/-- canter/canterref20.Time -/
def W_canterref20_Time (f : T_i3u2s) (R : Rs.T [.lf (.int .u64)] → WP) : WP :=
  new (Ks.mk K_i3u2s f) fun n1 =>
  drw <|
  ld [.int .u64] ⟨n1, 3⟩ fun (x2 : Int) =>
  ld [.sl] ⟨n1, 5⟩ fun (x3 : Sl) =>
  idx x3 (0:Int) 5 fun q4 =>
  ld [.int .u64] ⟨q4.b, q4.o + 3⟩ fun (x5 : Int) =>
  R (if x5 > x2 then x5 else x2)
theorem sem_canterref20_Time (f : T_i3u2s) (R : Rs.T [.lf (.int .u64)] → WP) : Same (semF Tryz.prog Tryz.f36 (.s .o (.s (.d (.f 0 [1] (.f 2 [1] (.f 1 [3] (.f 3 [5] (.f 4 [6] (.f 5 [7] (.f 6 [8] (.f 7 [4, 9] (.w 8 [10] .fin)))))))))) .o)) [.agg (Ks.mk K_i3u2s f)] [.lf (.int .u64)] R) (fun w => W_canterref20_Time f R w) := ⟨by kernel_rfl⟩
theorem call_canterref20_Time (f : T_i3u2s) (R : Rs.T [.lf (.int .u64)] → WP) (w : World) (h : W_canterref20_Time f R w) :
    CallX Tryz.prog N_canterref20_Time ([.agg (Ks.mk K_i3u2s f)].map V1.enc) w fun v w' => ∃ x, v = (retTV (Rs.mk [.lf (.int .u64)] x)).enc ∧ R x w' :=
  callX_of_semF Tryz.func36 (by kernel_rfl) (by kernel_rfl) (sem_canterref20_Time f R) h


/-- canter/canterref20.rate -/
def W_canterref20_rate (rates : Sl) (i : Int) (R : Rs.T [.lf (.int .u64)] → WP) : WP :=
  ite' (decide (i < ((rates.len : Nat) : Int))) (
  idx rates i 1 fun q1 =>
  ld [.int .u64] q1 fun (x2 : Int) =>
  R x2) <|
  R (18446744073709551615:Int)
theorem sem_canterref20_rate (rates : Sl) (i : Int) (R : Rs.T [.lf (.int .u64)] → WP) : Same (semF Tryz.prog Tryz.f41 (.s .o (.s (.s .o (.s (.s .o .o) .o)) (.s .o .o))) [.lf (.sl rates), .lf (.int .i64 i)] [.lf (.int .u64)] R) (fun w => W_canterref20_rate rates i R w) := ⟨by kernel_rfl⟩
theorem call_canterref20_rate (rates : Sl) (i : Int) (R : Rs.T [.lf (.int .u64)] → WP) (w : World) (h : W_canterref20_rate rates i R w) :
    CallX Tryz.prog N_canterref20_rate ([.lf (.sl rates), .lf (.int .i64 i)].map V1.enc) w fun v w' => ∃ x, v = (retTV (Rs.mk [.lf (.int .u64)] x)).enc ∧ R x w' :=
  callX_of_semF Tryz.func41 (by kernel_rfl) (by kernel_rfl) (sem_canterref20_rate rates i R) h


/-- cmp.Compare[uint64] -/
def W_cmp_Compare_uint64 (x : Int) (y : Int) (R : Rs.T [.lf (.int .i64)] → WP) : WP :=
  call Tryz.prog N_cmp_isNaN_uint64 [.lf (.int .u64 x)] [.lf .bool] fun (r1 : Bool) =>
  call Tryz.prog N_cmp_isNaN_uint64 [.lf (.int .u64 y)] [.lf .bool] fun (r2 : Bool) =>
  ite' r1 (
  ite' r2 (
  R (0:Int)) <|
  R (-1:Int)) <|
  ite' r2 (
  R (1:Int)) <|
  ite' (decide (x < y)) (
  R (-1:Int)) <|
  ite' (decide (x > y)) (
  R (1:Int)) <|
  R (0:Int)
theorem sem_cmp_Compare_uint64 (x : Int) (y : Int) (R : Rs.T [.lf (.int .i64)] → WP) : Same (semF Tryz.prog Tryz.f102 (.s .o (.s .o (.s .o (.s (.s .o (.s (.s (.s .o (.s (.s .o .o) .o)) (.s .o .o)) .o)) (.s (.s .o (.s (.s .o .o) .o)) (.s (.s .o (.s (.s .o .o) .o)) (.s (.s .o (.s (.s .o .o) .o)) (.s .o .o)))))))) [.lf (.int .u64 x), .lf (.int .u64 y)] [.lf (.int .i64)] R) (fun w => W_cmp_Compare_uint64 x y R w) := ⟨by kernel_rfl⟩
theorem call_cmp_Compare_uint64 (x : Int) (y : Int) (R : Rs.T [.lf (.int .i64)] → WP) (w : World) (h : W_cmp_Compare_uint64 x y R w) :
    CallX Tryz.prog N_cmp_Compare_uint64 ([.lf (.int .u64 x), .lf (.int .u64 y)].map V1.enc) w fun v w' => ∃ x, v = (retTV (Rs.mk [.lf (.int .i64)] x)).enc ∧ R x w' :=
  callX_of_semF Tryz.func102 (by kernel_rfl) (by kernel_rfl) (sem_cmp_Compare_uint64 x y R) h


/-- cmp.Or[int] -/
def W_cmp_Or_int (vals : Sl) (R : Rs.T [.lf (.int .i64)] → WP) : WP :=
  loop [.int .i64] (0:Int) fun J1 (y2 : Int) =>
  ite' (decide (y2 < ((vals.len : Nat) : Int))) (
  idx vals y2 1 fun q3 =>
  ld [.int .i64] q3 fun (x4 : Int) =>
  ite' (x4 != (0:Int)) (
  R x4) <|
  J1 (IntKind.i64.wrap (y2 + (1:Int)))) <|
  R (0:Int)
theorem sem_cmp_Or_int (vals : Sl) (R : Rs.T [.lf (.int .i64)] → WP) : Same (semF Tryz.prog Tryz.f101 (.s .o (.s .o (.s (.s .o (.b (.l [(8, .lf (.int .i64))] (.s .o (.s (.s .o .o) (.s (.b (.s .o (.s .o (.s (.s .o .o) .o)))) .o)))))) (.s .o .o)))) [.lf (.sl vals)] [.lf (.int .i64)] R) (fun w => W_cmp_Or_int vals R w) := ⟨by kernel_rfl⟩
theorem call_cmp_Or_int (vals : Sl) (R : Rs.T [.lf (.int .i64)] → WP) (w : World) (h : W_cmp_Or_int vals R w) :
    CallX Tryz.prog N_cmp_Or_int ([.lf (.sl vals)].map V1.enc) w fun v w' => ∃ x, v = (retTV (Rs.mk [.lf (.int .i64)] x)).enc ∧ R x w' :=
  callX_of_semF Tryz.func101 (by kernel_rfl) (by kernel_rfl) (sem_cmp_Or_int vals R) h


/-- cmp.isNaN[uint64] -/
def W_cmp_isNaN_uint64 (x : Int) (R : Rs.T [.lf .bool] → WP) : WP :=
  R (x != x)
theorem sem_cmp_isNaN_uint64 (x : Int) (R : Rs.T [.lf .bool] → WP) : Same (semF Tryz.prog Tryz.f109 (.s .o (.s .o .o)) [.lf (.int .u64 x)] [.lf .bool] R) (fun w => W_cmp_isNaN_uint64 x R w) := ⟨by kernel_rfl⟩
theorem call_cmp_isNaN_uint64 (x : Int) (R : Rs.T [.lf .bool] → WP) (w : World) (h : W_cmp_isNaN_uint64 x R w) :
    CallX Tryz.prog N_cmp_isNaN_uint64 ([.lf (.int .u64 x)].map V1.enc) w fun v w' => ∃ x, v = (retTV (Rs.mk [.lf .bool] x)).enc ∧ R x w' :=
  callX_of_semF Tryz.func109 (by kernel_rfl) (by kernel_rfl) (sem_cmp_isNaN_uint64 x R) h


/-- canter/delay.Lesser -/
def W_delay_Lesser (a : Int) (b : Int) (R : Rs.T [.lf (.int .u64)] → WP) : WP :=
  loop [.int .u64, .int .i64] ((18446744073709551615:Int), (0:Int)) fun J1 (y2 : Int × Int) =>
  ite' (decide (y2.2 < (2:Int))) (
  ixa [.int .u64] [.int .u64 a, .int .u64 b] y2.2 2 1 fun (x3 : Int) =>
  ite' (x3 == (0:Int)) (
  J1 (y2.1, (IntKind.i64.wrap (y2.2 + (1:Int))))) <|
  J1 ((if x3 < y2.1 then x3 else y2.1), (IntKind.i64.wrap (y2.2 + (1:Int))))) <|
  R y2.1
theorem sem_delay_Lesser (a : Int) (b : Int) (R : Rs.T [.lf (.int .u64)] → WP) : Same (semF Tryz.prog Tryz.f73 (.s .o (.s .o (.s .o (.s (.s .o (.b (.l [(5, .lf (.int .u64)), (11, .lf (.int .i64))] (.s .o (.s (.s .o .o) (.s (.b (.s .o (.s (.s .o (.s .o .o)) .o))) .o)))))) (.s .o .o))))) [.lf (.int .u64 a), .lf (.int .u64 b)] [.lf (.int .u64)] R) (fun w => W_delay_Lesser a b R w) := ⟨by kernel_rfl⟩
theorem call_delay_Lesser (a : Int) (b : Int) (R : Rs.T [.lf (.int .u64)] → WP) (w : World) (h : W_delay_Lesser a b R w) :
    CallX Tryz.prog N_delay_Lesser ([.lf (.int .u64 a), .lf (.int .u64 b)].map V1.enc) w fun v w' => ∃ x, v = (retTV (Rs.mk [.lf (.int .u64)] x)).enc ∧ R x w' :=
  callX_of_semF Tryz.func73 (by kernel_rfl) (by kernel_rfl) (sem_delay_Lesser a b R) h


/-- canter/delay.Of -/
def W_delay_Of (size : Int) (rate : Int) (R : Rs.T [.lf (.int .u64)] → WP) : WP :=
  ite' ((decide (size < (1:Int))) || (rate == (18446744073709551615:Int))) (
  R (0:Int)) <|
  call Tryz.prog N_wide_MulDiv [.lf (.int .u64 (IntKind.u64.wrap size)), .lf (.int .u64 (1000000000:Int)), .lf (.int .u64 rate)] [.lf (.int .u64)] fun (r1 : Int) =>
  R (if (1000000000:Int) < r1 then (1000000000:Int) else r1)
theorem sem_delay_Of (size : Int) (rate : Int) (R : Rs.T [.lf (.int .u64)] → WP) : Same (semF Tryz.prog Tryz.f72 (.s .o (.s (.s .o (.s (.s .o .o) .o)) (.s .o .o))) [.lf (.int .i64 size), .lf (.int .u64 rate)] [.lf (.int .u64)] R) (fun w => W_delay_Of size rate R w) := ⟨by kernel_rfl⟩
theorem call_delay_Of (size : Int) (rate : Int) (R : Rs.T [.lf (.int .u64)] → WP) (w : World) (h : W_delay_Of size rate R w) :
    CallX Tryz.prog N_delay_Of ([.lf (.int .i64 size), .lf (.int .u64 rate)].map V1.enc) w fun v w' => ∃ x, v = (retTV (Rs.mk [.lf (.int .u64)] x)).enc ∧ R x w' :=
  callX_of_semF Tryz.func72 (by kernel_rfl) (by kernel_rfl) (sem_delay_Of size rate R) h


/-- canter/fq.May -/
def W_fq_May (c : T_i4u2bi2) (R : Rs.T [.lf .bool] → WP) : WP :=
  new (Ks.mk K_i4u2bi2 c) fun n1 =>
  ld [.int .i64] ⟨n1, 0⟩ fun (x2 : Int) =>
  call Tryz.prog N_fq_within [.lf (.int .i64 x2), .lf (.int .i64 (100:Int)), .lf (.int .i64 (65536:Int))] [.lf .bool] fun (r3 : Bool) =>
  ite' r3 (
  ld [.int .i64] ⟨n1, 1⟩ fun (x4 : Int) =>
  call Tryz.prog N_fq_within [.lf (.int .i64 x4), .lf (.int .i64 (100:Int)), .lf (.int .i64 (65536:Int))] [.lf .bool] fun (r5 : Bool) =>
  ite' r5 (
  ld [.int .i64] ⟨n1, 2⟩ fun (x6 : Int) =>
  call Tryz.prog N_fq_within [.lf (.int .i64 x6), .lf (.int .i64 (1:Int)), .lf (.int .i64 (512:Int))] [.lf .bool] fun (r7 : Bool) =>
  ite' r7 (
  ld [.int .i64] ⟨n1, 3⟩ fun (x8 : Int) =>
  call Tryz.prog N_fq_within [.lf (.int .i64 x8), .lf (.int .i64 (1:Int)), .lf (.int .i64 (512:Int))] [.lf .bool] fun (r9 : Bool) =>
  ite' r9 (
  ld [.int .u64] ⟨n1, 4⟩ fun (x10 : Int) =>
  ite' (decide (x10 ≤ (4611686018427387904:Int))) (
  ld [.int .i64] ⟨n1, 7⟩ fun (x11 : Int) =>
  call Tryz.prog N_fq_within [.lf (.int .i64 x11), .lf (.int .i64 (1:Int)), .lf (.int .i64 (1073741824:Int))] [.lf .bool] fun (r12 : Bool) =>
  ite' r12 (
  ld [.int .i64] ⟨n1, 8⟩ fun (x13 : Int) =>
  call Tryz.prog N_fq_within [.lf (.int .i64 x13), .lf (.int .i64 (100:Int)), .lf (.int .i64 (9000:Int))] [.lf .bool] fun (r14 : Bool) =>
  R r14) <|
  R false) <|
  R false) <|
  R false) <|
  R false) <|
  R false) <|
  R false
theorem sem_fq_May (c : T_i4u2bi2) (R : Rs.T [.lf .bool] → WP) : Same (semF Tryz.prog Tryz.f14 (.s .o (.s .o .o)) [.agg (Ks.mk K_i4u2bi2 c)] [.lf .bool] R) (fun w => W_fq_May c R w) := ⟨by kernel_rfl⟩
theorem call_fq_May (c : T_i4u2bi2) (R : Rs.T [.lf .bool] → WP) (w : World) (h : W_fq_May c R w) :
    CallX Tryz.prog N_fq_May ([.agg (Ks.mk K_i4u2bi2 c)].map V1.enc) w fun v w' => ∃ x, v = (retTV (Rs.mk [.lf .bool] x)).enc ∧ R x w' :=
  callX_of_semF Tryz.func14 (by kernel_rfl) (by kernel_rfl) (sem_fq_May c R) h


/-- canter/fq.New -/
def W_fq_New (c : T_i4u2bi2) (R : Rs.T [.lf .ptr, .lf (.int .i64)] → WP) : WP :=
  new (Ks.mk K_i4u2bi2 c) fun n1 =>
  ld K_i4u2bi2 ⟨n1, 0⟩ fun (x2 : T_i4u2bi2) =>
  call Tryz.prog N_fq_May [.agg (Ks.mk K_i4u2bi2 x2)] [.lf .bool] fun (r3 : Bool) =>
  ite' (!r3) (
  R (none, (13:Int))) <|
  drw <|
  ld K_i4u2bi2 ⟨n1, 0⟩ fun (x4 : T_i4u2bi2) =>
  call Tryz.prog N_lists_New [] [.lf .ptr] fun (r5 : Option Pt) =>
  chk ⟨n1, 0⟩ (Ks.mk K_i4u2bi2 x4) <|
  call Tryz.prog N_rbtree_New [.lf (.int .i64 (8:Int))] [.lf .ptr] fun (r6 : Option Pt) =>
  chk ⟨n1, 0⟩ (Ks.mk K_i4u2bi2 x4) <|
  new [.int .i64 x4.1, .int .i64 x4.2.1, .int .i64 x4.2.2.1, .int .i64 x4.2.2.2.1, .int .u64 x4.2.2.2.2.1, .int .u64 x4.2.2.2.2.2.1, .bool x4.2.2.2.2.2.2.1, .int .i64 x4.2.2.2.2.2.2.2.1, .int .i64 x4.2.2.2.2.2.2.2.2, .ptr none, .ptr none, .ptr none, .ptr none, .ptr none, .ptr none, .ptr none, .ptr none, .ptr r5, .ptr r6, .int .i64 (0:Int)] fun n7 =>
  R ((some ⟨n7, 0⟩), (0:Int))
theorem sem_fq_New (c : T_i4u2bi2) (R : Rs.T [.lf .ptr, .lf (.int .i64)] → WP) : Same (semF Tryz.prog Tryz.f5 (.s .o (.s (.s .o (.s (.s .o .o) .o)) (.s (.d (.f 0 [1] (.w 1 [] (.w 2 [] (.f 3 [7, 8, 9] (.w 4 [10] (.w 5 [11] (.w 6 [] .fin)))))))) .o))) [.agg (Ks.mk K_i4u2bi2 c)] [.lf .ptr, .lf (.int .i64)] R) (fun w => W_fq_New c R w) := ⟨by kernel_rfl⟩
theorem call_fq_New (c : T_i4u2bi2) (R : Rs.T [.lf .ptr, .lf (.int .i64)] → WP) (w : World) (h : W_fq_New c R w) :
    CallX Tryz.prog N_fq_New ([.agg (Ks.mk K_i4u2bi2 c)].map V1.enc) w fun v w' => ∃ x, v = (retTV (Rs.mk [.lf .ptr, .lf (.int .i64)] x)).enc ∧ R x w' :=
  callX_of_semF Tryz.func5 (by kernel_rfl) (by kernel_rfl) (sem_fq_New c R) h


/-- (*canter/fq.Queue).Close -/
def W_fq_Queue_Close (q : Option Pt) (sock : Int) (R : Rs.T [.lf .sl] → WP) : WP :=
  call Tryz.prog N_fq_Queue_has [.lf (.ptr q), .lf (.int .i64 sock)] [.lf .bool] fun (r1 : Bool) =>
  ite' (!r1) (
  R ⟨none, 0, 0⟩) <|
  deref q fun q2 =>
  req (0 ≤ sock ∧ sock < 8) <|
  ld [.ptr] ⟨q2.b, q2.o + 9 + sock.toNat * 1⟩ fun (x3 : Option Pt) =>
  join [] (fun J4 =>
  call Tryz.prog N_fq_Queue_place [.lf (.ptr q), .lf (.int .i64 sock)] [.lf (.int .i64)] fun (r6 : Int) =>
  ite' (r6 == (3:Int)) (
  drw <|
  deref q fun q7 =>
  ld [.ptr] ⟨q7.b, q7.o + 18⟩ fun (x8 : Option Pt) =>
  call Tryz.prog N_fq_key [.lf (.ptr x3), .lf (.int .i64 sock)] [.agg [.int .u64, .int .u64]] fun (r9 : (Int × Int)) =>
  chk ⟨q7.b, q7.o + 18⟩ (Ks.mk [.ptr] x8) <|
  call Tryz.prog N_rbtree_Tree_Delete [.lf (.ptr x8), .agg (Ks.mk [.int .u64, .int .u64] r9)] [.lf (.int .i64)] fun (r10 : Int) =>
  J4 ()) <|
  J4 ()) fun (y5 : Unit) =>
  deref q fun q11 =>
  ld [.ptr] ⟨q11.b, q11.o + 17⟩ fun (x12 : Option Pt) =>
  call Tryz.prog N_lists_Lists_Remove [.lf (.ptr x12), .lf (.int .i64 sock)] [.lf .bool] fun (r13 : Bool) =>
  deref q fun q14 =>
  req (0 ≤ sock ∧ sock < 8) <|
  st ⟨q14.b, q14.o + 9 + sock.toNat * 1⟩ [.ptr none] <|
  drw <|
  deref q fun q15 =>
  deref x3 fun q16 =>
  ld [.int .i64] ⟨q15.b, q15.o + 19⟩ fun (x17 : Int) =>
  ld [.sl] ⟨q16.b, q16.o + 3⟩ fun (x18 : Sl) =>
  deref q fun q19 =>
  st ⟨q19.b, q19.o + 19⟩ [.int .i64 (IntKind.i64.wrap (x17 - ((x18.len : Nat) : Int)))] <|
  deref x3 fun q20 =>
  ld [.sl] ⟨q20.b, q20.o + 3⟩ fun (x21 : Sl) =>
  call Tryz.prog N_slices_Clone_sapiSegapiSeg [.lf (.sl x21)] [.lf .sl] fun (r22 : Sl) =>
  R r22
theorem sem_fq_Queue_Close (q : Option Pt) (sock : Int) (R : Rs.T [.lf .sl] → WP) : Same (semF Tryz.prog Tryz.f16 (.s .o (.s (.s .o (.s (.s .o .o) .o)) (.s .o (.j [] (.s .o (.s (.d (.f 0 [0] (.f 4 [5] (.f 5 [1] (.f 1 [20] (.f 2 [21] (.f 3 [22] (.w 6 [24, 25] (.w 7 [23, 26] .fin))))))))) .o)) (.s .o (.s .o (.s (.d (.f 0 [0] (.f 4 [5] (.f 1 [39] (.f 5 [43] (.f 2 [40] (.f 6 [44] (.f 3 [41] (.f 7 [45] (.f 8 [46] (.f 9 [42, 47] (.f 10 [39] (.f 11 [49] (.w 12 [48, 50] .fin)))))))))))))) (.s .o .o)))))))) [.lf (.ptr q), .lf (.int .i64 sock)] [.lf .sl] R) (fun w => W_fq_Queue_Close q sock R w) := ⟨by kernel_rfl⟩
theorem call_fq_Queue_Close (q : Option Pt) (sock : Int) (R : Rs.T [.lf .sl] → WP) (w : World) (h : W_fq_Queue_Close q sock R w) :
    CallX Tryz.prog N_fq_Queue_Close ([.lf (.ptr q), .lf (.int .i64 sock)].map V1.enc) w fun v w' => ∃ x, v = (retTV (Rs.mk [.lf .sl] x)).enc ∧ R x w' :=
  callX_of_semF Tryz.func16 (by kernel_rfl) (by kernel_rfl) (sem_fq_Queue_Close q sock R) h


/-- (*canter/fq.Queue).Dequeue -/
def W_fq_Queue_Dequeue (d : Option Pt) (o : Int) (a : Sl) (R : Rs.T [.agg K_iuiub, .lf .bool] → WP) : WP :=
  new [.int .i64 (0:Int), .int .u64 (0:Int), .int .i64 (0:Int), .int .u64 (0:Int), .bool false] fun n1 =>
  ite' d.isNone (
  st ⟨n1, 0⟩ [.int .i64 (0:Int), .int .u64 (0:Int), .int .i64 (0:Int), .int .u64 (0:Int), .bool false] <|
  ld K_iuiub ⟨n1, 0⟩ fun (x2 : T_iuiub) =>
  R (x2, false)) <|
  call Tryz.prog N_fq_Queue_due [.lf (.ptr d), .lf (.int .u64 o)] [] fun (r3 : Unit) =>
  loop [] () fun J4 (y5 : Unit) =>
  deref d fun q6 =>
  ld [.ptr] ⟨q6.b, q6.o + 17⟩ fun (x7 : Option Pt) =>
  call Tryz.prog N_lists_Lists_Head [.lf (.ptr x7)] [.lf (.int .i64), .lf .bool, .lf .bool] fun (r8 : Int × Bool × Bool) =>
  ite' (!r8.2.2) (
  st ⟨n1, 0⟩ [.int .i64 (0:Int), .int .u64 (0:Int), .int .i64 (0:Int), .int .u64 (0:Int), .bool false] <|
  ld K_iuiub ⟨n1, 0⟩ fun (x9 : T_iuiub) =>
  R (x9, false)) <|
  deref d fun q10 =>
  req (0 ≤ r8.1 ∧ r8.1 < 8) <|
  ld [.ptr] ⟨q10.b, q10.o + 9 + r8.1.toNat * 1⟩ fun (x11 : Option Pt) =>
  deref x11 fun q12 =>
  ld [.int .i64] q12 fun (x13 : Int) =>
  ite' (decide (x13 ≤ (0:Int))) (
  drw <|
  deref x11 fun q14 =>
  deref d fun q15 =>
  ld [.int .i64] q14 fun (x16 : Int) =>
  ld [.int .i64] q15 fun (x17 : Int) =>
  deref x11 fun q18 =>
  st q18 [.int .i64 (IntKind.i64.wrap (x16 + x17))] <|
  deref d fun q19 =>
  ld [.ptr] ⟨q19.b, q19.o + 17⟩ fun (x20 : Option Pt) =>
  call Tryz.prog N_lists_Lists_Back [.lf (.ptr x20)] [.lf .bool] fun (r21 : Bool) =>
  J4 ()) <|
  join [.bool] (fun J22 =>
  deref x11 fun q24 =>
  ld [.sl] ⟨q24.b, q24.o + 3⟩ fun (x25 : Sl) =>
  ite' ((((x25.len : Nat) : Int) == (0:Int)) && r8.2.1) (
  call Tryz.prog N_fq_Queue_old [.lf (.ptr d)] [.lf .bool] fun (r26 : Bool) =>
  J22 r26) <|
  J22 false) fun (y23 : Bool) =>
  ite' y23 (
  deref d fun q27 =>
  ld [.ptr] ⟨q27.b, q27.o + 17⟩ fun (x28 : Option Pt) =>
  call Tryz.prog N_lists_Lists_Back [.lf (.ptr x28)] [.lf .bool] fun (r29 : Bool) =>
  J4 ()) <|
  deref x11 fun q30 =>
  ld [.sl] ⟨q30.b, q30.o + 3⟩ fun (x31 : Sl) =>
  ite' (((x31.len : Nat) : Int) == (0:Int)) (
  deref d fun q32 =>
  ld [.ptr] ⟨q32.b, q32.o + 17⟩ fun (x33 : Option Pt) =>
  call Tryz.prog N_lists_Lists_Drop [.lf (.ptr x33)] [.lf .bool] fun (r34 : Bool) =>
  deref x11 fun q35 =>
  st ⟨q35.b, q35.o + 2⟩ [.int .u64 o] <|
  J4 ()) <|
  call Tryz.prog N_fq_flow_time [.lf (.ptr x11)] [.lf (.int .u64)] fun (r36 : Int) =>
  ite' (decide (r36 > o)) (
  deref d fun q37 =>
  ld [.ptr] ⟨q37.b, q37.o + 17⟩ fun (x38 : Option Pt) =>
  call Tryz.prog N_lists_Lists_Drop [.lf (.ptr x38)] [.lf .bool] fun (r39 : Bool) =>
  drw <|
  deref d fun q40 =>
  ld [.ptr] ⟨q40.b, q40.o + 18⟩ fun (x41 : Option Pt) =>
  call Tryz.prog N_fq_key [.lf (.ptr x11), .lf (.int .i64 r8.1)] [.agg [.int .u64, .int .u64]] fun (r42 : (Int × Int)) =>
  chk ⟨q40.b, q40.o + 18⟩ (Ks.mk [.ptr] x41) <|
  call Tryz.prog N_rbtree_Tree_Insert [.lf (.ptr x41), .agg (Ks.mk [.int .u64, .int .u64] r42)] [.lf (.int .i64)] fun (r43 : Int) =>
  J4 ()) <|
  join [.int .u64] (fun J44 =>
  ite' (decide (r8.1 < ((a.len : Nat) : Int))) (
  idx a r8.1 1 fun q46 =>
  ld [.int .u64] q46 fun (x47 : Int) =>
  J44 x47) <|
  J44 (18446744073709551615:Int)) fun (y45 : Int) =>
  call Tryz.prog N_fq_Queue_send [.lf (.ptr d), .lf (.ptr x11), .lf (.int .u64 o), .lf (.int .u64 y45)] [.agg K_iuiub] fun (r48 : T_iuiub) =>
  st ⟨n1, 0⟩ (Ks.mk K_iuiub r48) <|
  ld K_iuiub ⟨n1, 0⟩ fun (x49 : T_iuiub) =>
  R (x49, true)
theorem sem_fq_Queue_Dequeue (d : Option Pt) (o : Int) (a : Sl) (R : Rs.T [.agg K_iuiub, .lf .bool] → WP) : Same (semF Tryz.prog Tryz.f9 (.s .o (.s (.s .o (.s (.s .o .o) .o)) (.s .o (.s .o (.s (.b (.l [] (.b (.s .o (.s (.s .o (.s .o .o)) (.s .o (.b (.s .o (.s (.s (.d (.f 0 [11] (.f 4 [0] (.f 1 [55] (.f 5 [59] (.f 2 [56] (.f 6 [60] (.f 3 [57] (.f 7 [61] (.f 8 [62] (.f 9 [58, 63] (.f 10 [55] (.f 11 [65] (.w 12 [64, 66] .fin)))))))))))))) .o) (.j [(72, .lf .bool)] .o (.s .o (.s .o (.s (.s .o .o) (.s .o (.s (.s .o (.d (.f 0 [0] (.f 4 [11] (.f 5 [8] (.f 1 [117] (.f 2 [118] (.f 3 [119] (.w 6 [121, 122] (.w 7 [120, 123] .fin)))))))))) (.s .o (.j [(12, .lf (.int .u64))] (.s .o (.s .o .o)) (.s .o .o)))))))))))))))))) (.s .o .o)))))) [.lf (.ptr d), .lf (.int .u64 o), .lf (.sl a)] [.agg K_iuiub, .lf .bool] R) (fun w => W_fq_Queue_Dequeue d o a R w) := ⟨by kernel_rfl⟩
theorem call_fq_Queue_Dequeue (d : Option Pt) (o : Int) (a : Sl) (R : Rs.T [.agg K_iuiub, .lf .bool] → WP) (w : World) (h : W_fq_Queue_Dequeue d o a R w) :
    CallX Tryz.prog N_fq_Queue_Dequeue ([.lf (.ptr d), .lf (.int .u64 o), .lf (.sl a)].map V1.enc) w fun v w' => ∃ x, v = (retTV (Rs.mk [.agg K_iuiub, .lf .bool] x)).enc ∧ R x w' :=
  callX_of_semF Tryz.func9 (by kernel_rfl) (by kernel_rfl) (sem_fq_Queue_Dequeue d o a R) h


/-- (*canter/fq.Queue).Enqueue -/
def W_fq_Queue_Enqueue (q : Option Pt) (s : T_iuiub) (now : Int) (R : Rs.T [.lf (.int .i64), .lf (.int .i64)] → WP) : WP :=
  new (Ks.mk K_iuiub s) fun n1 =>
  ite' q.isNone (
  R ((0:Int), (2:Int))) <|
  ld [.int .i64] ⟨n1, 0⟩ fun (x2 : Int) =>
  call Tryz.prog N_fq_within [.lf (.int .i64 x2), .lf (.int .i64 (0:Int)), .lf (.int .i64 (7:Int))] [.lf .bool] fun (r3 : Bool) =>
  ite' (!r3) (
  R ((0:Int), (8:Int))) <|
  ld [.int .i64] ⟨n1, 2⟩ fun (x4 : Int) =>
  call Tryz.prog N_fq_within [.lf (.int .i64 x4), .lf (.int .i64 (1:Int)), .lf (.int .i64 (65536:Int))] [.lf .bool] fun (r5 : Bool) =>
  ite' (!r5) (
  R ((0:Int), (1:Int))) <|
  call Tryz.prog N_fq_Queue_collect [.lf (.ptr q), .lf (.int .u64 now)] [] fun (r6 : Unit) =>
  call Tryz.prog N_fq_Queue_fate [.lf (.ptr q), .lf (.ptr (some ⟨n1, 0⟩)), .lf (.int .u64 now)] [.lf (.int .i64)] fun (r7 : Int) =>
  ite' (r7 == (0:Int)) (
  ld [.int .i64] ⟨n1, 0⟩ fun (x8 : Int) =>
  call Tryz.prog N_fq_Queue_wake [.lf (.ptr q), .lf (.int .i64 x8), .lf (.int .u64 now)] [] fun (r9 : Unit) =>
  drw <|
  ld [.int .i64] ⟨n1, 0⟩ fun (x10 : Int) =>
  deref q fun q11 =>
  req (0 ≤ x10 ∧ x10 < 8) <|
  ld [.ptr] ⟨q11.b, q11.o + 9 + x10.toNat * 1⟩ fun (x12 : Option Pt) =>
  drw <|
  ld K_iuiub ⟨n1, 0⟩ fun (x13 : T_iuiub) =>
  deref x12 fun q14 =>
  ld [.sl] ⟨q14.b, q14.o + 3⟩ fun (x15 : Sl) =>
  new [.int .i64 x13.1, .int .u64 x13.2.1, .int .i64 x13.2.2.1, .int .u64 x13.2.2.2.1, .bool x13.2.2.2.2] fun n16 =>
  chk ⟨q14.b, q14.o + 3⟩ (Ks.mk [.sl] x15) <|
  app 5 x15 ⟨some ⟨n16, 0⟩, 1, 1⟩ fun s17 =>
  deref x12 fun q18 =>
  st ⟨q18.b, q18.o + 3⟩ [.sl s17] <|
  deref q fun q19 =>
  ld [.int .i64] ⟨q19.b, q19.o + 19⟩ fun (x20 : Int) =>
  deref q fun q21 =>
  st ⟨q21.b, q21.o + 19⟩ [.int .i64 (IntKind.i64.wrap (x20 + (1:Int)))] <|
  R (r7, (0:Int))) <|
  R (r7, (0:Int))
theorem sem_fq_Queue_Enqueue (q : Option Pt) (s : T_iuiub) (now : Int) (R : Rs.T [.lf (.int .i64), .lf (.int .i64)] → WP) : Same (semF Tryz.prog Tryz.f19 (.s .o (.s (.b (.s .o (.s (.s .o .o) (.s .o (.s (.s .o .o) (.s .o (.s (.s .o .o) .o))))))) (.s .o (.s .o (.s (.s .o (.s (.s .o (.s (.d (.f 0 [0] (.f 1 [4] (.f 2 [37] (.f 3 [36] (.f 4 [39] (.f 5 [38, 40] (.f 6 [41] (.w 7 [42] .fin))))))))) (.s (.d (.f 0 [9] (.f 1 [9] (.f 5 [4] (.f 2 [44] (.f 3 [45] (.f 4 [46] (.w 6 [48] (.w 7 [47, 49] (.f 8 [43] (.f 9 [51] (.w 10 [50, 52] .fin)))))))))))) .o))) .o)) (.s .o .o)))))) [.lf (.ptr q), .agg (Ks.mk K_iuiub s), .lf (.int .u64 now)] [.lf (.int .i64), .lf (.int .i64)] R) (fun w => W_fq_Queue_Enqueue q s now R w) := ⟨by kernel_rfl⟩
theorem call_fq_Queue_Enqueue (q : Option Pt) (s : T_iuiub) (now : Int) (R : Rs.T [.lf (.int .i64), .lf (.int .i64)] → WP) (w : World) (h : W_fq_Queue_Enqueue q s now R w) :
    CallX Tryz.prog N_fq_Queue_Enqueue ([.lf (.ptr q), .agg (Ks.mk K_iuiub s), .lf (.int .u64 now)].map V1.enc) w fun v w' => ∃ x, v = (retTV (Rs.mk [.lf (.int .i64), .lf (.int .i64)] x)).enc ∧ R x w' :=
  callX_of_semF Tryz.func19 (by kernel_rfl) (by kernel_rfl) (sem_fq_Queue_Enqueue q s now R) h


/-- (*canter/fq.Queue).Flow -/
def W_fq_Queue_Flow (q : Option Pt) (sock : Int) (R : Rs.T [.agg K_i3u2s, .lf .bool] → WP) : WP :=
  new [.int .i64 (0:Int), .int .i64 (0:Int), .int .i64 (0:Int), .int .u64 (0:Int), .int .u64 (0:Int), .sl ⟨none, 0, 0⟩] fun n1 =>
  call Tryz.prog N_fq_Queue_has [.lf (.ptr q), .lf (.int .i64 sock)] [.lf .bool] fun (r2 : Bool) =>
  ite' (!r2) (
  st ⟨n1, 0⟩ [.int .i64 (0:Int), .int .i64 (0:Int), .int .i64 (0:Int), .int .u64 (0:Int), .int .u64 (0:Int), .sl ⟨none, 0, 0⟩] <|
  ld K_i3u2s ⟨n1, 0⟩ fun (x3 : T_i3u2s) =>
  R (x3, false)) <|
  deref q fun q4 =>
  req (0 ≤ sock ∧ sock < 8) <|
  ld [.ptr] ⟨q4.b, q4.o + 9 + sock.toNat * 1⟩ fun (x5 : Option Pt) =>
  drw <|
  deref x5 fun q6 =>
  deref x5 fun q7 =>
  deref x5 fun q8 =>
  deref x5 fun q9 =>
  ld [.int .i64] q6 fun (x10 : Int) =>
  ld [.int .u64] ⟨q7.b, q7.o + 1⟩ fun (x11 : Int) =>
  ld [.int .u64] ⟨q8.b, q8.o + 2⟩ fun (x12 : Int) =>
  ld [.sl] ⟨q9.b, q9.o + 3⟩ fun (x13 : Sl) =>
  call Tryz.prog N_fq_Queue_place [.lf (.ptr q), .lf (.int .i64 sock)] [.lf (.int .i64)] fun (r14 : Int) =>
  chk ⟨q9.b, q9.o + 3⟩ (Ks.mk [.sl] x13) <|
  chk ⟨q8.b, q8.o + 2⟩ (Ks.mk [.int .u64] x12) <|
  chk ⟨q7.b, q7.o + 1⟩ (Ks.mk [.int .u64] x11) <|
  chk q6 (Ks.mk [.int .i64] x10) <|
  call Tryz.prog N_slices_Clone_sapiSegapiSeg [.lf (.sl x13)] [.lf .sl] fun (r15 : Sl) =>
  chk ⟨q8.b, q8.o + 2⟩ (Ks.mk [.int .u64] x12) <|
  chk ⟨q7.b, q7.o + 1⟩ (Ks.mk [.int .u64] x11) <|
  chk q6 (Ks.mk [.int .i64] x10) <|
  st ⟨n1, 0⟩ [.int .i64 sock, .int .i64 x10, .int .i64 r14, .int .u64 x11, .int .u64 x12, .sl r15] <|
  ld K_i3u2s ⟨n1, 0⟩ fun (x16 : T_i3u2s) =>
  R (x16, true)
theorem sem_fq_Queue_Flow (q : Option Pt) (sock : Int) (R : Rs.T [.agg K_i3u2s, .lf .bool] → WP) : Same (semF Tryz.prog Tryz.f60 (.s .o (.s (.s .o (.s (.s .o .o) .o)) (.s .o (.s (.d (.f 0 [1] (.f 1 [6] (.f 5 [0] (.f 6 [1] (.f 8 [6] (.f 12 [6] (.f 16 [6] (.f 2 [19] (.f 9 [26] (.f 13 [30] (.f 17 [34] (.f 3 [20] (.f 10 [27] (.f 14 [31] (.f 18 [35] (.f 4 [21] (.f 11 [28] (.f 15 [32] (.f 19 [36] (.w 7 [23, 24] (.w 20 [37] (.f 21 [18, 22, 25, 29, 33, 38] (.w 22 [4, 39] (.w 23 [] .fin))))))))))))))))))))))))) .o)))) [.lf (.ptr q), .lf (.int .i64 sock)] [.agg K_i3u2s, .lf .bool] R) (fun w => W_fq_Queue_Flow q sock R w) := ⟨by kernel_rfl⟩
theorem call_fq_Queue_Flow (q : Option Pt) (sock : Int) (R : Rs.T [.agg K_i3u2s, .lf .bool] → WP) (w : World) (h : W_fq_Queue_Flow q sock R w) :
    CallX Tryz.prog N_fq_Queue_Flow ([.lf (.ptr q), .lf (.int .i64 sock)].map V1.enc) w fun v w' => ∃ x, v = (retTV (Rs.mk [.agg K_i3u2s, .lf .bool] x)).enc ∧ R x w' :=
  callX_of_semF Tryz.func60 (by kernel_rfl) (by kernel_rfl) (sem_fq_Queue_Flow q sock R) h


/-- (*canter/fq.Queue).Len -/
def W_fq_Queue_Len (q : Option Pt) (R : Rs.T [.lf (.int .i64)] → WP) : WP :=
  ite' q.isNone (
  R (0:Int)) <|
  deref q fun q1 =>
  ld [.int .i64] ⟨q1.b, q1.o + 19⟩ fun (x2 : Int) =>
  R x2
theorem sem_fq_Queue_Len (q : Option Pt) (R : Rs.T [.lf (.int .i64)] → WP) : Same (semF Tryz.prog Tryz.f25 (.s .o (.s (.s .o (.s (.s .o .o) .o)) (.s .o .o))) [.lf (.ptr q)] [.lf (.int .i64)] R) (fun w => W_fq_Queue_Len q R w) := ⟨by kernel_rfl⟩
theorem call_fq_Queue_Len (q : Option Pt) (R : Rs.T [.lf (.int .i64)] → WP) (w : World) (h : W_fq_Queue_Len q R w) :
    CallX Tryz.prog N_fq_Queue_Len ([.lf (.ptr q)].map V1.enc) w fun v w' => ∃ x, v = (retTV (Rs.mk [.lf (.int .i64)] x)).enc ∧ R x w' :=
  callX_of_semF Tryz.func25 (by kernel_rfl) (by kernel_rfl) (sem_fq_Queue_Len q R) h


/-- (*canter/fq.Queue).Set -/
def W_fq_Queue_Set (q : Option Pt) (c : T_i4u2bi2) (R : Rs.T [.lf (.int .i64)] → WP) : WP :=
  new (Ks.mk K_i4u2bi2 c) fun n1 =>
  ite' q.isNone (
  R (2:Int)) <|
  ld K_i4u2bi2 ⟨n1, 0⟩ fun (x2 : T_i4u2bi2) =>
  call Tryz.prog N_fq_May [.agg (Ks.mk K_i4u2bi2 x2)] [.lf .bool] fun (r3 : Bool) =>
  ite' (!r3) (
  R (13:Int)) <|
  ld K_i4u2bi2 ⟨n1, 0⟩ fun (x4 : T_i4u2bi2) =>
  deref q fun q5 =>
  st q5 (Ks.mk K_i4u2bi2 x4) <|
  R (0:Int)
theorem sem_fq_Queue_Set (q : Option Pt) (c : T_i4u2bi2) (R : Rs.T [.lf (.int .i64)] → WP) : Same (semF Tryz.prog Tryz.f12 (.s .o (.s (.b (.s .o (.s (.s .o .o) (.s .o (.s (.s .o .o) .o))))) (.s .o (.s .o .o)))) [.lf (.ptr q), .agg (Ks.mk K_i4u2bi2 c)] [.lf (.int .i64)] R) (fun w => W_fq_Queue_Set q c R w) := ⟨by kernel_rfl⟩
theorem call_fq_Queue_Set (q : Option Pt) (c : T_i4u2bi2) (R : Rs.T [.lf (.int .i64)] → WP) (w : World) (h : W_fq_Queue_Set q c R w) :
    CallX Tryz.prog N_fq_Queue_Set ([.lf (.ptr q), .agg (Ks.mk K_i4u2bi2 c)].map V1.enc) w fun v w' => ∃ x, v = (retTV (Rs.mk [.lf (.int .i64)] x)).enc ∧ R x w' :=
  callX_of_semF Tryz.func12 (by kernel_rfl) (by kernel_rfl) (sem_fq_Queue_Set q c R) h


/-- (*canter/fq.Queue).Watchdog -/
def W_fq_Queue_Watchdog (q : Option Pt) (R : Rs.T [.lf (.int .u64), .lf .bool] → WP) : WP :=
  ite' q.isNone (
  R ((0:Int), false)) <|
  deref q fun q1 =>
  ld [.ptr] ⟨q1.b, q1.o + 18⟩ fun (x2 : Option Pt) =>
  call Tryz.prog N_rbtree_Tree_Min [.lf (.ptr x2)] [.agg [.int .u64, .int .u64], .lf .bool] fun (r3 : (Int × Int) × Bool) =>
  new [.int .u64 (0:Int), .int .u64 (0:Int)] fun n4 =>
  st ⟨n4, 0⟩ (Ks.mk [.int .u64, .int .u64] r3.1) <|
  ld [.int .u64] ⟨n4, 0⟩ fun (x5 : Int) =>
  R (x5, r3.2)
theorem sem_fq_Queue_Watchdog (q : Option Pt) (R : Rs.T [.lf (.int .u64), .lf .bool] → WP) : Same (semF Tryz.prog Tryz.f58 (.s .o (.s (.s .o (.s (.s .o .o) .o)) (.s .o (.s .o .o)))) [.lf (.ptr q)] [.lf (.int .u64), .lf .bool] R) (fun w => W_fq_Queue_Watchdog q R w) := ⟨by kernel_rfl⟩
theorem call_fq_Queue_Watchdog (q : Option Pt) (R : Rs.T [.lf (.int .u64), .lf .bool] → WP) (w : World) (h : W_fq_Queue_Watchdog q R w) :
    CallX Tryz.prog N_fq_Queue_Watchdog ([.lf (.ptr q)].map V1.enc) w fun v w' => ∃ x, v = (retTV (Rs.mk [.lf (.int .u64), .lf .bool] x)).enc ∧ R x w' :=
  callX_of_semF Tryz.func58 (by kernel_rfl) (by kernel_rfl) (sem_fq_Queue_Watchdog q R) h


/-- (*canter/fq.Queue).collect -/
def W_fq_Queue_collect (q : Option Pt) (now : Int) (R : Rs.T [] → WP) : WP :=
  loop [.int .i64] (0:Int) fun J1 (y2 : Int) =>
  ite' (decide (y2 < (8:Int))) (
  call Tryz.prog N_fq_Queue_idle [.lf (.ptr q), .lf (.int .i64 y2), .lf (.int .u64 (3000000000:Int)), .lf (.int .u64 now)] [.lf .bool] fun (r3 : Bool) =>
  ite' r3 (
  deref q fun q4 =>
  req (0 ≤ y2 ∧ y2 < 8) <|
  st ⟨q4.b, q4.o + 9 + y2.toNat * 1⟩ [.ptr none] <|
  J1 (IntKind.i64.wrap (y2 + (1:Int)))) <|
  J1 (IntKind.i64.wrap (y2 + (1:Int)))) <|
  R ()
theorem sem_fq_Queue_collect (q : Option Pt) (now : Int) (R : Rs.T [] → WP) : Same (semF Tryz.prog Tryz.f52 (.s .o (.b (.l [(5, .lf (.int .i64))] (.s .o (.s (.s .o .o) (.s (.b (.s .o (.s .o (.s .o .o)))) .o)))))) [.lf (.ptr q), .lf (.int .u64 now)] [] R) (fun w => W_fq_Queue_collect q now R w) := ⟨by kernel_rfl⟩
theorem call_fq_Queue_collect (q : Option Pt) (now : Int) (R : Rs.T [] → WP) (w : World) (h : W_fq_Queue_collect q now R w) :
    CallX Tryz.prog N_fq_Queue_collect ([.lf (.ptr q), .lf (.int .u64 now)].map V1.enc) w fun v w' => ∃ x, v = (retTV (Rs.mk [] x)).enc ∧ R x w' :=
  callX_of_semF Tryz.func52 (by kernel_rfl) (by kernel_rfl) (sem_fq_Queue_collect q now R) h



end Go.X
