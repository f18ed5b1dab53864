/- What each function of the program computes, as a weakest precondition, printed by program; the kernel sees that the code says so. -/
import Derived.Test.YtjahkildlilabaaK
import Derived.Test.YtjahkildlilabaaProg
set_option linter.unusedVariables false
namespace Go.X
open Go.Proofs
/-- (*canter/arena.Arena).Free -/
def W_arena_Arena_Free (a : Option Pt) (i : Int) (R : Rs.T [.lf (.int .i64)] → WP) : WP :=
  ite' a.isNone (
  R (2:Int)) <|
  join [.bool] (fun J1 =>
  ite' (decide (i < (0:Int))) (
  J1 true) <|
  deref a fun q3 =>
  ld [.int .i64] ⟨q3.b, q3.o + 2⟩ fun (x4 : Int) =>
  J1 (decide (i ≥ x4))) fun (y2 : Bool) =>
  ite' y2 (
  R (1:Int)) <|
  call Try.prog N_arena_Arena_Has [.lf (.ptr a), .lf (.int .i64 i)] [.lf .bool] fun (r5 : Bool) =>
  ite' (!r5) (
  R (7:Int)) <|
  deref a fun q6 =>
  ld [.sl] q6 fun (x7 : Sl) =>
  idx x7 i 1 fun q8 =>
  st q8 [.bool false] <|
  deref a fun q9 =>
  ld [.sl] ⟨q9.b, q9.o + 1⟩ fun (x10 : Sl) =>
  new [.int .i64 i] fun n11 =>
  app 1 x10 ⟨some ⟨n11, 0⟩, 1, 1⟩ fun s12 =>
  deref a fun q13 =>
  st ⟨q13.b, q13.o + 1⟩ [.sl s12] <|
  R (0:Int)
theorem sem_arena_Arena_Free (a : Option Pt) (i : Int) (R : Rs.T [.lf (.int .i64)] → WP) : Same (semF Try.prog Try.f74 (.s .o (.s (.b (.s .o (.s (.s .o .o) (.j [(8, .lf .bool)] .o (.s (.s .o .o) (.s .o (.s (.s .o .o) .o))))))) (.s .o (.s .o (.s .o .o))))) [.lf (.ptr a), .lf (.int .i64 i)] [.lf (.int .i64)] R) (fun w => W_arena_Arena_Free a i R w) := ⟨by kernel_rfl⟩
theorem call_arena_Arena_Free (a : Option Pt) (i : Int) (R : Rs.T [.lf (.int .i64)] → WP) (w : World) (h : W_arena_Arena_Free a i R w) :
    CallX Try.prog N_arena_Arena_Free ([.lf (.ptr a), .lf (.int .i64 i)].map V1.enc) w fun v w' => ∃ x, v = (retTV (Rs.mk [.lf (.int .i64)] x)).enc ∧ R x w' :=
  callX_of_semF Try.func74 (by kernel_rfl) (by kernel_rfl) (sem_arena_Arena_Free a i R) h


/-- (*canter/arena.Arena).Get -/
def W_arena_Arena_Get (d : Option Pt) (R : Rs.T [.lf (.int .i64), .lf (.int .i64)] → WP) : WP :=
  ite' d.isNone (
  R ((0:Int), (2:Int))) <|
  deref d fun q1 =>
  ld [.sl] ⟨q1.b, q1.o + 1⟩ fun (x2 : Sl) =>
  ite' (decide (((x2.len : Nat) : Int) > (0:Int))) (
  deref d fun q3 =>
  ld [.sl] ⟨q3.b, q3.o + 1⟩ fun (x4 : Sl) =>
  idx x4 (IntKind.i64.wrap (((x2.len : Nat) : Int) - (1:Int))) 1 fun q5 =>
  ld [.int .i64] q5 fun (x6 : Int) =>
  deref d fun q7 =>
  ld [.sl] ⟨q7.b, q7.o + 1⟩ fun (x8 : Sl) =>
  slc x8 none (some (IntKind.i64.wrap (((x2.len : Nat) : Int) - (1:Int)))) none 1 fun s9 =>
  deref d fun q10 =>
  st ⟨q10.b, q10.o + 1⟩ [.sl s9] <|
  deref d fun q11 =>
  ld [.sl] q11 fun (x12 : Sl) =>
  idx x12 x6 1 fun q13 =>
  st q13 [.bool true] <|
  R (x6, (0:Int))) <|
  drw <|
  deref d fun q14 =>
  deref d fun q15 =>
  ld [.sl] q14 fun (x16 : Sl) =>
  ld [.int .i64] ⟨q15.b, q15.o + 2⟩ fun (x17 : Int) =>
  ite' (decide (((x16.len : Nat) : Int) ≥ x17)) (
  R ((0:Int), (5:Int))) <|
  deref d fun q18 =>
  ld [.sl] q18 fun (x19 : Sl) =>
  new [.bool true] fun n20 =>
  app 1 x19 ⟨some ⟨n20, 0⟩, 1, 1⟩ fun s21 =>
  deref d fun q22 =>
  st q22 [.sl s21] <|
  deref d fun q23 =>
  ld [.sl] q23 fun (x24 : Sl) =>
  R ((IntKind.i64.wrap (((x24.len : Nat) : Int) - (1:Int))), (0:Int))
theorem sem_arena_Arena_Get (d : Option Pt) (R : Rs.T [.lf (.int .i64), .lf (.int .i64)] → WP) : Same (semF Try.prog Try.f66 (.s .o (.s (.s .o (.s (.s .o .o) .o)) (.s (.s .o (.s .o (.s (.s .o (.s .o (.s .o (.s .o .o)))) .o))) (.s (.s (.d (.f 0 [0] (.f 5 [0] (.f 1 [40] (.f 6 [45] (.f 2 [41] (.f 7 [46] (.f 3 [42] (.f 8 [47] (.f 4 [43] (.f 9 [44, 48] .fin))))))))))) (.s (.s .o .o) .o)) (.s .o (.s .o .o)))))) [.lf (.ptr d)] [.lf (.int .i64), .lf (.int .i64)] R) (fun w => W_arena_Arena_Get d R w) := ⟨by kernel_rfl⟩
theorem call_arena_Arena_Get (d : Option Pt) (R : Rs.T [.lf (.int .i64), .lf (.int .i64)] → WP) (w : World) (h : W_arena_Arena_Get d R w) :
    CallX Try.prog N_arena_Arena_Get ([.lf (.ptr d)].map V1.enc) w fun v w' => ∃ x, v = (retTV (Rs.mk [.lf (.int .i64), .lf (.int .i64)] x)).enc ∧ R x w' :=
  callX_of_semF Try.func66 (by kernel_rfl) (by kernel_rfl) (sem_arena_Arena_Get d R) h


/-- (*canter/arena.Arena).Has -/
def W_arena_Arena_Has (a : Option Pt) (i : Int) (R : Rs.T [.lf .bool] → WP) : WP :=
  ite' ((!a.isNone) && (decide (i ≥ (0:Int)))) (
  deref a fun q1 =>
  ld [.sl] q1 fun (x2 : Sl) =>
  ite' (decide (i < ((x2.len : Nat) : Int))) (
  deref a fun q3 =>
  ld [.sl] q3 fun (x4 : Sl) =>
  idx x4 i 1 fun q5 =>
  ld [.bool] q5 fun (x6 : Bool) =>
  R x6) <|
  R false) <|
  R false
theorem sem_arena_Arena_Has (a : Option Pt) (i : Int) (R : Rs.T [.lf .bool] → WP) : Same (semF Try.prog Try.f85 (.s .o (.s .o .o)) [.lf (.ptr a), .lf (.int .i64 i)] [.lf .bool] R) (fun w => W_arena_Arena_Has a i R w) := ⟨by kernel_rfl⟩
theorem call_arena_Arena_Has (a : Option Pt) (i : Int) (R : Rs.T [.lf .bool] → WP) (w : World) (h : W_arena_Arena_Has a i R w) :
    CallX Try.prog N_arena_Arena_Has ([.lf (.ptr a), .lf (.int .i64 i)].map V1.enc) w fun v w' => ∃ x, v = (retTV (Rs.mk [.lf .bool] x)).enc ∧ R x w' :=
  callX_of_semF Try.func85 (by kernel_rfl) (by kernel_rfl) (sem_arena_Arena_Has a i R) h


/-- canter/arena.New -/
def W_arena_New (n : Int) (R : Rs.T [.lf .ptr] → WP) : WP :=
  new [.sl ⟨none, 0, 0⟩, .sl ⟨none, 0, 0⟩, .int .i64 (if (4096:Int) < (if (0:Int) > n then (0:Int) else n) then (4096:Int) else (if (0:Int) > n then (0:Int) else n))] fun n1 =>
  R (some ⟨n1, 0⟩)
theorem sem_arena_New (n : Int) (R : Rs.T [.lf .ptr] → WP) : Same (semF Try.prog Try.f57 (.s .o (.s .o .o)) [.lf (.int .i64 n)] [.lf .ptr] R) (fun w => W_arena_New n R w) := ⟨by kernel_rfl⟩
theorem call_arena_New (n : Int) (R : Rs.T [.lf .ptr] → WP) (w : World) (h : W_arena_New n R w) :
    CallX Try.prog N_arena_New ([.lf (.int .i64 n)].map V1.enc) w fun v w' => ∃ x, v = (retTV (Rs.mk [.lf .ptr] x)).enc ∧ R x w' :=
  callX_of_semF Try.func57 (by kernel_rfl) (by kernel_rfl) (sem_arena_New n R) h


/-- canter/canterlaw20.FqWorks -/
def W_canterlaw20_FqWorks (d : T_i4u2bi2) (o : Sl) (R : Rs.T [.lf .bool] → WP) : WP :=
  new (Ks.mk K_i4u2bi2 d) fun n1 =>
  ld K_i4u2bi2 ⟨n1, 0⟩ fun (x2 : T_i4u2bi2) =>
  call Try.prog N_canterplay_Config [.agg (Ks.mk K_i4u2bi2 x2)] [.agg K_i4u2bi2] fun (r3 : T_i4u2bi2) =>
  st ⟨n1, 0⟩ (Ks.mk K_i4u2bi2 r3) <|
  ld K_i4u2bi2 ⟨n1, 0⟩ fun (x4 : T_i4u2bi2) =>
  call Try.prog N_fq_New [.agg (Ks.mk K_i4u2bi2 x4)] [.lf .ptr, .lf (.int .i64)] fun (r5 : Option Pt × Int) =>
  call Try.prog N_canterlaw20_awake [] [.lf .bool] fun (r6 : Bool) =>
  ite' (((!r6) || (r5.2 != (0:Int))) || r5.1.isNone) (
  R false) <|
  loop [.int .u64, .int .i64] ((0:Int), (0:Int)) fun J7 (y8 : Int × Int) =>
  ite' ((decide (y8.2 < ((o.len : Nat) : Int))) && (decide (y8.2 < (80:Int)))) (
  idx o y8.2 18 fun q9 =>
  ld K_iuiuiubsi4u2bi2b q9 fun (x10 : T_iuiuiubsi4u2bi2b) =>
  new [.int .i64 (0:Int), .int .u64 (0:Int), .int .i64 (0:Int), .int .u64 (0:Int), .int .i64 (0:Int), .int .u64 (0:Int), .bool false, .sl ⟨none, 0, 0⟩, .int .i64 (0:Int), .int .i64 (0:Int), .int .i64 (0:Int), .int .i64 (0:Int), .int .u64 (0:Int), .int .u64 (0:Int), .bool false, .int .i64 (0:Int), .int .i64 (0:Int), .bool false] fun n11 =>
  st ⟨n11, 0⟩ (Ks.mk K_iuiuiubsi4u2bi2b x10) <|
  ld [.int .u64] ⟨n11, 1⟩ fun (x12 : Int) =>
  call Try.prog N_canterref01_Add [.lf (.int .u64 y8.1), .lf (.int .u64 (x12.tmod (2000000000:Int)))] [.lf (.int .u64)] fun (r13 : Int) =>
  join [.bool] (fun J14 =>
  ld [.int .i64] ⟨n11, 0⟩ fun (x16 : Int) =>
  ite' (x16 != (2:Int)) (
  ld [.int .i64] ⟨n11, 0⟩ fun (x17 : Int) =>
  J14 (x17 != (3:Int))) <|
  J14 false) fun (y15 : Bool) =>
  ite' y15 (
  ld K_iuiub ⟨n11, 2⟩ fun (x18 : T_iuiub) =>
  call Try.prog N_canterplay_Seg [.agg (Ks.mk K_iuiub x18)] [.agg K_iuiub] fun (r19 : T_iuiub) =>
  call Try.prog N_fq_Queue_Enqueue [.lf (.ptr r5.1), .agg (Ks.mk K_iuiub r19), .lf (.int .u64 (if (4611686018427387904:Int) < r13 then (4611686018427387904:Int) else r13))] [.lf (.int .i64), .lf (.int .i64)] fun (r20 : Int × Int) =>
  J7 ((if (4611686018427387904:Int) < r13 then (4611686018427387904:Int) else r13), (IntKind.i64.wrap (y8.2 + (1:Int))))) <|
  loop K_ubi ((0:Int), false, (0:Int)) fun J21 (y22 : T_ubi) =>
  ite' (decide (y22.2.2 < (8:Int))) (
  call Try.prog N_fq_Queue_Flow [.lf (.ptr r5.1), .lf (.int .i64 y22.2.2)] [.agg K_i3u2s, .lf .bool] fun (r23 : T_i3u2s × Bool) =>
  new [.int .i64 (0:Int), .int .i64 (0:Int), .int .i64 (0:Int), .int .u64 (0:Int), .int .u64 (0:Int), .sl ⟨none, 0, 0⟩] fun n24 =>
  st ⟨n24, 0⟩ (Ks.mk K_i3u2s r23.1) <|
  join [.bool] (fun J25 =>
  ite' r23.2 (
  ld [.sl] ⟨n24, 5⟩ fun (x27 : Sl) =>
  ite' (decide (((x27.len : Nat) : Int) > (0:Int))) (
  ite' (!y22.2.1) (
  J25 true) <|
  ld K_i3u2s ⟨n24, 0⟩ fun (x28 : T_i3u2s) =>
  call Try.prog N_canterref20_Time [.agg (Ks.mk K_i3u2s x28)] [.lf (.int .u64)] fun (r29 : Int) =>
  J25 (decide (r29 < y22.1))) <|
  J25 false) <|
  J25 false) fun (y26 : Bool) =>
  ite' y26 (
  ld K_i3u2s ⟨n24, 0⟩ fun (x30 : T_i3u2s) =>
  call Try.prog N_canterref20_Time [.agg (Ks.mk K_i3u2s x30)] [.lf (.int .u64)] fun (r31 : Int) =>
  J21 (r31, true, (IntKind.i64.wrap (y22.2.2 + (1:Int))))) <|
  J21 (y22.1, y22.2.1, (IntKind.i64.wrap (y22.2.2 + (1:Int))))) <|
  call Try.prog N_fq_Queue_Len [.lf (.ptr r5.1)] [.lf (.int .i64)] fun (r32 : Int) =>
  ld [.sl] ⟨n11, 7⟩ fun (x33 : Sl) =>
  call Try.prog N_fq_Queue_Dequeue [.lf (.ptr r5.1), .lf (.int .u64 (if (4611686018427387904:Int) < r13 then (4611686018427387904:Int) else r13)), .lf (.sl x33)] [.agg K_iuiub, .lf .bool] fun (r34 : T_iuiub × Bool) =>
  new [.int .i64 (0:Int), .int .u64 (0:Int), .int .i64 (0:Int), .int .u64 (0:Int), .bool false] fun n35 =>
  st ⟨n35, 0⟩ (Ks.mk K_iuiub r34.1) <|
  join [.bool] (fun J36 =>
  ite' (!(r34.2 == (y22.2.1 && (decide (y22.1 ≤ (if (4611686018427387904:Int) < r13 then (4611686018427387904:Int) else r13)))))) (
  J36 true) <|
  ite' r34.2 (
  call Try.prog N_fq_Queue_Len [.lf (.ptr r5.1)] [.lf (.int .i64)] fun (r38 : Int) =>
  ite' (r38 != (IntKind.i64.wrap (r32 - (1:Int)))) (
  J36 true) <|
  ite' (!r34.2) (
  call Try.prog N_fq_Queue_Len [.lf (.ptr r5.1)] [.lf (.int .i64)] fun (r39 : Int) =>
  J36 (r39 != r32)) <|
  J36 false) <|
  ite' (!r34.2) (
  call Try.prog N_fq_Queue_Len [.lf (.ptr r5.1)] [.lf (.int .i64)] fun (r40 : Int) =>
  J36 (r40 != r32)) <|
  J36 false) fun (y37 : Bool) =>
  ite' y37 (
  R false) <|
  call Try.prog N_fq_Queue_Watchdog [.lf (.ptr r5.1)] [.lf (.int .u64), .lf .bool] fun (r41 : Int × Bool) =>
  ite' ((!r34.2) && ((!(r41.2 == y22.2.1)) || (r41.2 && (r41.1 != y22.1)))) (
  R false) <|
  J7 ((if (4611686018427387904:Int) < r13 then (4611686018427387904:Int) else r13), (IntKind.i64.wrap (y8.2 + (1:Int))))) <|
  R true
theorem sem_canterlaw20_FqWorks (d : T_i4u2bi2) (o : Sl) (R : Rs.T [.lf .bool] → WP) : Same (semF Try.prog Try.f9 (.s .o (.s .o (.s .o (.s (.s .o (.s (.s .o .o) .o)) (.s .o (.s (.s .o (.b (.l [(7, .lf (.int .u64)), (8, .lf (.int .i64))] (.s (.s .o (.s .o .o)) (.s (.b (.s .o (.s .o (.s (.j [(64, .lf .bool)] .o (.s (.s .o .o) .o)) (.s .o (.s (.s .o (.b (.l [(10, .lf (.int .u64)), (11, .lf .bool), (12, .lf (.int .i64))] (.s (.s .o (.s .o .o)) (.s (.b (.s .o (.j [(97, .lf .bool)] .o (.s .o .o)))) .o))))) (.s .o (.s .o (.s (.j [(137, .lf .bool)] .o (.s (.s .o .o) .o)) (.s .o (.s .o (.s (.s .o .o) .o)))))))))))) .o))))) (.s .o .o))))))) [.agg (Ks.mk K_i4u2bi2 d), .lf (.sl o)] [.lf .bool] R) (fun w => W_canterlaw20_FqWorks d o R w) := ⟨by kernel_rfl⟩
theorem call_canterlaw20_FqWorks (d : T_i4u2bi2) (o : Sl) (R : Rs.T [.lf .bool] → WP) (w : World) (h : W_canterlaw20_FqWorks d o R w) :
    CallX Try.prog N_canterlaw20_FqWorks ([.agg (Ks.mk K_i4u2bi2 d), .lf (.sl o)].map V1.enc) w fun v w' => ∃ x, v = (retTV (Rs.mk [.lf .bool] x)).enc ∧ R x w' :=
  callX_of_semF Try.func9 (by kernel_rfl) (by kernel_rfl) (sem_canterlaw20_FqWorks d o R) h


/-- canter/canterlaw20.awake -/
def W_canterlaw20_awake  (R : Rs.T [.lf .bool] → WP) : WP :=
  call Try.prog N_canterref20_Plain [] [.agg K_i4u2bi2] fun (r1 : T_i4u2bi2) =>
  call Try.prog N_fq_New [.agg (Ks.mk K_i4u2bi2 r1)] [.lf .ptr, .lf (.int .i64)] fun (r2 : Option Pt × Int) =>
  ite' ((r2.2 != (0:Int)) || r2.1.isNone) (
  R false) <|
  call Try.prog N_fq_Queue_Enqueue [.lf (.ptr r2.1), .agg [.int .i64 (1:Int), .int .u64 (0:Int), .int .i64 (100:Int), .int .u64 (0:Int), .bool false], .lf (.int .u64 (5:Int))] [.lf (.int .i64), .lf (.int .i64)] fun (r3 : Int × Int) =>
  call Try.prog N_fq_Queue_Dequeue [.lf (.ptr r2.1), .lf (.int .u64 (5:Int)), .lf (.sl ⟨none, 0, 0⟩)] [.agg K_iuiub, .lf .bool] fun (r4 : T_iuiub × Bool) =>
  new [.int .i64 (0:Int), .int .u64 (0:Int), .int .i64 (0:Int), .int .u64 (0:Int), .bool false] fun n5 =>
  st ⟨n5, 0⟩ (Ks.mk K_iuiub r4.1) <|
  ite' (((r3.2 == (0:Int)) && (r3.1 == (0:Int))) && r4.2) (
  ld [.int .i64] ⟨n5, 2⟩ fun (x6 : Int) =>
  ite' (x6 == (100:Int)) (
  call Try.prog N_fq_Queue_Len [.lf (.ptr r2.1)] [.lf (.int .i64)] fun (r7 : Int) =>
  R (r7 == (0:Int))) <|
  R false) <|
  R false
theorem sem_canterlaw20_awake  (R : Rs.T [.lf .bool] → WP) : Same (semF Try.prog Try.f16 (.s .o (.s .o (.s (.s .o (.s (.s .o .o) .o)) (.s .o (.s .o (.s .o .o)))))) [] [.lf .bool] R) (fun w => W_canterlaw20_awake  R w) := ⟨by kernel_rfl⟩
theorem call_canterlaw20_awake  (R : Rs.T [.lf .bool] → WP) (w : World) (h : W_canterlaw20_awake  R w) :
    CallX Try.prog N_canterlaw20_awake ([].map V1.enc) w fun v w' => ∃ x, v = (retTV (Rs.mk [.lf .bool] x)).enc ∧ R x w' :=
  callX_of_semF Try.func16 (by kernel_rfl) (by kernel_rfl) (sem_canterlaw20_awake  R) h


/-- canter/canterplay.Config -/
def W_canterplay_Config (d : T_i4u2bi2) (R : Rs.T [.agg K_i4u2bi2] → WP) : WP :=
  new (Ks.mk K_i4u2bi2 d) fun n1 =>
  new [.int .i64 (0:Int), .int .i64 (0:Int), .int .i64 (0:Int), .int .i64 (0:Int), .int .u64 (0:Int), .int .u64 (0:Int), .bool false, .int .i64 (0:Int), .int .i64 (0:Int)] fun n2 =>
  call Try.prog N_canterref20_Plain [] [.agg K_i4u2bi2] fun (r3 : T_i4u2bi2) =>
  new [.int .i64 (0:Int), .int .i64 (0:Int), .int .i64 (0:Int), .int .i64 (0:Int), .int .u64 (0:Int), .int .u64 (0:Int), .bool false, .int .i64 (0:Int), .int .i64 (0:Int)] fun n4 =>
  st ⟨n4, 0⟩ (Ks.mk K_i4u2bi2 r3) <|
  join [] (fun J5 =>
  join [.bool] (fun J7 =>
  ld [.int .i64] ⟨n1, 0⟩ fun (x9 : Int) =>
  ite' (decide (x9 ≥ (100:Int))) (
  ld [.int .i64] ⟨n1, 0⟩ fun (x10 : Int) =>
  J7 (decide (x10 ≤ (65536:Int)))) <|
  J7 false) fun (y8 : Bool) =>
  ite' y8 (
  ld [.int .i64] ⟨n1, 0⟩ fun (x11 : Int) =>
  st ⟨n4, 0⟩ [.int .i64 x11] <|
  J5 ()) <|
  J5 ()) fun (y6 : Unit) =>
  join [] (fun J12 =>
  join [.bool] (fun J14 =>
  ld [.int .i64] ⟨n1, 1⟩ fun (x16 : Int) =>
  ite' (decide (x16 ≥ (100:Int))) (
  ld [.int .i64] ⟨n1, 1⟩ fun (x17 : Int) =>
  J14 (decide (x17 ≤ (65536:Int)))) <|
  J14 false) fun (y15 : Bool) =>
  ite' y15 (
  ld [.int .i64] ⟨n1, 1⟩ fun (x18 : Int) =>
  st ⟨n4, 1⟩ [.int .i64 x18] <|
  J12 ()) <|
  J12 ()) fun (y13 : Unit) =>
  join [] (fun J19 =>
  join [.bool] (fun J21 =>
  ld [.int .i64] ⟨n1, 2⟩ fun (x23 : Int) =>
  ite' (decide (x23 ≥ (1:Int))) (
  ld [.int .i64] ⟨n1, 2⟩ fun (x24 : Int) =>
  J21 (decide (x24 ≤ (512:Int)))) <|
  J21 false) fun (y22 : Bool) =>
  ite' y22 (
  ld [.int .i64] ⟨n1, 2⟩ fun (x25 : Int) =>
  st ⟨n4, 2⟩ [.int .i64 x25] <|
  J19 ()) <|
  J19 ()) fun (y20 : Unit) =>
  join [] (fun J26 =>
  join [.bool] (fun J28 =>
  ld [.int .i64] ⟨n1, 3⟩ fun (x30 : Int) =>
  ite' (decide (x30 ≥ (1:Int))) (
  ld [.int .i64] ⟨n1, 3⟩ fun (x31 : Int) =>
  J28 (decide (x31 ≤ (512:Int)))) <|
  J28 false) fun (y29 : Bool) =>
  ite' y29 (
  ld [.int .i64] ⟨n1, 3⟩ fun (x32 : Int) =>
  st ⟨n4, 3⟩ [.int .i64 x32] <|
  J26 ()) <|
  J26 ()) fun (y27 : Unit) =>
  join [] (fun J33 =>
  ld [.int .u64] ⟨n1, 4⟩ fun (x35 : Int) =>
  ite' (decide (x35 ≤ (4611686018427387904:Int))) (
  ld [.int .u64] ⟨n1, 4⟩ fun (x36 : Int) =>
  st ⟨n4, 4⟩ [.int .u64 x36] <|
  J33 ()) <|
  J33 ()) fun (y34 : Unit) =>
  join [] (fun J37 =>
  join [.bool] (fun J39 =>
  ld [.int .i64] ⟨n1, 7⟩ fun (x41 : Int) =>
  ite' (decide (x41 ≥ (1:Int))) (
  ld [.int .i64] ⟨n1, 7⟩ fun (x42 : Int) =>
  J39 (decide (x42 ≤ (1073741824:Int)))) <|
  J39 false) fun (y40 : Bool) =>
  ite' y40 (
  ld [.int .i64] ⟨n1, 7⟩ fun (x43 : Int) =>
  st ⟨n4, 7⟩ [.int .i64 x43] <|
  J37 ()) <|
  J37 ()) fun (y38 : Unit) =>
  join [] (fun J44 =>
  join [.bool] (fun J46 =>
  ld [.int .i64] ⟨n1, 8⟩ fun (x48 : Int) =>
  ite' (decide (x48 ≥ (100:Int))) (
  ld [.int .i64] ⟨n1, 8⟩ fun (x49 : Int) =>
  J46 (decide (x49 ≤ (9000:Int)))) <|
  J46 false) fun (y47 : Bool) =>
  ite' y47 (
  ld [.int .i64] ⟨n1, 8⟩ fun (x50 : Int) =>
  st ⟨n4, 8⟩ [.int .i64 x50] <|
  J44 ()) <|
  J44 ()) fun (y45 : Unit) =>
  drw <|
  ld [.int .u64] ⟨n1, 5⟩ fun (x51 : Int) =>
  ld [.bool] ⟨n1, 6⟩ fun (x52 : Bool) =>
  st ⟨n4, 5⟩ [.int .u64 x51] <|
  chk ⟨n1, 6⟩ (Ks.mk [.bool] x52) <|
  st ⟨n4, 6⟩ [.bool x52] <|
  ld K_i4u2bi2 ⟨n4, 0⟩ fun (x53 : T_i4u2bi2) =>
  st ⟨n2, 0⟩ (Ks.mk K_i4u2bi2 x53) <|
  ld K_i4u2bi2 ⟨n2, 0⟩ fun (x54 : T_i4u2bi2) =>
  R x54
theorem sem_canterplay_Config (d : T_i4u2bi2) (R : Rs.T [.agg K_i4u2bi2] → WP) : Same (semF Try.prog Try.f14 (.s .o (.s .o (.j [] (.j [(12, .lf .bool)] .o (.s .o .o)) (.j [] (.j [(23, .lf .bool)] .o (.s .o .o)) (.j [] (.j [(34, .lf .bool)] .o (.s .o .o)) (.j [] (.j [(45, .lf .bool)] .o (.s .o .o)) (.j [] (.s .o (.s .o .o)) (.j [] (.j [(62, .lf .bool)] .o (.s .o .o)) (.j [] (.j [(73, .lf .bool)] .o (.s .o .o)) (.s (.d (.f 0 [1] (.f 2 [1] (.f 1 [77] (.f 3 [79] (.f 4 [3] (.w 5 [78, 81] (.f 6 [3] (.w 7 [80, 82] .fin))))))))) (.s .o .o))))))))))) [.agg (Ks.mk K_i4u2bi2 d)] [.agg K_i4u2bi2] R) (fun w => W_canterplay_Config d R w) := ⟨by kernel_rfl⟩
theorem call_canterplay_Config (d : T_i4u2bi2) (R : Rs.T [.agg K_i4u2bi2] → WP) (w : World) (h : W_canterplay_Config d R w) :
    CallX Try.prog N_canterplay_Config ([.agg (Ks.mk K_i4u2bi2 d)].map V1.enc) w fun v w' => ∃ x, v = (retTV (Rs.mk [.agg K_i4u2bi2] x)).enc ∧ R x w' :=
  callX_of_semF Try.func14 (by kernel_rfl) (by kernel_rfl) (sem_canterplay_Config d R) h


/-- canter/canterplay.Seg -/
def W_canterplay_Seg (s : T_iuiub) (R : Rs.T [.agg K_iuiub] → WP) : WP :=
  new (Ks.mk K_iuiub s) fun n1 =>
  new [.int .i64 (0:Int), .int .u64 (0:Int), .int .i64 (0:Int), .int .u64 (0:Int), .bool false] fun n2 =>
  ld [.int .i64] ⟨n1, 0⟩ fun (x3 : Int) =>
  st ⟨n1, 0⟩ [.int .i64 (IntKind.i64.wrap ((IntKind.u64.wrap x3).tmod (8:Int)))] <|
  ld [.int .i64] ⟨n1, 2⟩ fun (x4 : Int) =>
  st ⟨n1, 2⟩ [.int .i64 (IntKind.i64.wrap ((1:Int) + (IntKind.i64.wrap ((IntKind.u64.wrap x4).tmod (65536:Int)))))] <|
  ld K_iuiub ⟨n1, 0⟩ fun (x5 : T_iuiub) =>
  st ⟨n2, 0⟩ (Ks.mk K_iuiub x5) <|
  ld K_iuiub ⟨n2, 0⟩ fun (x6 : T_iuiub) =>
  R x6
theorem sem_canterplay_Seg (s : T_iuiub) (R : Rs.T [.agg K_iuiub] → WP) : Same (semF Try.prog Try.f21 (.s .o (.s .o (.s .o (.s .o .o)))) [.agg (Ks.mk K_iuiub s)] [.agg K_iuiub] R) (fun w => W_canterplay_Seg s R w) := ⟨by kernel_rfl⟩
theorem call_canterplay_Seg (s : T_iuiub) (R : Rs.T [.agg K_iuiub] → WP) (w : World) (h : W_canterplay_Seg s R w) :
    CallX Try.prog N_canterplay_Seg ([.agg (Ks.mk K_iuiub s)].map V1.enc) w fun v w' => ∃ x, v = (retTV (Rs.mk [.agg K_iuiub] x)).enc ∧ R x w' :=
  callX_of_semF Try.func21 (by kernel_rfl) (by kernel_rfl) (sem_canterplay_Seg s R) h


/-- canter/canterref01.Add -/
def W_canterref01_Add (a : Int) (b : Int) (R : Rs.T [.lf (.int .u64)] → WP) : WP :=
  ite' (decide (a > (IntKind.u64.wrap ((18446744073709551615:Int) - b)))) (
  R (18446744073709551615:Int)) <|
  R (IntKind.u64.wrap (a + b))
theorem sem_canterref01_Add (a : Int) (b : Int) (R : Rs.T [.lf (.int .u64)] → WP) : Same (semF Try.prog Try.f20 (.s .o (.s (.s .o (.s (.s .o .o) .o)) (.s .o .o))) [.lf (.int .u64 a), .lf (.int .u64 b)] [.lf (.int .u64)] R) (fun w => W_canterref01_Add a b R w) := ⟨by kernel_rfl⟩
theorem call_canterref01_Add (a : Int) (b : Int) (R : Rs.T [.lf (.int .u64)] → WP) (w : World) (h : W_canterref01_Add a b R w) :
    CallX Try.prog N_canterref01_Add ([.lf (.int .u64 a), .lf (.int .u64 b)].map V1.enc) w fun v w' => ∃ x, v = (retTV (Rs.mk [.lf (.int .u64)] x)).enc ∧ R x w' :=
  callX_of_semF Try.func20 (by kernel_rfl) (by kernel_rfl) (sem_canterref01_Add a b R) h


/-- canter/canterref20.Plain -/
def W_canterref20_Plain  (R : Rs.T [.agg K_i4u2bi2] → WP) : WP :=
  new [.int .i64 (0:Int), .int .i64 (0:Int), .int .i64 (0:Int), .int .i64 (0:Int), .int .u64 (0:Int), .int .u64 (0:Int), .bool false, .int .i64 (0:Int), .int .i64 (0:Int)] fun n1 =>
  st ⟨n1, 0⟩ [.int .i64 (3000:Int), .int .i64 (15000:Int), .int .i64 (100:Int), .int .i64 (50:Int), .int .u64 (10000000000:Int), .int .u64 (0:Int), .bool false, .int .i64 (100000:Int), .int .i64 (1000:Int)] <|
  ld K_i4u2bi2 ⟨n1, 0⟩ fun (x2 : T_i4u2bi2) =>
  R x2
theorem sem_canterref20_Plain  (R : Rs.T [.agg K_i4u2bi2] → WP) : Same (semF Try.prog Try.f27 (.s .o (.s .o .o)) [] [.agg K_i4u2bi2] R) (fun w => W_canterref20_Plain  R w) := ⟨by kernel_rfl⟩
theorem call_canterref20_Plain  (R : Rs.T [.agg K_i4u2bi2] → WP) (w : World) (h : W_canterref20_Plain  R w) :
    CallX Try.prog N_canterref20_Plain ([].map V1.enc) w fun v w' => ∃ x, v = (retTV (Rs.mk [.agg K_i4u2bi2] x)).enc ∧ R x w' :=
  callX_of_semF Try.func27 (by kernel_rfl) (by kernel_rfl) (sem_canterref20_Plain  R) h


/-- canter/canterref20.Time -/
def W_canterref20_Time (f : T_i3u2s) (R : Rs.T [.lf (.int .u64)] → WP) : WP :=
  new (Ks.mk K_i3u2s f) fun n1 =>
  drw <|
  ld [.int .u64] ⟨n1, 3⟩ fun (x2 : Int) =>
  ld [.sl] ⟨n1, 5⟩ fun (x3 : Sl) =>
  idx x3 (0:Int) 5 fun q4 =>
  ld [.int .u64] ⟨q4.b, q4.o + 3⟩ fun (x5 : Int) =>
  R (if x5 > x2 then x5 else x2)
theorem sem_canterref20_Time (f : T_i3u2s) (R : Rs.T [.lf (.int .u64)] → WP) : Same (semF Try.prog Try.f29 (.s .o (.s (.d (.f 0 [1] (.f 2 [1] (.f 1 [3] (.f 3 [5] (.f 4 [6] (.f 5 [7] (.f 6 [8] (.f 7 [4, 9] (.w 8 [10] .fin)))))))))) .o)) [.agg (Ks.mk K_i3u2s f)] [.lf (.int .u64)] R) (fun w => W_canterref20_Time f R w) := ⟨by kernel_rfl⟩
theorem call_canterref20_Time (f : T_i3u2s) (R : Rs.T [.lf (.int .u64)] → WP) (w : World) (h : W_canterref20_Time f R w) :
    CallX Try.prog N_canterref20_Time ([.agg (Ks.mk K_i3u2s f)].map V1.enc) w fun v w' => ∃ x, v = (retTV (Rs.mk [.lf (.int .u64)] x)).enc ∧ R x w' :=
  callX_of_semF Try.func29 (by kernel_rfl) (by kernel_rfl) (sem_canterref20_Time f R) h


/-- cmp.Compare[uint64] -/
def W_cmp_Compare_uint64 (x : Int) (y : Int) (R : Rs.T [.lf (.int .i64)] → WP) : WP :=
  call Try.prog N_cmp_isNaN_uint64 [.lf (.int .u64 x)] [.lf .bool] fun (r1 : Bool) =>
  call Try.prog N_cmp_isNaN_uint64 [.lf (.int .u64 y)] [.lf .bool] fun (r2 : Bool) =>
  ite' r1 (
  ite' r2 (
  R (0:Int)) <|
  R (-1:Int)) <|
  ite' r2 (
  R (1:Int)) <|
  ite' (decide (x < y)) (
  R (-1:Int)) <|
  ite' (decide (x > y)) (
  R (1:Int)) <|
  R (0:Int)
theorem sem_cmp_Compare_uint64 (x : Int) (y : Int) (R : Rs.T [.lf (.int .i64)] → WP) : Same (semF Try.prog Try.f89 (.s .o (.s .o (.s .o (.s (.s .o (.s (.s (.s .o (.s (.s .o .o) .o)) (.s .o .o)) .o)) (.s (.s .o (.s (.s .o .o) .o)) (.s (.s .o (.s (.s .o .o) .o)) (.s (.s .o (.s (.s .o .o) .o)) (.s .o .o)))))))) [.lf (.int .u64 x), .lf (.int .u64 y)] [.lf (.int .i64)] R) (fun w => W_cmp_Compare_uint64 x y R w) := ⟨by kernel_rfl⟩
theorem call_cmp_Compare_uint64 (x : Int) (y : Int) (R : Rs.T [.lf (.int .i64)] → WP) (w : World) (h : W_cmp_Compare_uint64 x y R w) :
    CallX Try.prog N_cmp_Compare_uint64 ([.lf (.int .u64 x), .lf (.int .u64 y)].map V1.enc) w fun v w' => ∃ x, v = (retTV (Rs.mk [.lf (.int .i64)] x)).enc ∧ R x w' :=
  callX_of_semF Try.func89 (by kernel_rfl) (by kernel_rfl) (sem_cmp_Compare_uint64 x y R) h


/-- cmp.Or[int] -/
def W_cmp_Or_int (vals : Sl) (R : Rs.T [.lf (.int .i64)] → WP) : WP :=
  loop [.int .i64] (0:Int) fun J1 (y2 : Int) =>
  ite' (decide (y2 < ((vals.len : Nat) : Int))) (
  idx vals y2 1 fun q3 =>
  ld [.int .i64] q3 fun (x4 : Int) =>
  ite' (x4 != (0:Int)) (
  R x4) <|
  J1 (IntKind.i64.wrap (y2 + (1:Int)))) <|
  R (0:Int)
theorem sem_cmp_Or_int (vals : Sl) (R : Rs.T [.lf (.int .i64)] → WP) : Same (semF Try.prog Try.f88 (.s .o (.s .o (.s (.s .o (.b (.l [(8, .lf (.int .i64))] (.s .o (.s (.s .o .o) (.s (.b (.s .o (.s .o (.s (.s .o .o) .o)))) .o)))))) (.s .o .o)))) [.lf (.sl vals)] [.lf (.int .i64)] R) (fun w => W_cmp_Or_int vals R w) := ⟨by kernel_rfl⟩
theorem call_cmp_Or_int (vals : Sl) (R : Rs.T [.lf (.int .i64)] → WP) (w : World) (h : W_cmp_Or_int vals R w) :
    CallX Try.prog N_cmp_Or_int ([.lf (.sl vals)].map V1.enc) w fun v w' => ∃ x, v = (retTV (Rs.mk [.lf (.int .i64)] x)).enc ∧ R x w' :=
  callX_of_semF Try.func88 (by kernel_rfl) (by kernel_rfl) (sem_cmp_Or_int vals R) h


/-- cmp.isNaN[uint64] -/
def W_cmp_isNaN_uint64 (x : Int) (R : Rs.T [.lf .bool] → WP) : WP :=
  R (x != x)
theorem sem_cmp_isNaN_uint64 (x : Int) (R : Rs.T [.lf .bool] → WP) : Same (semF Try.prog Try.f96 (.s .o (.s .o .o)) [.lf (.int .u64 x)] [.lf .bool] R) (fun w => W_cmp_isNaN_uint64 x R w) := ⟨by kernel_rfl⟩
theorem call_cmp_isNaN_uint64 (x : Int) (R : Rs.T [.lf .bool] → WP) (w : World) (h : W_cmp_isNaN_uint64 x R w) :
    CallX Try.prog N_cmp_isNaN_uint64 ([.lf (.int .u64 x)].map V1.enc) w fun v w' => ∃ x, v = (retTV (Rs.mk [.lf .bool] x)).enc ∧ R x w' :=
  callX_of_semF Try.func96 (by kernel_rfl) (by kernel_rfl) (sem_cmp_isNaN_uint64 x R) h


/-- canter/delay.Lesser -/
def W_delay_Lesser (a : Int) (b : Int) (R : Rs.T [.lf (.int .u64)] → WP) : WP :=
  loop [.int .u64, .int .i64] ((18446744073709551615:Int), (0:Int)) fun J1 (y2 : Int × Int) =>
  ite' (decide (y2.2 < (2:Int))) (
  ixa [.int .u64] [.int .u64 a, .int .u64 b] y2.2 2 1 fun (x3 : Int) =>
  ite' (x3 == (0:Int)) (
  J1 (y2.1, (IntKind.i64.wrap (y2.2 + (1:Int))))) <|
  J1 ((if x3 < y2.1 then x3 else y2.1), (IntKind.i64.wrap (y2.2 + (1:Int))))) <|
  R y2.1
theorem sem_delay_Lesser (a : Int) (b : Int) (R : Rs.T [.lf (.int .u64)] → WP) : Same (semF Try.prog Try.f69 (.s .o (.s .o (.s .o (.s (.s .o (.b (.l [(5, .lf (.int .u64)), (11, .lf (.int .i64))] (.s .o (.s (.s .o .o) (.s (.b (.s .o (.s (.s .o (.s .o .o)) .o))) .o)))))) (.s .o .o))))) [.lf (.int .u64 a), .lf (.int .u64 b)] [.lf (.int .u64)] R) (fun w => W_delay_Lesser a b R w) := ⟨by kernel_rfl⟩
theorem call_delay_Lesser (a : Int) (b : Int) (R : Rs.T [.lf (.int .u64)] → WP) (w : World) (h : W_delay_Lesser a b R w) :
    CallX Try.prog N_delay_Lesser ([.lf (.int .u64 a), .lf (.int .u64 b)].map V1.enc) w fun v w' => ∃ x, v = (retTV (Rs.mk [.lf (.int .u64)] x)).enc ∧ R x w' :=
  callX_of_semF Try.func69 (by kernel_rfl) (by kernel_rfl) (sem_delay_Lesser a b R) h


/-- canter/delay.Of -/
def W_delay_Of (size : Int) (rate : Int) (R : Rs.T [.lf (.int .u64)] → WP) : WP :=
  ite' ((decide (size < (1:Int))) || (rate == (18446744073709551615:Int))) (
  R (0:Int)) <|
  call Try.prog N_wide_MulDiv [.lf (.int .u64 (IntKind.u64.wrap size)), .lf (.int .u64 (1000000000:Int)), .lf (.int .u64 rate)] [.lf (.int .u64)] fun (r1 : Int) =>
  R (if (1000000000:Int) < r1 then (1000000000:Int) else r1)
theorem sem_delay_Of (size : Int) (rate : Int) (R : Rs.T [.lf (.int .u64)] → WP) : Same (semF Try.prog Try.f68 (.s .o (.s (.s .o (.s (.s .o .o) .o)) (.s .o .o))) [.lf (.int .i64 size), .lf (.int .u64 rate)] [.lf (.int .u64)] R) (fun w => W_delay_Of size rate R w) := ⟨by kernel_rfl⟩
theorem call_delay_Of (size : Int) (rate : Int) (R : Rs.T [.lf (.int .u64)] → WP) (w : World) (h : W_delay_Of size rate R w) :
    CallX Try.prog N_delay_Of ([.lf (.int .i64 size), .lf (.int .u64 rate)].map V1.enc) w fun v w' => ∃ x, v = (retTV (Rs.mk [.lf (.int .u64)] x)).enc ∧ R x w' :=
  callX_of_semF Try.func68 (by kernel_rfl) (by kernel_rfl) (sem_delay_Of size rate R) h


/-- canter/fq.May -/
def W_fq_May (c : T_i4u2bi2) (R : Rs.T [.lf .bool] → WP) : WP :=
  new (Ks.mk K_i4u2bi2 c) fun n1 =>
  ld [.int .i64] ⟨n1, 0⟩ fun (x2 : Int) =>
  call Try.prog N_fq_within [.lf (.int .i64 x2), .lf (.int .i64 (100:Int)), .lf (.int .i64 (65536:Int))] [.lf .bool] fun (r3 : Bool) =>
  ite' r3 (
  ld [.int .i64] ⟨n1, 1⟩ fun (x4 : Int) =>
  call Try.prog N_fq_within [.lf (.int .i64 x4), .lf (.int .i64 (100:Int)), .lf (.int .i64 (65536:Int))] [.lf .bool] fun (r5 : Bool) =>
  ite' r5 (
  ld [.int .i64] ⟨n1, 2⟩ fun (x6 : Int) =>
  call Try.prog N_fq_within [.lf (.int .i64 x6), .lf (.int .i64 (1:Int)), .lf (.int .i64 (512:Int))] [.lf .bool] fun (r7 : Bool) =>
  ite' r7 (
  ld [.int .i64] ⟨n1, 3⟩ fun (x8 : Int) =>
  call Try.prog N_fq_within [.lf (.int .i64 x8), .lf (.int .i64 (1:Int)), .lf (.int .i64 (512:Int))] [.lf .bool] fun (r9 : Bool) =>
  ite' r9 (
  ld [.int .u64] ⟨n1, 4⟩ fun (x10 : Int) =>
  ite' (decide (x10 ≤ (4611686018427387904:Int))) (
  ld [.int .i64] ⟨n1, 7⟩ fun (x11 : Int) =>
  call Try.prog N_fq_within [.lf (.int .i64 x11), .lf (.int .i64 (1:Int)), .lf (.int .i64 (1073741824:Int))] [.lf .bool] fun (r12 : Bool) =>
  ite' r12 (
  ld [.int .i64] ⟨n1, 8⟩ fun (x13 : Int) =>
  call Try.prog N_fq_within [.lf (.int .i64 x13), .lf (.int .i64 (100:Int)), .lf (.int .i64 (9000:Int))] [.lf .bool] fun (r14 : Bool) =>
  R r14) <|
  R false) <|
  R false) <|
  R false) <|
  R false) <|
  R false) <|
  R false
theorem sem_fq_May (c : T_i4u2bi2) (R : Rs.T [.lf .bool] → WP) : Same (semF Try.prog Try.f32 (.s .o (.s .o .o)) [.agg (Ks.mk K_i4u2bi2 c)] [.lf .bool] R) (fun w => W_fq_May c R w) := ⟨by kernel_rfl⟩
theorem call_fq_May (c : T_i4u2bi2) (R : Rs.T [.lf .bool] → WP) (w : World) (h : W_fq_May c R w) :
    CallX Try.prog N_fq_May ([.agg (Ks.mk K_i4u2bi2 c)].map V1.enc) w fun v w' => ∃ x, v = (retTV (Rs.mk [.lf .bool] x)).enc ∧ R x w' :=
  callX_of_semF Try.func32 (by kernel_rfl) (by kernel_rfl) (sem_fq_May c R) h


/-- canter/fq.New -/
def W_fq_New (c : T_i4u2bi2) (R : Rs.T [.lf .ptr, .lf (.int .i64)] → WP) : WP :=
  new (Ks.mk K_i4u2bi2 c) fun n1 =>
  ld K_i4u2bi2 ⟨n1, 0⟩ fun (x2 : T_i4u2bi2) =>
  call Try.prog N_fq_May [.agg (Ks.mk K_i4u2bi2 x2)] [.lf .bool] fun (r3 : Bool) =>
  ite' (!r3) (
  R (none, (13:Int))) <|
  drw <|
  ld K_i4u2bi2 ⟨n1, 0⟩ fun (x4 : T_i4u2bi2) =>
  call Try.prog N_lists_New [] [.lf .ptr] fun (r5 : Option Pt) =>
  chk ⟨n1, 0⟩ (Ks.mk K_i4u2bi2 x4) <|
  call Try.prog N_rbtree_New [.lf (.int .i64 (8:Int))] [.lf .ptr] fun (r6 : Option Pt) =>
  chk ⟨n1, 0⟩ (Ks.mk K_i4u2bi2 x4) <|
  new [.int .i64 x4.1, .int .i64 x4.2.1, .int .i64 x4.2.2.1, .int .i64 x4.2.2.2.1, .int .u64 x4.2.2.2.2.1, .int .u64 x4.2.2.2.2.2.1, .bool x4.2.2.2.2.2.2.1, .int .i64 x4.2.2.2.2.2.2.2.1, .int .i64 x4.2.2.2.2.2.2.2.2, .ptr none, .ptr none, .ptr none, .ptr none, .ptr none, .ptr none, .ptr none, .ptr none, .ptr r5, .ptr r6, .int .i64 (0:Int)] fun n7 =>
  R ((some ⟨n7, 0⟩), (0:Int))
theorem sem_fq_New (c : T_i4u2bi2) (R : Rs.T [.lf .ptr, .lf (.int .i64)] → WP) : Same (semF Try.prog Try.f15 (.s .o (.s (.s .o (.s (.s .o .o) .o)) (.s (.d (.f 0 [1] (.w 1 [] (.w 2 [] (.f 3 [7, 8, 9] (.w 4 [10] (.w 5 [11] (.w 6 [] .fin)))))))) .o))) [.agg (Ks.mk K_i4u2bi2 c)] [.lf .ptr, .lf (.int .i64)] R) (fun w => W_fq_New c R w) := ⟨by kernel_rfl⟩
theorem call_fq_New (c : T_i4u2bi2) (R : Rs.T [.lf .ptr, .lf (.int .i64)] → WP) (w : World) (h : W_fq_New c R w) :
    CallX Try.prog N_fq_New ([.agg (Ks.mk K_i4u2bi2 c)].map V1.enc) w fun v w' => ∃ x, v = (retTV (Rs.mk [.lf .ptr, .lf (.int .i64)] x)).enc ∧ R x w' :=
  callX_of_semF Try.func15 (by kernel_rfl) (by kernel_rfl) (sem_fq_New c R) h


/-- (*canter/fq.Queue).Dequeue -/
def W_fq_Queue_Dequeue (d : Option Pt) (o : Int) (a : Sl) (R : Rs.T [.agg K_iuiub, .lf .bool] → WP) : WP :=
  new [.int .i64 (0:Int), .int .u64 (0:Int), .int .i64 (0:Int), .int .u64 (0:Int), .bool false] fun n1 =>
  ite' d.isNone (
  st ⟨n1, 0⟩ [.int .i64 (0:Int), .int .u64 (0:Int), .int .i64 (0:Int), .int .u64 (0:Int), .bool false] <|
  ld K_iuiub ⟨n1, 0⟩ fun (x2 : T_iuiub) =>
  R (x2, false)) <|
  call Try.prog N_fq_Queue_due [.lf (.ptr d), .lf (.int .u64 o)] [] fun (r3 : Unit) =>
  loop [] () fun J4 (y5 : Unit) =>
  deref d fun q6 =>
  ld [.ptr] ⟨q6.b, q6.o + 17⟩ fun (x7 : Option Pt) =>
  call Try.prog N_lists_Lists_Head [.lf (.ptr x7)] [.lf (.int .i64), .lf .bool, .lf .bool] fun (r8 : Int × Bool × Bool) =>
  ite' (!r8.2.2) (
  st ⟨n1, 0⟩ [.int .i64 (0:Int), .int .u64 (0:Int), .int .i64 (0:Int), .int .u64 (0:Int), .bool false] <|
  ld K_iuiub ⟨n1, 0⟩ fun (x9 : T_iuiub) =>
  R (x9, false)) <|
  deref d fun q10 =>
  req (0 ≤ r8.1 ∧ r8.1 < 8) <|
  ld [.ptr] ⟨q10.b, q10.o + 9 + r8.1.toNat * 1⟩ fun (x11 : Option Pt) =>
  deref x11 fun q12 =>
  ld [.int .i64] q12 fun (x13 : Int) =>
  ite' (decide (x13 ≤ (0:Int))) (
  drw <|
  deref x11 fun q14 =>
  deref d fun q15 =>
  ld [.int .i64] q14 fun (x16 : Int) =>
  ld [.int .i64] q15 fun (x17 : Int) =>
  deref x11 fun q18 =>
  st q18 [.int .i64 (IntKind.i64.wrap (x16 + x17))] <|
  deref d fun q19 =>
  ld [.ptr] ⟨q19.b, q19.o + 17⟩ fun (x20 : Option Pt) =>
  call Try.prog N_lists_Lists_Back [.lf (.ptr x20)] [.lf .bool] fun (r21 : Bool) =>
  J4 ()) <|
  join [.bool] (fun J22 =>
  deref x11 fun q24 =>
  ld [.sl] ⟨q24.b, q24.o + 3⟩ fun (x25 : Sl) =>
  ite' ((((x25.len : Nat) : Int) == (0:Int)) && r8.2.1) (
  call Try.prog N_fq_Queue_old [.lf (.ptr d)] [.lf .bool] fun (r26 : Bool) =>
  J22 r26) <|
  J22 false) fun (y23 : Bool) =>
  ite' y23 (
  deref d fun q27 =>
  ld [.ptr] ⟨q27.b, q27.o + 17⟩ fun (x28 : Option Pt) =>
  call Try.prog N_lists_Lists_Back [.lf (.ptr x28)] [.lf .bool] fun (r29 : Bool) =>
  J4 ()) <|
  deref x11 fun q30 =>
  ld [.sl] ⟨q30.b, q30.o + 3⟩ fun (x31 : Sl) =>
  ite' (((x31.len : Nat) : Int) == (0:Int)) (
  deref d fun q32 =>
  ld [.ptr] ⟨q32.b, q32.o + 17⟩ fun (x33 : Option Pt) =>
  call Try.prog N_lists_Lists_Drop [.lf (.ptr x33)] [.lf .bool] fun (r34 : Bool) =>
  deref x11 fun q35 =>
  st ⟨q35.b, q35.o + 2⟩ [.int .u64 o] <|
  J4 ()) <|
  call Try.prog N_fq_flow_time [.lf (.ptr x11)] [.lf (.int .u64)] fun (r36 : Int) =>
  ite' (decide (r36 > o)) (
  deref d fun q37 =>
  ld [.ptr] ⟨q37.b, q37.o + 17⟩ fun (x38 : Option Pt) =>
  call Try.prog N_lists_Lists_Drop [.lf (.ptr x38)] [.lf .bool] fun (r39 : Bool) =>
  drw <|
  deref d fun q40 =>
  ld [.ptr] ⟨q40.b, q40.o + 18⟩ fun (x41 : Option Pt) =>
  call Try.prog N_fq_key [.lf (.ptr x11), .lf (.int .i64 r8.1)] [.agg [.int .u64, .int .u64]] fun (r42 : (Int × Int)) =>
  chk ⟨q40.b, q40.o + 18⟩ (Ks.mk [.ptr] x41) <|
  call Try.prog N_rbtree_Tree_Insert [.lf (.ptr x41), .agg (Ks.mk [.int .u64, .int .u64] r42)] [.lf (.int .i64)] fun (r43 : Int) =>
  J4 ()) <|
  join [.int .u64] (fun J44 =>
  ite' (decide (r8.1 < ((a.len : Nat) : Int))) (
  idx a r8.1 1 fun q46 =>
  ld [.int .u64] q46 fun (x47 : Int) =>
  J44 x47) <|
  J44 (18446744073709551615:Int)) fun (y45 : Int) =>
  call Try.prog N_fq_Queue_send [.lf (.ptr d), .lf (.ptr x11), .lf (.int .u64 o), .lf (.int .u64 y45)] [.agg K_iuiub] fun (r48 : T_iuiub) =>
  st ⟨n1, 0⟩ (Ks.mk K_iuiub r48) <|
  ld K_iuiub ⟨n1, 0⟩ fun (x49 : T_iuiub) =>
  R (x49, true)
theorem sem_fq_Queue_Dequeue (d : Option Pt) (o : Int) (a : Sl) (R : Rs.T [.agg K_iuiub, .lf .bool] → WP) : Same (semF Try.prog Try.f23 (.s .o (.s (.s .o (.s (.s .o .o) .o)) (.s .o (.s .o (.s (.b (.l [] (.b (.s .o (.s (.s .o (.s .o .o)) (.s .o (.b (.s .o (.s (.s (.d (.f 0 [11] (.f 4 [0] (.f 1 [55] (.f 5 [59] (.f 2 [56] (.f 6 [60] (.f 3 [57] (.f 7 [61] (.f 8 [62] (.f 9 [58, 63] (.f 10 [55] (.f 11 [65] (.w 12 [64, 66] .fin)))))))))))))) .o) (.j [(72, .lf .bool)] .o (.s .o (.s .o (.s (.s .o .o) (.s .o (.s (.s .o (.d (.f 0 [0] (.f 4 [11] (.f 5 [8] (.f 1 [117] (.f 2 [118] (.f 3 [119] (.w 6 [121, 122] (.w 7 [120, 123] .fin)))))))))) (.s .o (.j [(12, .lf (.int .u64))] (.s .o (.s .o .o)) (.s .o .o)))))))))))))))))) (.s .o .o)))))) [.lf (.ptr d), .lf (.int .u64 o), .lf (.sl a)] [.agg K_iuiub, .lf .bool] R) (fun w => W_fq_Queue_Dequeue d o a R w) := ⟨by kernel_rfl⟩
theorem call_fq_Queue_Dequeue (d : Option Pt) (o : Int) (a : Sl) (R : Rs.T [.agg K_iuiub, .lf .bool] → WP) (w : World) (h : W_fq_Queue_Dequeue d o a R w) :
    CallX Try.prog N_fq_Queue_Dequeue ([.lf (.ptr d), .lf (.int .u64 o), .lf (.sl a)].map V1.enc) w fun v w' => ∃ x, v = (retTV (Rs.mk [.agg K_iuiub, .lf .bool] x)).enc ∧ R x w' :=
  callX_of_semF Try.func23 (by kernel_rfl) (by kernel_rfl) (sem_fq_Queue_Dequeue d o a R) h


/-- (*canter/fq.Queue).Enqueue -/
def W_fq_Queue_Enqueue (q : Option Pt) (s : T_iuiub) (now : Int) (R : Rs.T [.lf (.int .i64), .lf (.int .i64)] → WP) : WP :=
  new (Ks.mk K_iuiub s) fun n1 =>
  ite' q.isNone (
  R ((0:Int), (2:Int))) <|
  ld [.int .i64] ⟨n1, 0⟩ fun (x2 : Int) =>
  call Try.prog N_fq_within [.lf (.int .i64 x2), .lf (.int .i64 (0:Int)), .lf (.int .i64 (7:Int))] [.lf .bool] fun (r3 : Bool) =>
  ite' (!r3) (
  R ((0:Int), (8:Int))) <|
  ld [.int .i64] ⟨n1, 2⟩ fun (x4 : Int) =>
  call Try.prog N_fq_within [.lf (.int .i64 x4), .lf (.int .i64 (1:Int)), .lf (.int .i64 (65536:Int))] [.lf .bool] fun (r5 : Bool) =>
  ite' (!r5) (
  R ((0:Int), (1:Int))) <|
  call Try.prog N_fq_Queue_collect [.lf (.ptr q), .lf (.int .u64 now)] [] fun (r6 : Unit) =>
  call Try.prog N_fq_Queue_fate [.lf (.ptr q), .lf (.ptr (some ⟨n1, 0⟩)), .lf (.int .u64 now)] [.lf (.int .i64)] fun (r7 : Int) =>
  ite' (r7 == (0:Int)) (
  ld [.int .i64] ⟨n1, 0⟩ fun (x8 : Int) =>
  call Try.prog N_fq_Queue_wake [.lf (.ptr q), .lf (.int .i64 x8), .lf (.int .u64 now)] [] fun (r9 : Unit) =>
  drw <|
  ld [.int .i64] ⟨n1, 0⟩ fun (x10 : Int) =>
  deref q fun q11 =>
  req (0 ≤ x10 ∧ x10 < 8) <|
  ld [.ptr] ⟨q11.b, q11.o + 9 + x10.toNat * 1⟩ fun (x12 : Option Pt) =>
  drw <|
  ld K_iuiub ⟨n1, 0⟩ fun (x13 : T_iuiub) =>
  deref x12 fun q14 =>
  ld [.sl] ⟨q14.b, q14.o + 3⟩ fun (x15 : Sl) =>
  new [.int .i64 x13.1, .int .u64 x13.2.1, .int .i64 x13.2.2.1, .int .u64 x13.2.2.2.1, .bool x13.2.2.2.2] fun n16 =>
  chk ⟨q14.b, q14.o + 3⟩ (Ks.mk [.sl] x15) <|
  app 5 x15 ⟨some ⟨n16, 0⟩, 1, 1⟩ fun s17 =>
  deref x12 fun q18 =>
  st ⟨q18.b, q18.o + 3⟩ [.sl s17] <|
  deref q fun q19 =>
  ld [.int .i64] ⟨q19.b, q19.o + 19⟩ fun (x20 : Int) =>
  deref q fun q21 =>
  st ⟨q21.b, q21.o + 19⟩ [.int .i64 (IntKind.i64.wrap (x20 + (1:Int)))] <|
  R (r7, (0:Int))) <|
  R (r7, (0:Int))
theorem sem_fq_Queue_Enqueue (q : Option Pt) (s : T_iuiub) (now : Int) (R : Rs.T [.lf (.int .i64), .lf (.int .i64)] → WP) : Same (semF Try.prog Try.f17 (.s .o (.s (.b (.s .o (.s (.s .o .o) (.s .o (.s (.s .o .o) (.s .o (.s (.s .o .o) .o))))))) (.s .o (.s .o (.s (.s .o (.s (.s .o (.s (.d (.f 0 [0] (.f 1 [4] (.f 2 [37] (.f 3 [36] (.f 4 [39] (.f 5 [38, 40] (.f 6 [41] (.w 7 [42] .fin))))))))) (.s (.d (.f 0 [9] (.f 1 [9] (.f 5 [4] (.f 2 [44] (.f 3 [45] (.f 4 [46] (.w 6 [48] (.w 7 [47, 49] (.f 8 [43] (.f 9 [51] (.w 10 [50, 52] .fin)))))))))))) .o))) .o)) (.s .o .o)))))) [.lf (.ptr q), .agg (Ks.mk K_iuiub s), .lf (.int .u64 now)] [.lf (.int .i64), .lf (.int .i64)] R) (fun w => W_fq_Queue_Enqueue q s now R w) := ⟨by kernel_rfl⟩
theorem call_fq_Queue_Enqueue (q : Option Pt) (s : T_iuiub) (now : Int) (R : Rs.T [.lf (.int .i64), .lf (.int .i64)] → WP) (w : World) (h : W_fq_Queue_Enqueue q s now R w) :
    CallX Try.prog N_fq_Queue_Enqueue ([.lf (.ptr q), .agg (Ks.mk K_iuiub s), .lf (.int .u64 now)].map V1.enc) w fun v w' => ∃ x, v = (retTV (Rs.mk [.lf (.int .i64), .lf (.int .i64)] x)).enc ∧ R x w' :=
  callX_of_semF Try.func17 (by kernel_rfl) (by kernel_rfl) (sem_fq_Queue_Enqueue q s now R) h


/-- (*canter/fq.Queue).Flow -/
def W_fq_Queue_Flow (q : Option Pt) (sock : Int) (R : Rs.T [.agg K_i3u2s, .lf .bool] → WP) : WP :=
  new [.int .i64 (0:Int), .int .i64 (0:Int), .int .i64 (0:Int), .int .u64 (0:Int), .int .u64 (0:Int), .sl ⟨none, 0, 0⟩] fun n1 =>
  call Try.prog N_fq_Queue_has [.lf (.ptr q), .lf (.int .i64 sock)] [.lf .bool] fun (r2 : Bool) =>
  ite' (!r2) (
  st ⟨n1, 0⟩ [.int .i64 (0:Int), .int .i64 (0:Int), .int .i64 (0:Int), .int .u64 (0:Int), .int .u64 (0:Int), .sl ⟨none, 0, 0⟩] <|
  ld K_i3u2s ⟨n1, 0⟩ fun (x3 : T_i3u2s) =>
  R (x3, false)) <|
  deref q fun q4 =>
  req (0 ≤ sock ∧ sock < 8) <|
  ld [.ptr] ⟨q4.b, q4.o + 9 + sock.toNat * 1⟩ fun (x5 : Option Pt) =>
  drw <|
  deref x5 fun q6 =>
  deref x5 fun q7 =>
  deref x5 fun q8 =>
  deref x5 fun q9 =>
  ld [.int .i64] q6 fun (x10 : Int) =>
  ld [.int .u64] ⟨q7.b, q7.o + 1⟩ fun (x11 : Int) =>
  ld [.int .u64] ⟨q8.b, q8.o + 2⟩ fun (x12 : Int) =>
  ld [.sl] ⟨q9.b, q9.o + 3⟩ fun (x13 : Sl) =>
  call Try.prog N_fq_Queue_place [.lf (.ptr q), .lf (.int .i64 sock)] [.lf (.int .i64)] fun (r14 : Int) =>
  chk ⟨q9.b, q9.o + 3⟩ (Ks.mk [.sl] x13) <|
  chk ⟨q8.b, q8.o + 2⟩ (Ks.mk [.int .u64] x12) <|
  chk ⟨q7.b, q7.o + 1⟩ (Ks.mk [.int .u64] x11) <|
  chk q6 (Ks.mk [.int .i64] x10) <|
  call Try.prog N_slices_Clone_sapiSegapiSeg [.lf (.sl x13)] [.lf .sl] fun (r15 : Sl) =>
  chk ⟨q8.b, q8.o + 2⟩ (Ks.mk [.int .u64] x12) <|
  chk ⟨q7.b, q7.o + 1⟩ (Ks.mk [.int .u64] x11) <|
  chk q6 (Ks.mk [.int .i64] x10) <|
  st ⟨n1, 0⟩ [.int .i64 sock, .int .i64 x10, .int .i64 r14, .int .u64 x11, .int .u64 x12, .sl r15] <|
  ld K_i3u2s ⟨n1, 0⟩ fun (x16 : T_i3u2s) =>
  R (x16, true)
theorem sem_fq_Queue_Flow (q : Option Pt) (sock : Int) (R : Rs.T [.agg K_i3u2s, .lf .bool] → WP) : Same (semF Try.prog Try.f22 (.s .o (.s (.s .o (.s (.s .o .o) .o)) (.s .o (.s (.d (.f 0 [1] (.f 1 [6] (.f 5 [0] (.f 6 [1] (.f 8 [6] (.f 12 [6] (.f 16 [6] (.f 2 [19] (.f 9 [26] (.f 13 [30] (.f 17 [34] (.f 3 [20] (.f 10 [27] (.f 14 [31] (.f 18 [35] (.f 4 [21] (.f 11 [28] (.f 15 [32] (.f 19 [36] (.w 7 [23, 24] (.w 20 [37] (.f 21 [18, 22, 25, 29, 33, 38] (.w 22 [4, 39] (.w 23 [] .fin))))))))))))))))))))))))) .o)))) [.lf (.ptr q), .lf (.int .i64 sock)] [.agg K_i3u2s, .lf .bool] R) (fun w => W_fq_Queue_Flow q sock R w) := ⟨by kernel_rfl⟩
theorem call_fq_Queue_Flow (q : Option Pt) (sock : Int) (R : Rs.T [.agg K_i3u2s, .lf .bool] → WP) (w : World) (h : W_fq_Queue_Flow q sock R w) :
    CallX Try.prog N_fq_Queue_Flow ([.lf (.ptr q), .lf (.int .i64 sock)].map V1.enc) w fun v w' => ∃ x, v = (retTV (Rs.mk [.agg K_i3u2s, .lf .bool] x)).enc ∧ R x w' :=
  callX_of_semF Try.func22 (by kernel_rfl) (by kernel_rfl) (sem_fq_Queue_Flow q sock R) h


/-- (*canter/fq.Queue).Len -/
def W_fq_Queue_Len (q : Option Pt) (R : Rs.T [.lf (.int .i64)] → WP) : WP :=
  ite' q.isNone (
  R (0:Int)) <|
  deref q fun q1 =>
  ld [.int .i64] ⟨q1.b, q1.o + 19⟩ fun (x2 : Int) =>
  R x2
theorem sem_fq_Queue_Len (q : Option Pt) (R : Rs.T [.lf (.int .i64)] → WP) : Same (semF Try.prog Try.f18 (.s .o (.s (.s .o (.s (.s .o .o) .o)) (.s .o .o))) [.lf (.ptr q)] [.lf (.int .i64)] R) (fun w => W_fq_Queue_Len q R w) := ⟨by kernel_rfl⟩
theorem call_fq_Queue_Len (q : Option Pt) (R : Rs.T [.lf (.int .i64)] → WP) (w : World) (h : W_fq_Queue_Len q R w) :
    CallX Try.prog N_fq_Queue_Len ([.lf (.ptr q)].map V1.enc) w fun v w' => ∃ x, v = (retTV (Rs.mk [.lf (.int .i64)] x)).enc ∧ R x w' :=
  callX_of_semF Try.func18 (by kernel_rfl) (by kernel_rfl) (sem_fq_Queue_Len q R) h


/-- (*canter/fq.Queue).Watchdog -/
def W_fq_Queue_Watchdog (q : Option Pt) (R : Rs.T [.lf (.int .u64), .lf .bool] → WP) : WP :=
  ite' q.isNone (
  R ((0:Int), false)) <|
  deref q fun q1 =>
  ld [.ptr] ⟨q1.b, q1.o + 18⟩ fun (x2 : Option Pt) =>
  call Try.prog N_rbtree_Tree_Min [.lf (.ptr x2)] [.agg [.int .u64, .int .u64], .lf .bool] fun (r3 : (Int × Int) × Bool) =>
  new [.int .u64 (0:Int), .int .u64 (0:Int)] fun n4 =>
  st ⟨n4, 0⟩ (Ks.mk [.int .u64, .int .u64] r3.1) <|
  ld [.int .u64] ⟨n4, 0⟩ fun (x5 : Int) =>
  R (x5, r3.2)
theorem sem_fq_Queue_Watchdog (q : Option Pt) (R : Rs.T [.lf (.int .u64), .lf .bool] → WP) : Same (semF Try.prog Try.f30 (.s .o (.s (.s .o (.s (.s .o .o) .o)) (.s .o (.s .o .o)))) [.lf (.ptr q)] [.lf (.int .u64), .lf .bool] R) (fun w => W_fq_Queue_Watchdog q R w) := ⟨by kernel_rfl⟩
theorem call_fq_Queue_Watchdog (q : Option Pt) (R : Rs.T [.lf (.int .u64), .lf .bool] → WP) (w : World) (h : W_fq_Queue_Watchdog q R w) :
    CallX Try.prog N_fq_Queue_Watchdog ([.lf (.ptr q)].map V1.enc) w fun v w' => ∃ x, v = (retTV (Rs.mk [.lf (.int .u64), .lf .bool] x)).enc ∧ R x w' :=
  callX_of_semF Try.func30 (by kernel_rfl) (by kernel_rfl) (sem_fq_Queue_Watchdog q R) h


/-- (*canter/fq.Queue).collect -/
def W_fq_Queue_collect (q : Option Pt) (now : Int) (R : Rs.T [] → WP) : WP :=
  loop [.int .i64] (0:Int) fun J1 (y2 : Int) =>
  ite' (decide (y2 < (8:Int))) (
  call Try.prog N_fq_Queue_idle [.lf (.ptr q), .lf (.int .i64 y2), .lf (.int .u64 (3000000000:Int)), .lf (.int .u64 now)] [.lf .bool] fun (r3 : Bool) =>
  ite' r3 (
  deref q fun q4 =>
  req (0 ≤ y2 ∧ y2 < 8) <|
  st ⟨q4.b, q4.o + 9 + y2.toNat * 1⟩ [.ptr none] <|
  J1 (IntKind.i64.wrap (y2 + (1:Int)))) <|
  J1 (IntKind.i64.wrap (y2 + (1:Int)))) <|
  R ()
theorem sem_fq_Queue_collect (q : Option Pt) (now : Int) (R : Rs.T [] → WP) : Same (semF Try.prog Try.f36 (.s .o (.b (.l [(5, .lf (.int .i64))] (.s .o (.s (.s .o .o) (.s (.b (.s .o (.s .o (.s .o .o)))) .o)))))) [.lf (.ptr q), .lf (.int .u64 now)] [] R) (fun w => W_fq_Queue_collect q now R w) := ⟨by kernel_rfl⟩
theorem call_fq_Queue_collect (q : Option Pt) (now : Int) (R : Rs.T [] → WP) (w : World) (h : W_fq_Queue_collect q now R w) :
    CallX Try.prog N_fq_Queue_collect ([.lf (.ptr q), .lf (.int .u64 now)].map V1.enc) w fun v w' => ∃ x, v = (retTV (Rs.mk [] x)).enc ∧ R x w' :=
  callX_of_semF Try.func36 (by kernel_rfl) (by kernel_rfl) (sem_fq_Queue_collect q now R) h


/-- (*canter/fq.Queue).due -/
def W_fq_Queue_due (n0 : Nat) (q : Option Pt) (now : Int) (R : Rs.T [] → WP) : WP :=
  new [.int .u64 now] fun n1 =>
  new [.sl ⟨none, 0, 0⟩] fun n2 =>
  join [] (fun J3 =>
  deref q fun q5 =>
  ld [.ptr] ⟨q5.b, q5.o + 18⟩ fun (x6 : Option Pt) =>
  call Try.prog N_rbtree_Tree_All [.lf (.ptr x6)] [.lf .fn] fun (r7 : Fv) =>
  rangeF Try.prog r7 [.agg [.int .u64, .int .u64]] (fun (v8 : (Int × Int)) mid9 next10 jump11 =>
  new [.int .u64 (0:Int), .int .u64 (0:Int)] fun n12 =>
  st ⟨n12, 0⟩ (Ks.mk [.int .u64, .int .u64] v8) <|
  mid9 <|
  ld [.int .u64] ⟨n12, 0⟩ fun (x13 : Int) =>
  ld [.int .u64] ⟨n1, 0⟩ fun (x14 : Int) =>
  ite' (decide (x13 > x14)) (
  jump11 2) <|
  ld [.sl] ⟨n2, 0⟩ fun (x15 : Sl) =>
  ld [.int .u64, .int .u64] ⟨n12, 0⟩ fun (x16 : Int × Int) =>
  new [.int .u64 x16.1, .int .u64 x16.2] fun n17 =>
  app 2 x15 ⟨some ⟨n17, 0⟩, 1, 1⟩ fun s18 =>
  st ⟨n2, 0⟩ [.sl s18] <|
  next10) fun i19 => isBy 0 i19 (J3 ()) <|
  isBy 2 i19 (J3 ()) <|
  wno) fun (y4 : Unit) =>
  ld [.sl] ⟨n2, 0⟩ fun (x20 : Sl) =>
  loop [.int .i64] (0:Int) fun J21 (y22 : Int) =>
  ite' (decide (y22 < ((x20.len : Nat) : Int))) (
  idx x20 y22 2 fun q23 =>
  ld [.int .u64, .int .u64] q23 fun (x24 : Int × Int) =>
  new [.int .u64 (0:Int), .int .u64 (0:Int)] fun n25 =>
  st ⟨n25, 0⟩ (Ks.mk [.int .u64, .int .u64] x24) <|
  drw <|
  ld [.int .u64, .int .u64] ⟨n25, 0⟩ fun (x26 : Int × Int) =>
  deref q fun q27 =>
  ld [.ptr] ⟨q27.b, q27.o + 18⟩ fun (x28 : Option Pt) =>
  call Try.prog N_rbtree_Tree_Delete [.lf (.ptr x28), .agg (Ks.mk [.int .u64, .int .u64] x26)] [.lf (.int .i64)] fun (r29 : Int) =>
  drw <|
  deref q fun q30 =>
  ld [.int .u64] ⟨n25, 1⟩ fun (x31 : Int) =>
  ld [.ptr] ⟨q30.b, q30.o + 17⟩ fun (x32 : Option Pt) =>
  call Try.prog N_lists_Lists_Push [.lf (.ptr x32), .lf (.int .i64 (IntKind.i64.wrap x31)), .lf (.bool false)] [.lf (.int .i64)] fun (r33 : Int) =>
  J21 (IntKind.i64.wrap (y22 + (1:Int)))) <|
  leave n0 <| R ()
theorem sem_fq_Queue_due (q : Option Pt) (now : Int) (R : Rs.T [] → WP) : Same (semF Try.prog Try.f42 (.s .o (.s .o (.j [] (.s .o (.b (.r [.agg [.int .u64, .int .u64]] .o (.b (.s (.s .o (.s .o .o)) .o))))) (.s .o (.b (.l [(24, .lf (.int .i64))] (.s .o (.s (.s .o .o) (.s (.b (.s .o (.s (.d (.f 0 [0] (.f 4 [7] (.f 1 [28] (.f 2 [29] (.f 3 [30] (.w 5 [31, 32] .fin))))))) (.d (.f 0 [0] (.f 4 [7] (.f 1 [34] (.f 5 [38] (.f 2 [35] (.f 6 [39] (.f 3 [36] (.w 7 [37, 40] .fin)))))))))))) .o))))))))) [.lf (.ptr q), .lf (.int .u64 now)] [] R) (fun w => W_fq_Queue_due w.heap.size q now R w) := ⟨by kernel_rfl⟩
theorem call_fq_Queue_due (q : Option Pt) (now : Int) (R : Rs.T [] → WP) (w : World) (h : W_fq_Queue_due w.heap.size q now R w) :
    CallX Try.prog N_fq_Queue_due ([.lf (.ptr q), .lf (.int .u64 now)].map V1.enc) w fun v w' => ∃ x, v = (retTV (Rs.mk [] x)).enc ∧ R x w' :=
  callX_of_semF Try.func42 (by kernel_rfl) (by kernel_rfl) (sem_fq_Queue_due q now R) h


/-- (*canter/fq.Queue).fate -/
def W_fq_Queue_fate (d : Option Pt) (o : Option Pt) (a : Int) (R : Rs.T [.lf (.int .i64)] → WP) : WP :=
  drw <|
  deref o fun q1 =>
  deref d fun q2 =>
  ld [.int .i64] q1 fun (x3 : Int) =>
  req (0 ≤ x3 ∧ x3 < 8) <|
  ld [.ptr] ⟨q2.b, q2.o + 9 + x3.toNat * 1⟩ fun (x4 : Option Pt) =>
  deref d fun q5 =>
  ld [.int .u64] ⟨q5.b, q5.o + 4⟩ fun (x6 : Int) =>
  call Try.prog N_sat_Add [.lf (.int .u64 a), .lf (.int .u64 x6)] [.lf (.int .u64)] fun (r7 : Int) =>
  join [] (fun J8 =>
  drw <|
  deref d fun q10 =>
  deref d fun q11 =>
  ld [.int .i64] ⟨q10.b, q10.o + 19⟩ fun (x12 : Int) =>
  ld [.int .i64] ⟨q11.b, q11.o + 2⟩ fun (x13 : Int) =>
  ite' (decide (x12 ≥ x13)) (
  R (2:Int)) <|
  join [.bool] (fun J14 =>
  drw <|
  ite' (!x4.isNone) (
  deref x4 fun q16 =>
  deref d fun q17 =>
  ld [.sl] ⟨q16.b, q16.o + 3⟩ fun (x18 : Sl) =>
  ld [.int .i64] ⟨q17.b, q17.o + 3⟩ fun (x19 : Int) =>
  J14 (decide (((x18.len : Nat) : Int) ≥ x19))) <|
  J14 false) fun (y15 : Bool) =>
  ite' y15 (
  R (3:Int)) <|
  deref o fun q20 =>
  ld [.int .u64] ⟨q20.b, q20.o + 3⟩ fun (x21 : Int) =>
  ite' (decide (x21 > r7)) (
  deref d fun q22 =>
  ld [.bool] ⟨q22.b, q22.o + 6⟩ fun (x23 : Bool) =>
  ite' x23 (
  R (4:Int)) <|
  J8 ()) <|
  J8 ()) fun (y9 : Unit) =>
  deref o fun q24 =>
  ld [.int .u64] ⟨q24.b, q24.o + 3⟩ fun (x25 : Int) =>
  deref o fun q26 =>
  st ⟨q26.b, q26.o + 3⟩ [.int .u64 (if r7 < x25 then r7 else x25)] <|
  R (0:Int)
theorem sem_fq_Queue_fate (d : Option Pt) (o : Option Pt) (a : Int) (R : Rs.T [.lf (.int .i64)] → WP) : Same (semF Try.prog Try.f37 (.s .o (.s (.d (.f 0 [0] (.f 1 [1] (.f 2 [10] (.f 5 [9] (.f 3 [11] (.f 6 [14] (.f 4 [12] (.f 7 [13, 15] (.f 8 [16] (.w 9 [17] .fin))))))))))) (.s .o (.j [] (.b (.s (.d (.f 0 [0] (.f 4 [0] (.f 1 [26] (.f 5 [30] (.f 2 [27] (.f 6 [31] (.f 3 [28] (.f 7 [32] (.f 8 [33] (.f 9 [29, 34] (.w 10 [35] .fin)))))))))))) (.s (.s .o .o) (.j [(36, .lf .bool)] (.d (.f 0 [7] (.f 1 [37] (.f 2 [38] (.f 3 [7, 39] (.f 8 [0, 39] (.f 4 [39, 40] (.f 9 [39, 45] (.f 5 [39, 41] (.f 10 [39, 46] (.f 6 [39, 42] (.f 11 [39, 47] (.f 7 [39, 43] (.f 12 [39, 48] (.f 13 [39, 44, 49] (.f 14 [39, 50] (.w 15 [51] .fin))))))))))))))))) (.s (.s .o .o) (.s .o (.s (.s .o .o) .o))))))) (.s .o (.s .o .o)))))) [.lf (.ptr d), .lf (.ptr o), .lf (.int .u64 a)] [.lf (.int .i64)] R) (fun w => W_fq_Queue_fate d o a R w) := ⟨by kernel_rfl⟩
theorem call_fq_Queue_fate (d : Option Pt) (o : Option Pt) (a : Int) (R : Rs.T [.lf (.int .i64)] → WP) (w : World) (h : W_fq_Queue_fate d o a R w) :
    CallX Try.prog N_fq_Queue_fate ([.lf (.ptr d), .lf (.ptr o), .lf (.int .u64 a)].map V1.enc) w fun v w' => ∃ x, v = (retTV (Rs.mk [.lf (.int .i64)] x)).enc ∧ R x w' :=
  callX_of_semF Try.func37 (by kernel_rfl) (by kernel_rfl) (sem_fq_Queue_fate d o a R) h


/-- (*canter/fq.Queue).has -/
def W_fq_Queue_has (q : Option Pt) (sock : Int) (R : Rs.T [.lf .bool] → WP) : WP :=
  ite' (!q.isNone) (
  call Try.prog N_fq_within [.lf (.int .i64 sock), .lf (.int .i64 (0:Int)), .lf (.int .i64 (7:Int))] [.lf .bool] fun (r1 : Bool) =>
  ite' r1 (
  deref q fun q2 =>
  req (0 ≤ sock ∧ sock < 8) <|
  ld [.ptr] ⟨q2.b, q2.o + 9 + sock.toNat * 1⟩ fun (x3 : Option Pt) =>
  R (!x3.isNone)) <|
  R false) <|
  R false
theorem sem_fq_Queue_has (q : Option Pt) (sock : Int) (R : Rs.T [.lf .bool] → WP) : Same (semF Try.prog Try.f39 (.s .o (.s .o .o)) [.lf (.ptr q), .lf (.int .i64 sock)] [.lf .bool] R) (fun w => W_fq_Queue_has q sock R w) := ⟨by kernel_rfl⟩
theorem call_fq_Queue_has (q : Option Pt) (sock : Int) (R : Rs.T [.lf .bool] → WP) (w : World) (h : W_fq_Queue_has q sock R w) :
    CallX Try.prog N_fq_Queue_has ([.lf (.ptr q), .lf (.int .i64 sock)].map V1.enc) w fun v w' => ∃ x, v = (retTV (Rs.mk [.lf .bool] x)).enc ∧ R x w' :=
  callX_of_semF Try.func39 (by kernel_rfl) (by kernel_rfl) (sem_fq_Queue_has q sock R) h


/-- (*canter/fq.Queue).idle -/
def W_fq_Queue_idle (q : Option Pt) (sock : Int) (long : Int) (now : Int) (R : Rs.T [.lf .bool] → WP) : WP :=
  deref q fun q1 =>
  req (0 ≤ sock ∧ sock < 8) <|
  ld [.ptr] ⟨q1.b, q1.o + 9 + sock.toNat * 1⟩ fun (x2 : Option Pt) =>
  ite' (!x2.isNone) (
  call Try.prog N_fq_Queue_place [.lf (.ptr q), .lf (.int .i64 sock)] [.lf (.int .i64)] fun (r3 : Int) =>
  ite' (r3 == (0:Int)) (
  deref x2 fun q4 =>
  ld [.int .u64] ⟨q4.b, q4.o + 2⟩ fun (x5 : Int) =>
  call Try.prog N_sat_Add [.lf (.int .u64 x5), .lf (.int .u64 long)] [.lf (.int .u64)] fun (r6 : Int) =>
  R (decide (r6 ≤ now))) <|
  R false) <|
  R false
theorem sem_fq_Queue_idle (q : Option Pt) (sock : Int) (long : Int) (now : Int) (R : Rs.T [.lf .bool] → WP) : Same (semF Try.prog Try.f58 (.s .o (.s .o (.s .o .o))) [.lf (.ptr q), .lf (.int .i64 sock), .lf (.int .u64 long), .lf (.int .u64 now)] [.lf .bool] R) (fun w => W_fq_Queue_idle q sock long now R w) := ⟨by kernel_rfl⟩
theorem call_fq_Queue_idle (q : Option Pt) (sock : Int) (long : Int) (now : Int) (R : Rs.T [.lf .bool] → WP) (w : World) (h : W_fq_Queue_idle q sock long now R w) :
    CallX Try.prog N_fq_Queue_idle ([.lf (.ptr q), .lf (.int .i64 sock), .lf (.int .u64 long), .lf (.int .u64 now)].map V1.enc) w fun v w' => ∃ x, v = (retTV (Rs.mk [.lf .bool] x)).enc ∧ R x w' :=
  callX_of_semF Try.func58 (by kernel_rfl) (by kernel_rfl) (sem_fq_Queue_idle q sock long now R) h


/-- (*canter/fq.Queue).old -/
def W_fq_Queue_old (n0 : Nat) (q : Option Pt) (R : Rs.T [.lf .bool] → WP) : WP :=
  new [.bool false] fun n1 =>
  deref q fun q2 =>
  ld [.ptr] ⟨q2.b, q2.o + 17⟩ fun (x3 : Option Pt) =>
  call Try.prog N_lists_Lists_All [.lf (.ptr x3)] [.lf .fn] fun (r4 : Fv) =>
  rangeF Try.prog r4 [.lf (.int .i64), .lf .bool] (fun (v5 : Int × Bool) mid6 next7 jump8 =>
  mid6 <|
  ite' (!v5.2) (
  st ⟨n1, 0⟩ [.bool true] <|
  jump8 1) <|
  next7) fun i9 => isBy 0 i9 (st ⟨n1, 0⟩ [.bool false] <|
  ld [.bool] ⟨n1, 0⟩ fun (x10 : Bool) =>
  leave n0 <| R x10) <|
  isBy 1 i9 (ld [.bool] ⟨n1, 0⟩ fun (x11 : Bool) =>
  leave n0 <| R x11) <|
  wno
theorem sem_fq_Queue_old (q : Option Pt) (R : Rs.T [.lf .bool] → WP) : Same (semF Try.prog Try.f45 (.s .o (.s (.s .o (.b (.r [.lf (.int .i64), .lf .bool] .o (.b (.s .o (.s (.s .o .o) .o)))))) (.s .o .o))) [.lf (.ptr q)] [.lf .bool] R) (fun w => W_fq_Queue_old w.heap.size q R w) := ⟨by kernel_rfl⟩
theorem call_fq_Queue_old (q : Option Pt) (R : Rs.T [.lf .bool] → WP) (w : World) (h : W_fq_Queue_old w.heap.size q R w) :
    CallX Try.prog N_fq_Queue_old ([.lf (.ptr q)].map V1.enc) w fun v w' => ∃ x, v = (retTV (Rs.mk [.lf .bool] x)).enc ∧ R x w' :=
  callX_of_semF Try.func45 (by kernel_rfl) (by kernel_rfl) (sem_fq_Queue_old q R) h


/-- (*canter/fq.Queue).place -/
def W_fq_Queue_place (q : Option Pt) (sock : Int) (R : Rs.T [.lf (.int .i64)] → WP) : WP :=
  deref q fun q1 =>
  ld [.ptr] ⟨q1.b, q1.o + 17⟩ fun (x2 : Option Pt) =>
  call Try.prog N_lists_Lists_Place [.lf (.ptr x2), .lf (.int .i64 sock)] [.lf (.int .i64)] fun (r3 : Int) =>
  ite' (r3 != (0:Int)) (
  R r3) <|
  deref q fun q4 =>
  req (0 ≤ sock ∧ sock < 8) <|
  ld [.ptr] ⟨q4.b, q4.o + 9 + sock.toNat * 1⟩ fun (x5 : Option Pt) =>
  ite' (!x5.isNone) (
  deref x5 fun q6 =>
  ld [.sl] ⟨q6.b, q6.o + 3⟩ fun (x7 : Sl) =>
  ite' (decide (((x7.len : Nat) : Int) > (0:Int))) (
  R (3:Int)) <|
  R (0:Int)) <|
  R (0:Int)
theorem sem_fq_Queue_place (q : Option Pt) (sock : Int) (R : Rs.T [.lf (.int .i64)] → WP) : Same (semF Try.prog Try.f40 (.s .o (.s (.s .o (.s .o (.s (.s .o .o) .o))) (.s (.s .o (.s .o (.s (.s .o .o) .o))) (.s .o .o)))) [.lf (.ptr q), .lf (.int .i64 sock)] [.lf (.int .i64)] R) (fun w => W_fq_Queue_place q sock R w) := ⟨by kernel_rfl⟩
theorem call_fq_Queue_place (q : Option Pt) (sock : Int) (R : Rs.T [.lf (.int .i64)] → WP) (w : World) (h : W_fq_Queue_place q sock R w) :
    CallX Try.prog N_fq_Queue_place ([.lf (.ptr q), .lf (.int .i64 sock)].map V1.enc) w fun v w' => ∃ x, v = (retTV (Rs.mk [.lf (.int .i64)] x)).enc ∧ R x w' :=
  callX_of_semF Try.func40 (by kernel_rfl) (by kernel_rfl) (sem_fq_Queue_place q sock R) h


/-- (*canter/fq.Queue).send -/
def W_fq_Queue_send (q : Option Pt) (f : Option Pt) (now : Int) (rate : Int) (R : Rs.T [.agg K_iuiub] → WP) : WP :=
  new [.int .i64 (0:Int), .int .u64 (0:Int), .int .i64 (0:Int), .int .u64 (0:Int), .bool false] fun n1 =>
  deref f fun q2 =>
  ld [.sl] ⟨q2.b, q2.o + 3⟩ fun (x3 : Sl) =>
  idx x3 (0:Int) 5 fun q4 =>
  ld K_iuiub q4 fun (x5 : T_iuiub) =>
  new [.int .i64 (0:Int), .int .u64 (0:Int), .int .i64 (0:Int), .int .u64 (0:Int), .bool false] fun n6 =>
  st ⟨n6, 0⟩ (Ks.mk K_iuiub x5) <|
  deref f fun q7 =>
  ld [.sl] ⟨q7.b, q7.o + 3⟩ fun (x8 : Sl) =>
  slc x8 (some (1:Int)) none none 5 fun s9 =>
  deref f fun q10 =>
  st ⟨q10.b, q10.o + 3⟩ [.sl s9] <|
  deref q fun q11 =>
  ld [.int .i64] ⟨q11.b, q11.o + 19⟩ fun (x12 : Int) =>
  deref q fun q13 =>
  st ⟨q13.b, q13.o + 19⟩ [.int .i64 (IntKind.i64.wrap (x12 - (1:Int)))] <|
  drw <|
  deref f fun q14 =>
  ld [.int .i64] ⟨n6, 2⟩ fun (x15 : Int) =>
  ld [.int .i64] q14 fun (x16 : Int) =>
  deref f fun q17 =>
  st q17 [.int .i64 (IntKind.i64.wrap (x16 - x15))] <|
  drw <|
  ld [.int .i64] ⟨n6, 2⟩ fun (x18 : Int) =>
  deref q fun q19 =>
  ld [.int .u64] ⟨q19.b, q19.o + 5⟩ fun (x20 : Int) =>
  call Try.prog N_delay_Lesser [.lf (.int .u64 rate), .lf (.int .u64 x20)] [.lf (.int .u64)] fun (r21 : Int) =>
  chk ⟨n6, 2⟩ (Ks.mk [.int .i64] x18) <|
  call Try.prog N_delay_Of [.lf (.int .i64 x18), .lf (.int .u64 r21)] [.lf (.int .u64)] fun (r22 : Int) =>
  call Try.prog N_sat_Add [.lf (.int .u64 now), .lf (.int .u64 r22)] [.lf (.int .u64)] fun (r23 : Int) =>
  deref f fun q24 =>
  st ⟨q24.b, q24.o + 1⟩ [.int .u64 r23] <|
  ld K_iuiub ⟨n6, 0⟩ fun (x25 : T_iuiub) =>
  st ⟨n1, 0⟩ (Ks.mk K_iuiub x25) <|
  ld K_iuiub ⟨n1, 0⟩ fun (x26 : T_iuiub) =>
  R x26
theorem sem_fq_Queue_send (q : Option Pt) (f : Option Pt) (now : Int) (rate : Int) (R : Rs.T [.agg K_iuiub] → WP) : Same (semF Try.prog Try.f50 (.s .o (.s .o (.s .o (.s .o (.s (.d (.f 0 [1] (.f 4 [9] (.f 1 [31] (.f 5 [35] (.f 2 [32] (.f 3 [33] (.f 6 [34, 36] (.f 7 [31] (.f 8 [38] (.w 9 [37, 39] .fin))))))))))) (.s (.d (.f 0 [1] (.f 1 [2] (.f 2 [9] (.f 4 [3] (.f 5 [0] (.f 3 [42] (.f 6 [45] (.f 7 [46] (.f 8 [47] (.f 9 [48] (.w 10 [44, 49] (.w 11 [43, 50] (.w 12 [41, 51] (.f 13 [40] (.f 14 [53] (.w 15 [52, 54] .fin))))))))))))))))) (.s .o .o))))))) [.lf (.ptr q), .lf (.ptr f), .lf (.int .u64 now), .lf (.int .u64 rate)] [.agg K_iuiub] R) (fun w => W_fq_Queue_send q f now rate R w) := ⟨by kernel_rfl⟩
theorem call_fq_Queue_send (q : Option Pt) (f : Option Pt) (now : Int) (rate : Int) (R : Rs.T [.agg K_iuiub] → WP) (w : World) (h : W_fq_Queue_send q f now rate R w) :
    CallX Try.prog N_fq_Queue_send ([.lf (.ptr q), .lf (.ptr f), .lf (.int .u64 now), .lf (.int .u64 rate)].map V1.enc) w fun v w' => ∃ x, v = (retTV (Rs.mk [.agg K_iuiub] x)).enc ∧ R x w' :=
  callX_of_semF Try.func50 (by kernel_rfl) (by kernel_rfl) (sem_fq_Queue_send q f now rate R) h


/-- (*canter/fq.Queue).wake -/
def W_fq_Queue_wake (d : Option Pt) (o : Int) (a : Int) (R : Rs.T [] → WP) : WP :=
  deref d fun q1 =>
  req (0 ≤ o ∧ o < 8) <|
  ld [.ptr] ⟨q1.b, q1.o + 9 + o.toNat * 1⟩ fun (x2 : Option Pt) =>
  join [] (fun J3 =>
  ite' x2.isNone (
  drw <|
  deref d fun q5 =>
  deref d fun q6 =>
  ld [.int .i64] ⟨q5.b, q5.o + 1⟩ fun (x7 : Int) =>
  new [.int .i64 x7, .int .u64 (0:Int), .int .u64 (0:Int), .sl ⟨none, 0, 0⟩] fun n8 =>
  req (0 ≤ o ∧ o < 8) <|
  st ⟨q6.b, q6.o + 9 + o.toNat * 1⟩ [.ptr (some ⟨n8, 0⟩)] <|
  J3 ()) <|
  call Try.prog N_fq_Queue_place [.lf (.ptr d), .lf (.int .i64 o)] [.lf (.int .i64)] fun (r9 : Int) =>
  ite' (r9 != (0:Int)) (
  R ()) <|
  call Try.prog N_fq_Queue_idle [.lf (.ptr d), .lf (.int .i64 o), .lf (.int .u64 (40000000:Int)), .lf (.int .u64 a)] [.lf .bool] fun (r10 : Bool) =>
  ite' r10 (
  drw <|
  deref x2 fun q11 =>
  deref d fun q12 =>
  ld [.int .i64] q11 fun (x13 : Int) =>
  ld [.int .i64] q12 fun (x14 : Int) =>
  deref x2 fun q15 =>
  st q15 [.int .i64 (if x14 > x13 then x14 else x13)] <|
  J3 ()) <|
  J3 ()) fun (y4 : Unit) =>
  deref d fun q16 =>
  req (0 ≤ o ∧ o < 8) <|
  ld [.ptr] ⟨q16.b, q16.o + 9 + o.toNat * 1⟩ fun (x17 : Option Pt) =>
  deref x17 fun q18 =>
  st ⟨q18.b, q18.o + 2⟩ [.int .u64 (0:Int)] <|
  deref d fun q19 =>
  ld [.ptr] ⟨q19.b, q19.o + 17⟩ fun (x20 : Option Pt) =>
  call Try.prog N_lists_Lists_Push [.lf (.ptr x20), .lf (.int .i64 o), .lf (.bool true)] [.lf (.int .i64)] fun (r21 : Int) =>
  R ()
theorem sem_fq_Queue_wake (d : Option Pt) (o : Int) (a : Int) (R : Rs.T [] → WP) : Same (semF Try.prog Try.f38 (.s .o (.j [] (.b (.s .o (.s (.d (.f 0 [0] (.f 1 [1] (.f 2 [0] (.f 3 [18] (.f 9 [16] (.f 4 [19] (.f 10 [25] (.f 5 [20] (.f 6 [21] (.f 7 [22] (.w 8 [23] (.f 11 [17, 26] (.w 12 [24, 27] .fin)))))))))))))) (.s .o (.s .o (.s .o (.s (.d (.f 0 [6] (.f 1 [6] (.f 5 [0] (.f 2 [39] (.f 6 [43] (.f 3 [40] (.f 7 [44] (.f 4 [41] (.f 8 [45] (.f 9 [46] (.f 10 [42, 47] (.f 11 [38] (.f 12 [49] (.w 13 [48, 50] .fin))))))))))))))) .o))))))) (.s .o .o))) [.lf (.ptr d), .lf (.int .i64 o), .lf (.int .u64 a)] [] R) (fun w => W_fq_Queue_wake d o a R w) := ⟨by kernel_rfl⟩
theorem call_fq_Queue_wake (d : Option Pt) (o : Int) (a : Int) (R : Rs.T [] → WP) (w : World) (h : W_fq_Queue_wake d o a R w) :
    CallX Try.prog N_fq_Queue_wake ([.lf (.ptr d), .lf (.int .i64 o), .lf (.int .u64 a)].map V1.enc) w fun v w' => ∃ x, v = (retTV (Rs.mk [] x)).enc ∧ R x w' :=
  callX_of_semF Try.func38 (by kernel_rfl) (by kernel_rfl) (sem_fq_Queue_wake d o a R) h


/-- (*canter/fq.flow).time -/
def W_fq_flow_time (f : Option Pt) (R : Rs.T [.lf (.int .u64)] → WP) : WP :=
  drw <|
  deref f fun q1 =>
  deref f fun q2 =>
  ld [.int .u64] ⟨q1.b, q1.o + 1⟩ fun (x3 : Int) =>
  ld [.sl] ⟨q2.b, q2.o + 3⟩ fun (x4 : Sl) =>
  idx x4 (0:Int) 5 fun q5 =>
  ld [.int .u64] ⟨q5.b, q5.o + 3⟩ fun (x6 : Int) =>
  R (if x6 > x3 then x6 else x3)
theorem sem_fq_flow_time (f : Option Pt) (R : Rs.T [.lf (.int .u64)] → WP) : Same (semF Try.prog Try.f47 (.s .o (.s (.d (.f 0 [0] (.f 4 [0] (.f 1 [3] (.f 5 [7] (.f 2 [4] (.f 6 [8] (.f 3 [5] (.f 7 [9] (.f 8 [10] (.f 9 [11] (.f 10 [12] (.f 11 [6, 13] (.w 12 [14] .fin)))))))))))))) .o)) [.lf (.ptr f)] [.lf (.int .u64)] R) (fun w => W_fq_flow_time f R w) := ⟨by kernel_rfl⟩
theorem call_fq_flow_time (f : Option Pt) (R : Rs.T [.lf (.int .u64)] → WP) (w : World) (h : W_fq_flow_time f R w) :
    CallX Try.prog N_fq_flow_time ([.lf (.ptr f)].map V1.enc) w fun v w' => ∃ x, v = (retTV (Rs.mk [.lf (.int .u64)] x)).enc ∧ R x w' :=
  callX_of_semF Try.func47 (by kernel_rfl) (by kernel_rfl) (sem_fq_flow_time f R) h


/-- canter/fq.key -/
def W_fq_key (f : Option Pt) (sock : Int) (R : Rs.T [.agg [.int .u64, .int .u64]] → WP) : WP :=
  new [.int .u64 (0:Int), .int .u64 (0:Int)] fun n1 =>
  call Try.prog N_fq_flow_time [.lf (.ptr f)] [.lf (.int .u64)] fun (r2 : Int) =>
  st ⟨n1, 0⟩ [.int .u64 r2, .int .u64 (IntKind.u64.wrap sock)] <|
  ld [.int .u64, .int .u64] ⟨n1, 0⟩ fun (x3 : Int × Int) =>
  R x3
theorem sem_fq_key (f : Option Pt) (sock : Int) (R : Rs.T [.agg [.int .u64, .int .u64]] → WP) : Same (semF Try.prog Try.f49 (.s .o (.s .o .o)) [.lf (.ptr f), .lf (.int .i64 sock)] [.agg [.int .u64, .int .u64]] R) (fun w => W_fq_key f sock R w) := ⟨by kernel_rfl⟩
theorem call_fq_key (f : Option Pt) (sock : Int) (R : Rs.T [.agg [.int .u64, .int .u64]] → WP) (w : World) (h : W_fq_key f sock R w) :
    CallX Try.prog N_fq_key ([.lf (.ptr f), .lf (.int .i64 sock)].map V1.enc) w fun v w' => ∃ x, v = (retTV (Rs.mk [.agg [.int .u64, .int .u64]] x)).enc ∧ R x w' :=
  callX_of_semF Try.func49 (by kernel_rfl) (by kernel_rfl) (sem_fq_key f sock R) h


/-- canter/fq.within -/
def W_fq_within (v : Int) (lo : Int) (hi : Int) (R : Rs.T [.lf .bool] → WP) : WP :=
  R ((decide (v ≥ lo)) && (decide (v ≤ hi)))
theorem sem_fq_within (v : Int) (lo : Int) (hi : Int) (R : Rs.T [.lf .bool] → WP) : Same (semF Try.prog Try.f35 (.s .o (.s .o .o)) [.lf (.int .i64 v), .lf (.int .i64 lo), .lf (.int .i64 hi)] [.lf .bool] R) (fun w => W_fq_within v lo hi R w) := ⟨by kernel_rfl⟩
theorem call_fq_within (v : Int) (lo : Int) (hi : Int) (R : Rs.T [.lf .bool] → WP) (w : World) (h : W_fq_within v lo hi R w) :
    CallX Try.prog N_fq_within ([.lf (.int .i64 v), .lf (.int .i64 lo), .lf (.int .i64 hi)].map V1.enc) w fun v w' => ∃ x, v = (retTV (Rs.mk [.lf .bool] x)).enc ∧ R x w' :=
  callX_of_semF Try.func35 (by kernel_rfl) (by kernel_rfl) (sem_fq_within v lo hi R) h


/-- (*canter/lists.Lists).All -/
def W_lists_Lists_All (l : Option Pt) (R : Rs.T [.lf .fn] → WP) : WP :=
  new [.ptr l] fun n1 =>
  R (.mk (.func N_lists_Lists_All_c1) [] [V1.enc (.lf (.ptr (some ⟨n1, 0⟩)))])
theorem sem_lists_Lists_All (l : Option Pt) (R : Rs.T [.lf .fn] → WP) : Same (semF Try.prog Try.f63 (.s .o (.s .o .o)) [.lf (.ptr l)] [.lf .fn] R) (fun w => W_lists_Lists_All l R w) := ⟨by kernel_rfl⟩
theorem call_lists_Lists_All (l : Option Pt) (R : Rs.T [.lf .fn] → WP) (w : World) (h : W_lists_Lists_All l R w) :
    CallX Try.prog N_lists_Lists_All ([.lf (.ptr l)].map V1.enc) w fun v w' => ∃ x, v = (retTV (Rs.mk [.lf .fn] x)).enc ∧ R x w' :=
  callX_of_semF Try.func63 (by kernel_rfl) (by kernel_rfl) (sem_lists_Lists_All l R) h


/-- (*canter/lists.Lists).All$1 -/
def W_lists_Lists_All_c1 (yield : Fv) (c0 : Pt) (R : Rs.T [] → WP) : WP :=
  ld [.ptr] c0 fun (x1 : Option Pt) =>
  ite' x1.isNone (
  R ()) <|
  ld [.ptr] c0 fun (x2 : Option Pt) =>
  deref x2 fun q3 =>
  ld [.sl] q3 fun (x4 : Sl) =>
  drw <|
  ld [.ptr] c0 fun (x5 : Option Pt) =>
  ld [.ptr] c0 fun (x6 : Option Pt) =>
  deref x5 fun q7 =>
  deref x6 fun q8 =>
  ld [.sl] q7 fun (x9 : Sl) =>
  ld [.sl] ⟨q8.b, q8.o + 1⟩ fun (x10 : Sl) =>
  new [.sl x9, .sl x10] fun n11 =>
  call Try.prog N_slices_Concat_sintint [.lf (.sl ⟨some ⟨n11, 0⟩, 2, 2⟩)] [.lf .sl] fun (r12 : Sl) =>
  loop [.int .i64] (0:Int) fun J13 (y14 : Int) =>
  ite' (decide (y14 < ((r12.len : Nat) : Int))) (
  idx r12 y14 1 fun q15 =>
  ld [.int .i64] q15 fun (x16 : Int) =>
  callv Try.prog yield [.lf (.int .i64 x16), .lf (.bool (decide (y14 < ((x4.len : Nat) : Int))))] [.lf .bool] fun (r17 : Bool) =>
  ite' (!r17) (
  R ()) <|
  J13 (IntKind.i64.wrap (y14 + (1:Int)))) <|
  R ()
theorem sem_lists_Lists_All_c1 (yield : Fv) (c0 : Pt) (R : Rs.T [] → WP) : Same (semF Try.prog Try.f80 (.s (.s .o (.s .o .o)) (.s .o (.s (.d (.f 0 [1] (.f 4 [1] (.f 11 [] (.f 1 [13] (.f 5 [17] (.f 2 [14] (.f 6 [18] (.f 3 [15] (.f 7 [19] (.w 8 [16, 20] (.w 9 [21] (.f 10 [22] .fin))))))))))))) (.b (.l [(24, .lf (.int .i64))] (.s .o (.s (.s .o .o) (.s (.b (.s .o (.s .o (.s .o .o)))) .o)))))))) [.lf (.fn yield), .lf (.ptr (some c0))] [] R) (fun w => W_lists_Lists_All_c1 yield c0 R w) := ⟨by kernel_rfl⟩
theorem call_lists_Lists_All_c1 (yield : Fv) (c0 : Pt) (R : Rs.T [] → WP) (w : World) (h : W_lists_Lists_All_c1 yield c0 R w) :
    CallX Try.prog N_lists_Lists_All_c1 ([.lf (.fn yield), .lf (.ptr (some c0))].map V1.enc) w fun v w' => ∃ x, v = (retTV (Rs.mk [] x)).enc ∧ R x w' :=
  callX_of_semF Try.func80 (by kernel_rfl) (by kernel_rfl) (sem_lists_Lists_All_c1 yield c0 R) h


/-- (*canter/lists.Lists).Back -/
def W_lists_Lists_Back (l : Option Pt) (R : Rs.T [.lf .bool] → WP) : WP :=
  call Try.prog N_lists_Lists_Head [.lf (.ptr l)] [.lf (.int .i64), .lf .bool, .lf .bool] fun (r1 : Int × Bool × Bool) =>
  ite' r1.2.2 (
  call Try.prog N_lists_Lists_Remove [.lf (.ptr l), .lf (.int .i64 r1.1)] [.lf .bool] fun (r2 : Bool) =>
  ite' r2 (
  call Try.prog N_lists_Lists_Push [.lf (.ptr l), .lf (.int .i64 r1.1), .lf (.bool false)] [.lf (.int .i64)] fun (r3 : Int) =>
  R (r3 == (0:Int))) <|
  R false) <|
  R false
theorem sem_lists_Lists_Back (l : Option Pt) (R : Rs.T [.lf .bool] → WP) : Same (semF Try.prog Try.f44 (.s .o (.s .o (.s .o .o))) [.lf (.ptr l)] [.lf .bool] R) (fun w => W_lists_Lists_Back l R w) := ⟨by kernel_rfl⟩
theorem call_lists_Lists_Back (l : Option Pt) (R : Rs.T [.lf .bool] → WP) (w : World) (h : W_lists_Lists_Back l R w) :
    CallX Try.prog N_lists_Lists_Back ([.lf (.ptr l)].map V1.enc) w fun v w' => ∃ x, v = (retTV (Rs.mk [.lf .bool] x)).enc ∧ R x w' :=
  callX_of_semF Try.func44 (by kernel_rfl) (by kernel_rfl) (sem_lists_Lists_Back l R) h


/-- (*canter/lists.Lists).Drop -/
def W_lists_Lists_Drop (l : Option Pt) (R : Rs.T [.lf .bool] → WP) : WP :=
  call Try.prog N_lists_Lists_Head [.lf (.ptr l)] [.lf (.int .i64), .lf .bool, .lf .bool] fun (r1 : Int × Bool × Bool) =>
  ite' r1.2.2 (
  call Try.prog N_lists_Lists_Remove [.lf (.ptr l), .lf (.int .i64 r1.1)] [.lf .bool] fun (r2 : Bool) =>
  R r2) <|
  R false
theorem sem_lists_Lists_Drop (l : Option Pt) (R : Rs.T [.lf .bool] → WP) : Same (semF Try.prog Try.f46 (.s .o (.s .o (.s .o .o))) [.lf (.ptr l)] [.lf .bool] R) (fun w => W_lists_Lists_Drop l R w) := ⟨by kernel_rfl⟩
theorem call_lists_Lists_Drop (l : Option Pt) (R : Rs.T [.lf .bool] → WP) (w : World) (h : W_lists_Lists_Drop l R w) :
    CallX Try.prog N_lists_Lists_Drop ([.lf (.ptr l)].map V1.enc) w fun v w' => ∃ x, v = (retTV (Rs.mk [.lf .bool] x)).enc ∧ R x w' :=
  callX_of_semF Try.func46 (by kernel_rfl) (by kernel_rfl) (sem_lists_Lists_Drop l R) h


/-- (*canter/lists.Lists).Head -/
def W_lists_Lists_Head (n0 : Nat) (l : Option Pt) (R : Rs.T [.lf (.int .i64), .lf .bool, .lf .bool] → WP) : WP :=
  new [.int .i64 (0:Int)] fun n1 =>
  new [.bool false] fun n2 =>
  new [.bool false] fun n3 =>
  join [] (fun J4 =>
  call Try.prog N_lists_Lists_All [.lf (.ptr l)] [.lf .fn] fun (r6 : Fv) =>
  rangeF Try.prog r6 [.lf (.int .i64), .lf .bool] (fun (v7 : Int × Bool) mid8 next9 jump10 =>
  mid8 <|
  st ⟨n1, 0⟩ [.int .i64 v7.1] <|
  st ⟨n2, 0⟩ [.bool v7.2] <|
  st ⟨n3, 0⟩ [.bool true] <|
  jump10 1) fun i11 => isBy 0 i11 (J4 ()) <|
  isBy 1 i11 (ld [.int .i64] ⟨n1, 0⟩ fun (x12 : Int) =>
  ld [.bool] ⟨n2, 0⟩ fun (x13 : Bool) =>
  ld [.bool] ⟨n3, 0⟩ fun (x14 : Bool) =>
  leave n0 <| R (x12, x13, x14)) <|
  wno) fun (y5 : Unit) =>
  st ⟨n1, 0⟩ [.int .i64 (0:Int)] <|
  st ⟨n2, 0⟩ [.bool false] <|
  st ⟨n3, 0⟩ [.bool false] <|
  ld [.int .i64] ⟨n1, 0⟩ fun (x15 : Int) =>
  ld [.bool] ⟨n2, 0⟩ fun (x16 : Bool) =>
  ld [.bool] ⟨n3, 0⟩ fun (x17 : Bool) =>
  leave n0 <| R (x15, x16, x17)
theorem sem_lists_Lists_Head (l : Option Pt) (R : Rs.T [.lf (.int .i64), .lf .bool, .lf .bool] → WP) : Same (semF Try.prog Try.f43 (.s .o (.j [] (.s .o (.b (.r [.lf (.int .i64), .lf .bool] (.s .o .o) (.b (.s .o .o))))) (.s .o .o))) [.lf (.ptr l)] [.lf (.int .i64), .lf .bool, .lf .bool] R) (fun w => W_lists_Lists_Head w.heap.size l R w) := ⟨by kernel_rfl⟩
theorem call_lists_Lists_Head (l : Option Pt) (R : Rs.T [.lf (.int .i64), .lf .bool, .lf .bool] → WP) (w : World) (h : W_lists_Lists_Head w.heap.size l R w) :
    CallX Try.prog N_lists_Lists_Head ([.lf (.ptr l)].map V1.enc) w fun v w' => ∃ x, v = (retTV (Rs.mk [.lf (.int .i64), .lf .bool, .lf .bool] x)).enc ∧ R x w' :=
  callX_of_semF Try.func43 (by kernel_rfl) (by kernel_rfl) (sem_lists_Lists_Head l R) h


/-- (*canter/lists.Lists).Place -/
def W_lists_Lists_Place (n0 : Nat) (l : Option Pt) (sock : Int) (R : Rs.T [.lf (.int .i64)] → WP) : WP :=
  new [.int .i64 sock] fun n1 =>
  new [.int .i64 (0:Int)] fun n2 =>
  call Try.prog N_lists_Lists_All [.lf (.ptr l)] [.lf .fn] fun (r3 : Fv) =>
  rangeF Try.prog r3 [.lf (.int .i64), .lf .bool] (fun (v4 : Int × Bool) mid5 next6 jump7 =>
  mid5 <|
  ld [.int .i64] ⟨n1, 0⟩ fun (x8 : Int) =>
  ite' (v4.1 != x8) (
  next6) <|
  ite' v4.2 (
  st ⟨n2, 0⟩ [.int .i64 (1:Int)] <|
  jump7 1) <|
  st ⟨n2, 0⟩ [.int .i64 (2:Int)] <|
  jump7 1) fun i9 => isBy 0 i9 (st ⟨n2, 0⟩ [.int .i64 (0:Int)] <|
  ld [.int .i64] ⟨n2, 0⟩ fun (x10 : Int) =>
  leave n0 <| R x10) <|
  isBy 1 i9 (ld [.int .i64] ⟨n2, 0⟩ fun (x11 : Int) =>
  leave n0 <| R x11) <|
  wno
theorem sem_lists_Lists_Place (l : Option Pt) (sock : Int) (R : Rs.T [.lf (.int .i64)] → WP) : Same (semF Try.prog Try.f61 (.s .o (.s (.s .o (.b (.r [.lf (.int .i64), .lf .bool] (.s .o .o) (.b (.s (.s .o (.s .o .o)) (.s (.s .o (.s (.s .o .o) .o)) (.s .o .o))))))) (.s .o .o))) [.lf (.ptr l), .lf (.int .i64 sock)] [.lf (.int .i64)] R) (fun w => W_lists_Lists_Place w.heap.size l sock R w) := ⟨by kernel_rfl⟩
theorem call_lists_Lists_Place (l : Option Pt) (sock : Int) (R : Rs.T [.lf (.int .i64)] → WP) (w : World) (h : W_lists_Lists_Place w.heap.size l sock R w) :
    CallX Try.prog N_lists_Lists_Place ([.lf (.ptr l), .lf (.int .i64 sock)].map V1.enc) w fun v w' => ∃ x, v = (retTV (Rs.mk [.lf (.int .i64)] x)).enc ∧ R x w' :=
  callX_of_semF Try.func61 (by kernel_rfl) (by kernel_rfl) (sem_lists_Lists_Place l sock R) h


/-- (*canter/lists.Lists).Push -/
def W_lists_Lists_Push (l : Option Pt) (sock : Int) (fresh : Bool) (R : Rs.T [.lf (.int .i64)] → WP) : WP :=
  ite' l.isNone (
  R (2:Int)) <|
  ite' ((decide (sock < (0:Int))) || (decide (sock ≥ (8:Int)))) (
  R (8:Int)) <|
  call Try.prog N_lists_Lists_Place [.lf (.ptr l), .lf (.int .i64 sock)] [.lf (.int .i64)] fun (r1 : Int) =>
  ite' (r1 != (0:Int)) (
  R (6:Int)) <|
  ite' fresh (
  deref l fun q2 =>
  ld [.sl] q2 fun (x3 : Sl) =>
  new [.int .i64 sock] fun n4 =>
  app 1 x3 ⟨some ⟨n4, 0⟩, 1, 1⟩ fun s5 =>
  deref l fun q6 =>
  st q6 [.sl s5] <|
  R (0:Int)) <|
  deref l fun q7 =>
  ld [.sl] ⟨q7.b, q7.o + 1⟩ fun (x8 : Sl) =>
  new [.int .i64 sock] fun n9 =>
  app 1 x8 ⟨some ⟨n9, 0⟩, 1, 1⟩ fun s10 =>
  deref l fun q11 =>
  st ⟨q11.b, q11.o + 1⟩ [.sl s10] <|
  R (0:Int)
theorem sem_lists_Lists_Push (l : Option Pt) (sock : Int) (fresh : Bool) (R : Rs.T [.lf (.int .i64)] → WP) : Same (semF Try.prog Try.f60 (.s .o (.s (.b (.s .o (.s (.s .o .o) (.s .o (.s (.s .o .o) (.s .o (.s (.s .o .o) (.s .o (.s .o .o))))))))) (.s .o .o))) [.lf (.ptr l), .lf (.int .i64 sock), .lf (.bool fresh)] [.lf (.int .i64)] R) (fun w => W_lists_Lists_Push l sock fresh R w) := ⟨by kernel_rfl⟩
theorem call_lists_Lists_Push (l : Option Pt) (sock : Int) (fresh : Bool) (R : Rs.T [.lf (.int .i64)] → WP) (w : World) (h : W_lists_Lists_Push l sock fresh R w) :
    CallX Try.prog N_lists_Lists_Push ([.lf (.ptr l), .lf (.int .i64 sock), .lf (.bool fresh)].map V1.enc) w fun v w' => ∃ x, v = (retTV (Rs.mk [.lf (.int .i64)] x)).enc ∧ R x w' :=
  callX_of_semF Try.func60 (by kernel_rfl) (by kernel_rfl) (sem_lists_Lists_Push l sock fresh R) h


/-- (*canter/lists.Lists).Remove -/
def W_lists_Lists_Remove (l : Option Pt) (sock : Int) (R : Rs.T [.lf .bool] → WP) : WP :=
  new [.int .i64 sock] fun n1 =>
  ld [.int .i64] ⟨n1, 0⟩ fun (x2 : Int) =>
  call Try.prog N_lists_Lists_Place [.lf (.ptr l), .lf (.int .i64 x2)] [.lf (.int .i64)] fun (r3 : Int) =>
  ite' (r3 == (0:Int)) (
  R false) <|
  drw <|
  deref l fun q4 =>
  deref l fun q5 =>
  ld [.sl] q4 fun (x6 : Sl) =>
  ld [.sl] ⟨q5.b, q5.o + 1⟩ fun (x7 : Sl) =>
  call Try.prog N_slices_DeleteFunc_sintint [.lf (.sl x6), .lf (.fn (.mk (.func N_lists_Lists_Remove_c1) [] [V1.enc (.lf (.ptr (some ⟨n1, 0⟩)))]))] [.lf .sl] fun (r8 : Sl) =>
  chk ⟨q5.b, q5.o + 1⟩ (Ks.mk [.sl] x7) <|
  call Try.prog N_slices_DeleteFunc_sintint [.lf (.sl x7), .lf (.fn (.mk (.func N_lists_Lists_Remove_c1) [] [V1.enc (.lf (.ptr (some ⟨n1, 0⟩)))]))] [.lf .sl] fun (r9 : Sl) =>
  deref l fun q10 =>
  st q10 [.sl r8] <|
  deref l fun q11 =>
  st ⟨q11.b, q11.o + 1⟩ [.sl r9] <|
  R true
theorem sem_lists_Lists_Remove (l : Option Pt) (sock : Int) (R : Rs.T [.lf .bool] → WP) : Same (semF Try.prog Try.f56 (.s .o (.s (.s .o (.s (.s .o .o) .o)) (.s .o (.s (.d (.f 0 [0] (.f 1 [0] (.f 2 [0] (.f 6 [5] (.f 8 [0] (.f 12 [5] (.f 3 [13] (.f 9 [19] (.f 4 [14] (.f 10 [20] (.f 5 [15] (.f 11 [21] (.w 7 [16, 17] (.w 13 [22, 23] (.f 14 [11] (.f 15 [25] (.w 16 [18, 26] (.f 17 [12] (.f 18 [27] (.w 19 [24, 28] .fin))))))))))))))))))))) (.s .o .o))))) [.lf (.ptr l), .lf (.int .i64 sock)] [.lf .bool] R) (fun w => W_lists_Lists_Remove l sock R w) := ⟨by kernel_rfl⟩
theorem call_lists_Lists_Remove (l : Option Pt) (sock : Int) (R : Rs.T [.lf .bool] → WP) (w : World) (h : W_lists_Lists_Remove l sock R w) :
    CallX Try.prog N_lists_Lists_Remove ([.lf (.ptr l), .lf (.int .i64 sock)].map V1.enc) w fun v w' => ∃ x, v = (retTV (Rs.mk [.lf .bool] x)).enc ∧ R x w' :=
  callX_of_semF Try.func56 (by kernel_rfl) (by kernel_rfl) (sem_lists_Lists_Remove l sock R) h


/-- (*canter/lists.Lists).Remove$1 -/
def W_lists_Lists_Remove_c1 (s : Int) (c0 : Pt) (R : Rs.T [.lf .bool] → WP) : WP :=
  ld [.int .i64] c0 fun (x1 : Int) =>
  R (s == x1)
theorem sem_lists_Lists_Remove_c1 (s : Int) (c0 : Pt) (R : Rs.T [.lf .bool] → WP) : Same (semF Try.prog Try.f75 (.s .o (.s .o .o)) [.lf (.int .i64 s), .lf (.ptr (some c0))] [.lf .bool] R) (fun w => W_lists_Lists_Remove_c1 s c0 R w) := ⟨by kernel_rfl⟩
theorem call_lists_Lists_Remove_c1 (s : Int) (c0 : Pt) (R : Rs.T [.lf .bool] → WP) (w : World) (h : W_lists_Lists_Remove_c1 s c0 R w) :
    CallX Try.prog N_lists_Lists_Remove_c1 ([.lf (.int .i64 s), .lf (.ptr (some c0))].map V1.enc) w fun v w' => ∃ x, v = (retTV (Rs.mk [.lf .bool] x)).enc ∧ R x w' :=
  callX_of_semF Try.func75 (by kernel_rfl) (by kernel_rfl) (sem_lists_Lists_Remove_c1 s c0 R) h


/-- canter/lists.New -/
def W_lists_New  (R : Rs.T [.lf .ptr] → WP) : WP :=
  new [.sl ⟨none, 0, 0⟩, .sl ⟨none, 0, 0⟩] fun n1 =>
  R (some ⟨n1, 0⟩)
theorem sem_lists_New  (R : Rs.T [.lf .ptr] → WP) : Same (semF Try.prog Try.f33 (.s .o (.s .o .o)) [] [.lf .ptr] R) (fun w => W_lists_New  R w) := ⟨by kernel_rfl⟩
theorem call_lists_New  (R : Rs.T [.lf .ptr] → WP) (w : World) (h : W_lists_New  R w) :
    CallX Try.prog N_lists_New ([].map V1.enc) w fun v w' => ∃ x, v = (retTV (Rs.mk [.lf .ptr] x)).enc ∧ R x w' :=
  callX_of_semF Try.func33 (by kernel_rfl) (by kernel_rfl) (sem_lists_New  R) h


/-- math/bits.Add64 (the model stands in for it) -/
def W_math_bits_Add64 (x y c : Int) (R : Rs.T [.lf (.int .u64), .lf (.int .u64)] → WP) : WP :=
  req ((0 ≤ x ∧ 0 ≤ y) ∧ 0 ≤ c ∧ c ≤ 1) <|
  R ((x + y + c) % 18446744073709551616, (x + y + c) / 18446744073709551616)
theorem call_math_bits_Add64 (x y c : Int) (R : Rs.T [.lf (.int .u64), .lf (.int .u64)] → WP) (w : World) (h : W_math_bits_Add64 x y c R w) :
    CallX Try.prog N_math_bits_Add64 ([.lf (.int .u64 x), .lf (.int .u64 y), .lf (.int .u64 c)].map V1.enc) w fun v w' => ∃ x, v = (retTV (Rs.mk [.lf (.int .u64), .lf (.int .u64)] x)).enc ∧ R x w' := by
  obtain ⟨hp, h⟩ := h
  exact callX_extern Try.func77 (by kernel_rfl) (by kernel_rfl) (by kernel_rfl) (x := add64Entry) (by kernel_rfl) (run_add64 x y c hp.1.1 hp.1.2 hp.2.1 hp.2.2 w) ⟨_, rfl, h⟩


/-- math/bits.Mul64 -/
def W_math_bits_Mul64 (x : Int) (y : Int) (R : Rs.T [.lf (.int .u64), .lf (.int .u64)] → WP) : WP :=
  req (0 ≤ (32:Int)) <|
  req (0 ≤ (32:Int)) <|
  req (0 ≤ (32:Int)) <|
  req (0 ≤ (32:Int)) <|
  req (0 ≤ (32:Int)) <|
  R ((IntKind.u64.wrap ((IntKind.u64.wrap ((IntKind.u64.wrap ((x.fdiv (2 ^ min (32:Int).toNat IntKind.u64.bits)) * (y.fdiv (2 ^ min (32:Int).toNat IntKind.u64.bits)))) + ((IntKind.u64.wrap ((IntKind.u64.wrap ((x.fdiv (2 ^ min (32:Int).toNat IntKind.u64.bits)) * (IntKind.u64.wrap (BitVec.ofInt IntKind.u64.bits y &&& BitVec.ofInt IntKind.u64.bits (4294967295:Int)).toNat))) + ((IntKind.u64.wrap ((IntKind.u64.wrap (BitVec.ofInt IntKind.u64.bits x &&& BitVec.ofInt IntKind.u64.bits (4294967295:Int)).toNat) * (IntKind.u64.wrap (BitVec.ofInt IntKind.u64.bits y &&& BitVec.ofInt IntKind.u64.bits (4294967295:Int)).toNat))).fdiv (2 ^ min (32:Int).toNat IntKind.u64.bits)))).fdiv (2 ^ min (32:Int).toNat IntKind.u64.bits)))) + ((IntKind.u64.wrap ((IntKind.u64.wrap (BitVec.ofInt IntKind.u64.bits (IntKind.u64.wrap ((IntKind.u64.wrap ((x.fdiv (2 ^ min (32:Int).toNat IntKind.u64.bits)) * (IntKind.u64.wrap (BitVec.ofInt IntKind.u64.bits y &&& BitVec.ofInt IntKind.u64.bits (4294967295:Int)).toNat))) + ((IntKind.u64.wrap ((IntKind.u64.wrap (BitVec.ofInt IntKind.u64.bits x &&& BitVec.ofInt IntKind.u64.bits (4294967295:Int)).toNat) * (IntKind.u64.wrap (BitVec.ofInt IntKind.u64.bits y &&& BitVec.ofInt IntKind.u64.bits (4294967295:Int)).toNat))).fdiv (2 ^ min (32:Int).toNat IntKind.u64.bits)))) &&& BitVec.ofInt IntKind.u64.bits (4294967295:Int)).toNat) + (IntKind.u64.wrap ((IntKind.u64.wrap (BitVec.ofInt IntKind.u64.bits x &&& BitVec.ofInt IntKind.u64.bits (4294967295:Int)).toNat) * (y.fdiv (2 ^ min (32:Int).toNat IntKind.u64.bits)))))).fdiv (2 ^ min (32:Int).toNat IntKind.u64.bits)))), (IntKind.u64.wrap (x * y)))
theorem sem_math_bits_Mul64 (x : Int) (y : Int) (R : Rs.T [.lf (.int .u64), .lf (.int .u64)] → WP) : Same (semF Try.prog Try.f98 (.s .o (.s .o (.s .o (.s .o (.s .o (.s .o (.s .o (.s .o (.s .o (.s .o (.s .o (.s .o .o)))))))))))) [.lf (.int .u64 x), .lf (.int .u64 y)] [.lf (.int .u64), .lf (.int .u64)] R) (fun w => W_math_bits_Mul64 x y R w) := ⟨by kernel_rfl⟩
theorem call_math_bits_Mul64 (x : Int) (y : Int) (R : Rs.T [.lf (.int .u64), .lf (.int .u64)] → WP) (w : World) (h : W_math_bits_Mul64 x y R w) :
    CallX Try.prog N_math_bits_Mul64 ([.lf (.int .u64 x), .lf (.int .u64 y)].map V1.enc) w fun v w' => ∃ x, v = (retTV (Rs.mk [.lf (.int .u64), .lf (.int .u64)] x)).enc ∧ R x w' :=
  callX_of_semF Try.func98 (by kernel_rfl) (by kernel_rfl) (sem_math_bits_Mul64 x y R) h

/-- canter/rbtree.New -/
def W_rbtree_New (n : Int) (R : Rs.T [.lf .ptr] → WP) : WP :=
  call Try.prog N_arena_New [.lf (.int .i64 (if (4096:Int) < (if (0:Int) > n then (0:Int) else n) then (4096:Int) else (if (0:Int) > n then (0:Int) else n)))] [.lf .ptr] fun (r1 : Option Pt) =>
  new [.ptr r1, .sl ⟨none, 0, 0⟩, .int .i64 (0:Int), .int .i64 (0:Int), .int .i64 (if (4096:Int) < (if (0:Int) > n then (0:Int) else n) then (4096:Int) else (if (0:Int) > n then (0:Int) else n))] fun n2 =>
  R (some ⟨n2, 0⟩)
theorem sem_rbtree_New (n : Int) (R : Rs.T [.lf .ptr] → WP) : Same (semF Try.prog Try.f34 (.s .o (.s .o (.s .o .o))) [.lf (.int .i64 n)] [.lf .ptr] R) (fun w => W_rbtree_New n R w) := ⟨by kernel_rfl⟩
theorem call_rbtree_New (n : Int) (R : Rs.T [.lf .ptr] → WP) (w : World) (h : W_rbtree_New n R w) :
    CallX Try.prog N_rbtree_New ([.lf (.int .i64 n)].map V1.enc) w fun v w' => ∃ x, v = (retTV (Rs.mk [.lf .ptr] x)).enc ∧ R x w' :=
  callX_of_semF Try.func34 (by kernel_rfl) (by kernel_rfl) (sem_rbtree_New n R) h


/-- (*canter/rbtree.Tree).All -/
def W_rbtree_Tree_All (t : Option Pt) (R : Rs.T [.lf .fn] → WP) : WP :=
  new [.ptr t] fun n1 =>
  R (.mk (.func N_rbtree_Tree_All_c1) [] [V1.enc (.lf (.ptr (some ⟨n1, 0⟩)))])
theorem sem_rbtree_Tree_All (t : Option Pt) (R : Rs.T [.lf .fn] → WP) : Same (semF Try.prog Try.f62 (.s .o (.s .o .o)) [.lf (.ptr t)] [.lf .fn] R) (fun w => W_rbtree_Tree_All t R w) := ⟨by kernel_rfl⟩
theorem call_rbtree_Tree_All (t : Option Pt) (R : Rs.T [.lf .fn] → WP) (w : World) (h : W_rbtree_Tree_All t R w) :
    CallX Try.prog N_rbtree_Tree_All ([.lf (.ptr t)].map V1.enc) w fun v w' => ∃ x, v = (retTV (Rs.mk [.lf .fn] x)).enc ∧ R x w' :=
  callX_of_semF Try.func62 (by kernel_rfl) (by kernel_rfl) (sem_rbtree_Tree_All t R) h


/-- (*canter/rbtree.Tree).All$1 -/
def W_rbtree_Tree_All_c1 (yield : Fv) (c0 : Pt) (R : Rs.T [] → WP) : WP :=
  ld [.ptr] c0 fun (x1 : Option Pt) =>
  call Try.prog N_rbtree_Tree_root [.lf (.ptr x1)] [.lf (.int .i64)] fun (r2 : Int) =>
  ite' (r2 == (-1:Int)) (
  R ()) <|
  drw <|
  ld [.ptr] c0 fun (x3 : Option Pt) =>
  ld [.ptr] c0 fun (x4 : Option Pt) =>
  call Try.prog N_rbtree_Tree_root [.lf (.ptr x4)] [.lf (.int .i64)] fun (r5 : Int) =>
  chk c0 (Ks.mk [.ptr] x3) <|
  call Try.prog N_rbtree_Tree_least [.lf (.ptr x3), .lf (.int .i64 r5)] [.lf .sl] fun (r6 : Sl) =>
  loop [.sl] r6 fun J7 (y8 : Sl) =>
  ite' (decide (((y8.len : Nat) : Int) > (0:Int))) (
  idx y8 (IntKind.i64.wrap (((y8.len : Nat) : Int) - (1:Int))) 1 fun q9 =>
  ld [.int .i64] q9 fun (x10 : Int) =>
  slc y8 none (some (IntKind.i64.wrap (((y8.len : Nat) : Int) - (1:Int)))) none 1 fun s11 =>
  ld [.ptr] c0 fun (x12 : Option Pt) =>
  deref x12 fun q13 =>
  ld [.sl] ⟨q13.b, q13.o + 1⟩ fun (x14 : Sl) =>
  idx x14 x10 5 fun q15 =>
  ld [.int .u64, .int .u64] q15 fun (x16 : Int × Int) =>
  callv Try.prog yield [.agg (Ks.mk [.int .u64, .int .u64] x16)] [.lf .bool] fun (r17 : Bool) =>
  ite' (!r17) (
  R ()) <|
  drw <|
  ld [.ptr] c0 fun (x18 : Option Pt) =>
  ld [.ptr] c0 fun (x19 : Option Pt) =>
  deref x19 fun q20 =>
  ld [.sl] ⟨q20.b, q20.o + 1⟩ fun (x21 : Sl) =>
  idx x21 x10 5 fun q22 =>
  ld [.int .i64] ⟨q22.b, q22.o + 3⟩ fun (x23 : Int) =>
  call Try.prog N_rbtree_Tree_least [.lf (.ptr x18), .lf (.int .i64 x23)] [.lf .sl] fun (r24 : Sl) =>
  app 1 s11 r24 fun s25 =>
  J7 s25) <|
  R ()
theorem sem_rbtree_Tree_All_c1 (yield : Fv) (c0 : Pt) (R : Rs.T [] → WP) : Same (semF Try.prog Try.f78 (.s (.s .o (.s .o .o)) (.s (.d (.f 0 [1] (.f 1 [1] (.w 2 [9] (.w 3 [8, 10] (.w 4 [11] .fin)))))) (.b (.l [(3, .lf .sl)] (.s (.s .o (.s .o .o)) (.b (.s .o (.s .o (.s (.s .o (.s .o .o)) (.d (.f 0 [3] (.f 1 [1] (.f 2 [1] (.f 6 [4] (.f 3 [39] (.f 4 [40] (.f 5 [41] (.f 7 [42, 43] (.f 8 [44] (.f 9 [45] (.w 10 [38, 46] (.w 11 [37, 47] (.w 12 [48] .fin))))))))))))))))))))))) [.lf (.fn yield), .lf (.ptr (some c0))] [] R) (fun w => W_rbtree_Tree_All_c1 yield c0 R w) := ⟨by kernel_rfl⟩
theorem call_rbtree_Tree_All_c1 (yield : Fv) (c0 : Pt) (R : Rs.T [] → WP) (w : World) (h : W_rbtree_Tree_All_c1 yield c0 R w) :
    CallX Try.prog N_rbtree_Tree_All_c1 ([.lf (.fn yield), .lf (.ptr (some c0))].map V1.enc) w fun v w' => ∃ x, v = (retTV (Rs.mk [] x)).enc ∧ R x w' :=
  callX_of_semF Try.func78 (by kernel_rfl) (by kernel_rfl) (sem_rbtree_Tree_All_c1 yield c0 R) h


/-- (*canter/rbtree.Tree).Delete -/
def W_rbtree_Tree_Delete (d : Option Pt) (o : Int × Int) (R : Rs.T [.lf (.int .i64)] → WP) : WP :=
  new (Ks.mk [.int .u64, .int .u64] o) fun n1 =>
  ite' d.isNone (
  R (2:Int)) <|
  ld [.int .u64, .int .u64] ⟨n1, 0⟩ fun (x2 : Int × Int) =>
  call Try.prog N_rbtree_Tree_way [.lf (.ptr d), .agg (Ks.mk [.int .u64, .int .u64] x2)] [.lf .sl] fun (r3 : Sl) =>
  ld [.int .u64, .int .u64] ⟨n1, 0⟩ fun (x4 : Int × Int) =>
  call Try.prog N_rbtree_Tree_found [.lf (.ptr d), .lf (.sl r3), .agg (Ks.mk [.int .u64, .int .u64] x4)] [.lf (.int .i64)] fun (r5 : Int) =>
  ite' (r5 == (-1:Int)) (
  R (7:Int)) <|
  join [.sl, .int .i64] (fun J6 =>
  join [.bool] (fun J8 =>
  deref d fun q10 =>
  ld [.sl] ⟨q10.b, q10.o + 1⟩ fun (x11 : Sl) =>
  idx x11 r5 5 fun q12 =>
  ld [.int .i64] ⟨q12.b, q12.o + 2⟩ fun (x13 : Int) =>
  ite' (x13 != (-1:Int)) (
  deref d fun q14 =>
  ld [.sl] ⟨q14.b, q14.o + 1⟩ fun (x15 : Sl) =>
  idx x15 r5 5 fun q16 =>
  ld [.int .i64] ⟨q16.b, q16.o + 3⟩ fun (x17 : Int) =>
  J8 (x17 != (-1:Int))) <|
  J8 false) fun (y9 : Bool) =>
  ite' y9 (
  deref d fun q18 =>
  ld [.sl] ⟨q18.b, q18.o + 1⟩ fun (x19 : Sl) =>
  idx x19 r5 5 fun q20 =>
  ld [.int .i64] ⟨q20.b, q20.o + 3⟩ fun (x21 : Int) =>
  call Try.prog N_rbtree_Tree_least [.lf (.ptr d), .lf (.int .i64 x21)] [.lf .sl] fun (r22 : Sl) =>
  idx r22 (IntKind.i64.wrap (((r22.len : Nat) : Int) - (1:Int))) 1 fun q23 =>
  ld [.int .i64] q23 fun (x24 : Int) =>
  drw <|
  deref d fun q25 =>
  deref d fun q26 =>
  ld [.sl] ⟨q25.b, q25.o + 1⟩ fun (x27 : Sl) =>
  ld [.sl] ⟨q26.b, q26.o + 1⟩ fun (x28 : Sl) =>
  idx x28 x24 5 fun q29 =>
  ld [.int .u64, .int .u64] q29 fun (x30 : Int × Int) =>
  idx x27 r5 5 fun q31 =>
  st q31 (Ks.mk [.int .u64, .int .u64] x30) <|
  app 1 r3 r22 fun s32 =>
  J6 (s32, x24)) <|
  J6 (r3, r5)) fun (y7 : Sl × Int) =>
  deref d fun q33 =>
  ld [.sl] ⟨q33.b, q33.o + 1⟩ fun (x34 : Sl) =>
  idx x34 y7.2 5 fun q35 =>
  ld [.int .i64] ⟨q35.b, q35.o + 2⟩ fun (x36 : Int) =>
  join [.int .i64] (fun J37 =>
  ite' (x36 == (-1:Int)) (
  deref d fun q39 =>
  ld [.sl] ⟨q39.b, q39.o + 1⟩ fun (x40 : Sl) =>
  idx x40 y7.2 5 fun q41 =>
  ld [.int .i64] ⟨q41.b, q41.o + 3⟩ fun (x42 : Int) =>
  J37 x42) <|
  J37 x36) fun (y38 : Int) =>
  slc y7.1 none (some (IntKind.i64.wrap (((y7.1.len : Nat) : Int) - (1:Int)))) none 1 fun s43 =>
  call Try.prog N_rbtree_Tree_drop [.lf (.ptr d), .lf (.sl s43), .lf (.int .i64 y7.2), .lf (.int .i64 y38)] [] fun (r44 : Unit) =>
  deref d fun q45 =>
  ld [.int .i64] ⟨q45.b, q45.o + 3⟩ fun (x46 : Int) =>
  deref d fun q47 =>
  st ⟨q47.b, q47.o + 3⟩ [.int .i64 (IntKind.i64.wrap (x46 - (1:Int)))] <|
  deref d fun q48 =>
  ld [.ptr] q48 fun (x49 : Option Pt) =>
  call Try.prog N_arena_Arena_Free [.lf (.ptr x49), .lf (.int .i64 y7.2)] [.lf (.int .i64)] fun (r50 : Int) =>
  R r50
theorem sem_rbtree_Tree_Delete (d : Option Pt) (o : Int × Int) (R : Rs.T [.lf (.int .i64)] → WP) : Same (semF Try.prog Try.f55 (.s .o (.s (.s .o (.s (.s .o .o) .o)) (.s .o (.s .o (.s (.s .o (.s (.s .o .o) .o)) (.j [(5, .lf .sl), (6, .lf (.int .i64))] (.j [(40, .lf .bool)] .o (.s (.s .o (.s .o (.s (.d (.f 0 [0] (.f 4 [6] (.f 5 [0] (.f 9 [8] (.f 1 [57] (.f 6 [62] (.f 2 [58] (.f 7 [63] (.f 3 [59] (.f 8 [64] (.f 10 [65, 66] (.f 11 [67] (.f 12 [68] (.f 13 [60, 61] (.f 14 [70] (.w 15 [69, 71] .fin))))))))))))))))) .o))) .o)) (.s .o (.j [(9, .lf (.int .i64))] (.s .o (.s .o .o)) (.s .o (.s .o (.s .o .o))))))))))) [.lf (.ptr d), .agg (Ks.mk [.int .u64, .int .u64] o)] [.lf (.int .i64)] R) (fun w => W_rbtree_Tree_Delete d o R w) := ⟨by kernel_rfl⟩
theorem call_rbtree_Tree_Delete (d : Option Pt) (o : Int × Int) (R : Rs.T [.lf (.int .i64)] → WP) (w : World) (h : W_rbtree_Tree_Delete d o R w) :
    CallX Try.prog N_rbtree_Tree_Delete ([.lf (.ptr d), .agg (Ks.mk [.int .u64, .int .u64] o)].map V1.enc) w fun v w' => ∃ x, v = (retTV (Rs.mk [.lf (.int .i64)] x)).enc ∧ R x w' :=
  callX_of_semF Try.func55 (by kernel_rfl) (by kernel_rfl) (sem_rbtree_Tree_Delete d o R) h


/-- (*canter/rbtree.Tree).Insert -/
def W_rbtree_Tree_Insert (d : Option Pt) (o : Int × Int) (R : Rs.T [.lf (.int .i64)] → WP) : WP :=
  new (Ks.mk [.int .u64, .int .u64] o) fun n1 =>
  ite' d.isNone (
  R (2:Int)) <|
  ld [.int .u64, .int .u64] ⟨n1, 0⟩ fun (x2 : Int × Int) =>
  call Try.prog N_rbtree_Tree_way [.lf (.ptr d), .agg (Ks.mk [.int .u64, .int .u64] x2)] [.lf .sl] fun (r3 : Sl) =>
  ld [.int .u64, .int .u64] ⟨n1, 0⟩ fun (x4 : Int × Int) =>
  call Try.prog N_rbtree_Tree_found [.lf (.ptr d), .lf (.sl r3), .agg (Ks.mk [.int .u64, .int .u64] x4)] [.lf (.int .i64)] fun (r5 : Int) =>
  ite' (r5 != (-1:Int)) (
  R (6:Int)) <|
  drw <|
  deref d fun q6 =>
  deref d fun q7 =>
  ld [.int .i64] ⟨q6.b, q6.o + 3⟩ fun (x8 : Int) =>
  ld [.int .i64] ⟨q7.b, q7.o + 4⟩ fun (x9 : Int) =>
  ite' (decide (x8 ≥ x9)) (
  R (5:Int)) <|
  deref d fun q10 =>
  ld [.ptr] q10 fun (x11 : Option Pt) =>
  call Try.prog N_arena_Arena_Get [.lf (.ptr x11)] [.lf (.int .i64), .lf (.int .i64)] fun (r12 : Int × Int) =>
  ite' (r12.2 != (0:Int)) (
  R r12.2) <|
  join [] (fun J13 =>
  deref d fun q15 =>
  ld [.sl] ⟨q15.b, q15.o + 1⟩ fun (x16 : Sl) =>
  ite' (r12.1 == ((x16.len : Nat) : Int)) (
  deref d fun q17 =>
  ld [.sl] ⟨q17.b, q17.o + 1⟩ fun (x18 : Sl) =>
  new [.int .u64 (0:Int), .int .u64 (0:Int), .int .i64 (0:Int), .int .i64 (0:Int), .int .i64 (0:Int)] fun n19 =>
  app 5 x18 ⟨some ⟨n19, 0⟩, 1, 1⟩ fun s20 =>
  deref d fun q21 =>
  st ⟨q21.b, q21.o + 1⟩ [.sl s20] <|
  J13 ()) <|
  J13 ()) fun (y14 : Unit) =>
  drw <|
  ld [.int .u64, .int .u64] ⟨n1, 0⟩ fun (x22 : Int × Int) =>
  deref d fun q23 =>
  ld [.sl] ⟨q23.b, q23.o + 1⟩ fun (x24 : Sl) =>
  idx x24 r12.1 5 fun q25 =>
  st q25 [.int .u64 x22.1, .int .u64 x22.2, .int .i64 (-1:Int), .int .i64 (-1:Int), .int .i64 (1:Int)] <|
  deref d fun q26 =>
  ld [.int .i64] ⟨q26.b, q26.o + 3⟩ fun (x27 : Int) =>
  deref d fun q28 =>
  st ⟨q28.b, q28.o + 3⟩ [.int .i64 (IntKind.i64.wrap (x27 + (1:Int)))] <|
  call Try.prog N_rbtree_Tree_hang [.lf (.ptr d), .lf (.sl r3), .lf (.int .i64 (-1:Int)), .lf (.int .i64 r12.1)] [] fun (r29 : Unit) =>
  R (0:Int)
theorem sem_rbtree_Tree_Insert (d : Option Pt) (o : Int × Int) (R : Rs.T [.lf (.int .i64)] → WP) : Same (semF Try.prog Try.f48 (.s .o (.s (.s .o (.s (.s .o .o) .o)) (.s .o (.s (.b (.s .o (.s (.s .o .o) (.s (.d (.f 0 [0] (.f 4 [0] (.f 1 [20] (.f 5 [24] (.f 2 [21] (.f 6 [25] (.f 3 [22] (.f 7 [26] (.f 8 [23, 27] (.w 9 [28] .fin))))))))))) (.s (.s .o .o) .o))))) (.s .o (.s (.s .o (.s (.s .o .o) .o)) (.j [] (.s .o (.s .o .o)) (.s (.d (.f 0 [0] (.f 4 [6] (.f 5 [3] (.f 1 [57] (.f 6 [62] (.f 2 [58] (.f 3 [59] (.f 7 [60, 61] (.w 8 [63, 64] .fin)))))))))) (.s .o (.s .o (.s .o .o))))))))))) [.lf (.ptr d), .agg (Ks.mk [.int .u64, .int .u64] o)] [.lf (.int .i64)] R) (fun w => W_rbtree_Tree_Insert d o R w) := ⟨by kernel_rfl⟩
theorem call_rbtree_Tree_Insert (d : Option Pt) (o : Int × Int) (R : Rs.T [.lf (.int .i64)] → WP) (w : World) (h : W_rbtree_Tree_Insert d o R w) :
    CallX Try.prog N_rbtree_Tree_Insert ([.lf (.ptr d), .agg (Ks.mk [.int .u64, .int .u64] o)].map V1.enc) w fun v w' => ∃ x, v = (retTV (Rs.mk [.lf (.int .i64)] x)).enc ∧ R x w' :=
  callX_of_semF Try.func48 (by kernel_rfl) (by kernel_rfl) (sem_rbtree_Tree_Insert d o R) h


/-- (*canter/rbtree.Tree).Min -/
def W_rbtree_Tree_Min (n0 : Nat) (t : Option Pt) (R : Rs.T [.agg [.int .u64, .int .u64], .lf .bool] → WP) : WP :=
  new [.int .u64 (0:Int), .int .u64 (0:Int)] fun n1 =>
  new [.bool false] fun n2 =>
  join [] (fun J3 =>
  call Try.prog N_rbtree_Tree_All [.lf (.ptr t)] [.lf .fn] fun (r5 : Fv) =>
  rangeF Try.prog r5 [.agg [.int .u64, .int .u64]] (fun (v6 : (Int × Int)) mid7 next8 jump9 =>
  new [.int .u64 (0:Int), .int .u64 (0:Int)] fun n10 =>
  st ⟨n10, 0⟩ (Ks.mk [.int .u64, .int .u64] v6) <|
  mid7 <|
  ld [.int .u64, .int .u64] ⟨n10, 0⟩ fun (x11 : Int × Int) =>
  st ⟨n1, 0⟩ (Ks.mk [.int .u64, .int .u64] x11) <|
  st ⟨n2, 0⟩ [.bool true] <|
  jump9 1) fun i12 => isBy 0 i12 (J3 ()) <|
  isBy 1 i12 (ld [.int .u64, .int .u64] ⟨n1, 0⟩ fun (x13 : Int × Int) =>
  ld [.bool] ⟨n2, 0⟩ fun (x14 : Bool) =>
  leave n0 <| R (x13, x14)) <|
  wno) fun (y4 : Unit) =>
  st ⟨n1, 0⟩ [.int .u64 (0:Int), .int .u64 (0:Int)] <|
  st ⟨n2, 0⟩ [.bool false] <|
  ld [.int .u64, .int .u64] ⟨n1, 0⟩ fun (x15 : Int × Int) =>
  ld [.bool] ⟨n2, 0⟩ fun (x16 : Bool) =>
  leave n0 <| R (x15, x16)
theorem sem_rbtree_Tree_Min (t : Option Pt) (R : Rs.T [.agg [.int .u64, .int .u64], .lf .bool] → WP) : Same (semF Try.prog Try.f54 (.s .o (.j [] (.s .o (.b (.r [.agg [.int .u64, .int .u64]] .o (.b (.s .o .o))))) (.s .o .o))) [.lf (.ptr t)] [.agg [.int .u64, .int .u64], .lf .bool] R) (fun w => W_rbtree_Tree_Min w.heap.size t R w) := ⟨by kernel_rfl⟩
theorem call_rbtree_Tree_Min (t : Option Pt) (R : Rs.T [.agg [.int .u64, .int .u64], .lf .bool] → WP) (w : World) (h : W_rbtree_Tree_Min w.heap.size t R w) :
    CallX Try.prog N_rbtree_Tree_Min ([.lf (.ptr t)].map V1.enc) w fun v w' => ∃ x, v = (retTV (Rs.mk [.agg [.int .u64, .int .u64], .lf .bool] x)).enc ∧ R x w' :=
  callX_of_semF Try.func54 (by kernel_rfl) (by kernel_rfl) (sem_rbtree_Tree_Min t R) h


/-- (*canter/rbtree.Tree).drop -/
def W_rbtree_Tree_drop (t : Option Pt) (way : Sl) (was : Int) (i : Int) (R : Rs.T [] → WP) : WP :=
  loop K_i3 (was, i, (IntKind.i64.wrap (((way.len : Nat) : Int) - (1:Int)))) fun J1 (y2 : T_i3) =>
  ite' (decide (y2.2.2 ≥ (0:Int))) (
  idx way y2.2.2 1 fun q3 =>
  ld [.int .i64] q3 fun (x4 : Int) =>
  deref t fun q5 =>
  ld [.sl] ⟨q5.b, q5.o + 1⟩ fun (x6 : Sl) =>
  idx x6 x4 5 fun q7 =>
  ld [.int .i64] ⟨q7.b, q7.o + 2⟩ fun (x8 : Int) =>
  ite' (x8 == y2.1) (
  deref t fun q9 =>
  ld [.sl] ⟨q9.b, q9.o + 1⟩ fun (x10 : Sl) =>
  idx x10 x4 5 fun q11 =>
  st ⟨q11.b, q11.o + 2⟩ [.int .i64 y2.2.1] <|
  call Try.prog N_rbtree_Tree_even [.lf (.ptr t), .lf (.int .i64 x4)] [.lf (.int .i64)] fun (r12 : Int) =>
  J1 (x4, r12, (IntKind.i64.wrap (y2.2.2 - (1:Int))))) <|
  deref t fun q13 =>
  ld [.sl] ⟨q13.b, q13.o + 1⟩ fun (x14 : Sl) =>
  idx x14 x4 5 fun q15 =>
  st ⟨q15.b, q15.o + 3⟩ [.int .i64 y2.2.1] <|
  call Try.prog N_rbtree_Tree_even [.lf (.ptr t), .lf (.int .i64 x4)] [.lf (.int .i64)] fun (r16 : Int) =>
  J1 (x4, r16, (IntKind.i64.wrap (y2.2.2 - (1:Int))))) <|
  deref t fun q17 =>
  st ⟨q17.b, q17.o + 2⟩ [.int .i64 (IntKind.i64.wrap (y2.2.1 + (1:Int)))] <|
  R ()
theorem sem_rbtree_Tree_drop (t : Option Pt) (way : Sl) (was : Int) (i : Int) (R : Rs.T [] → WP) : Same (semF Try.prog Try.f73 (.s (.s .o (.b (.l [(2, .lf (.int .i64)), (3, .lf (.int .i64)), (8, .lf (.int .i64))] (.s (.s .o (.s .o .o)) (.s (.b (.s .o (.s (.s .o (.s .o .o)) .o))) .o))))) .o) [.lf (.ptr t), .lf (.sl way), .lf (.int .i64 was), .lf (.int .i64 i)] [] R) (fun w => W_rbtree_Tree_drop t way was i R w) := ⟨by kernel_rfl⟩
theorem call_rbtree_Tree_drop (t : Option Pt) (way : Sl) (was : Int) (i : Int) (R : Rs.T [] → WP) (w : World) (h : W_rbtree_Tree_drop t way was i R w) :
    CallX Try.prog N_rbtree_Tree_drop ([.lf (.ptr t), .lf (.sl way), .lf (.int .i64 was), .lf (.int .i64 i)].map V1.enc) w fun v w' => ∃ x, v = (retTV (Rs.mk [] x)).enc ∧ R x w' :=
  callX_of_semF Try.func73 (by kernel_rfl) (by kernel_rfl) (sem_rbtree_Tree_drop t way was i R) h


/-- (*canter/rbtree.Tree).even -/
def W_rbtree_Tree_even (d : Option Pt) (o : Int) (R : Rs.T [.lf (.int .i64)] → WP) : WP :=
  call Try.prog N_rbtree_Tree_mend [.lf (.ptr d), .lf (.int .i64 o)] [] fun (r1 : Unit) =>
  call Try.prog N_rbtree_Tree_lean [.lf (.ptr d), .lf (.int .i64 o)] [.lf (.int .i64)] fun (r2 : Int) =>
  ite' (decide (r2 > (1:Int))) (
  deref d fun q3 =>
  ld [.sl] ⟨q3.b, q3.o + 1⟩ fun (x4 : Sl) =>
  idx x4 o 5 fun q5 =>
  ld [.int .i64] ⟨q5.b, q5.o + 2⟩ fun (x6 : Int) =>
  call Try.prog N_rbtree_Tree_lean [.lf (.ptr d), .lf (.int .i64 x6)] [.lf (.int .i64)] fun (r7 : Int) =>
  ite' (decide (r7 < (0:Int))) (
  drw <|
  deref d fun q8 =>
  deref d fun q9 =>
  ld [.sl] ⟨q8.b, q8.o + 1⟩ fun (x10 : Sl) =>
  ld [.sl] ⟨q9.b, q9.o + 1⟩ fun (x11 : Sl) =>
  idx x11 o 5 fun q12 =>
  ld [.int .i64] ⟨q12.b, q12.o + 2⟩ fun (x13 : Int) =>
  call Try.prog N_rbtree_Tree_turnLeft [.lf (.ptr d), .lf (.int .i64 x13)] [.lf (.int .i64)] fun (r14 : Int) =>
  chk ⟨q8.b, q8.o + 1⟩ (Ks.mk [.sl] x10) <|
  idx x10 o 5 fun q15 =>
  st ⟨q15.b, q15.o + 2⟩ [.int .i64 r14] <|
  call Try.prog N_rbtree_Tree_turnRight [.lf (.ptr d), .lf (.int .i64 o)] [.lf (.int .i64)] fun (r16 : Int) =>
  R r16) <|
  call Try.prog N_rbtree_Tree_turnRight [.lf (.ptr d), .lf (.int .i64 o)] [.lf (.int .i64)] fun (r17 : Int) =>
  R r17) <|
  ite' (decide (r2 < (-1:Int))) (
  deref d fun q18 =>
  ld [.sl] ⟨q18.b, q18.o + 1⟩ fun (x19 : Sl) =>
  idx x19 o 5 fun q20 =>
  ld [.int .i64] ⟨q20.b, q20.o + 3⟩ fun (x21 : Int) =>
  call Try.prog N_rbtree_Tree_lean [.lf (.ptr d), .lf (.int .i64 x21)] [.lf (.int .i64)] fun (r22 : Int) =>
  ite' (decide (r22 > (0:Int))) (
  drw <|
  deref d fun q23 =>
  deref d fun q24 =>
  ld [.sl] ⟨q23.b, q23.o + 1⟩ fun (x25 : Sl) =>
  ld [.sl] ⟨q24.b, q24.o + 1⟩ fun (x26 : Sl) =>
  idx x26 o 5 fun q27 =>
  ld [.int .i64] ⟨q27.b, q27.o + 3⟩ fun (x28 : Int) =>
  call Try.prog N_rbtree_Tree_turnRight [.lf (.ptr d), .lf (.int .i64 x28)] [.lf (.int .i64)] fun (r29 : Int) =>
  chk ⟨q23.b, q23.o + 1⟩ (Ks.mk [.sl] x25) <|
  idx x25 o 5 fun q30 =>
  st ⟨q30.b, q30.o + 3⟩ [.int .i64 r29] <|
  call Try.prog N_rbtree_Tree_turnLeft [.lf (.ptr d), .lf (.int .i64 o)] [.lf (.int .i64)] fun (r31 : Int) =>
  R r31) <|
  call Try.prog N_rbtree_Tree_turnLeft [.lf (.ptr d), .lf (.int .i64 o)] [.lf (.int .i64)] fun (r32 : Int) =>
  R r32) <|
  R o
theorem sem_rbtree_Tree_even (d : Option Pt) (o : Int) (R : Rs.T [.lf (.int .i64)] → WP) : Same (semF Try.prog Try.f83 (.s .o (.s .o (.s (.s .o (.b (.s .o (.s (.s (.s .o (.s (.d (.f 0 [0] (.f 4 [1] (.f 5 [0] (.f 6 [0] (.f 10 [1] (.f 1 [26] (.f 7 [32] (.f 2 [27] (.f 8 [33] (.f 3 [28] (.f 9 [34] (.f 11 [35, 36] (.f 12 [37] (.f 13 [38] (.w 14 [31, 39] (.f 15 [29, 30] (.f 16 [41] (.w 17 [40, 42] .fin))))))))))))))))))) .o)) (.s .o .o)) (.s .o (.s (.s (.s .o (.s (.d (.f 0 [0] (.f 4 [1] (.f 5 [0] (.f 6 [0] (.f 10 [1] (.f 1 [60] (.f 7 [66] (.f 2 [61] (.f 8 [67] (.f 3 [62] (.f 9 [68] (.f 11 [69, 70] (.f 12 [71] (.f 13 [72] (.w 14 [65, 73] (.f 15 [63, 64] (.f 16 [75] (.w 17 [74, 76] .fin))))))))))))))))))) .o)) (.s .o .o)) .o)))))) (.s .o .o)))) [.lf (.ptr d), .lf (.int .i64 o)] [.lf (.int .i64)] R) (fun w => W_rbtree_Tree_even d o R w) := ⟨by kernel_rfl⟩
theorem call_rbtree_Tree_even (d : Option Pt) (o : Int) (R : Rs.T [.lf (.int .i64)] → WP) (w : World) (h : W_rbtree_Tree_even d o R w) :
    CallX Try.prog N_rbtree_Tree_even ([.lf (.ptr d), .lf (.int .i64 o)].map V1.enc) w fun v w' => ∃ x, v = (retTV (Rs.mk [.lf (.int .i64)] x)).enc ∧ R x w' :=
  callX_of_semF Try.func83 (by kernel_rfl) (by kernel_rfl) (sem_rbtree_Tree_even d o R) h


/-- (*canter/rbtree.Tree).found -/
def W_rbtree_Tree_found (t : Option Pt) (way : Sl) (k : Int × Int) (R : Rs.T [.lf (.int .i64)] → WP) : WP :=
  new (Ks.mk [.int .u64, .int .u64] k) fun n1 =>
  join [.bool] (fun J2 =>
  drw <|
  ite' (decide (((way.len : Nat) : Int) > (0:Int))) (
  ld [.int .u64, .int .u64] ⟨n1, 0⟩ fun (x4 : Int × Int) =>
  deref t fun q5 =>
  idx way (IntKind.i64.wrap (((way.len : Nat) : Int) - (1:Int))) 1 fun q6 =>
  ld [.sl] ⟨q5.b, q5.o + 1⟩ fun (x7 : Sl) =>
  ld [.int .i64] q6 fun (x8 : Int) =>
  idx x7 x8 5 fun q9 =>
  ld [.int .u64, .int .u64] q9 fun (x10 : Int × Int) =>
  J2 ((x10.1 == x4.1) && (x10.2 == x4.2))) <|
  J2 false) fun (y3 : Bool) =>
  ite' y3 (
  idx way (IntKind.i64.wrap (((way.len : Nat) : Int) - (1:Int))) 1 fun q11 =>
  ld [.int .i64] q11 fun (x12 : Int) =>
  R x12) <|
  R (-1:Int)
theorem sem_rbtree_Tree_found (t : Option Pt) (way : Sl) (k : Int × Int) (R : Rs.T [.lf (.int .i64)] → WP) : Same (semF Try.prog Try.f65 (.s .o (.s (.s .o (.j [(27, .lf .bool)] (.d (.f 0 [7] (.f 1 [10] (.f 2 [11] (.f 3 [0, 12] (.f 7 [1, 12] (.f 8 [7, 12] (.f 15 [5, 12] (.f 4 [12, 13] (.f 9 [12, 18] (.f 5 [12, 14] (.f 10 [12, 17, 19] (.f 6 [12, 15] (.f 11 [12, 20] (.f 12 [12, 16, 21] (.f 13 [12, 22] (.f 14 [12, 23] (.f 16 [12, 24, 25] (.f 17 [12, 26] .fin))))))))))))))))))) (.s (.s .o .o) .o))) (.s .o .o))) [.lf (.ptr t), .lf (.sl way), .agg (Ks.mk [.int .u64, .int .u64] k)] [.lf (.int .i64)] R) (fun w => W_rbtree_Tree_found t way k R w) := ⟨by kernel_rfl⟩
theorem call_rbtree_Tree_found (t : Option Pt) (way : Sl) (k : Int × Int) (R : Rs.T [.lf (.int .i64)] → WP) (w : World) (h : W_rbtree_Tree_found t way k R w) :
    CallX Try.prog N_rbtree_Tree_found ([.lf (.ptr t), .lf (.sl way), .agg (Ks.mk [.int .u64, .int .u64] k)].map V1.enc) w fun v w' => ∃ x, v = (retTV (Rs.mk [.lf (.int .i64)] x)).enc ∧ R x w' :=
  callX_of_semF Try.func65 (by kernel_rfl) (by kernel_rfl) (sem_rbtree_Tree_found t way k R) h


/-- (*canter/rbtree.Tree).hang -/
def W_rbtree_Tree_hang (d : Option Pt) (o : Sl) (a : Int) (a' : Int) (R : Rs.T [] → WP) : WP :=
  loop K_i3 (a, a', (IntKind.i64.wrap (((o.len : Nat) : Int) - (1:Int)))) fun J1 (y2 : T_i3) =>
  ite' (decide (y2.2.2 ≥ (0:Int))) (
  idx o y2.2.2 1 fun q3 =>
  ld [.int .i64] q3 fun (x4 : Int) =>
  join [.bool] (fun J5 =>
  drw <|
  deref d fun q7 =>
  ld [.sl] ⟨q7.b, q7.o + 1⟩ fun (x8 : Sl) =>
  idx x8 x4 5 fun q9 =>
  ld [.int .i64] ⟨q9.b, q9.o + 2⟩ fun (x10 : Int) =>
  ite' (x10 == y2.1) (
  ite' (y2.1 != (-1:Int)) (
  J5 true) <|
  deref d fun q11 =>
  deref d fun q12 =>
  ld [.sl] ⟨q11.b, q11.o + 1⟩ fun (x13 : Sl) =>
  ld [.sl] ⟨q12.b, q12.o + 1⟩ fun (x14 : Sl) =>
  idx x13 y2.2.1 5 fun q15 =>
  idx x14 x4 5 fun q16 =>
  ld [.int .u64, .int .u64] q15 fun (x17 : Int × Int) =>
  ld [.int .u64, .int .u64] q16 fun (x18 : Int × Int) =>
  call Try.prog N_rbtree_compare [.agg (Ks.mk [.int .u64, .int .u64] x17), .agg (Ks.mk [.int .u64, .int .u64] x18)] [.lf (.int .i64)] fun (r19 : Int) =>
  J5 (decide (r19 < (0:Int)))) <|
  J5 false) fun (y6 : Bool) =>
  ite' y6 (
  deref d fun q20 =>
  ld [.sl] ⟨q20.b, q20.o + 1⟩ fun (x21 : Sl) =>
  idx x21 x4 5 fun q22 =>
  st ⟨q22.b, q22.o + 2⟩ [.int .i64 y2.2.1] <|
  call Try.prog N_rbtree_Tree_even [.lf (.ptr d), .lf (.int .i64 x4)] [.lf (.int .i64)] fun (r23 : Int) =>
  J1 (x4, r23, (IntKind.i64.wrap (y2.2.2 - (1:Int))))) <|
  deref d fun q24 =>
  ld [.sl] ⟨q24.b, q24.o + 1⟩ fun (x25 : Sl) =>
  idx x25 x4 5 fun q26 =>
  st ⟨q26.b, q26.o + 3⟩ [.int .i64 y2.2.1] <|
  call Try.prog N_rbtree_Tree_even [.lf (.ptr d), .lf (.int .i64 x4)] [.lf (.int .i64)] fun (r27 : Int) =>
  J1 (x4, r27, (IntKind.i64.wrap (y2.2.2 - (1:Int))))) <|
  deref d fun q28 =>
  st ⟨q28.b, q28.o + 2⟩ [.int .i64 (IntKind.i64.wrap (y2.2.1 + (1:Int)))] <|
  R ()
theorem sem_rbtree_Tree_hang (d : Option Pt) (o : Sl) (a : Int) (a' : Int) (R : Rs.T [] → WP) : Same (semF Try.prog Try.f67 (.s (.s .o (.b (.l [(2, .lf (.int .i64)), (3, .lf (.int .i64)), (8, .lf (.int .i64))] (.s (.s .o (.s .o .o)) (.s (.b (.s .o (.s (.j [(54, .lf .bool)] (.d (.f 0 [0] (.f 4 [9] (.f 8 [2] (.f 1 [21] (.f 2 [22] (.f 3 [23] (.f 5 [24, 25] (.f 6 [26] (.f 7 [27] (.f 9 [28, 29] (.f 10 [30] (.f 11 [2, 31] (.f 12 [31, 32] (.f 13 [31, 33] (.f 14 [0, 34] (.f 18 [3, 34] (.f 22 [0, 34] (.f 26 [9, 34] (.f 15 [34, 35] (.f 23 [34, 43] (.f 16 [34, 36] (.f 24 [34, 44] (.f 17 [34, 37] (.f 25 [34, 45] (.f 19 [34, 38, 39] (.f 27 [34, 46, 47] (.f 20 [34, 40] (.f 28 [34, 48] (.f 21 [34, 41] (.f 29 [34, 49] (.w 30 [34, 42, 50] (.f 31 [34, 51] (.f 32 [31, 34, 52] (.f 33 [31, 53] .fin))))))))))))))))))))))))))))))))))) (.s .o .o)) .o))) .o))))) .o) [.lf (.ptr d), .lf (.sl o), .lf (.int .i64 a), .lf (.int .i64 a')] [] R) (fun w => W_rbtree_Tree_hang d o a a' R w) := ⟨by kernel_rfl⟩
theorem call_rbtree_Tree_hang (d : Option Pt) (o : Sl) (a : Int) (a' : Int) (R : Rs.T [] → WP) (w : World) (h : W_rbtree_Tree_hang d o a a' R w) :
    CallX Try.prog N_rbtree_Tree_hang ([.lf (.ptr d), .lf (.sl o), .lf (.int .i64 a), .lf (.int .i64 a')].map V1.enc) w fun v w' => ∃ x, v = (retTV (Rs.mk [] x)).enc ∧ R x w' :=
  callX_of_semF Try.func67 (by kernel_rfl) (by kernel_rfl) (sem_rbtree_Tree_hang d o a a' R) h


/-- (*canter/rbtree.Tree).high -/
def W_rbtree_Tree_high (t : Option Pt) (i : Int) (R : Rs.T [.lf (.int .i64)] → WP) : WP :=
  ite' (i == (-1:Int)) (
  R (0:Int)) <|
  deref t fun q1 =>
  ld [.sl] ⟨q1.b, q1.o + 1⟩ fun (x2 : Sl) =>
  idx x2 i 5 fun q3 =>
  ld [.int .i64] ⟨q3.b, q3.o + 4⟩ fun (x4 : Int) =>
  R x4
theorem sem_rbtree_Tree_high (t : Option Pt) (i : Int) (R : Rs.T [.lf (.int .i64)] → WP) : Same (semF Try.prog Try.f97 (.s .o (.s (.s .o (.s (.s .o .o) .o)) (.s .o .o))) [.lf (.ptr t), .lf (.int .i64 i)] [.lf (.int .i64)] R) (fun w => W_rbtree_Tree_high t i R w) := ⟨by kernel_rfl⟩
theorem call_rbtree_Tree_high (t : Option Pt) (i : Int) (R : Rs.T [.lf (.int .i64)] → WP) (w : World) (h : W_rbtree_Tree_high t i R w) :
    CallX Try.prog N_rbtree_Tree_high ([.lf (.ptr t), .lf (.int .i64 i)].map V1.enc) w fun v w' => ∃ x, v = (retTV (Rs.mk [.lf (.int .i64)] x)).enc ∧ R x w' :=
  callX_of_semF Try.func97 (by kernel_rfl) (by kernel_rfl) (sem_rbtree_Tree_high t i R) h


/-- (*canter/rbtree.Tree).lean -/
def W_rbtree_Tree_lean (t : Option Pt) (i : Int) (R : Rs.T [.lf (.int .i64)] → WP) : WP :=
  drw <|
  deref t fun q1 =>
  deref t fun q2 =>
  ld [.sl] ⟨q1.b, q1.o + 1⟩ fun (x3 : Sl) =>
  ld [.sl] ⟨q2.b, q2.o + 1⟩ fun (x4 : Sl) =>
  idx x3 i 5 fun q5 =>
  idx x4 i 5 fun q6 =>
  ld [.int .i64] ⟨q5.b, q5.o + 2⟩ fun (x7 : Int) =>
  ld [.int .i64] ⟨q6.b, q6.o + 3⟩ fun (x8 : Int) =>
  call Try.prog N_rbtree_Tree_high [.lf (.ptr t), .lf (.int .i64 x7)] [.lf (.int .i64)] fun (r9 : Int) =>
  chk ⟨q6.b, q6.o + 3⟩ (Ks.mk [.int .i64] x8) <|
  chk ⟨q2.b, q2.o + 1⟩ (Ks.mk [.sl] x4) <|
  call Try.prog N_rbtree_Tree_high [.lf (.ptr t), .lf (.int .i64 x8)] [.lf (.int .i64)] fun (r10 : Int) =>
  R (IntKind.i64.wrap (r9 - r10))
theorem sem_rbtree_Tree_lean (t : Option Pt) (i : Int) (R : Rs.T [.lf (.int .i64)] → WP) : Same (semF Try.prog Try.f91 (.s .o (.s (.d (.f 0 [0] (.f 1 [0] (.f 5 [1] (.f 10 [0] (.f 11 [0] (.f 15 [1] (.f 2 [6] (.f 12 [16] (.f 3 [7] (.f 13 [17] (.f 4 [8] (.f 14 [18] (.f 6 [9, 10] (.f 16 [19, 20] (.f 7 [11] (.f 17 [21] (.f 8 [12] (.f 18 [22] (.w 9 [5, 13] (.w 19 [15, 23] (.f 20 [14, 24] (.w 21 [25] .fin))))))))))))))))))))))) .o)) [.lf (.ptr t), .lf (.int .i64 i)] [.lf (.int .i64)] R) (fun w => W_rbtree_Tree_lean t i R w) := ⟨by kernel_rfl⟩
theorem call_rbtree_Tree_lean (t : Option Pt) (i : Int) (R : Rs.T [.lf (.int .i64)] → WP) (w : World) (h : W_rbtree_Tree_lean t i R w) :
    CallX Try.prog N_rbtree_Tree_lean ([.lf (.ptr t), .lf (.int .i64 i)].map V1.enc) w fun v w' => ∃ x, v = (retTV (Rs.mk [.lf (.int .i64)] x)).enc ∧ R x w' :=
  callX_of_semF Try.func91 (by kernel_rfl) (by kernel_rfl) (sem_rbtree_Tree_lean t i R) h


/-- (*canter/rbtree.Tree).least -/
def W_rbtree_Tree_least (t : Option Pt) (i : Int) (R : Rs.T [.lf .sl] → WP) : WP :=
  loop [.int .i64, .sl] (i, ⟨none, 0, 0⟩) fun J1 (y2 : Int × Sl) =>
  ite' (y2.1 != (-1:Int)) (
  new [.int .i64 y2.1] fun n3 =>
  app 1 y2.2 ⟨some ⟨n3, 0⟩, 1, 1⟩ fun s4 =>
  deref t fun q5 =>
  ld [.sl] ⟨q5.b, q5.o + 1⟩ fun (x6 : Sl) =>
  idx x6 y2.1 5 fun q7 =>
  ld [.int .i64] ⟨q7.b, q7.o + 2⟩ fun (x8 : Int) =>
  J1 (x8, s4)) <|
  R y2.2
theorem sem_rbtree_Tree_least (t : Option Pt) (i : Int) (R : Rs.T [.lf .sl] → WP) : Same (semF Try.prog Try.f72 (.s .o (.s .o (.s (.b (.l [(1, .lf (.int .i64)), (5, .lf .sl)] (.s (.s .o (.s .o .o)) (.s (.b .o) .o)))) (.s .o .o)))) [.lf (.ptr t), .lf (.int .i64 i)] [.lf .sl] R) (fun w => W_rbtree_Tree_least t i R w) := ⟨by kernel_rfl⟩
theorem call_rbtree_Tree_least (t : Option Pt) (i : Int) (R : Rs.T [.lf .sl] → WP) (w : World) (h : W_rbtree_Tree_least t i R w) :
    CallX Try.prog N_rbtree_Tree_least ([.lf (.ptr t), .lf (.int .i64 i)].map V1.enc) w fun v w' => ∃ x, v = (retTV (Rs.mk [.lf .sl] x)).enc ∧ R x w' :=
  callX_of_semF Try.func72 (by kernel_rfl) (by kernel_rfl) (sem_rbtree_Tree_least t i R) h


/-- (*canter/rbtree.Tree).mend -/
def W_rbtree_Tree_mend (t : Option Pt) (i : Int) (R : Rs.T [] → WP) : WP :=
  deref t fun q1 =>
  ld [.sl] ⟨q1.b, q1.o + 1⟩ fun (x2 : Sl) =>
  idx x2 i 5 fun q3 =>
  drw <|
  deref (some q3) fun q4 =>
  deref (some q3) fun q5 =>
  ld [.int .i64] ⟨q4.b, q4.o + 2⟩ fun (x6 : Int) =>
  ld [.int .i64] ⟨q5.b, q5.o + 3⟩ fun (x7 : Int) =>
  call Try.prog N_rbtree_Tree_high [.lf (.ptr t), .lf (.int .i64 x6)] [.lf (.int .i64)] fun (r8 : Int) =>
  chk ⟨q5.b, q5.o + 3⟩ (Ks.mk [.int .i64] x7) <|
  call Try.prog N_rbtree_Tree_high [.lf (.ptr t), .lf (.int .i64 x7)] [.lf (.int .i64)] fun (r9 : Int) =>
  deref (some q3) fun q10 =>
  st ⟨q10.b, q10.o + 4⟩ [.int .i64 (IntKind.i64.wrap ((if r9 > r8 then r9 else r8) + (1:Int)))] <|
  R ()
theorem sem_rbtree_Tree_mend (t : Option Pt) (i : Int) (R : Rs.T [] → WP) : Same (semF Try.prog Try.f90 (.s .o (.d (.f 0 [4] (.f 1 [0] (.f 2 [4] (.f 7 [0] (.f 8 [4] (.f 3 [13] (.f 9 [19] (.f 4 [14] (.f 10 [20] (.f 5 [15] (.f 11 [21] (.w 6 [12, 16] (.w 12 [18, 22] (.f 13 [17, 23] (.f 14 [24] (.f 15 [11] (.f 16 [26] (.w 17 [25, 27] .fin)))))))))))))))))))) [.lf (.ptr t), .lf (.int .i64 i)] [] R) (fun w => W_rbtree_Tree_mend t i R w) := ⟨by kernel_rfl⟩
theorem call_rbtree_Tree_mend (t : Option Pt) (i : Int) (R : Rs.T [] → WP) (w : World) (h : W_rbtree_Tree_mend t i R w) :
    CallX Try.prog N_rbtree_Tree_mend ([.lf (.ptr t), .lf (.int .i64 i)].map V1.enc) w fun v w' => ∃ x, v = (retTV (Rs.mk [] x)).enc ∧ R x w' :=
  callX_of_semF Try.func90 (by kernel_rfl) (by kernel_rfl) (sem_rbtree_Tree_mend t i R) h


/-- (*canter/rbtree.Tree).root -/
def W_rbtree_Tree_root (t : Option Pt) (R : Rs.T [.lf (.int .i64)] → WP) : WP :=
  ite' t.isNone (
  R (-1:Int)) <|
  deref t fun q1 =>
  ld [.int .i64] ⟨q1.b, q1.o + 2⟩ fun (x2 : Int) =>
  R (IntKind.i64.wrap (x2 - (1:Int)))
theorem sem_rbtree_Tree_root (t : Option Pt) (R : Rs.T [.lf (.int .i64)] → WP) : Same (semF Try.prog Try.f79 (.s .o (.s (.s .o (.s (.s .o .o) .o)) (.s .o .o))) [.lf (.ptr t)] [.lf (.int .i64)] R) (fun w => W_rbtree_Tree_root t R w) := ⟨by kernel_rfl⟩
theorem call_rbtree_Tree_root (t : Option Pt) (R : Rs.T [.lf (.int .i64)] → WP) (w : World) (h : W_rbtree_Tree_root t R w) :
    CallX Try.prog N_rbtree_Tree_root ([.lf (.ptr t)].map V1.enc) w fun v w' => ∃ x, v = (retTV (Rs.mk [.lf (.int .i64)] x)).enc ∧ R x w' :=
  callX_of_semF Try.func79 (by kernel_rfl) (by kernel_rfl) (sem_rbtree_Tree_root t R) h


/-- (*canter/rbtree.Tree).turnLeft -/
def W_rbtree_Tree_turnLeft (t : Option Pt) (i : Int) (R : Rs.T [.lf (.int .i64)] → WP) : WP :=
  deref t fun q1 =>
  ld [.sl] ⟨q1.b, q1.o + 1⟩ fun (x2 : Sl) =>
  idx x2 i 5 fun q3 =>
  ld [.int .i64] ⟨q3.b, q3.o + 3⟩ fun (x4 : Int) =>
  drw <|
  deref t fun q5 =>
  deref t fun q6 =>
  deref t fun q7 =>
  ld [.sl] ⟨q5.b, q5.o + 1⟩ fun (x8 : Sl) =>
  ld [.sl] ⟨q6.b, q6.o + 1⟩ fun (x9 : Sl) =>
  ld [.sl] ⟨q7.b, q7.o + 1⟩ fun (x10 : Sl) =>
  idx x10 x4 5 fun q11 =>
  ld [.int .i64] ⟨q11.b, q11.o + 2⟩ fun (x12 : Int) =>
  idx x8 i 5 fun q13 =>
  st ⟨q13.b, q13.o + 3⟩ [.int .i64 x12] <|
  idx x9 x4 5 fun q14 =>
  st ⟨q14.b, q14.o + 2⟩ [.int .i64 i] <|
  call Try.prog N_rbtree_Tree_mend [.lf (.ptr t), .lf (.int .i64 i)] [] fun (r15 : Unit) =>
  call Try.prog N_rbtree_Tree_mend [.lf (.ptr t), .lf (.int .i64 x4)] [] fun (r16 : Unit) =>
  R x4
theorem sem_rbtree_Tree_turnLeft (t : Option Pt) (i : Int) (R : Rs.T [.lf (.int .i64)] → WP) : Same (semF Try.prog Try.f92 (.s .o (.s .o (.s (.d (.f 0 [0] (.f 4 [1] (.f 5 [0] (.f 9 [5] (.f 10 [0] (.f 14 [5] (.f 18 [1] (.f 1 [14] (.f 6 [19] (.f 11 [24] (.f 2 [15] (.f 7 [20] (.f 12 [25] (.f 3 [16] (.f 8 [21] (.f 13 [26] (.f 15 [27, 28] (.f 16 [29] (.f 17 [30] (.f 19 [17, 18] (.f 20 [33] (.w 21 [31, 34] (.f 22 [22, 23] (.f 23 [35] (.w 24 [32, 36] .fin)))))))))))))))))))))))))) (.s .o (.s .o (.s .o .o)))))) [.lf (.ptr t), .lf (.int .i64 i)] [.lf (.int .i64)] R) (fun w => W_rbtree_Tree_turnLeft t i R w) := ⟨by kernel_rfl⟩
theorem call_rbtree_Tree_turnLeft (t : Option Pt) (i : Int) (R : Rs.T [.lf (.int .i64)] → WP) (w : World) (h : W_rbtree_Tree_turnLeft t i R w) :
    CallX Try.prog N_rbtree_Tree_turnLeft ([.lf (.ptr t), .lf (.int .i64 i)].map V1.enc) w fun v w' => ∃ x, v = (retTV (Rs.mk [.lf (.int .i64)] x)).enc ∧ R x w' :=
  callX_of_semF Try.func92 (by kernel_rfl) (by kernel_rfl) (sem_rbtree_Tree_turnLeft t i R) h


/-- (*canter/rbtree.Tree).turnRight -/
def W_rbtree_Tree_turnRight (t : Option Pt) (i : Int) (R : Rs.T [.lf (.int .i64)] → WP) : WP :=
  deref t fun q1 =>
  ld [.sl] ⟨q1.b, q1.o + 1⟩ fun (x2 : Sl) =>
  idx x2 i 5 fun q3 =>
  ld [.int .i64] ⟨q3.b, q3.o + 2⟩ fun (x4 : Int) =>
  drw <|
  deref t fun q5 =>
  deref t fun q6 =>
  deref t fun q7 =>
  ld [.sl] ⟨q5.b, q5.o + 1⟩ fun (x8 : Sl) =>
  ld [.sl] ⟨q6.b, q6.o + 1⟩ fun (x9 : Sl) =>
  ld [.sl] ⟨q7.b, q7.o + 1⟩ fun (x10 : Sl) =>
  idx x10 x4 5 fun q11 =>
  ld [.int .i64] ⟨q11.b, q11.o + 3⟩ fun (x12 : Int) =>
  idx x8 i 5 fun q13 =>
  st ⟨q13.b, q13.o + 2⟩ [.int .i64 x12] <|
  idx x9 x4 5 fun q14 =>
  st ⟨q14.b, q14.o + 3⟩ [.int .i64 i] <|
  call Try.prog N_rbtree_Tree_mend [.lf (.ptr t), .lf (.int .i64 i)] [] fun (r15 : Unit) =>
  call Try.prog N_rbtree_Tree_mend [.lf (.ptr t), .lf (.int .i64 x4)] [] fun (r16 : Unit) =>
  R x4
theorem sem_rbtree_Tree_turnRight (t : Option Pt) (i : Int) (R : Rs.T [.lf (.int .i64)] → WP) : Same (semF Try.prog Try.f93 (.s .o (.s .o (.s (.d (.f 0 [0] (.f 4 [1] (.f 5 [0] (.f 9 [5] (.f 10 [0] (.f 14 [5] (.f 18 [1] (.f 1 [14] (.f 6 [19] (.f 11 [24] (.f 2 [15] (.f 7 [20] (.f 12 [25] (.f 3 [16] (.f 8 [21] (.f 13 [26] (.f 15 [27, 28] (.f 16 [29] (.f 17 [30] (.f 19 [17, 18] (.f 20 [33] (.w 21 [31, 34] (.f 22 [22, 23] (.f 23 [35] (.w 24 [32, 36] .fin)))))))))))))))))))))))))) (.s .o (.s .o (.s .o .o)))))) [.lf (.ptr t), .lf (.int .i64 i)] [.lf (.int .i64)] R) (fun w => W_rbtree_Tree_turnRight t i R w) := ⟨by kernel_rfl⟩
theorem call_rbtree_Tree_turnRight (t : Option Pt) (i : Int) (R : Rs.T [.lf (.int .i64)] → WP) (w : World) (h : W_rbtree_Tree_turnRight t i R w) :
    CallX Try.prog N_rbtree_Tree_turnRight ([.lf (.ptr t), .lf (.int .i64 i)].map V1.enc) w fun v w' => ∃ x, v = (retTV (Rs.mk [.lf (.int .i64)] x)).enc ∧ R x w' :=
  callX_of_semF Try.func93 (by kernel_rfl) (by kernel_rfl) (sem_rbtree_Tree_turnRight t i R) h


/-- (*canter/rbtree.Tree).way -/
def W_rbtree_Tree_way (t : Option Pt) (k : Int × Int) (R : Rs.T [.lf .sl] → WP) : WP :=
  new (Ks.mk [.int .u64, .int .u64] k) fun n1 =>
  call Try.prog N_rbtree_Tree_root [.lf (.ptr t)] [.lf (.int .i64)] fun (r2 : Int) =>
  loop [.sl, .int .i64] (⟨none, 0, 0⟩, r2) fun J3 (y4 : Sl × Int) =>
  ite' (y4.2 != (-1:Int)) (
  new [.int .i64 y4.2] fun n5 =>
  app 1 y4.1 ⟨some ⟨n5, 0⟩, 1, 1⟩ fun s6 =>
  drw <|
  ld [.int .u64, .int .u64] ⟨n1, 0⟩ fun (x7 : Int × Int) =>
  deref t fun q8 =>
  ld [.sl] ⟨q8.b, q8.o + 1⟩ fun (x9 : Sl) =>
  idx x9 y4.2 5 fun q10 =>
  ld [.int .u64, .int .u64] q10 fun (x11 : Int × Int) =>
  call Try.prog N_rbtree_compare [.agg (Ks.mk [.int .u64, .int .u64] x7), .agg (Ks.mk [.int .u64, .int .u64] x11)] [.lf (.int .i64)] fun (r12 : Int) =>
  ite' (decide (r12 < (0:Int))) (
  deref t fun q13 =>
  ld [.sl] ⟨q13.b, q13.o + 1⟩ fun (x14 : Sl) =>
  idx x14 y4.2 5 fun q15 =>
  ld [.int .i64] ⟨q15.b, q15.o + 2⟩ fun (x16 : Int) =>
  J3 (s6, x16)) <|
  ite' (decide (r12 > (0:Int))) (
  deref t fun q17 =>
  ld [.sl] ⟨q17.b, q17.o + 1⟩ fun (x18 : Sl) =>
  idx x18 y4.2 5 fun q19 =>
  ld [.int .i64] ⟨q19.b, q19.o + 3⟩ fun (x20 : Int) =>
  J3 (s6, x20)) <|
  R s6) <|
  R y4.1
theorem sem_rbtree_Tree_way (t : Option Pt) (k : Int × Int) (R : Rs.T [.lf .sl] → WP) : Same (semF Try.prog Try.f64 (.s .o (.s .o (.s .o (.s .o (.s (.b (.l [(5, .lf .sl), (6, .lf (.int .i64))] (.s (.s .o (.s .o .o)) (.b (.s .o (.s (.d (.f 0 [3] (.f 1 [0] (.f 5 [6] (.f 2 [17] (.f 3 [18] (.f 4 [19] (.f 6 [20, 21] (.f 7 [22] (.f 8 [23] (.w 9 [16, 24] (.w 10 [25] .fin)))))))))))) (.b (.s .o (.s .o (.s .o (.s .o .o))))))))))) (.s .o .o)))))) [.lf (.ptr t), .agg (Ks.mk [.int .u64, .int .u64] k)] [.lf .sl] R) (fun w => W_rbtree_Tree_way t k R w) := ⟨by kernel_rfl⟩
theorem call_rbtree_Tree_way (t : Option Pt) (k : Int × Int) (R : Rs.T [.lf .sl] → WP) (w : World) (h : W_rbtree_Tree_way t k R w) :
    CallX Try.prog N_rbtree_Tree_way ([.lf (.ptr t), .agg (Ks.mk [.int .u64, .int .u64] k)].map V1.enc) w fun v w' => ∃ x, v = (retTV (Rs.mk [.lf .sl] x)).enc ∧ R x w' :=
  callX_of_semF Try.func64 (by kernel_rfl) (by kernel_rfl) (sem_rbtree_Tree_way t k R) h



end Go.X
