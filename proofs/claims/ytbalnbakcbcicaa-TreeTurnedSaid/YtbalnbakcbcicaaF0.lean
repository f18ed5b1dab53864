/- What each function of the program computes, as a weakest precondition, printed by program; the kernel sees that the code says so. -/
import Derived.Test.YtbalnbakcbcicaaK
import Derived.Test.YtbalnbakcbcicaaProg
set_option linter.unusedVariables false
namespace Go.X
open Go.Proofs
/-- (*canter/arena.Arena).Free -/
def W_arena_Arena_Free (a : Option Pt) (i : Int) (R : Rs.T [.lf (.int .i64)] → WP) : WP :=
  ite' a.isNone (
  R (2:Int)) <|
  join [.bool] (fun J1 =>
  ite' (decide (i < (0:Int))) (
  J1 true) <|
  deref a fun q3 =>
  ld [.int .i64] ⟨q3.b, q3.o + 2⟩ fun (x4 : Int) =>
  J1 (decide (i ≥ x4))) fun (y2 : Bool) =>
  ite' y2 (
  R (1:Int)) <|
  call Try.prog N_arena_Arena_Has [.lf (.ptr a), .lf (.int .i64 i)] [.lf .bool] fun (r5 : Bool) =>
  ite' (!r5) (
  R (7:Int)) <|
  deref a fun q6 =>
  ld [.sl] q6 fun (x7 : Sl) =>
  idx x7 i 1 fun q8 =>
  st q8 [.bool false] <|
  deref a fun q9 =>
  ld [.sl] ⟨q9.b, q9.o + 1⟩ fun (x10 : Sl) =>
  new [.int .i64 i] fun n11 =>
  app 1 x10 ⟨some ⟨n11, 0⟩, 1, 1⟩ fun s12 =>
  deref a fun q13 =>
  st ⟨q13.b, q13.o + 1⟩ [.sl s12] <|
  R (0:Int)
theorem sem_arena_Arena_Free (a : Option Pt) (i : Int) (R : Rs.T [.lf (.int .i64)] → WP) : Same (semF Try.prog Try.f40 (.s .o (.s (.b (.s .o (.s (.s .o .o) (.j [(8, .lf .bool)] .o (.s (.s .o .o) (.s .o (.s (.s .o .o) .o))))))) (.s .o (.s .o (.s .o .o))))) [.lf (.ptr a), .lf (.int .i64 i)] [.lf (.int .i64)] R) (fun w => W_arena_Arena_Free a i R w) := ⟨by kernel_rfl⟩
theorem call_arena_Arena_Free (a : Option Pt) (i : Int) (R : Rs.T [.lf (.int .i64)] → WP) (w : World) (h : W_arena_Arena_Free a i R w) :
    CallX Try.prog N_arena_Arena_Free ([.lf (.ptr a), .lf (.int .i64 i)].map V1.enc) w fun v w' => ∃ x, v = (retTV (Rs.mk [.lf (.int .i64)] x)).enc ∧ R x w' :=
  callX_of_semF Try.func40 (by kernel_rfl) (by kernel_rfl) (sem_arena_Arena_Free a i R) h


/-- (*canter/arena.Arena).Get -/
def W_arena_Arena_Get (d : Option Pt) (R : Rs.T [.lf (.int .i64), .lf (.int .i64)] → WP) : WP :=
  ite' d.isNone (
  R ((0:Int), (2:Int))) <|
  deref d fun q1 =>
  ld [.sl] ⟨q1.b, q1.o + 1⟩ fun (x2 : Sl) =>
  ite' (decide (((x2.len : Nat) : Int) > (0:Int))) (
  deref d fun q3 =>
  ld [.sl] ⟨q3.b, q3.o + 1⟩ fun (x4 : Sl) =>
  idx x4 (IntKind.i64.wrap (((x2.len : Nat) : Int) - (1:Int))) 1 fun q5 =>
  ld [.int .i64] q5 fun (x6 : Int) =>
  deref d fun q7 =>
  ld [.sl] ⟨q7.b, q7.o + 1⟩ fun (x8 : Sl) =>
  slc x8 none (some (IntKind.i64.wrap (((x2.len : Nat) : Int) - (1:Int)))) none 1 fun s9 =>
  deref d fun q10 =>
  st ⟨q10.b, q10.o + 1⟩ [.sl s9] <|
  deref d fun q11 =>
  ld [.sl] q11 fun (x12 : Sl) =>
  idx x12 x6 1 fun q13 =>
  st q13 [.bool true] <|
  R (x6, (0:Int))) <|
  drw <|
  deref d fun q14 =>
  deref d fun q15 =>
  ld [.sl] q14 fun (x16 : Sl) =>
  ld [.int .i64] ⟨q15.b, q15.o + 2⟩ fun (x17 : Int) =>
  ite' (decide (((x16.len : Nat) : Int) ≥ x17)) (
  R ((0:Int), (5:Int))) <|
  deref d fun q18 =>
  ld [.sl] q18 fun (x19 : Sl) =>
  new [.bool true] fun n20 =>
  app 1 x19 ⟨some ⟨n20, 0⟩, 1, 1⟩ fun s21 =>
  deref d fun q22 =>
  st q22 [.sl s21] <|
  deref d fun q23 =>
  ld [.sl] q23 fun (x24 : Sl) =>
  R ((IntKind.i64.wrap (((x24.len : Nat) : Int) - (1:Int))), (0:Int))
theorem sem_arena_Arena_Get (d : Option Pt) (R : Rs.T [.lf (.int .i64), .lf (.int .i64)] → WP) : Same (semF Try.prog Try.f32 (.s .o (.s (.s .o (.s (.s .o .o) .o)) (.s (.s .o (.s .o (.s (.s .o (.s .o (.s .o (.s .o .o)))) .o))) (.s (.s (.d (.f 0 [0] (.f 5 [0] (.f 1 [40] (.f 6 [45] (.f 2 [41] (.f 7 [46] (.f 3 [42] (.f 8 [47] (.f 4 [43] (.f 9 [44, 48] .fin))))))))))) (.s (.s .o .o) .o)) (.s .o (.s .o .o)))))) [.lf (.ptr d)] [.lf (.int .i64), .lf (.int .i64)] R) (fun w => W_arena_Arena_Get d R w) := ⟨by kernel_rfl⟩
theorem call_arena_Arena_Get (d : Option Pt) (R : Rs.T [.lf (.int .i64), .lf (.int .i64)] → WP) (w : World) (h : W_arena_Arena_Get d R w) :
    CallX Try.prog N_arena_Arena_Get ([.lf (.ptr d)].map V1.enc) w fun v w' => ∃ x, v = (retTV (Rs.mk [.lf (.int .i64), .lf (.int .i64)] x)).enc ∧ R x w' :=
  callX_of_semF Try.func32 (by kernel_rfl) (by kernel_rfl) (sem_arena_Arena_Get d R) h


/-- (*canter/arena.Arena).Has -/
def W_arena_Arena_Has (a : Option Pt) (i : Int) (R : Rs.T [.lf .bool] → WP) : WP :=
  ite' ((!a.isNone) && (decide (i ≥ (0:Int)))) (
  deref a fun q1 =>
  ld [.sl] q1 fun (x2 : Sl) =>
  ite' (decide (i < ((x2.len : Nat) : Int))) (
  deref a fun q3 =>
  ld [.sl] q3 fun (x4 : Sl) =>
  idx x4 i 1 fun q5 =>
  ld [.bool] q5 fun (x6 : Bool) =>
  R x6) <|
  R false) <|
  R false
theorem sem_arena_Arena_Has (a : Option Pt) (i : Int) (R : Rs.T [.lf .bool] → WP) : Same (semF Try.prog Try.f48 (.s .o (.s .o .o)) [.lf (.ptr a), .lf (.int .i64 i)] [.lf .bool] R) (fun w => W_arena_Arena_Has a i R w) := ⟨by kernel_rfl⟩
theorem call_arena_Arena_Has (a : Option Pt) (i : Int) (R : Rs.T [.lf .bool] → WP) (w : World) (h : W_arena_Arena_Has a i R w) :
    CallX Try.prog N_arena_Arena_Has ([.lf (.ptr a), .lf (.int .i64 i)].map V1.enc) w fun v w' => ∃ x, v = (retTV (Rs.mk [.lf .bool] x)).enc ∧ R x w' :=
  callX_of_semF Try.func48 (by kernel_rfl) (by kernel_rfl) (sem_arena_Arena_Has a i R) h


/-- canter/arena.New -/
def W_arena_New (n : Int) (R : Rs.T [.lf .ptr] → WP) : WP :=
  new [.sl ⟨none, 0, 0⟩, .sl ⟨none, 0, 0⟩, .int .i64 (if (4096:Int) < (if (0:Int) > n then (0:Int) else n) then (4096:Int) else (if (0:Int) > n then (0:Int) else n))] fun n1 =>
  R (some ⟨n1, 0⟩)
theorem sem_arena_New (n : Int) (R : Rs.T [.lf .ptr] → WP) : Same (semF Try.prog Try.f29 (.s .o (.s .o .o)) [.lf (.int .i64 n)] [.lf .ptr] R) (fun w => W_arena_New n R w) := ⟨by kernel_rfl⟩
theorem call_arena_New (n : Int) (R : Rs.T [.lf .ptr] → WP) (w : World) (h : W_arena_New n R w) :
    CallX Try.prog N_arena_New ([.lf (.int .i64 n)].map V1.enc) w fun v w' => ∃ x, v = (retTV (Rs.mk [.lf .ptr] x)).enc ∧ R x w' :=
  callX_of_semF Try.func29 (by kernel_rfl) (by kernel_rfl) (sem_arena_New n R) h


/-- canter/canterhelp.All[canter/api.Key] -/
def W_canterhelp_All_apiKey (f : Fv) (most : Int) (R : Rs.T [.lf .sl] → WP) : WP :=
  new [.int .i64 most] fun n1 =>
  new [.sl ⟨none, 0, 0⟩] fun n2 =>
  ite' (isNilF f) (
  R ⟨none, 0, 0⟩) <|
  callv Try.prog f [.lf (.fn (.mk (.func N_canterhelp_All_apiKey_c1) [] [V1.enc (.lf (.ptr (some ⟨n2, 0⟩))), V1.enc (.lf (.ptr (some ⟨n1, 0⟩)))]))] [] fun (r3 : Unit) =>
  ld [.sl] ⟨n2, 0⟩ fun (x4 : Sl) =>
  R x4
theorem sem_canterhelp_All_apiKey (f : Fv) (most : Int) (R : Rs.T [.lf .sl] → WP) : Same (semF Try.prog Try.f15 (.s .o (.s .o (.s (.s .o (.s (.s .o .o) .o)) (.s .o (.s .o .o))))) [.lf (.fn f), .lf (.int .i64 most)] [.lf .sl] R) (fun w => W_canterhelp_All_apiKey f most R w) := ⟨by kernel_rfl⟩
theorem call_canterhelp_All_apiKey (f : Fv) (most : Int) (R : Rs.T [.lf .sl] → WP) (w : World) (h : W_canterhelp_All_apiKey f most R w) :
    CallX Try.prog N_canterhelp_All_apiKey ([.lf (.fn f), .lf (.int .i64 most)].map V1.enc) w fun v w' => ∃ x, v = (retTV (Rs.mk [.lf .sl] x)).enc ∧ R x w' :=
  callX_of_semF Try.func15 (by kernel_rfl) (by kernel_rfl) (sem_canterhelp_All_apiKey f most R) h


/-- canter/canterhelp.All[canter/api.Key]$1 -/
def W_canterhelp_All_apiKey_c1 (x : Int × Int) (c0 : Pt) (c1 : Pt) (R : Rs.T [.lf .bool] → WP) : WP :=
  new (Ks.mk [.int .u64, .int .u64] x) fun n1 =>
  ld [.sl] c0 fun (x2 : Sl) =>
  ld [.int .u64, .int .u64] ⟨n1, 0⟩ fun (x3 : Int × Int) =>
  new [.int .u64 x3.1, .int .u64 x3.2] fun n4 =>
  app 2 x2 ⟨some ⟨n4, 0⟩, 1, 1⟩ fun s5 =>
  st c0 [.sl s5] <|
  ld [.sl] c0 fun (x6 : Sl) =>
  ld [.int .i64] c1 fun (x7 : Int) =>
  R (decide (((x6.len : Nat) : Int) < x7))
theorem sem_canterhelp_All_apiKey_c1 (x : Int × Int) (c0 : Pt) (c1 : Pt) (R : Rs.T [.lf .bool] → WP) : Same (semF Try.prog Try.f36 (.s .o (.s .o (.s .o .o))) [.agg (Ks.mk [.int .u64, .int .u64] x), .lf (.ptr (some c0)), .lf (.ptr (some c1))] [.lf .bool] R) (fun w => W_canterhelp_All_apiKey_c1 x c0 c1 R w) := ⟨by kernel_rfl⟩
theorem call_canterhelp_All_apiKey_c1 (x : Int × Int) (c0 : Pt) (c1 : Pt) (R : Rs.T [.lf .bool] → WP) (w : World) (h : W_canterhelp_All_apiKey_c1 x c0 c1 R w) :
    CallX Try.prog N_canterhelp_All_apiKey_c1 ([.agg (Ks.mk [.int .u64, .int .u64] x), .lf (.ptr (some c0)), .lf (.ptr (some c1))].map V1.enc) w fun v w' => ∃ x, v = (retTV (Rs.mk [.lf .bool] x)).enc ∧ R x w' :=
  callX_of_semF Try.func36 (by kernel_rfl) (by kernel_rfl) (sem_canterhelp_All_apiKey_c1 x c0 c1 R) h


/-- canter/canterhelp.Plain[canter/api.Key] -/
def W_canterhelp_Plain_apiKey (a : Sl) (b : Sl) (R : Rs.T [.lf .bool] → WP) : WP :=
  call Try.prog N_canterhelp_Same_apiKey [.lf (.sl a), .lf (.sl b), .lf (.fn (.mk (.func N_canterhelp_Plain_apiKey_c1) [] []))] [.lf .bool] fun (r1 : Bool) =>
  R r1
theorem sem_canterhelp_Plain_apiKey (a : Sl) (b : Sl) (R : Rs.T [.lf .bool] → WP) : Same (semF Try.prog Try.f22 (.s .o (.s .o .o)) [.lf (.sl a), .lf (.sl b)] [.lf .bool] R) (fun w => W_canterhelp_Plain_apiKey a b R w) := ⟨by kernel_rfl⟩
theorem call_canterhelp_Plain_apiKey (a : Sl) (b : Sl) (R : Rs.T [.lf .bool] → WP) (w : World) (h : W_canterhelp_Plain_apiKey a b R w) :
    CallX Try.prog N_canterhelp_Plain_apiKey ([.lf (.sl a), .lf (.sl b)].map V1.enc) w fun v w' => ∃ x, v = (retTV (Rs.mk [.lf .bool] x)).enc ∧ R x w' :=
  callX_of_semF Try.func22 (by kernel_rfl) (by kernel_rfl) (sem_canterhelp_Plain_apiKey a b R) h


/-- canter/canterhelp.Plain[canter/api.Key]$1 -/
def W_canterhelp_Plain_apiKey_c1 (x : Int × Int) (y : Int × Int) (R : Rs.T [.lf .bool] → WP) : WP :=
  new (Ks.mk [.int .u64, .int .u64] x) fun n1 =>
  new (Ks.mk [.int .u64, .int .u64] y) fun n2 =>
  ld [.int .u64, .int .u64] ⟨n1, 0⟩ fun (x3 : Int × Int) =>
  ld [.int .u64, .int .u64] ⟨n2, 0⟩ fun (x4 : Int × Int) =>
  R ((x3.1 == x4.1) && (x3.2 == x4.2))
theorem sem_canterhelp_Plain_apiKey_c1 (x : Int × Int) (y : Int × Int) (R : Rs.T [.lf .bool] → WP) : Same (semF Try.prog Try.f42 (.s .o (.s .o .o)) [.agg (Ks.mk [.int .u64, .int .u64] x), .agg (Ks.mk [.int .u64, .int .u64] y)] [.lf .bool] R) (fun w => W_canterhelp_Plain_apiKey_c1 x y R w) := ⟨by kernel_rfl⟩
theorem call_canterhelp_Plain_apiKey_c1 (x : Int × Int) (y : Int × Int) (R : Rs.T [.lf .bool] → WP) (w : World) (h : W_canterhelp_Plain_apiKey_c1 x y R w) :
    CallX Try.prog N_canterhelp_Plain_apiKey_c1 ([.agg (Ks.mk [.int .u64, .int .u64] x), .agg (Ks.mk [.int .u64, .int .u64] y)].map V1.enc) w fun v w' => ∃ x, v = (retTV (Rs.mk [.lf .bool] x)).enc ∧ R x w' :=
  callX_of_semF Try.func42 (by kernel_rfl) (by kernel_rfl) (sem_canterhelp_Plain_apiKey_c1 x y R) h


/-- canter/canterhelp.Same[canter/api.Key] -/
def W_canterhelp_Same_apiKey (a : Sl) (b : Sl) (one : Fv) (R : Rs.T [.lf .bool] → WP) : WP :=
  ite' (((a.len : Nat) : Int) != ((b.len : Nat) : Int)) (
  R false) <|
  loop [.int .i64] (0:Int) fun J1 (y2 : Int) =>
  ite' (decide (y2 < ((a.len : Nat) : Int))) (
  drw <|
  idx a y2 2 fun q3 =>
  idx b y2 2 fun q4 =>
  ld [.int .u64, .int .u64] q3 fun (x5 : Int × Int) =>
  ld [.int .u64, .int .u64] q4 fun (x6 : Int × Int) =>
  callv Try.prog one [.agg (Ks.mk [.int .u64, .int .u64] x5), .agg (Ks.mk [.int .u64, .int .u64] x6)] [.lf .bool] fun (r7 : Bool) =>
  ite' (!r7) (
  R false) <|
  J1 (IntKind.i64.wrap (y2 + (1:Int)))) <|
  R true
theorem sem_canterhelp_Same_apiKey (a : Sl) (b : Sl) (one : Fv) (R : Rs.T [.lf .bool] → WP) : Same (semF Try.prog Try.f41 (.s .o (.s (.s .o (.s (.s .o .o) .o)) (.s (.s .o (.b (.l [(7, .lf (.int .i64))] (.s (.s .o (.s .o .o)) (.s (.b (.s (.d (.f 0 [2] (.f 1 [0] (.f 2 [7] (.f 5 [1] (.f 6 [7] (.f 3 [20, 21] (.f 7 [24, 25] (.f 4 [22] (.f 8 [26] (.w 9 [19, 23, 27] (.f 10 [28] .fin)))))))))))) (.s (.s .o .o) .o))) .o))))) (.s .o .o)))) [.lf (.sl a), .lf (.sl b), .lf (.fn one)] [.lf .bool] R) (fun w => W_canterhelp_Same_apiKey a b one R w) := ⟨by kernel_rfl⟩
theorem call_canterhelp_Same_apiKey (a : Sl) (b : Sl) (one : Fv) (R : Rs.T [.lf .bool] → WP) (w : World) (h : W_canterhelp_Same_apiKey a b one R w) :
    CallX Try.prog N_canterhelp_Same_apiKey ([.lf (.sl a), .lf (.sl b), .lf (.fn one)].map V1.enc) w fun v w' => ∃ x, v = (retTV (Rs.mk [.lf .bool] x)).enc ∧ R x w' :=
  callX_of_semF Try.func41 (by kernel_rfl) (by kernel_rfl) (sem_canterhelp_Same_apiKey a b one R) h


/-- canter/canterlaw05.TreeTurned -/
def W_canterlaw05_TreeTurned (d : Sl) (o : Sl) (R : Rs.T [.lf .bool] → WP) : WP :=
  ite' (decide (((d.len : Nat) : Int) > (100:Int))) (
  call Try.prog N_canterlaw05_awake [] [.lf .bool] fun (r1 : Bool) =>
  R r1) <|
  call Try.prog N_rbtree_New [.lf (.int .i64 (200:Int))] [.lf .ptr] fun (r2 : Option Pt) =>
  call Try.prog N_rbtree_New [.lf (.int .i64 (200:Int))] [.lf .ptr] fun (r3 : Option Pt) =>
  call Try.prog N_canterlaw05_awake [] [.lf .bool] fun (r4 : Bool) =>
  ite' (((!r4) || r2.isNone) || r3.isNone) (
  R false) <|
  loop [.int .i64] (0:Int) fun J5 (y6 : Int) =>
  ite' (decide (y6 < ((d.len : Nat) : Int))) (
  idx d y6 2 fun q7 =>
  ld [.int .u64, .int .u64] q7 fun (x8 : Int × Int) =>
  call Try.prog N_rbtree_Tree_Insert [.lf (.ptr r2), .agg (Ks.mk [.int .u64, .int .u64] x8)] [.lf (.int .i64)] fun (r9 : Int) =>
  idx d (IntKind.i64.wrap ((IntKind.i64.wrap (((d.len : Nat) : Int) - (1:Int))) - y6)) 2 fun q10 =>
  ld [.int .u64, .int .u64] q10 fun (x11 : Int × Int) =>
  call Try.prog N_rbtree_Tree_Insert [.lf (.ptr r3), .agg (Ks.mk [.int .u64, .int .u64] x11)] [.lf (.int .i64)] fun (r12 : Int) =>
  J5 (IntKind.i64.wrap (y6 + (1:Int)))) <|
  loop [.int .i64] (0:Int) fun J13 (y14 : Int) =>
  ite' (decide (y14 < ((d.len : Nat) : Int))) (
  join [] (fun J15 =>
  join [.bool] (fun J17 =>
  ite' (decide (y14 < ((o.len : Nat) : Int))) (
  idx o y14 1 fun q19 =>
  ld [.bool] q19 fun (x20 : Bool) =>
  J17 x20) <|
  J17 false) fun (y18 : Bool) =>
  ite' y18 (
  idx d y14 2 fun q21 =>
  ld [.int .u64, .int .u64] q21 fun (x22 : Int × Int) =>
  call Try.prog N_rbtree_Tree_Delete [.lf (.ptr r2), .agg (Ks.mk [.int .u64, .int .u64] x22)] [.lf (.int .i64)] fun (r23 : Int) =>
  J15 ()) <|
  J15 ()) fun (y16 : Unit) =>
  join [.bool] (fun J24 =>
  ite' (decide ((IntKind.i64.wrap ((IntKind.i64.wrap (((d.len : Nat) : Int) - (1:Int))) - y14)) < ((o.len : Nat) : Int))) (
  idx o (IntKind.i64.wrap ((IntKind.i64.wrap (((d.len : Nat) : Int) - (1:Int))) - y14)) 1 fun q26 =>
  ld [.bool] q26 fun (x27 : Bool) =>
  J24 x27) <|
  J24 false) fun (y25 : Bool) =>
  ite' y25 (
  idx d (IntKind.i64.wrap ((IntKind.i64.wrap (((d.len : Nat) : Int) - (1:Int))) - y14)) 2 fun q28 =>
  ld [.int .u64, .int .u64] q28 fun (x29 : Int × Int) =>
  call Try.prog N_rbtree_Tree_Delete [.lf (.ptr r3), .agg (Ks.mk [.int .u64, .int .u64] x29)] [.lf (.int .i64)] fun (r30 : Int) =>
  J13 (IntKind.i64.wrap (y14 + (1:Int)))) <|
  J13 (IntKind.i64.wrap (y14 + (1:Int)))) <|
  loop [.int .i64] (0:Int) fun J31 (y32 : Int) =>
  ite' (decide (y32 < ((d.len : Nat) : Int))) (
  loop [.bool, .int .i64] (true, (0:Int)) fun J33 (y34 : Bool × Int) =>
  ite' ((decide (y34.2 < ((d.len : Nat) : Int))) && (decide (y34.2 < ((o.len : Nat) : Int)))) (
  drw <|
  ite' y34.1 (
  idx o y34.2 1 fun q35 =>
  ld [.bool] q35 fun (x36 : Bool) =>
  ite' (!x36) (
  J33 (true, (IntKind.i64.wrap (y34.2 + (1:Int))))) <|
  idx d y34.2 2 fun q37 =>
  idx d y32 2 fun q38 =>
  ld [.int .u64, .int .u64] q37 fun (x39 : Int × Int) =>
  ld [.int .u64, .int .u64] q38 fun (x40 : Int × Int) =>
  J33 ((!((x39.1 == x40.1) && (x39.2 == x40.2))), (IntKind.i64.wrap (y34.2 + (1:Int))))) <|
  J33 (false, (IntKind.i64.wrap (y34.2 + (1:Int))))) <|
  idx d y32 2 fun q41 =>
  ld [.int .u64, .int .u64] q41 fun (x42 : Int × Int) =>
  call Try.prog N_rbtree_Tree_Has [.lf (.ptr r2), .agg (Ks.mk [.int .u64, .int .u64] x42)] [.lf .bool] fun (r43 : Bool) =>
  ite' (!(r43 == y34.1)) (
  R false) <|
  idx d y32 2 fun q44 =>
  ld [.int .u64, .int .u64] q44 fun (x45 : Int × Int) =>
  call Try.prog N_rbtree_Tree_Has [.lf (.ptr r3), .agg (Ks.mk [.int .u64, .int .u64] x45)] [.lf .bool] fun (r46 : Bool) =>
  ite' (!(r46 == y34.1)) (
  R false) <|
  J31 (IntKind.i64.wrap (y32 + (1:Int)))) <|
  call Try.prog N_rbtree_Tree_Len [.lf (.ptr r2)] [.lf (.int .i64)] fun (r47 : Int) =>
  call Try.prog N_rbtree_Tree_Len [.lf (.ptr r3)] [.lf (.int .i64)] fun (r48 : Int) =>
  ite' (r47 == r48) (
  call Try.prog N_rbtree_Tree_All [.lf (.ptr r2)] [.lf .fn] fun (r49 : Fv) =>
  call Try.prog N_canterhelp_All_apiKey [.lf (.fn r49), .lf (.int .i64 (300:Int))] [.lf .sl] fun (r50 : Sl) =>
  call Try.prog N_rbtree_Tree_All [.lf (.ptr r3)] [.lf .fn] fun (r51 : Fv) =>
  call Try.prog N_canterhelp_All_apiKey [.lf (.fn r51), .lf (.int .i64 (300:Int))] [.lf .sl] fun (r52 : Sl) =>
  call Try.prog N_canterhelp_Plain_apiKey [.lf (.sl r50), .lf (.sl r52)] [.lf .bool] fun (r53 : Bool) =>
  ite' r53 (
  call Try.prog N_canterlaw05_low [.lf (.ptr r2)] [.lf .bool] fun (r54 : Bool) =>
  ite' r54 (
  call Try.prog N_canterlaw05_low [.lf (.ptr r3)] [.lf .bool] fun (r55 : Bool) =>
  R r55) <|
  R false) <|
  R false) <|
  R false
theorem sem_canterlaw05_TreeTurned (d : Sl) (o : Sl) (R : Rs.T [.lf .bool] → WP) : Same (semF Try.prog Try.f6 (.s .o (.s (.s .o (.s (.s .o .o) .o)) (.s .o (.s (.s .o (.s (.s .o .o) .o)) (.s (.s .o (.b (.l [(7, .lf (.int .i64))] (.s (.s .o (.s .o .o)) (.s (.b (.s .o .o)) .o))))) (.s (.s .o (.b (.l [(8, .lf (.int .i64))] (.s (.s .o (.s .o .o)) (.s (.b (.s .o (.j [] (.j [(71, .lf .bool)] .o (.s .o .o)) (.j [(87, .lf .bool)] .o (.s .o .o))))) .o))))) (.s (.s .o (.b (.l [(10, .lf (.int .i64))] (.s (.s .o (.s .o .o)) (.s (.b (.s .o (.s (.s .o (.b (.l [(11, .lf .bool), (12, .lf (.int .i64))] (.s (.s .o (.s .o .o)) (.s (.b (.d (.f 0 [11] (.f 1 [112] (.f 2 [1, 113] (.f 3 [12, 113] (.f 4 [113, 114, 115] (.f 5 [113, 116] (.f 6 [113, 117] (.f 7 [113, 118] (.f 8 [0, 119] (.f 9 [12, 119] (.f 12 [0, 119] (.f 13 [10, 119] (.f 10 [119, 120, 121] (.f 14 [119, 124, 125] (.f 11 [119, 122] (.f 15 [119, 126] (.f 16 [119, 123, 127] (.f 17 [113, 119, 128] (.f 18 [113, 129] (.w 19 [130] .fin)))))))))))))))))))))) .o))))) (.s .o (.s (.s .o .o) .o))))) .o))))) (.s .o .o)))))))) [.lf (.sl d), .lf (.sl o)] [.lf .bool] R) (fun w => W_canterlaw05_TreeTurned d o R w) := ⟨by kernel_rfl⟩
theorem call_canterlaw05_TreeTurned (d : Sl) (o : Sl) (R : Rs.T [.lf .bool] → WP) (w : World) (h : W_canterlaw05_TreeTurned d o R w) :
    CallX Try.prog N_canterlaw05_TreeTurned ([.lf (.sl d), .lf (.sl o)].map V1.enc) w fun v w' => ∃ x, v = (retTV (Rs.mk [.lf .bool] x)).enc ∧ R x w' :=
  callX_of_semF Try.func6 (by kernel_rfl) (by kernel_rfl) (sem_canterlaw05_TreeTurned d o R) h


/-- canter/canterlaw05.awake -/
def W_canterlaw05_awake  (R : Rs.T [.lf .bool] → WP) : WP :=
  call Try.prog N_rbtree_New [.lf (.int .i64 (5:Int))] [.lf .ptr] fun (r1 : Option Pt) =>
  join [.bool] (fun J2 =>
  ite' r1.isNone (
  J2 true) <|
  call Try.prog N_rbtree_Tree_Insert [.lf (.ptr r1), .agg [.int .u64 (2:Int), .int .u64 (1:Int)]] [.lf (.int .i64)] fun (r4 : Int) =>
  ite' (r4 != (0:Int)) (
  J2 true) <|
  call Try.prog N_rbtree_Tree_Insert [.lf (.ptr r1), .agg [.int .u64 (1:Int), .int .u64 (9:Int)]] [.lf (.int .i64)] fun (r5 : Int) =>
  J2 (r5 != (0:Int))) fun (y3 : Bool) =>
  ite' y3 (
  R false) <|
  call Try.prog N_rbtree_Tree_Min [.lf (.ptr r1)] [.agg [.int .u64, .int .u64], .lf .bool] fun (r6 : (Int × Int) × Bool) =>
  new [.int .u64 (0:Int), .int .u64 (0:Int)] fun n7 =>
  st ⟨n7, 0⟩ (Ks.mk [.int .u64, .int .u64] r6.1) <|
  ite' r6.2 (
  ld [.int .u64, .int .u64] ⟨n7, 0⟩ fun (x8 : Int × Int) =>
  ite' ((x8.1 == (1:Int)) && (x8.2 == (9:Int))) (
  call Try.prog N_rbtree_Tree_Len [.lf (.ptr r1)] [.lf (.int .i64)] fun (r9 : Int) =>
  ite' (r9 == (2:Int)) (
  call Try.prog N_rbtree_Tree_All [.lf (.ptr r1)] [.lf .fn] fun (r10 : Fv) =>
  call Try.prog N_canterhelp_All_apiKey [.lf (.fn r10), .lf (.int .i64 (9:Int))] [.lf .sl] fun (r11 : Sl) =>
  R (((r11.len : Nat) : Int) == (2:Int))) <|
  R false) <|
  R false) <|
  R false
theorem sem_canterlaw05_awake  (R : Rs.T [.lf .bool] → WP) : Same (semF Try.prog Try.f13 (.s .o (.s .o (.s (.j [(18, .lf .bool)] .o (.s (.s .o .o) .o)) (.s .o (.s .o .o))))) [] [.lf .bool] R) (fun w => W_canterlaw05_awake  R w) := ⟨by kernel_rfl⟩
theorem call_canterlaw05_awake  (R : Rs.T [.lf .bool] → WP) (w : World) (h : W_canterlaw05_awake  R w) :
    CallX Try.prog N_canterlaw05_awake ([].map V1.enc) w fun v w' => ∃ x, v = (retTV (Rs.mk [.lf .bool] x)).enc ∧ R x w' :=
  callX_of_semF Try.func13 (by kernel_rfl) (by kernel_rfl) (sem_canterlaw05_awake  R) h


/-- canter/canterlaw05.low -/
def W_canterlaw05_low (t : Option Pt) (R : Rs.T [.lf .bool] → WP) : WP :=
  call Try.prog N_rbtree_Tree_Len [.lf (.ptr t)] [.lf (.int .i64)] fun (r1 : Int) =>
  loop [.int .i64, .int .i64] ((0:Int), (IntKind.i64.wrap (r1 + (1:Int)))) fun J2 (y3 : Int × Int) =>
  ite' (decide (y3.2 > (0:Int))) (
  J2 ((IntKind.i64.wrap (y3.1 + (1:Int))), (IntKind.i64.wrap (y3.2.tdiv (2:Int))))) <|
  call Try.prog N_rbtree_Tree_Height [.lf (.ptr t)] [.lf (.int .i64)] fun (r4 : Int) =>
  ite' ((decide (r4 ≥ (0:Int))) && (decide (r4 ≤ (IntKind.i64.wrap ((2:Int) * y3.1))))) (
  call Try.prog N_rbtree_Tree_Len [.lf (.ptr t)] [.lf (.int .i64)] fun (r5 : Int) =>
  R ((decide (r4 > (0:Int))) == (decide (r5 > (0:Int))))) <|
  R false
theorem sem_canterlaw05_low (t : Option Pt) (R : Rs.T [.lf .bool] → WP) : Same (semF Try.prog Try.f19 (.s .o (.s .o (.s (.s .o (.b (.l [(3, .lf (.int .i64)), (4, .lf (.int .i64))] (.s (.s .o (.s .o .o)) (.s (.b .o) .o))))) (.s .o (.s .o .o))))) [.lf (.ptr t)] [.lf .bool] R) (fun w => W_canterlaw05_low t R w) := ⟨by kernel_rfl⟩
theorem call_canterlaw05_low (t : Option Pt) (R : Rs.T [.lf .bool] → WP) (w : World) (h : W_canterlaw05_low t R w) :
    CallX Try.prog N_canterlaw05_low ([.lf (.ptr t)].map V1.enc) w fun v w' => ∃ x, v = (retTV (Rs.mk [.lf .bool] x)).enc ∧ R x w' :=
  callX_of_semF Try.func19 (by kernel_rfl) (by kernel_rfl) (sem_canterlaw05_low t R) h


/-- cmp.Compare[uint64] -/
def W_cmp_Compare_uint64 (x : Int) (y : Int) (R : Rs.T [.lf (.int .i64)] → WP) : WP :=
  call Try.prog N_cmp_isNaN_uint64 [.lf (.int .u64 x)] [.lf .bool] fun (r1 : Bool) =>
  call Try.prog N_cmp_isNaN_uint64 [.lf (.int .u64 y)] [.lf .bool] fun (r2 : Bool) =>
  ite' r1 (
  ite' r2 (
  R (0:Int)) <|
  R (-1:Int)) <|
  ite' r2 (
  R (1:Int)) <|
  ite' (decide (x < y)) (
  R (-1:Int)) <|
  ite' (decide (x > y)) (
  R (1:Int)) <|
  R (0:Int)
theorem sem_cmp_Compare_uint64 (x : Int) (y : Int) (R : Rs.T [.lf (.int .i64)] → WP) : Same (semF Try.prog Try.f47 (.s .o (.s .o (.s .o (.s (.s .o (.s (.s (.s .o (.s (.s .o .o) .o)) (.s .o .o)) .o)) (.s (.s .o (.s (.s .o .o) .o)) (.s (.s .o (.s (.s .o .o) .o)) (.s (.s .o (.s (.s .o .o) .o)) (.s .o .o)))))))) [.lf (.int .u64 x), .lf (.int .u64 y)] [.lf (.int .i64)] R) (fun w => W_cmp_Compare_uint64 x y R w) := ⟨by kernel_rfl⟩
theorem call_cmp_Compare_uint64 (x : Int) (y : Int) (R : Rs.T [.lf (.int .i64)] → WP) (w : World) (h : W_cmp_Compare_uint64 x y R w) :
    CallX Try.prog N_cmp_Compare_uint64 ([.lf (.int .u64 x), .lf (.int .u64 y)].map V1.enc) w fun v w' => ∃ x, v = (retTV (Rs.mk [.lf (.int .i64)] x)).enc ∧ R x w' :=
  callX_of_semF Try.func47 (by kernel_rfl) (by kernel_rfl) (sem_cmp_Compare_uint64 x y R) h


/-- cmp.Or[int] -/
def W_cmp_Or_int (vals : Sl) (R : Rs.T [.lf (.int .i64)] → WP) : WP :=
  loop [.int .i64] (0:Int) fun J1 (y2 : Int) =>
  ite' (decide (y2 < ((vals.len : Nat) : Int))) (
  idx vals y2 1 fun q3 =>
  ld [.int .i64] q3 fun (x4 : Int) =>
  ite' (x4 != (0:Int)) (
  R x4) <|
  J1 (IntKind.i64.wrap (y2 + (1:Int)))) <|
  R (0:Int)
theorem sem_cmp_Or_int (vals : Sl) (R : Rs.T [.lf (.int .i64)] → WP) : Same (semF Try.prog Try.f46 (.s .o (.s .o (.s (.s .o (.b (.l [(8, .lf (.int .i64))] (.s .o (.s (.s .o .o) (.s (.b (.s .o (.s .o (.s (.s .o .o) .o)))) .o)))))) (.s .o .o)))) [.lf (.sl vals)] [.lf (.int .i64)] R) (fun w => W_cmp_Or_int vals R w) := ⟨by kernel_rfl⟩
theorem call_cmp_Or_int (vals : Sl) (R : Rs.T [.lf (.int .i64)] → WP) (w : World) (h : W_cmp_Or_int vals R w) :
    CallX Try.prog N_cmp_Or_int ([.lf (.sl vals)].map V1.enc) w fun v w' => ∃ x, v = (retTV (Rs.mk [.lf (.int .i64)] x)).enc ∧ R x w' :=
  callX_of_semF Try.func46 (by kernel_rfl) (by kernel_rfl) (sem_cmp_Or_int vals R) h


/-- cmp.isNaN[uint64] -/
def W_cmp_isNaN_uint64 (x : Int) (R : Rs.T [.lf .bool] → WP) : WP :=
  R (x != x)
theorem sem_cmp_isNaN_uint64 (x : Int) (R : Rs.T [.lf .bool] → WP) : Same (semF Try.prog Try.f53 (.s .o (.s .o .o)) [.lf (.int .u64 x)] [.lf .bool] R) (fun w => W_cmp_isNaN_uint64 x R w) := ⟨by kernel_rfl⟩
theorem call_cmp_isNaN_uint64 (x : Int) (R : Rs.T [.lf .bool] → WP) (w : World) (h : W_cmp_isNaN_uint64 x R w) :
    CallX Try.prog N_cmp_isNaN_uint64 ([.lf (.int .u64 x)].map V1.enc) w fun v w' => ∃ x, v = (retTV (Rs.mk [.lf .bool] x)).enc ∧ R x w' :=
  callX_of_semF Try.func53 (by kernel_rfl) (by kernel_rfl) (sem_cmp_isNaN_uint64 x R) h

/-- canter/rbtree.New -/
def W_rbtree_New (n : Int) (R : Rs.T [.lf .ptr] → WP) : WP :=
  call Try.prog N_arena_New [.lf (.int .i64 (if (4096:Int) < (if (0:Int) > n then (0:Int) else n) then (4096:Int) else (if (0:Int) > n then (0:Int) else n)))] [.lf .ptr] fun (r1 : Option Pt) =>
  new [.ptr r1, .sl ⟨none, 0, 0⟩, .int .i64 (0:Int), .int .i64 (0:Int), .int .i64 (if (4096:Int) < (if (0:Int) > n then (0:Int) else n) then (4096:Int) else (if (0:Int) > n then (0:Int) else n))] fun n2 =>
  R (some ⟨n2, 0⟩)
theorem sem_rbtree_New (n : Int) (R : Rs.T [.lf .ptr] → WP) : Same (semF Try.prog Try.f9 (.s .o (.s .o (.s .o .o))) [.lf (.int .i64 n)] [.lf .ptr] R) (fun w => W_rbtree_New n R w) := ⟨by kernel_rfl⟩
theorem call_rbtree_New (n : Int) (R : Rs.T [.lf .ptr] → WP) (w : World) (h : W_rbtree_New n R w) :
    CallX Try.prog N_rbtree_New ([.lf (.int .i64 n)].map V1.enc) w fun v w' => ∃ x, v = (retTV (Rs.mk [.lf .ptr] x)).enc ∧ R x w' :=
  callX_of_semF Try.func9 (by kernel_rfl) (by kernel_rfl) (sem_rbtree_New n R) h


/-- (*canter/rbtree.Tree).All -/
def W_rbtree_Tree_All (t : Option Pt) (R : Rs.T [.lf .fn] → WP) : WP :=
  new [.ptr t] fun n1 =>
  R (.mk (.func N_rbtree_Tree_All_c1) [] [V1.enc (.lf (.ptr (some ⟨n1, 0⟩)))])
theorem sem_rbtree_Tree_All (t : Option Pt) (R : Rs.T [.lf .fn] → WP) : Same (semF Try.prog Try.f16 (.s .o (.s .o .o)) [.lf (.ptr t)] [.lf .fn] R) (fun w => W_rbtree_Tree_All t R w) := ⟨by kernel_rfl⟩
theorem call_rbtree_Tree_All (t : Option Pt) (R : Rs.T [.lf .fn] → WP) (w : World) (h : W_rbtree_Tree_All t R w) :
    CallX Try.prog N_rbtree_Tree_All ([.lf (.ptr t)].map V1.enc) w fun v w' => ∃ x, v = (retTV (Rs.mk [.lf .fn] x)).enc ∧ R x w' :=
  callX_of_semF Try.func16 (by kernel_rfl) (by kernel_rfl) (sem_rbtree_Tree_All t R) h


/-- (*canter/rbtree.Tree).All$1 -/
def W_rbtree_Tree_All_c1 (yield : Fv) (c0 : Pt) (R : Rs.T [] → WP) : WP :=
  ld [.ptr] c0 fun (x1 : Option Pt) =>
  call Try.prog N_rbtree_Tree_root [.lf (.ptr x1)] [.lf (.int .i64)] fun (r2 : Int) =>
  ite' (r2 == (-1:Int)) (
  R ()) <|
  drw <|
  ld [.ptr] c0 fun (x3 : Option Pt) =>
  ld [.ptr] c0 fun (x4 : Option Pt) =>
  call Try.prog N_rbtree_Tree_root [.lf (.ptr x4)] [.lf (.int .i64)] fun (r5 : Int) =>
  chk c0 (Ks.mk [.ptr] x3) <|
  call Try.prog N_rbtree_Tree_least [.lf (.ptr x3), .lf (.int .i64 r5)] [.lf .sl] fun (r6 : Sl) =>
  loop [.sl] r6 fun J7 (y8 : Sl) =>
  ite' (decide (((y8.len : Nat) : Int) > (0:Int))) (
  idx y8 (IntKind.i64.wrap (((y8.len : Nat) : Int) - (1:Int))) 1 fun q9 =>
  ld [.int .i64] q9 fun (x10 : Int) =>
  slc y8 none (some (IntKind.i64.wrap (((y8.len : Nat) : Int) - (1:Int)))) none 1 fun s11 =>
  ld [.ptr] c0 fun (x12 : Option Pt) =>
  deref x12 fun q13 =>
  ld [.sl] ⟨q13.b, q13.o + 1⟩ fun (x14 : Sl) =>
  idx x14 x10 5 fun q15 =>
  ld [.int .u64, .int .u64] q15 fun (x16 : Int × Int) =>
  callv Try.prog yield [.agg (Ks.mk [.int .u64, .int .u64] x16)] [.lf .bool] fun (r17 : Bool) =>
  ite' (!r17) (
  R ()) <|
  drw <|
  ld [.ptr] c0 fun (x18 : Option Pt) =>
  ld [.ptr] c0 fun (x19 : Option Pt) =>
  deref x19 fun q20 =>
  ld [.sl] ⟨q20.b, q20.o + 1⟩ fun (x21 : Sl) =>
  idx x21 x10 5 fun q22 =>
  ld [.int .i64] ⟨q22.b, q22.o + 3⟩ fun (x23 : Int) =>
  call Try.prog N_rbtree_Tree_least [.lf (.ptr x18), .lf (.int .i64 x23)] [.lf .sl] fun (r24 : Sl) =>
  app 1 s11 r24 fun s25 =>
  J7 s25) <|
  R ()
theorem sem_rbtree_Tree_All_c1 (yield : Fv) (c0 : Pt) (R : Rs.T [] → WP) : Same (semF Try.prog Try.f37 (.s (.s .o (.s .o .o)) (.s (.d (.f 0 [1] (.f 1 [1] (.w 2 [9] (.w 3 [8, 10] (.w 4 [11] .fin)))))) (.b (.l [(3, .lf .sl)] (.s (.s .o (.s .o .o)) (.b (.s .o (.s .o (.s (.s .o (.s .o .o)) (.d (.f 0 [3] (.f 1 [1] (.f 2 [1] (.f 6 [4] (.f 3 [39] (.f 4 [40] (.f 5 [41] (.f 7 [42, 43] (.f 8 [44] (.f 9 [45] (.w 10 [38, 46] (.w 11 [37, 47] (.w 12 [48] .fin))))))))))))))))))))))) [.lf (.fn yield), .lf (.ptr (some c0))] [] R) (fun w => W_rbtree_Tree_All_c1 yield c0 R w) := ⟨by kernel_rfl⟩
theorem call_rbtree_Tree_All_c1 (yield : Fv) (c0 : Pt) (R : Rs.T [] → WP) (w : World) (h : W_rbtree_Tree_All_c1 yield c0 R w) :
    CallX Try.prog N_rbtree_Tree_All_c1 ([.lf (.fn yield), .lf (.ptr (some c0))].map V1.enc) w fun v w' => ∃ x, v = (retTV (Rs.mk [] x)).enc ∧ R x w' :=
  callX_of_semF Try.func37 (by kernel_rfl) (by kernel_rfl) (sem_rbtree_Tree_All_c1 yield c0 R) h


/-- (*canter/rbtree.Tree).Delete -/
def W_rbtree_Tree_Delete (d : Option Pt) (o : Int × Int) (R : Rs.T [.lf (.int .i64)] → WP) : WP :=
  new (Ks.mk [.int .u64, .int .u64] o) fun n1 =>
  ite' d.isNone (
  R (2:Int)) <|
  ld [.int .u64, .int .u64] ⟨n1, 0⟩ fun (x2 : Int × Int) =>
  call Try.prog N_rbtree_Tree_way [.lf (.ptr d), .agg (Ks.mk [.int .u64, .int .u64] x2)] [.lf .sl] fun (r3 : Sl) =>
  ld [.int .u64, .int .u64] ⟨n1, 0⟩ fun (x4 : Int × Int) =>
  call Try.prog N_rbtree_Tree_found [.lf (.ptr d), .lf (.sl r3), .agg (Ks.mk [.int .u64, .int .u64] x4)] [.lf (.int .i64)] fun (r5 : Int) =>
  ite' (r5 == (-1:Int)) (
  R (7:Int)) <|
  join [.sl, .int .i64] (fun J6 =>
  join [.bool] (fun J8 =>
  deref d fun q10 =>
  ld [.sl] ⟨q10.b, q10.o + 1⟩ fun (x11 : Sl) =>
  idx x11 r5 5 fun q12 =>
  ld [.int .i64] ⟨q12.b, q12.o + 2⟩ fun (x13 : Int) =>
  ite' (x13 != (-1:Int)) (
  deref d fun q14 =>
  ld [.sl] ⟨q14.b, q14.o + 1⟩ fun (x15 : Sl) =>
  idx x15 r5 5 fun q16 =>
  ld [.int .i64] ⟨q16.b, q16.o + 3⟩ fun (x17 : Int) =>
  J8 (x17 != (-1:Int))) <|
  J8 false) fun (y9 : Bool) =>
  ite' y9 (
  deref d fun q18 =>
  ld [.sl] ⟨q18.b, q18.o + 1⟩ fun (x19 : Sl) =>
  idx x19 r5 5 fun q20 =>
  ld [.int .i64] ⟨q20.b, q20.o + 3⟩ fun (x21 : Int) =>
  call Try.prog N_rbtree_Tree_least [.lf (.ptr d), .lf (.int .i64 x21)] [.lf .sl] fun (r22 : Sl) =>
  idx r22 (IntKind.i64.wrap (((r22.len : Nat) : Int) - (1:Int))) 1 fun q23 =>
  ld [.int .i64] q23 fun (x24 : Int) =>
  drw <|
  deref d fun q25 =>
  deref d fun q26 =>
  ld [.sl] ⟨q25.b, q25.o + 1⟩ fun (x27 : Sl) =>
  ld [.sl] ⟨q26.b, q26.o + 1⟩ fun (x28 : Sl) =>
  idx x28 x24 5 fun q29 =>
  ld [.int .u64, .int .u64] q29 fun (x30 : Int × Int) =>
  idx x27 r5 5 fun q31 =>
  st q31 (Ks.mk [.int .u64, .int .u64] x30) <|
  app 1 r3 r22 fun s32 =>
  J6 (s32, x24)) <|
  J6 (r3, r5)) fun (y7 : Sl × Int) =>
  deref d fun q33 =>
  ld [.sl] ⟨q33.b, q33.o + 1⟩ fun (x34 : Sl) =>
  idx x34 y7.2 5 fun q35 =>
  ld [.int .i64] ⟨q35.b, q35.o + 2⟩ fun (x36 : Int) =>
  join [.int .i64] (fun J37 =>
  ite' (x36 == (-1:Int)) (
  deref d fun q39 =>
  ld [.sl] ⟨q39.b, q39.o + 1⟩ fun (x40 : Sl) =>
  idx x40 y7.2 5 fun q41 =>
  ld [.int .i64] ⟨q41.b, q41.o + 3⟩ fun (x42 : Int) =>
  J37 x42) <|
  J37 x36) fun (y38 : Int) =>
  slc y7.1 none (some (IntKind.i64.wrap (((y7.1.len : Nat) : Int) - (1:Int)))) none 1 fun s43 =>
  call Try.prog N_rbtree_Tree_drop [.lf (.ptr d), .lf (.sl s43), .lf (.int .i64 y7.2), .lf (.int .i64 y38)] [] fun (r44 : Unit) =>
  deref d fun q45 =>
  ld [.int .i64] ⟨q45.b, q45.o + 3⟩ fun (x46 : Int) =>
  deref d fun q47 =>
  st ⟨q47.b, q47.o + 3⟩ [.int .i64 (IntKind.i64.wrap (x46 - (1:Int)))] <|
  deref d fun q48 =>
  ld [.ptr] q48 fun (x49 : Option Pt) =>
  call Try.prog N_arena_Arena_Free [.lf (.ptr x49), .lf (.int .i64 y7.2)] [.lf (.int .i64)] fun (r50 : Int) =>
  R r50
theorem sem_rbtree_Tree_Delete (d : Option Pt) (o : Int × Int) (R : Rs.T [.lf (.int .i64)] → WP) : Same (semF Try.prog Try.f20 (.s .o (.s (.s .o (.s (.s .o .o) .o)) (.s .o (.s .o (.s (.s .o (.s (.s .o .o) .o)) (.j [(5, .lf .sl), (6, .lf (.int .i64))] (.j [(40, .lf .bool)] .o (.s (.s .o (.s .o (.s (.d (.f 0 [0] (.f 4 [6] (.f 5 [0] (.f 9 [8] (.f 1 [57] (.f 6 [62] (.f 2 [58] (.f 7 [63] (.f 3 [59] (.f 8 [64] (.f 10 [65, 66] (.f 11 [67] (.f 12 [68] (.f 13 [60, 61] (.f 14 [70] (.w 15 [69, 71] .fin))))))))))))))))) .o))) .o)) (.s .o (.j [(9, .lf (.int .i64))] (.s .o (.s .o .o)) (.s .o (.s .o (.s .o .o))))))))))) [.lf (.ptr d), .agg (Ks.mk [.int .u64, .int .u64] o)] [.lf (.int .i64)] R) (fun w => W_rbtree_Tree_Delete d o R w) := ⟨by kernel_rfl⟩
theorem call_rbtree_Tree_Delete (d : Option Pt) (o : Int × Int) (R : Rs.T [.lf (.int .i64)] → WP) (w : World) (h : W_rbtree_Tree_Delete d o R w) :
    CallX Try.prog N_rbtree_Tree_Delete ([.lf (.ptr d), .agg (Ks.mk [.int .u64, .int .u64] o)].map V1.enc) w fun v w' => ∃ x, v = (retTV (Rs.mk [.lf (.int .i64)] x)).enc ∧ R x w' :=
  callX_of_semF Try.func20 (by kernel_rfl) (by kernel_rfl) (sem_rbtree_Tree_Delete d o R) h


/-- (*canter/rbtree.Tree).Has -/
def W_rbtree_Tree_Has (t : Option Pt) (k : Int × Int) (R : Rs.T [.lf .bool] → WP) : WP :=
  new (Ks.mk [.int .u64, .int .u64] k) fun n1 =>
  drw <|
  ite' (!t.isNone) (
  ld [.int .u64, .int .u64] ⟨n1, 0⟩ fun (x2 : Int × Int) =>
  ld [.int .u64, .int .u64] ⟨n1, 0⟩ fun (x3 : Int × Int) =>
  call Try.prog N_rbtree_Tree_way [.lf (.ptr t), .agg (Ks.mk [.int .u64, .int .u64] x2)] [.lf .sl] fun (r4 : Sl) =>
  chk ⟨n1, 0⟩ (Ks.mk [.int .u64, .int .u64] x3) <|
  call Try.prog N_rbtree_Tree_found [.lf (.ptr t), .lf (.sl r4), .agg (Ks.mk [.int .u64, .int .u64] x3)] [.lf (.int .i64)] fun (r5 : Int) =>
  R (r5 != (-1:Int))) <|
  R false
theorem sem_rbtree_Tree_Has (t : Option Pt) (k : Int × Int) (R : Rs.T [.lf .bool] → WP) : Same (semF Try.prog Try.f21 (.s .o (.s (.d (.f 0 [0] (.f 1 [5] (.f 2 [6] (.f 3 [0, 7] (.f 4 [0, 7] (.f 5 [3, 7] (.f 7 [3, 7] (.w 6 [7, 9, 10] (.w 8 [7, 8, 11, 12] (.f 9 [7, 13] (.f 10 [7, 14] (.w 11 [15] .fin))))))))))))) .o)) [.lf (.ptr t), .agg (Ks.mk [.int .u64, .int .u64] k)] [.lf .bool] R) (fun w => W_rbtree_Tree_Has t k R w) := ⟨by kernel_rfl⟩
theorem call_rbtree_Tree_Has (t : Option Pt) (k : Int × Int) (R : Rs.T [.lf .bool] → WP) (w : World) (h : W_rbtree_Tree_Has t k R w) :
    CallX Try.prog N_rbtree_Tree_Has ([.lf (.ptr t), .agg (Ks.mk [.int .u64, .int .u64] k)].map V1.enc) w fun v w' => ∃ x, v = (retTV (Rs.mk [.lf .bool] x)).enc ∧ R x w' :=
  callX_of_semF Try.func21 (by kernel_rfl) (by kernel_rfl) (sem_rbtree_Tree_Has t k R) h


/-- (*canter/rbtree.Tree).Height -/
def W_rbtree_Tree_Height (t : Option Pt) (R : Rs.T [.lf (.int .i64)] → WP) : WP :=
  call Try.prog N_rbtree_Tree_root [.lf (.ptr t)] [.lf (.int .i64)] fun (r1 : Int) =>
  ite' (r1 == (-1:Int)) (
  R (0:Int)) <|
  call Try.prog N_rbtree_Tree_root [.lf (.ptr t)] [.lf (.int .i64)] fun (r2 : Int) =>
  call Try.prog N_rbtree_Tree_high [.lf (.ptr t), .lf (.int .i64 r2)] [.lf (.int .i64)] fun (r3 : Int) =>
  R r3
theorem sem_rbtree_Tree_Height (t : Option Pt) (R : Rs.T [.lf (.int .i64)] → WP) : Same (semF Try.prog Try.f28 (.s .o (.s (.s .o (.s (.s .o .o) .o)) (.s .o .o))) [.lf (.ptr t)] [.lf (.int .i64)] R) (fun w => W_rbtree_Tree_Height t R w) := ⟨by kernel_rfl⟩
theorem call_rbtree_Tree_Height (t : Option Pt) (R : Rs.T [.lf (.int .i64)] → WP) (w : World) (h : W_rbtree_Tree_Height t R w) :
    CallX Try.prog N_rbtree_Tree_Height ([.lf (.ptr t)].map V1.enc) w fun v w' => ∃ x, v = (retTV (Rs.mk [.lf (.int .i64)] x)).enc ∧ R x w' :=
  callX_of_semF Try.func28 (by kernel_rfl) (by kernel_rfl) (sem_rbtree_Tree_Height t R) h


/-- (*canter/rbtree.Tree).Insert -/
def W_rbtree_Tree_Insert (d : Option Pt) (o : Int × Int) (R : Rs.T [.lf (.int .i64)] → WP) : WP :=
  new (Ks.mk [.int .u64, .int .u64] o) fun n1 =>
  ite' d.isNone (
  R (2:Int)) <|
  ld [.int .u64, .int .u64] ⟨n1, 0⟩ fun (x2 : Int × Int) =>
  call Try.prog N_rbtree_Tree_way [.lf (.ptr d), .agg (Ks.mk [.int .u64, .int .u64] x2)] [.lf .sl] fun (r3 : Sl) =>
  ld [.int .u64, .int .u64] ⟨n1, 0⟩ fun (x4 : Int × Int) =>
  call Try.prog N_rbtree_Tree_found [.lf (.ptr d), .lf (.sl r3), .agg (Ks.mk [.int .u64, .int .u64] x4)] [.lf (.int .i64)] fun (r5 : Int) =>
  ite' (r5 != (-1:Int)) (
  R (6:Int)) <|
  drw <|
  deref d fun q6 =>
  deref d fun q7 =>
  ld [.int .i64] ⟨q6.b, q6.o + 3⟩ fun (x8 : Int) =>
  ld [.int .i64] ⟨q7.b, q7.o + 4⟩ fun (x9 : Int) =>
  ite' (decide (x8 ≥ x9)) (
  R (5:Int)) <|
  deref d fun q10 =>
  ld [.ptr] q10 fun (x11 : Option Pt) =>
  call Try.prog N_arena_Arena_Get [.lf (.ptr x11)] [.lf (.int .i64), .lf (.int .i64)] fun (r12 : Int × Int) =>
  ite' (r12.2 != (0:Int)) (
  R r12.2) <|
  join [] (fun J13 =>
  deref d fun q15 =>
  ld [.sl] ⟨q15.b, q15.o + 1⟩ fun (x16 : Sl) =>
  ite' (r12.1 == ((x16.len : Nat) : Int)) (
  deref d fun q17 =>
  ld [.sl] ⟨q17.b, q17.o + 1⟩ fun (x18 : Sl) =>
  new [.int .u64 (0:Int), .int .u64 (0:Int), .int .i64 (0:Int), .int .i64 (0:Int), .int .i64 (0:Int)] fun n19 =>
  app 5 x18 ⟨some ⟨n19, 0⟩, 1, 1⟩ fun s20 =>
  deref d fun q21 =>
  st ⟨q21.b, q21.o + 1⟩ [.sl s20] <|
  J13 ()) <|
  J13 ()) fun (y14 : Unit) =>
  drw <|
  ld [.int .u64, .int .u64] ⟨n1, 0⟩ fun (x22 : Int × Int) =>
  deref d fun q23 =>
  ld [.sl] ⟨q23.b, q23.o + 1⟩ fun (x24 : Sl) =>
  idx x24 r12.1 5 fun q25 =>
  st q25 [.int .u64 x22.1, .int .u64 x22.2, .int .i64 (-1:Int), .int .i64 (-1:Int), .int .i64 (1:Int)] <|
  deref d fun q26 =>
  ld [.int .i64] ⟨q26.b, q26.o + 3⟩ fun (x27 : Int) =>
  deref d fun q28 =>
  st ⟨q28.b, q28.o + 3⟩ [.int .i64 (IntKind.i64.wrap (x27 + (1:Int)))] <|
  call Try.prog N_rbtree_Tree_hang [.lf (.ptr d), .lf (.sl r3), .lf (.int .i64 (-1:Int)), .lf (.int .i64 r12.1)] [] fun (r29 : Unit) =>
  R (0:Int)
theorem sem_rbtree_Tree_Insert (d : Option Pt) (o : Int × Int) (R : Rs.T [.lf (.int .i64)] → WP) : Same (semF Try.prog Try.f10 (.s .o (.s (.s .o (.s (.s .o .o) .o)) (.s .o (.s (.b (.s .o (.s (.s .o .o) (.s (.d (.f 0 [0] (.f 4 [0] (.f 1 [20] (.f 5 [24] (.f 2 [21] (.f 6 [25] (.f 3 [22] (.f 7 [26] (.f 8 [23, 27] (.w 9 [28] .fin))))))))))) (.s (.s .o .o) .o))))) (.s .o (.s (.s .o (.s (.s .o .o) .o)) (.j [] (.s .o (.s .o .o)) (.s (.d (.f 0 [0] (.f 4 [6] (.f 5 [3] (.f 1 [57] (.f 6 [62] (.f 2 [58] (.f 3 [59] (.f 7 [60, 61] (.w 8 [63, 64] .fin)))))))))) (.s .o (.s .o (.s .o .o))))))))))) [.lf (.ptr d), .agg (Ks.mk [.int .u64, .int .u64] o)] [.lf (.int .i64)] R) (fun w => W_rbtree_Tree_Insert d o R w) := ⟨by kernel_rfl⟩
theorem call_rbtree_Tree_Insert (d : Option Pt) (o : Int × Int) (R : Rs.T [.lf (.int .i64)] → WP) (w : World) (h : W_rbtree_Tree_Insert d o R w) :
    CallX Try.prog N_rbtree_Tree_Insert ([.lf (.ptr d), .agg (Ks.mk [.int .u64, .int .u64] o)].map V1.enc) w fun v w' => ∃ x, v = (retTV (Rs.mk [.lf (.int .i64)] x)).enc ∧ R x w' :=
  callX_of_semF Try.func10 (by kernel_rfl) (by kernel_rfl) (sem_rbtree_Tree_Insert d o R) h


/-- (*canter/rbtree.Tree).Len -/
def W_rbtree_Tree_Len (t : Option Pt) (R : Rs.T [.lf (.int .i64)] → WP) : WP :=
  ite' t.isNone (
  R (0:Int)) <|
  deref t fun q1 =>
  ld [.int .i64] ⟨q1.b, q1.o + 3⟩ fun (x2 : Int) =>
  R x2
theorem sem_rbtree_Tree_Len (t : Option Pt) (R : Rs.T [.lf (.int .i64)] → WP) : Same (semF Try.prog Try.f18 (.s .o (.s (.s .o (.s (.s .o .o) .o)) (.s .o .o))) [.lf (.ptr t)] [.lf (.int .i64)] R) (fun w => W_rbtree_Tree_Len t R w) := ⟨by kernel_rfl⟩
theorem call_rbtree_Tree_Len (t : Option Pt) (R : Rs.T [.lf (.int .i64)] → WP) (w : World) (h : W_rbtree_Tree_Len t R w) :
    CallX Try.prog N_rbtree_Tree_Len ([.lf (.ptr t)].map V1.enc) w fun v w' => ∃ x, v = (retTV (Rs.mk [.lf (.int .i64)] x)).enc ∧ R x w' :=
  callX_of_semF Try.func18 (by kernel_rfl) (by kernel_rfl) (sem_rbtree_Tree_Len t R) h


/-- (*canter/rbtree.Tree).Min -/
def W_rbtree_Tree_Min (n0 : Nat) (t : Option Pt) (R : Rs.T [.agg [.int .u64, .int .u64], .lf .bool] → WP) : WP :=
  new [.int .u64 (0:Int), .int .u64 (0:Int)] fun n1 =>
  new [.bool false] fun n2 =>
  join [] (fun J3 =>
  call Try.prog N_rbtree_Tree_All [.lf (.ptr t)] [.lf .fn] fun (r5 : Fv) =>
  rangeF Try.prog r5 [.agg [.int .u64, .int .u64]] (fun (v6 : (Int × Int)) mid7 next8 jump9 =>
  new [.int .u64 (0:Int), .int .u64 (0:Int)] fun n10 =>
  st ⟨n10, 0⟩ (Ks.mk [.int .u64, .int .u64] v6) <|
  mid7 <|
  ld [.int .u64, .int .u64] ⟨n10, 0⟩ fun (x11 : Int × Int) =>
  st ⟨n1, 0⟩ (Ks.mk [.int .u64, .int .u64] x11) <|
  st ⟨n2, 0⟩ [.bool true] <|
  jump9 1) fun i12 => isBy 0 i12 (J3 ()) <|
  isBy 1 i12 (ld [.int .u64, .int .u64] ⟨n1, 0⟩ fun (x13 : Int × Int) =>
  ld [.bool] ⟨n2, 0⟩ fun (x14 : Bool) =>
  leave n0 <| R (x13, x14)) <|
  wno) fun (y4 : Unit) =>
  st ⟨n1, 0⟩ [.int .u64 (0:Int), .int .u64 (0:Int)] <|
  st ⟨n2, 0⟩ [.bool false] <|
  ld [.int .u64, .int .u64] ⟨n1, 0⟩ fun (x15 : Int × Int) =>
  ld [.bool] ⟨n2, 0⟩ fun (x16 : Bool) =>
  leave n0 <| R (x15, x16)
theorem sem_rbtree_Tree_Min (t : Option Pt) (R : Rs.T [.agg [.int .u64, .int .u64], .lf .bool] → WP) : Same (semF Try.prog Try.f11 (.s .o (.j [] (.s .o (.b (.r [.agg [.int .u64, .int .u64]] .o (.b (.s .o .o))))) (.s .o .o))) [.lf (.ptr t)] [.agg [.int .u64, .int .u64], .lf .bool] R) (fun w => W_rbtree_Tree_Min w.heap.size t R w) := ⟨by kernel_rfl⟩
theorem call_rbtree_Tree_Min (t : Option Pt) (R : Rs.T [.agg [.int .u64, .int .u64], .lf .bool] → WP) (w : World) (h : W_rbtree_Tree_Min w.heap.size t R w) :
    CallX Try.prog N_rbtree_Tree_Min ([.lf (.ptr t)].map V1.enc) w fun v w' => ∃ x, v = (retTV (Rs.mk [.agg [.int .u64, .int .u64], .lf .bool] x)).enc ∧ R x w' :=
  callX_of_semF Try.func11 (by kernel_rfl) (by kernel_rfl) (sem_rbtree_Tree_Min t R) h


/-- (*canter/rbtree.Tree).drop -/
def W_rbtree_Tree_drop (t : Option Pt) (way : Sl) (was : Int) (i : Int) (R : Rs.T [] → WP) : WP :=
  loop K_i3 (was, i, (IntKind.i64.wrap (((way.len : Nat) : Int) - (1:Int)))) fun J1 (y2 : T_i3) =>
  ite' (decide (y2.2.2 ≥ (0:Int))) (
  idx way y2.2.2 1 fun q3 =>
  ld [.int .i64] q3 fun (x4 : Int) =>
  deref t fun q5 =>
  ld [.sl] ⟨q5.b, q5.o + 1⟩ fun (x6 : Sl) =>
  idx x6 x4 5 fun q7 =>
  ld [.int .i64] ⟨q7.b, q7.o + 2⟩ fun (x8 : Int) =>
  ite' (x8 == y2.1) (
  deref t fun q9 =>
  ld [.sl] ⟨q9.b, q9.o + 1⟩ fun (x10 : Sl) =>
  idx x10 x4 5 fun q11 =>
  st ⟨q11.b, q11.o + 2⟩ [.int .i64 y2.2.1] <|
  call Try.prog N_rbtree_Tree_even [.lf (.ptr t), .lf (.int .i64 x4)] [.lf (.int .i64)] fun (r12 : Int) =>
  J1 (x4, r12, (IntKind.i64.wrap (y2.2.2 - (1:Int))))) <|
  deref t fun q13 =>
  ld [.sl] ⟨q13.b, q13.o + 1⟩ fun (x14 : Sl) =>
  idx x14 x4 5 fun q15 =>
  st ⟨q15.b, q15.o + 3⟩ [.int .i64 y2.2.1] <|
  call Try.prog N_rbtree_Tree_even [.lf (.ptr t), .lf (.int .i64 x4)] [.lf (.int .i64)] fun (r16 : Int) =>
  J1 (x4, r16, (IntKind.i64.wrap (y2.2.2 - (1:Int))))) <|
  deref t fun q17 =>
  st ⟨q17.b, q17.o + 2⟩ [.int .i64 (IntKind.i64.wrap (y2.2.1 + (1:Int)))] <|
  R ()
theorem sem_rbtree_Tree_drop (t : Option Pt) (way : Sl) (was : Int) (i : Int) (R : Rs.T [] → WP) : Same (semF Try.prog Try.f39 (.s (.s .o (.b (.l [(2, .lf (.int .i64)), (3, .lf (.int .i64)), (8, .lf (.int .i64))] (.s (.s .o (.s .o .o)) (.s (.b (.s .o (.s (.s .o (.s .o .o)) .o))) .o))))) .o) [.lf (.ptr t), .lf (.sl way), .lf (.int .i64 was), .lf (.int .i64 i)] [] R) (fun w => W_rbtree_Tree_drop t way was i R w) := ⟨by kernel_rfl⟩
theorem call_rbtree_Tree_drop (t : Option Pt) (way : Sl) (was : Int) (i : Int) (R : Rs.T [] → WP) (w : World) (h : W_rbtree_Tree_drop t way was i R w) :
    CallX Try.prog N_rbtree_Tree_drop ([.lf (.ptr t), .lf (.sl way), .lf (.int .i64 was), .lf (.int .i64 i)].map V1.enc) w fun v w' => ∃ x, v = (retTV (Rs.mk [] x)).enc ∧ R x w' :=
  callX_of_semF Try.func39 (by kernel_rfl) (by kernel_rfl) (sem_rbtree_Tree_drop t way was i R) h


/-- (*canter/rbtree.Tree).even -/
def W_rbtree_Tree_even (d : Option Pt) (o : Int) (R : Rs.T [.lf (.int .i64)] → WP) : WP :=
  call Try.prog N_rbtree_Tree_mend [.lf (.ptr d), .lf (.int .i64 o)] [] fun (r1 : Unit) =>
  call Try.prog N_rbtree_Tree_lean [.lf (.ptr d), .lf (.int .i64 o)] [.lf (.int .i64)] fun (r2 : Int) =>
  ite' (decide (r2 > (1:Int))) (
  deref d fun q3 =>
  ld [.sl] ⟨q3.b, q3.o + 1⟩ fun (x4 : Sl) =>
  idx x4 o 5 fun q5 =>
  ld [.int .i64] ⟨q5.b, q5.o + 2⟩ fun (x6 : Int) =>
  call Try.prog N_rbtree_Tree_lean [.lf (.ptr d), .lf (.int .i64 x6)] [.lf (.int .i64)] fun (r7 : Int) =>
  ite' (decide (r7 < (0:Int))) (
  drw <|
  deref d fun q8 =>
  deref d fun q9 =>
  ld [.sl] ⟨q8.b, q8.o + 1⟩ fun (x10 : Sl) =>
  ld [.sl] ⟨q9.b, q9.o + 1⟩ fun (x11 : Sl) =>
  idx x11 o 5 fun q12 =>
  ld [.int .i64] ⟨q12.b, q12.o + 2⟩ fun (x13 : Int) =>
  call Try.prog N_rbtree_Tree_turnLeft [.lf (.ptr d), .lf (.int .i64 x13)] [.lf (.int .i64)] fun (r14 : Int) =>
  chk ⟨q8.b, q8.o + 1⟩ (Ks.mk [.sl] x10) <|
  idx x10 o 5 fun q15 =>
  st ⟨q15.b, q15.o + 2⟩ [.int .i64 r14] <|
  call Try.prog N_rbtree_Tree_turnRight [.lf (.ptr d), .lf (.int .i64 o)] [.lf (.int .i64)] fun (r16 : Int) =>
  R r16) <|
  call Try.prog N_rbtree_Tree_turnRight [.lf (.ptr d), .lf (.int .i64 o)] [.lf (.int .i64)] fun (r17 : Int) =>
  R r17) <|
  ite' (decide (r2 < (-1:Int))) (
  deref d fun q18 =>
  ld [.sl] ⟨q18.b, q18.o + 1⟩ fun (x19 : Sl) =>
  idx x19 o 5 fun q20 =>
  ld [.int .i64] ⟨q20.b, q20.o + 3⟩ fun (x21 : Int) =>
  call Try.prog N_rbtree_Tree_lean [.lf (.ptr d), .lf (.int .i64 x21)] [.lf (.int .i64)] fun (r22 : Int) =>
  ite' (decide (r22 > (0:Int))) (
  drw <|
  deref d fun q23 =>
  deref d fun q24 =>
  ld [.sl] ⟨q23.b, q23.o + 1⟩ fun (x25 : Sl) =>
  ld [.sl] ⟨q24.b, q24.o + 1⟩ fun (x26 : Sl) =>
  idx x26 o 5 fun q27 =>
  ld [.int .i64] ⟨q27.b, q27.o + 3⟩ fun (x28 : Int) =>
  call Try.prog N_rbtree_Tree_turnRight [.lf (.ptr d), .lf (.int .i64 x28)] [.lf (.int .i64)] fun (r29 : Int) =>
  chk ⟨q23.b, q23.o + 1⟩ (Ks.mk [.sl] x25) <|
  idx x25 o 5 fun q30 =>
  st ⟨q30.b, q30.o + 3⟩ [.int .i64 r29] <|
  call Try.prog N_rbtree_Tree_turnLeft [.lf (.ptr d), .lf (.int .i64 o)] [.lf (.int .i64)] fun (r31 : Int) =>
  R r31) <|
  call Try.prog N_rbtree_Tree_turnLeft [.lf (.ptr d), .lf (.int .i64 o)] [.lf (.int .i64)] fun (r32 : Int) =>
  R r32) <|
  R o
theorem sem_rbtree_Tree_even (d : Option Pt) (o : Int) (R : Rs.T [.lf (.int .i64)] → WP) : Same (semF Try.prog Try.f45 (.s .o (.s .o (.s (.s .o (.b (.s .o (.s (.s (.s .o (.s (.d (.f 0 [0] (.f 4 [1] (.f 5 [0] (.f 6 [0] (.f 10 [1] (.f 1 [26] (.f 7 [32] (.f 2 [27] (.f 8 [33] (.f 3 [28] (.f 9 [34] (.f 11 [35, 36] (.f 12 [37] (.f 13 [38] (.w 14 [31, 39] (.f 15 [29, 30] (.f 16 [41] (.w 17 [40, 42] .fin))))))))))))))))))) .o)) (.s .o .o)) (.s .o (.s (.s (.s .o (.s (.d (.f 0 [0] (.f 4 [1] (.f 5 [0] (.f 6 [0] (.f 10 [1] (.f 1 [60] (.f 7 [66] (.f 2 [61] (.f 8 [67] (.f 3 [62] (.f 9 [68] (.f 11 [69, 70] (.f 12 [71] (.f 13 [72] (.w 14 [65, 73] (.f 15 [63, 64] (.f 16 [75] (.w 17 [74, 76] .fin))))))))))))))))))) .o)) (.s .o .o)) .o)))))) (.s .o .o)))) [.lf (.ptr d), .lf (.int .i64 o)] [.lf (.int .i64)] R) (fun w => W_rbtree_Tree_even d o R w) := ⟨by kernel_rfl⟩
theorem call_rbtree_Tree_even (d : Option Pt) (o : Int) (R : Rs.T [.lf (.int .i64)] → WP) (w : World) (h : W_rbtree_Tree_even d o R w) :
    CallX Try.prog N_rbtree_Tree_even ([.lf (.ptr d), .lf (.int .i64 o)].map V1.enc) w fun v w' => ∃ x, v = (retTV (Rs.mk [.lf (.int .i64)] x)).enc ∧ R x w' :=
  callX_of_semF Try.func45 (by kernel_rfl) (by kernel_rfl) (sem_rbtree_Tree_even d o R) h


/-- (*canter/rbtree.Tree).found -/
def W_rbtree_Tree_found (t : Option Pt) (way : Sl) (k : Int × Int) (R : Rs.T [.lf (.int .i64)] → WP) : WP :=
  new (Ks.mk [.int .u64, .int .u64] k) fun n1 =>
  join [.bool] (fun J2 =>
  drw <|
  ite' (decide (((way.len : Nat) : Int) > (0:Int))) (
  ld [.int .u64, .int .u64] ⟨n1, 0⟩ fun (x4 : Int × Int) =>
  deref t fun q5 =>
  idx way (IntKind.i64.wrap (((way.len : Nat) : Int) - (1:Int))) 1 fun q6 =>
  ld [.sl] ⟨q5.b, q5.o + 1⟩ fun (x7 : Sl) =>
  ld [.int .i64] q6 fun (x8 : Int) =>
  idx x7 x8 5 fun q9 =>
  ld [.int .u64, .int .u64] q9 fun (x10 : Int × Int) =>
  J2 ((x10.1 == x4.1) && (x10.2 == x4.2))) <|
  J2 false) fun (y3 : Bool) =>
  ite' y3 (
  idx way (IntKind.i64.wrap (((way.len : Nat) : Int) - (1:Int))) 1 fun q11 =>
  ld [.int .i64] q11 fun (x12 : Int) =>
  R x12) <|
  R (-1:Int)
theorem sem_rbtree_Tree_found (t : Option Pt) (way : Sl) (k : Int × Int) (R : Rs.T [.lf (.int .i64)] → WP) : Same (semF Try.prog Try.f31 (.s .o (.s (.s .o (.j [(27, .lf .bool)] (.d (.f 0 [7] (.f 1 [10] (.f 2 [11] (.f 3 [0, 12] (.f 7 [1, 12] (.f 8 [7, 12] (.f 15 [5, 12] (.f 4 [12, 13] (.f 9 [12, 18] (.f 5 [12, 14] (.f 10 [12, 17, 19] (.f 6 [12, 15] (.f 11 [12, 20] (.f 12 [12, 16, 21] (.f 13 [12, 22] (.f 14 [12, 23] (.f 16 [12, 24, 25] (.f 17 [12, 26] .fin))))))))))))))))))) (.s (.s .o .o) .o))) (.s .o .o))) [.lf (.ptr t), .lf (.sl way), .agg (Ks.mk [.int .u64, .int .u64] k)] [.lf (.int .i64)] R) (fun w => W_rbtree_Tree_found t way k R w) := ⟨by kernel_rfl⟩
theorem call_rbtree_Tree_found (t : Option Pt) (way : Sl) (k : Int × Int) (R : Rs.T [.lf (.int .i64)] → WP) (w : World) (h : W_rbtree_Tree_found t way k R w) :
    CallX Try.prog N_rbtree_Tree_found ([.lf (.ptr t), .lf (.sl way), .agg (Ks.mk [.int .u64, .int .u64] k)].map V1.enc) w fun v w' => ∃ x, v = (retTV (Rs.mk [.lf (.int .i64)] x)).enc ∧ R x w' :=
  callX_of_semF Try.func31 (by kernel_rfl) (by kernel_rfl) (sem_rbtree_Tree_found t way k R) h


/-- (*canter/rbtree.Tree).hang -/
def W_rbtree_Tree_hang (d : Option Pt) (o : Sl) (a : Int) (a' : Int) (R : Rs.T [] → WP) : WP :=
  loop K_i3 (a, a', (IntKind.i64.wrap (((o.len : Nat) : Int) - (1:Int)))) fun J1 (y2 : T_i3) =>
  ite' (decide (y2.2.2 ≥ (0:Int))) (
  idx o y2.2.2 1 fun q3 =>
  ld [.int .i64] q3 fun (x4 : Int) =>
  join [.bool] (fun J5 =>
  drw <|
  deref d fun q7 =>
  ld [.sl] ⟨q7.b, q7.o + 1⟩ fun (x8 : Sl) =>
  idx x8 x4 5 fun q9 =>
  ld [.int .i64] ⟨q9.b, q9.o + 2⟩ fun (x10 : Int) =>
  ite' (x10 == y2.1) (
  ite' (y2.1 != (-1:Int)) (
  J5 true) <|
  deref d fun q11 =>
  deref d fun q12 =>
  ld [.sl] ⟨q11.b, q11.o + 1⟩ fun (x13 : Sl) =>
  ld [.sl] ⟨q12.b, q12.o + 1⟩ fun (x14 : Sl) =>
  idx x13 y2.2.1 5 fun q15 =>
  idx x14 x4 5 fun q16 =>
  ld [.int .u64, .int .u64] q15 fun (x17 : Int × Int) =>
  ld [.int .u64, .int .u64] q16 fun (x18 : Int × Int) =>
  call Try.prog N_rbtree_compare [.agg (Ks.mk [.int .u64, .int .u64] x17), .agg (Ks.mk [.int .u64, .int .u64] x18)] [.lf (.int .i64)] fun (r19 : Int) =>
  J5 (decide (r19 < (0:Int)))) <|
  J5 false) fun (y6 : Bool) =>
  ite' y6 (
  deref d fun q20 =>
  ld [.sl] ⟨q20.b, q20.o + 1⟩ fun (x21 : Sl) =>
  idx x21 x4 5 fun q22 =>
  st ⟨q22.b, q22.o + 2⟩ [.int .i64 y2.2.1] <|
  call Try.prog N_rbtree_Tree_even [.lf (.ptr d), .lf (.int .i64 x4)] [.lf (.int .i64)] fun (r23 : Int) =>
  J1 (x4, r23, (IntKind.i64.wrap (y2.2.2 - (1:Int))))) <|
  deref d fun q24 =>
  ld [.sl] ⟨q24.b, q24.o + 1⟩ fun (x25 : Sl) =>
  idx x25 x4 5 fun q26 =>
  st ⟨q26.b, q26.o + 3⟩ [.int .i64 y2.2.1] <|
  call Try.prog N_rbtree_Tree_even [.lf (.ptr d), .lf (.int .i64 x4)] [.lf (.int .i64)] fun (r27 : Int) =>
  J1 (x4, r27, (IntKind.i64.wrap (y2.2.2 - (1:Int))))) <|
  deref d fun q28 =>
  st ⟨q28.b, q28.o + 2⟩ [.int .i64 (IntKind.i64.wrap (y2.2.1 + (1:Int)))] <|
  R ()
theorem sem_rbtree_Tree_hang (d : Option Pt) (o : Sl) (a : Int) (a' : Int) (R : Rs.T [] → WP) : Same (semF Try.prog Try.f33 (.s (.s .o (.b (.l [(2, .lf (.int .i64)), (3, .lf (.int .i64)), (8, .lf (.int .i64))] (.s (.s .o (.s .o .o)) (.s (.b (.s .o (.s (.j [(54, .lf .bool)] (.d (.f 0 [0] (.f 4 [9] (.f 8 [2] (.f 1 [21] (.f 2 [22] (.f 3 [23] (.f 5 [24, 25] (.f 6 [26] (.f 7 [27] (.f 9 [28, 29] (.f 10 [30] (.f 11 [2, 31] (.f 12 [31, 32] (.f 13 [31, 33] (.f 14 [0, 34] (.f 18 [3, 34] (.f 22 [0, 34] (.f 26 [9, 34] (.f 15 [34, 35] (.f 23 [34, 43] (.f 16 [34, 36] (.f 24 [34, 44] (.f 17 [34, 37] (.f 25 [34, 45] (.f 19 [34, 38, 39] (.f 27 [34, 46, 47] (.f 20 [34, 40] (.f 28 [34, 48] (.f 21 [34, 41] (.f 29 [34, 49] (.w 30 [34, 42, 50] (.f 31 [34, 51] (.f 32 [31, 34, 52] (.f 33 [31, 53] .fin))))))))))))))))))))))))))))))))))) (.s .o .o)) .o))) .o))))) .o) [.lf (.ptr d), .lf (.sl o), .lf (.int .i64 a), .lf (.int .i64 a')] [] R) (fun w => W_rbtree_Tree_hang d o a a' R w) := ⟨by kernel_rfl⟩
theorem call_rbtree_Tree_hang (d : Option Pt) (o : Sl) (a : Int) (a' : Int) (R : Rs.T [] → WP) (w : World) (h : W_rbtree_Tree_hang d o a a' R w) :
    CallX Try.prog N_rbtree_Tree_hang ([.lf (.ptr d), .lf (.sl o), .lf (.int .i64 a), .lf (.int .i64 a')].map V1.enc) w fun v w' => ∃ x, v = (retTV (Rs.mk [] x)).enc ∧ R x w' :=
  callX_of_semF Try.func33 (by kernel_rfl) (by kernel_rfl) (sem_rbtree_Tree_hang d o a a' R) h


/-- (*canter/rbtree.Tree).high -/
def W_rbtree_Tree_high (t : Option Pt) (i : Int) (R : Rs.T [.lf (.int .i64)] → WP) : WP :=
  ite' (i == (-1:Int)) (
  R (0:Int)) <|
  deref t fun q1 =>
  ld [.sl] ⟨q1.b, q1.o + 1⟩ fun (x2 : Sl) =>
  idx x2 i 5 fun q3 =>
  ld [.int .i64] ⟨q3.b, q3.o + 4⟩ fun (x4 : Int) =>
  R x4
theorem sem_rbtree_Tree_high (t : Option Pt) (i : Int) (R : Rs.T [.lf (.int .i64)] → WP) : Same (semF Try.prog Try.f44 (.s .o (.s (.s .o (.s (.s .o .o) .o)) (.s .o .o))) [.lf (.ptr t), .lf (.int .i64 i)] [.lf (.int .i64)] R) (fun w => W_rbtree_Tree_high t i R w) := ⟨by kernel_rfl⟩
theorem call_rbtree_Tree_high (t : Option Pt) (i : Int) (R : Rs.T [.lf (.int .i64)] → WP) (w : World) (h : W_rbtree_Tree_high t i R w) :
    CallX Try.prog N_rbtree_Tree_high ([.lf (.ptr t), .lf (.int .i64 i)].map V1.enc) w fun v w' => ∃ x, v = (retTV (Rs.mk [.lf (.int .i64)] x)).enc ∧ R x w' :=
  callX_of_semF Try.func44 (by kernel_rfl) (by kernel_rfl) (sem_rbtree_Tree_high t i R) h


/-- (*canter/rbtree.Tree).lean -/
def W_rbtree_Tree_lean (t : Option Pt) (i : Int) (R : Rs.T [.lf (.int .i64)] → WP) : WP :=
  drw <|
  deref t fun q1 =>
  deref t fun q2 =>
  ld [.sl] ⟨q1.b, q1.o + 1⟩ fun (x3 : Sl) =>
  ld [.sl] ⟨q2.b, q2.o + 1⟩ fun (x4 : Sl) =>
  idx x3 i 5 fun q5 =>
  idx x4 i 5 fun q6 =>
  ld [.int .i64] ⟨q5.b, q5.o + 2⟩ fun (x7 : Int) =>
  ld [.int .i64] ⟨q6.b, q6.o + 3⟩ fun (x8 : Int) =>
  call Try.prog N_rbtree_Tree_high [.lf (.ptr t), .lf (.int .i64 x7)] [.lf (.int .i64)] fun (r9 : Int) =>
  chk ⟨q6.b, q6.o + 3⟩ (Ks.mk [.int .i64] x8) <|
  chk ⟨q2.b, q2.o + 1⟩ (Ks.mk [.sl] x4) <|
  call Try.prog N_rbtree_Tree_high [.lf (.ptr t), .lf (.int .i64 x8)] [.lf (.int .i64)] fun (r10 : Int) =>
  R (IntKind.i64.wrap (r9 - r10))
theorem sem_rbtree_Tree_lean (t : Option Pt) (i : Int) (R : Rs.T [.lf (.int .i64)] → WP) : Same (semF Try.prog Try.f50 (.s .o (.s (.d (.f 0 [0] (.f 1 [0] (.f 5 [1] (.f 10 [0] (.f 11 [0] (.f 15 [1] (.f 2 [6] (.f 12 [16] (.f 3 [7] (.f 13 [17] (.f 4 [8] (.f 14 [18] (.f 6 [9, 10] (.f 16 [19, 20] (.f 7 [11] (.f 17 [21] (.f 8 [12] (.f 18 [22] (.w 9 [5, 13] (.w 19 [15, 23] (.f 20 [14, 24] (.w 21 [25] .fin))))))))))))))))))))))) .o)) [.lf (.ptr t), .lf (.int .i64 i)] [.lf (.int .i64)] R) (fun w => W_rbtree_Tree_lean t i R w) := ⟨by kernel_rfl⟩
theorem call_rbtree_Tree_lean (t : Option Pt) (i : Int) (R : Rs.T [.lf (.int .i64)] → WP) (w : World) (h : W_rbtree_Tree_lean t i R w) :
    CallX Try.prog N_rbtree_Tree_lean ([.lf (.ptr t), .lf (.int .i64 i)].map V1.enc) w fun v w' => ∃ x, v = (retTV (Rs.mk [.lf (.int .i64)] x)).enc ∧ R x w' :=
  callX_of_semF Try.func50 (by kernel_rfl) (by kernel_rfl) (sem_rbtree_Tree_lean t i R) h


/-- (*canter/rbtree.Tree).least -/
def W_rbtree_Tree_least (t : Option Pt) (i : Int) (R : Rs.T [.lf .sl] → WP) : WP :=
  loop [.int .i64, .sl] (i, ⟨none, 0, 0⟩) fun J1 (y2 : Int × Sl) =>
  ite' (y2.1 != (-1:Int)) (
  new [.int .i64 y2.1] fun n3 =>
  app 1 y2.2 ⟨some ⟨n3, 0⟩, 1, 1⟩ fun s4 =>
  deref t fun q5 =>
  ld [.sl] ⟨q5.b, q5.o + 1⟩ fun (x6 : Sl) =>
  idx x6 y2.1 5 fun q7 =>
  ld [.int .i64] ⟨q7.b, q7.o + 2⟩ fun (x8 : Int) =>
  J1 (x8, s4)) <|
  R y2.2
theorem sem_rbtree_Tree_least (t : Option Pt) (i : Int) (R : Rs.T [.lf .sl] → WP) : Same (semF Try.prog Try.f38 (.s .o (.s .o (.s (.b (.l [(1, .lf (.int .i64)), (5, .lf .sl)] (.s (.s .o (.s .o .o)) (.s (.b .o) .o)))) (.s .o .o)))) [.lf (.ptr t), .lf (.int .i64 i)] [.lf .sl] R) (fun w => W_rbtree_Tree_least t i R w) := ⟨by kernel_rfl⟩
theorem call_rbtree_Tree_least (t : Option Pt) (i : Int) (R : Rs.T [.lf .sl] → WP) (w : World) (h : W_rbtree_Tree_least t i R w) :
    CallX Try.prog N_rbtree_Tree_least ([.lf (.ptr t), .lf (.int .i64 i)].map V1.enc) w fun v w' => ∃ x, v = (retTV (Rs.mk [.lf .sl] x)).enc ∧ R x w' :=
  callX_of_semF Try.func38 (by kernel_rfl) (by kernel_rfl) (sem_rbtree_Tree_least t i R) h


/-- (*canter/rbtree.Tree).mend -/
def W_rbtree_Tree_mend (t : Option Pt) (i : Int) (R : Rs.T [] → WP) : WP :=
  deref t fun q1 =>
  ld [.sl] ⟨q1.b, q1.o + 1⟩ fun (x2 : Sl) =>
  idx x2 i 5 fun q3 =>
  drw <|
  deref (some q3) fun q4 =>
  deref (some q3) fun q5 =>
  ld [.int .i64] ⟨q4.b, q4.o + 2⟩ fun (x6 : Int) =>
  ld [.int .i64] ⟨q5.b, q5.o + 3⟩ fun (x7 : Int) =>
  call Try.prog N_rbtree_Tree_high [.lf (.ptr t), .lf (.int .i64 x6)] [.lf (.int .i64)] fun (r8 : Int) =>
  chk ⟨q5.b, q5.o + 3⟩ (Ks.mk [.int .i64] x7) <|
  call Try.prog N_rbtree_Tree_high [.lf (.ptr t), .lf (.int .i64 x7)] [.lf (.int .i64)] fun (r9 : Int) =>
  deref (some q3) fun q10 =>
  st ⟨q10.b, q10.o + 4⟩ [.int .i64 (IntKind.i64.wrap ((if r9 > r8 then r9 else r8) + (1:Int)))] <|
  R ()
theorem sem_rbtree_Tree_mend (t : Option Pt) (i : Int) (R : Rs.T [] → WP) : Same (semF Try.prog Try.f49 (.s .o (.d (.f 0 [4] (.f 1 [0] (.f 2 [4] (.f 7 [0] (.f 8 [4] (.f 3 [13] (.f 9 [19] (.f 4 [14] (.f 10 [20] (.f 5 [15] (.f 11 [21] (.w 6 [12, 16] (.w 12 [18, 22] (.f 13 [17, 23] (.f 14 [24] (.f 15 [11] (.f 16 [26] (.w 17 [25, 27] .fin)))))))))))))))))))) [.lf (.ptr t), .lf (.int .i64 i)] [] R) (fun w => W_rbtree_Tree_mend t i R w) := ⟨by kernel_rfl⟩
theorem call_rbtree_Tree_mend (t : Option Pt) (i : Int) (R : Rs.T [] → WP) (w : World) (h : W_rbtree_Tree_mend t i R w) :
    CallX Try.prog N_rbtree_Tree_mend ([.lf (.ptr t), .lf (.int .i64 i)].map V1.enc) w fun v w' => ∃ x, v = (retTV (Rs.mk [] x)).enc ∧ R x w' :=
  callX_of_semF Try.func49 (by kernel_rfl) (by kernel_rfl) (sem_rbtree_Tree_mend t i R) h


/-- (*canter/rbtree.Tree).root -/
def W_rbtree_Tree_root (t : Option Pt) (R : Rs.T [.lf (.int .i64)] → WP) : WP :=
  ite' t.isNone (
  R (-1:Int)) <|
  deref t fun q1 =>
  ld [.int .i64] ⟨q1.b, q1.o + 2⟩ fun (x2 : Int) =>
  R (IntKind.i64.wrap (x2 - (1:Int)))
theorem sem_rbtree_Tree_root (t : Option Pt) (R : Rs.T [.lf (.int .i64)] → WP) : Same (semF Try.prog Try.f34 (.s .o (.s (.s .o (.s (.s .o .o) .o)) (.s .o .o))) [.lf (.ptr t)] [.lf (.int .i64)] R) (fun w => W_rbtree_Tree_root t R w) := ⟨by kernel_rfl⟩
theorem call_rbtree_Tree_root (t : Option Pt) (R : Rs.T [.lf (.int .i64)] → WP) (w : World) (h : W_rbtree_Tree_root t R w) :
    CallX Try.prog N_rbtree_Tree_root ([.lf (.ptr t)].map V1.enc) w fun v w' => ∃ x, v = (retTV (Rs.mk [.lf (.int .i64)] x)).enc ∧ R x w' :=
  callX_of_semF Try.func34 (by kernel_rfl) (by kernel_rfl) (sem_rbtree_Tree_root t R) h


/-- (*canter/rbtree.Tree).turnLeft -/
def W_rbtree_Tree_turnLeft (t : Option Pt) (i : Int) (R : Rs.T [.lf (.int .i64)] → WP) : WP :=
  deref t fun q1 =>
  ld [.sl] ⟨q1.b, q1.o + 1⟩ fun (x2 : Sl) =>
  idx x2 i 5 fun q3 =>
  ld [.int .i64] ⟨q3.b, q3.o + 3⟩ fun (x4 : Int) =>
  drw <|
  deref t fun q5 =>
  deref t fun q6 =>
  deref t fun q7 =>
  ld [.sl] ⟨q5.b, q5.o + 1⟩ fun (x8 : Sl) =>
  ld [.sl] ⟨q6.b, q6.o + 1⟩ fun (x9 : Sl) =>
  ld [.sl] ⟨q7.b, q7.o + 1⟩ fun (x10 : Sl) =>
  idx x10 x4 5 fun q11 =>
  ld [.int .i64] ⟨q11.b, q11.o + 2⟩ fun (x12 : Int) =>
  idx x8 i 5 fun q13 =>
  st ⟨q13.b, q13.o + 3⟩ [.int .i64 x12] <|
  idx x9 x4 5 fun q14 =>
  st ⟨q14.b, q14.o + 2⟩ [.int .i64 i] <|
  call Try.prog N_rbtree_Tree_mend [.lf (.ptr t), .lf (.int .i64 i)] [] fun (r15 : Unit) =>
  call Try.prog N_rbtree_Tree_mend [.lf (.ptr t), .lf (.int .i64 x4)] [] fun (r16 : Unit) =>
  R x4
theorem sem_rbtree_Tree_turnLeft (t : Option Pt) (i : Int) (R : Rs.T [.lf (.int .i64)] → WP) : Same (semF Try.prog Try.f51 (.s .o (.s .o (.s (.d (.f 0 [0] (.f 4 [1] (.f 5 [0] (.f 9 [5] (.f 10 [0] (.f 14 [5] (.f 18 [1] (.f 1 [14] (.f 6 [19] (.f 11 [24] (.f 2 [15] (.f 7 [20] (.f 12 [25] (.f 3 [16] (.f 8 [21] (.f 13 [26] (.f 15 [27, 28] (.f 16 [29] (.f 17 [30] (.f 19 [17, 18] (.f 20 [33] (.w 21 [31, 34] (.f 22 [22, 23] (.f 23 [35] (.w 24 [32, 36] .fin)))))))))))))))))))))))))) (.s .o (.s .o (.s .o .o)))))) [.lf (.ptr t), .lf (.int .i64 i)] [.lf (.int .i64)] R) (fun w => W_rbtree_Tree_turnLeft t i R w) := ⟨by kernel_rfl⟩
theorem call_rbtree_Tree_turnLeft (t : Option Pt) (i : Int) (R : Rs.T [.lf (.int .i64)] → WP) (w : World) (h : W_rbtree_Tree_turnLeft t i R w) :
    CallX Try.prog N_rbtree_Tree_turnLeft ([.lf (.ptr t), .lf (.int .i64 i)].map V1.enc) w fun v w' => ∃ x, v = (retTV (Rs.mk [.lf (.int .i64)] x)).enc ∧ R x w' :=
  callX_of_semF Try.func51 (by kernel_rfl) (by kernel_rfl) (sem_rbtree_Tree_turnLeft t i R) h


/-- (*canter/rbtree.Tree).turnRight -/
def W_rbtree_Tree_turnRight (t : Option Pt) (i : Int) (R : Rs.T [.lf (.int .i64)] → WP) : WP :=
  deref t fun q1 =>
  ld [.sl] ⟨q1.b, q1.o + 1⟩ fun (x2 : Sl) =>
  idx x2 i 5 fun q3 =>
  ld [.int .i64] ⟨q3.b, q3.o + 2⟩ fun (x4 : Int) =>
  drw <|
  deref t fun q5 =>
  deref t fun q6 =>
  deref t fun q7 =>
  ld [.sl] ⟨q5.b, q5.o + 1⟩ fun (x8 : Sl) =>
  ld [.sl] ⟨q6.b, q6.o + 1⟩ fun (x9 : Sl) =>
  ld [.sl] ⟨q7.b, q7.o + 1⟩ fun (x10 : Sl) =>
  idx x10 x4 5 fun q11 =>
  ld [.int .i64] ⟨q11.b, q11.o + 3⟩ fun (x12 : Int) =>
  idx x8 i 5 fun q13 =>
  st ⟨q13.b, q13.o + 2⟩ [.int .i64 x12] <|
  idx x9 x4 5 fun q14 =>
  st ⟨q14.b, q14.o + 3⟩ [.int .i64 i] <|
  call Try.prog N_rbtree_Tree_mend [.lf (.ptr t), .lf (.int .i64 i)] [] fun (r15 : Unit) =>
  call Try.prog N_rbtree_Tree_mend [.lf (.ptr t), .lf (.int .i64 x4)] [] fun (r16 : Unit) =>
  R x4
theorem sem_rbtree_Tree_turnRight (t : Option Pt) (i : Int) (R : Rs.T [.lf (.int .i64)] → WP) : Same (semF Try.prog Try.f52 (.s .o (.s .o (.s (.d (.f 0 [0] (.f 4 [1] (.f 5 [0] (.f 9 [5] (.f 10 [0] (.f 14 [5] (.f 18 [1] (.f 1 [14] (.f 6 [19] (.f 11 [24] (.f 2 [15] (.f 7 [20] (.f 12 [25] (.f 3 [16] (.f 8 [21] (.f 13 [26] (.f 15 [27, 28] (.f 16 [29] (.f 17 [30] (.f 19 [17, 18] (.f 20 [33] (.w 21 [31, 34] (.f 22 [22, 23] (.f 23 [35] (.w 24 [32, 36] .fin)))))))))))))))))))))))))) (.s .o (.s .o (.s .o .o)))))) [.lf (.ptr t), .lf (.int .i64 i)] [.lf (.int .i64)] R) (fun w => W_rbtree_Tree_turnRight t i R w) := ⟨by kernel_rfl⟩
theorem call_rbtree_Tree_turnRight (t : Option Pt) (i : Int) (R : Rs.T [.lf (.int .i64)] → WP) (w : World) (h : W_rbtree_Tree_turnRight t i R w) :
    CallX Try.prog N_rbtree_Tree_turnRight ([.lf (.ptr t), .lf (.int .i64 i)].map V1.enc) w fun v w' => ∃ x, v = (retTV (Rs.mk [.lf (.int .i64)] x)).enc ∧ R x w' :=
  callX_of_semF Try.func52 (by kernel_rfl) (by kernel_rfl) (sem_rbtree_Tree_turnRight t i R) h


/-- (*canter/rbtree.Tree).way -/
def W_rbtree_Tree_way (t : Option Pt) (k : Int × Int) (R : Rs.T [.lf .sl] → WP) : WP :=
  new (Ks.mk [.int .u64, .int .u64] k) fun n1 =>
  call Try.prog N_rbtree_Tree_root [.lf (.ptr t)] [.lf (.int .i64)] fun (r2 : Int) =>
  loop [.sl, .int .i64] (⟨none, 0, 0⟩, r2) fun J3 (y4 : Sl × Int) =>
  ite' (y4.2 != (-1:Int)) (
  new [.int .i64 y4.2] fun n5 =>
  app 1 y4.1 ⟨some ⟨n5, 0⟩, 1, 1⟩ fun s6 =>
  drw <|
  ld [.int .u64, .int .u64] ⟨n1, 0⟩ fun (x7 : Int × Int) =>
  deref t fun q8 =>
  ld [.sl] ⟨q8.b, q8.o + 1⟩ fun (x9 : Sl) =>
  idx x9 y4.2 5 fun q10 =>
  ld [.int .u64, .int .u64] q10 fun (x11 : Int × Int) =>
  call Try.prog N_rbtree_compare [.agg (Ks.mk [.int .u64, .int .u64] x7), .agg (Ks.mk [.int .u64, .int .u64] x11)] [.lf (.int .i64)] fun (r12 : Int) =>
  ite' (decide (r12 < (0:Int))) (
  deref t fun q13 =>
  ld [.sl] ⟨q13.b, q13.o + 1⟩ fun (x14 : Sl) =>
  idx x14 y4.2 5 fun q15 =>
  ld [.int .i64] ⟨q15.b, q15.o + 2⟩ fun (x16 : Int) =>
  J3 (s6, x16)) <|
  ite' (decide (r12 > (0:Int))) (
  deref t fun q17 =>
  ld [.sl] ⟨q17.b, q17.o + 1⟩ fun (x18 : Sl) =>
  idx x18 y4.2 5 fun q19 =>
  ld [.int .i64] ⟨q19.b, q19.o + 3⟩ fun (x20 : Int) =>
  J3 (s6, x20)) <|
  R s6) <|
  R y4.1
theorem sem_rbtree_Tree_way (t : Option Pt) (k : Int × Int) (R : Rs.T [.lf .sl] → WP) : Same (semF Try.prog Try.f30 (.s .o (.s .o (.s .o (.s .o (.s (.b (.l [(5, .lf .sl), (6, .lf (.int .i64))] (.s (.s .o (.s .o .o)) (.b (.s .o (.s (.d (.f 0 [3] (.f 1 [0] (.f 5 [6] (.f 2 [17] (.f 3 [18] (.f 4 [19] (.f 6 [20, 21] (.f 7 [22] (.f 8 [23] (.w 9 [16, 24] (.w 10 [25] .fin)))))))))))) (.b (.s .o (.s .o (.s .o (.s .o .o))))))))))) (.s .o .o)))))) [.lf (.ptr t), .agg (Ks.mk [.int .u64, .int .u64] k)] [.lf .sl] R) (fun w => W_rbtree_Tree_way t k R w) := ⟨by kernel_rfl⟩
theorem call_rbtree_Tree_way (t : Option Pt) (k : Int × Int) (R : Rs.T [.lf .sl] → WP) (w : World) (h : W_rbtree_Tree_way t k R w) :
    CallX Try.prog N_rbtree_Tree_way ([.lf (.ptr t), .agg (Ks.mk [.int .u64, .int .u64] k)].map V1.enc) w fun v w' => ∃ x, v = (retTV (Rs.mk [.lf .sl] x)).enc ∧ R x w' :=
  callX_of_semF Try.func30 (by kernel_rfl) (by kernel_rfl) (sem_rbtree_Tree_way t k R) h


/-- canter/rbtree.compare -/
def W_rbtree_compare (a : Int × Int) (b : Int × Int) (R : Rs.T [.lf (.int .i64)] → WP) : WP :=
  new (Ks.mk [.int .u64, .int .u64] a) fun n1 =>
  new (Ks.mk [.int .u64, .int .u64] b) fun n2 =>
  drw <|
  ld [.int .u64] ⟨n1, 0⟩ fun (x3 : Int) =>
  ld [.int .u64] ⟨n2, 0⟩ fun (x4 : Int) =>
  ld [.int .u64] ⟨n1, 1⟩ fun (x5 : Int) =>
  ld [.int .u64] ⟨n2, 1⟩ fun (x6 : Int) =>
  call Try.prog N_cmp_Compare_uint64 [.lf (.int .u64 x3), .lf (.int .u64 x4)] [.lf (.int .i64)] fun (r7 : Int) =>
  chk ⟨n2, 1⟩ (Ks.mk [.int .u64] x6) <|
  chk ⟨n1, 1⟩ (Ks.mk [.int .u64] x5) <|
  call Try.prog N_cmp_Compare_uint64 [.lf (.int .u64 x5), .lf (.int .u64 x6)] [.lf (.int .i64)] fun (r8 : Int) =>
  new [.int .i64 r7, .int .i64 r8] fun n9 =>
  call Try.prog N_cmp_Or_int [.lf (.sl ⟨some ⟨n9, 0⟩, 2, 2⟩)] [.lf (.int .i64)] fun (r10 : Int) =>
  R r10
theorem sem_rbtree_compare (a : Int × Int) (b : Int × Int) (R : Rs.T [.lf (.int .i64)] → WP) : Same (semF Try.prog Try.f35 (.s .o (.s (.d (.f 0 [2] (.f 2 [3] (.f 5 [2] (.f 7 [3] (.f 1 [5] (.f 3 [7] (.f 6 [10] (.f 8 [12] (.w 4 [6, 8] (.w 9 [11, 13] (.w 10 [9, 14] (.w 11 [15] (.w 12 [16] .fin)))))))))))))) .o)) [.agg (Ks.mk [.int .u64, .int .u64] a), .agg (Ks.mk [.int .u64, .int .u64] b)] [.lf (.int .i64)] R) (fun w => W_rbtree_compare a b R w) := ⟨by kernel_rfl⟩
theorem call_rbtree_compare (a : Int × Int) (b : Int × Int) (R : Rs.T [.lf (.int .i64)] → WP) (w : World) (h : W_rbtree_compare a b R w) :
    CallX Try.prog N_rbtree_compare ([.agg (Ks.mk [.int .u64, .int .u64] a), .agg (Ks.mk [.int .u64, .int .u64] b)].map V1.enc) w fun v w' => ∃ x, v = (retTV (Rs.mk [.lf (.int .i64)] x)).enc ∧ R x w' :=
  callX_of_semF Try.func35 (by kernel_rfl) (by kernel_rfl) (sem_rbtree_compare a b R) h



end Go.X
