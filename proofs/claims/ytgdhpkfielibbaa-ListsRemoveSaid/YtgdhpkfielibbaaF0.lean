/- What each function of the program computes, as a weakest precondition, printed by program; the kernel sees that the code says so. -/
import Derived.Test.YtgdhpkfielibbaaK
import Derived.Test.YtgdhpkfielibbaaProg
set_option linter.unusedVariables false
namespace Go.X
open Go.Proofs
/-- canter/canterhelp.Plain[int] -/
def W_canterhelp_Plain_int (a : Sl) (b : Sl) (R : Rs.T [.lf .bool] → WP) : WP :=
  call Try.prog N_canterhelp_Same_int [.lf (.sl a), .lf (.sl b), .lf (.fn (.mk (.func N_canterhelp_Plain_int_c1) [] []))] [.lf .bool] fun (r1 : Bool) =>
  R r1
theorem sem_canterhelp_Plain_int (a : Sl) (b : Sl) (R : Rs.T [.lf .bool] → WP) : Same (semF Try.prog Try.f27 (.s .o (.s .o .o)) [.lf (.sl a), .lf (.sl b)] [.lf .bool] R) (fun w => W_canterhelp_Plain_int a b R w) := ⟨by kernel_rfl⟩
theorem call_canterhelp_Plain_int (a : Sl) (b : Sl) (R : Rs.T [.lf .bool] → WP) (w : World) (h : W_canterhelp_Plain_int a b R w) :
    CallX Try.prog N_canterhelp_Plain_int ([.lf (.sl a), .lf (.sl b)].map V1.enc) w fun v w' => ∃ x, v = (retTV (Rs.mk [.lf .bool] x)).enc ∧ R x w' :=
  callX_of_semF Try.func27 (by kernel_rfl) (by kernel_rfl) (sem_canterhelp_Plain_int a b R) h


/-- canter/canterhelp.Plain[int]$1 -/
def W_canterhelp_Plain_int_c1 (x : Int) (y : Int) (R : Rs.T [.lf .bool] → WP) : WP :=
  R (x == y)
theorem sem_canterhelp_Plain_int_c1 (x : Int) (y : Int) (R : Rs.T [.lf .bool] → WP) : Same (semF Try.prog Try.f60 (.s .o (.s .o .o)) [.lf (.int .i64 x), .lf (.int .i64 y)] [.lf .bool] R) (fun w => W_canterhelp_Plain_int_c1 x y R w) := ⟨by kernel_rfl⟩
theorem call_canterhelp_Plain_int_c1 (x : Int) (y : Int) (R : Rs.T [.lf .bool] → WP) (w : World) (h : W_canterhelp_Plain_int_c1 x y R w) :
    CallX Try.prog N_canterhelp_Plain_int_c1 ([.lf (.int .i64 x), .lf (.int .i64 y)].map V1.enc) w fun v w' => ∃ x, v = (retTV (Rs.mk [.lf .bool] x)).enc ∧ R x w' :=
  callX_of_semF Try.func60 (by kernel_rfl) (by kernel_rfl) (sem_canterhelp_Plain_int_c1 x y R) h


/-- canter/canterhelp.Same[int] -/
def W_canterhelp_Same_int (a : Sl) (b : Sl) (one : Fv) (R : Rs.T [.lf .bool] → WP) : WP :=
  ite' (((a.len : Nat) : Int) != ((b.len : Nat) : Int)) (
  R false) <|
  loop [.int .i64] (0:Int) fun J1 (y2 : Int) =>
  ite' (decide (y2 < ((a.len : Nat) : Int))) (
  drw <|
  idx a y2 1 fun q3 =>
  idx b y2 1 fun q4 =>
  ld [.int .i64] q3 fun (x5 : Int) =>
  ld [.int .i64] q4 fun (x6 : Int) =>
  callv Try.prog one [.lf (.int .i64 x5), .lf (.int .i64 x6)] [.lf .bool] fun (r7 : Bool) =>
  ite' (!r7) (
  R false) <|
  J1 (IntKind.i64.wrap (y2 + (1:Int)))) <|
  R true
theorem sem_canterhelp_Same_int (a : Sl) (b : Sl) (one : Fv) (R : Rs.T [.lf .bool] → WP) : Same (semF Try.prog Try.f59 (.s .o (.s (.s .o (.s (.s .o .o) .o)) (.s (.s .o (.b (.l [(7, .lf (.int .i64))] (.s (.s .o (.s .o .o)) (.s (.b (.s (.d (.f 0 [2] (.f 1 [0] (.f 2 [7] (.f 5 [1] (.f 6 [7] (.f 3 [20, 21] (.f 7 [24, 25] (.f 4 [22] (.f 8 [26] (.w 9 [19, 23, 27] (.f 10 [28] .fin)))))))))))) (.s (.s .o .o) .o))) .o))))) (.s .o .o)))) [.lf (.sl a), .lf (.sl b), .lf (.fn one)] [.lf .bool] R) (fun w => W_canterhelp_Same_int a b one R w) := ⟨by kernel_rfl⟩
theorem call_canterhelp_Same_int (a : Sl) (b : Sl) (one : Fv) (R : Rs.T [.lf .bool] → WP) (w : World) (h : W_canterhelp_Same_int a b one R w) :
    CallX Try.prog N_canterhelp_Same_int ([.lf (.sl a), .lf (.sl b), .lf (.fn one)].map V1.enc) w fun v w' => ∃ x, v = (retTV (Rs.mk [.lf .bool] x)).enc ∧ R x w' :=
  callX_of_semF Try.func59 (by kernel_rfl) (by kernel_rfl) (sem_canterhelp_Same_int a b one R) h


/-- canter/canterlaw19.ListsRemove -/
def W_canterlaw19_ListsRemove (d : Sl) (o : Int) (R : Rs.T [.lf .bool] → WP) : WP :=
  call Try.prog N_lists_New [] [.lf .ptr] fun (r1 : Option Pt) =>
  call Try.prog N_canterlaw19_awake [] [.lf .bool] fun (r2 : Bool) =>
  ite' ((!r2) || r1.isNone) (
  R false) <|
  ite' ((if (8:Int) < ((d.len : Nat) : Int) then (8:Int) else ((d.len : Nat) : Int)) == (0:Int)) (
  R true) <|
  loop [.int .i64] (0:Int) fun J3 (y4 : Int) =>
  ite' (decide (y4 < (if (8:Int) < ((d.len : Nat) : Int) then (8:Int) else ((d.len : Nat) : Int)))) (
  idx d y4 1 fun q5 =>
  ld [.bool] q5 fun (x6 : Bool) =>
  call Try.prog N_lists_Lists_Push [.lf (.ptr r1), .lf (.int .i64 y4), .lf (.bool x6)] [.lf (.int .i64)] fun (r7 : Int) =>
  J3 (IntKind.i64.wrap (y4 + (1:Int)))) <|
  req ((IntKind.u64.wrap (if (8:Int) < ((d.len : Nat) : Int) then (8:Int) else ((d.len : Nat) : Int))) ≠ 0) <|
  call Try.prog N_canterlaw19_told [.lf (.ptr r1), .lf (.int .i64 (99:Int))] [.lf .sl, .lf .sl] fun (r8 : Sl × Sl) =>
  call Try.prog N_lists_Lists_Remove [.lf (.ptr r1), .lf (.int .i64 (IntKind.i64.wrap ((IntKind.u64.wrap o).tmod (IntKind.u64.wrap (if (8:Int) < ((d.len : Nat) : Int) then (8:Int) else ((d.len : Nat) : Int))))))] [.lf .bool] fun (r9 : Bool) =>
  call Try.prog N_canterlaw19_told [.lf (.ptr r1), .lf (.int .i64 (99:Int))] [.lf .sl, .lf .sl] fun (r10 : Sl × Sl) =>
  loop [.sl, .int .i64] (⟨none, 0, 0⟩, (0:Int)) fun J11 (y12 : Sl × Int) =>
  ite' (decide (y12.2 < ((r8.1.len : Nat) : Int))) (
  idx r8.1 y12.2 1 fun q13 =>
  ld [.int .i64] q13 fun (x14 : Int) =>
  ite' (x14 != (IntKind.i64.wrap ((IntKind.u64.wrap o).tmod (IntKind.u64.wrap (if (8:Int) < ((d.len : Nat) : Int) then (8:Int) else ((d.len : Nat) : Int)))))) (
  idx r8.1 y12.2 1 fun q15 =>
  ld [.int .i64] q15 fun (x16 : Int) =>
  new [.int .i64 x16] fun n17 =>
  app 1 y12.1 ⟨some ⟨n17, 0⟩, 1, 1⟩ fun s18 =>
  J11 (s18, (IntKind.i64.wrap (y12.2 + (1:Int))))) <|
  J11 (y12.1, (IntKind.i64.wrap (y12.2 + (1:Int))))) <|
  ite' (r9 && (((r8.1.len : Nat) : Int) == (if (8:Int) < ((d.len : Nat) : Int) then (8:Int) else ((d.len : Nat) : Int)))) (
  call Try.prog N_canterhelp_Plain_int [.lf (.sl r10.1), .lf (.sl y12.1)] [.lf .bool] fun (r19 : Bool) =>
  ite' r19 (
  call Try.prog N_lists_Lists_Push [.lf (.ptr r1), .lf (.int .i64 (IntKind.i64.wrap ((IntKind.u64.wrap o).tmod (IntKind.u64.wrap (if (8:Int) < ((d.len : Nat) : Int) then (8:Int) else ((d.len : Nat) : Int)))))), .lf (.bool true)] [.lf (.int .i64)] fun (r20 : Int) =>
  ite' (r20 == (0:Int)) (
  call Try.prog N_lists_Lists_Place [.lf (.ptr r1), .lf (.int .i64 (IntKind.i64.wrap ((IntKind.u64.wrap o).tmod (IntKind.u64.wrap (if (8:Int) < ((d.len : Nat) : Int) then (8:Int) else ((d.len : Nat) : Int))))))] [.lf (.int .i64)] fun (r21 : Int) =>
  R (r21 == (1:Int))) <|
  R false) <|
  R false) <|
  R false
theorem sem_canterlaw19_ListsRemove (d : Sl) (o : Int) (R : Rs.T [.lf .bool] → WP) : Same (semF Try.prog Try.f5 (.s .o (.s .o (.s (.s .o (.s (.s .o .o) .o)) (.s .o (.s (.s .o (.s (.s .o .o) .o)) (.s (.s .o (.b (.l [(7, .lf (.int .i64))] (.s (.s .o (.s .o .o)) (.s (.b .o) .o))))) (.s .o (.s .o (.s .o (.s .o (.s .o (.s (.s .o (.b (.l [(13, .lf .sl), (14, .lf (.int .i64))] (.s (.s .o (.s .o .o)) (.s (.b (.s .o (.s .o .o))) .o))))) (.s .o .o))))))))))))) [.lf (.sl d), .lf (.int .i64 o)] [.lf .bool] R) (fun w => W_canterlaw19_ListsRemove d o R w) := ⟨by kernel_rfl⟩
theorem call_canterlaw19_ListsRemove (d : Sl) (o : Int) (R : Rs.T [.lf .bool] → WP) (w : World) (h : W_canterlaw19_ListsRemove d o R w) :
    CallX Try.prog N_canterlaw19_ListsRemove ([.lf (.sl d), .lf (.int .i64 o)].map V1.enc) w fun v w' => ∃ x, v = (retTV (Rs.mk [.lf .bool] x)).enc ∧ R x w' :=
  callX_of_semF Try.func5 (by kernel_rfl) (by kernel_rfl) (sem_canterlaw19_ListsRemove d o R) h


/-- canter/canterlaw19.awake -/
def W_canterlaw19_awake  (R : Rs.T [.lf .bool] → WP) : WP :=
  call Try.prog N_lists_New [] [.lf .ptr] fun (r1 : Option Pt) =>
  join [.bool] (fun J2 =>
  ite' r1.isNone (
  J2 true) <|
  call Try.prog N_lists_Lists_Push [.lf (.ptr r1), .lf (.int .i64 (1:Int)), .lf (.bool false)] [.lf (.int .i64)] fun (r4 : Int) =>
  ite' (r4 != (0:Int)) (
  J2 true) <|
  call Try.prog N_lists_Lists_Push [.lf (.ptr r1), .lf (.int .i64 (2:Int)), .lf (.bool true)] [.lf (.int .i64)] fun (r5 : Int) =>
  J2 (r5 != (0:Int))) fun (y3 : Bool) =>
  ite' y3 (
  R false) <|
  call Try.prog N_lists_Lists_Head [.lf (.ptr r1)] [.lf (.int .i64), .lf .bool, .lf .bool] fun (r6 : Int × Bool × Bool) =>
  call Try.prog N_canterlaw19_told [.lf (.ptr r1), .lf (.int .i64 (9:Int))] [.lf .sl, .lf .sl] fun (r7 : Sl × Sl) =>
  ite' (((r6.1 == (2:Int)) && r6.2.1) && r6.2.2) (
  call Try.prog N_lists_Lists_Place [.lf (.ptr r1), .lf (.int .i64 (1:Int))] [.lf (.int .i64)] fun (r8 : Int) =>
  ite' (r8 == (2:Int)) (
  new [.int .i64 (2:Int), .int .i64 (1:Int)] fun n9 =>
  call Try.prog N_canterhelp_Plain_int [.lf (.sl r7.1), .lf (.sl ⟨some ⟨n9, 0⟩, 2, 2⟩)] [.lf .bool] fun (r10 : Bool) =>
  R r10) <|
  R false) <|
  R false
theorem sem_canterlaw19_awake  (R : Rs.T [.lf .bool] → WP) : Same (semF Try.prog Try.f23 (.s .o (.s .o (.s (.j [(19, .lf .bool)] .o (.s (.s .o .o) .o)) (.s .o (.s .o (.s .o .o)))))) [] [.lf .bool] R) (fun w => W_canterlaw19_awake  R w) := ⟨by kernel_rfl⟩
theorem call_canterlaw19_awake  (R : Rs.T [.lf .bool] → WP) (w : World) (h : W_canterlaw19_awake  R w) :
    CallX Try.prog N_canterlaw19_awake ([].map V1.enc) w fun v w' => ∃ x, v = (retTV (Rs.mk [.lf .bool] x)).enc ∧ R x w' :=
  callX_of_semF Try.func23 (by kernel_rfl) (by kernel_rfl) (sem_canterlaw19_awake  R) h


/-- canter/canterlaw19.told -/
def W_canterlaw19_told (l : Option Pt) (most : Int) (R : Rs.T [.lf .sl, .lf .sl] → WP) : WP :=
  new [.int .i64 most] fun n1 =>
  new [.sl ⟨none, 0, 0⟩] fun n2 =>
  new [.sl ⟨none, 0, 0⟩] fun n3 =>
  call Try.prog N_lists_Lists_All [.lf (.ptr l)] [.lf .fn] fun (r4 : Fv) =>
  ite' (isNilF r4) (
  R (⟨none, 0, 0⟩, ⟨none, 0, 0⟩)) <|
  callv Try.prog r4 [.lf (.fn (.mk (.func N_canterlaw19_told_c1) [] [V1.enc (.lf (.ptr (some ⟨n2, 0⟩))), V1.enc (.lf (.ptr (some ⟨n3, 0⟩))), V1.enc (.lf (.ptr (some ⟨n1, 0⟩)))]))] [] fun (r5 : Unit) =>
  drw <|
  ld [.sl] ⟨n2, 0⟩ fun (x6 : Sl) =>
  ld [.sl] ⟨n3, 0⟩ fun (x7 : Sl) =>
  chk ⟨n3, 0⟩ (Ks.mk [.sl] x7) <|
  R (x6, x7)
theorem sem_canterlaw19_told (l : Option Pt) (most : Int) (R : Rs.T [.lf .sl, .lf .sl] → WP) : Same (semF Try.prog Try.f25 (.s .o (.s .o (.s .o (.s .o (.s (.s .o (.s (.s .o .o) .o)) (.s .o (.s (.d (.f 0 [6] (.f 1 [7] (.w 2 [16] (.w 3 [17] .fin))))) .o))))))) [.lf (.ptr l), .lf (.int .i64 most)] [.lf .sl, .lf .sl] R) (fun w => W_canterlaw19_told l most R w) := ⟨by kernel_rfl⟩
theorem call_canterlaw19_told (l : Option Pt) (most : Int) (R : Rs.T [.lf .sl, .lf .sl] → WP) (w : World) (h : W_canterlaw19_told l most R w) :
    CallX Try.prog N_canterlaw19_told ([.lf (.ptr l), .lf (.int .i64 most)].map V1.enc) w fun v w' => ∃ x, v = (retTV (Rs.mk [.lf .sl, .lf .sl] x)).enc ∧ R x w' :=
  callX_of_semF Try.func25 (by kernel_rfl) (by kernel_rfl) (sem_canterlaw19_told l most R) h


/-- canter/canterlaw19.told$1 -/
def W_canterlaw19_told_c1 (sock : Int) (is : Bool) (c0 : Pt) (c1 : Pt) (c2 : Pt) (R : Rs.T [.lf .bool] → WP) : WP :=
  drw <|
  ld [.sl] c0 fun (x1 : Sl) =>
  ld [.sl] c1 fun (x2 : Sl) =>
  both (
  new [.int .i64 sock] fun n3 =>
  chk c1 (Ks.mk [.sl] x2) <|
  chk c0 (Ks.mk [.sl] x1) <|
  both (
  app 1 x1 ⟨some ⟨n3, 0⟩, 1, 1⟩ fun s4 =>
  chk c1 (Ks.mk [.sl] x2) <|
  new [.bool is] fun n5 =>
  chk c1 (Ks.mk [.sl] x2) <|
  chk c0 (Ks.mk [.sl] x1) <|
  app 1 x2 ⟨some ⟨n5, 0⟩, 1, 1⟩ fun s6 =>
  st c0 [.sl s4] <|
  st c1 [.sl s6] <|
  ld [.sl] c0 fun (x7 : Sl) =>
  ld [.int .i64] c2 fun (x8 : Int) =>
  R (decide (((x7.len : Nat) : Int) < x8))) <|
  new [.bool is] fun n9 =>
  chk c1 (Ks.mk [.sl] x2) <|
  chk c0 (Ks.mk [.sl] x1) <|
  app 1 x1 ⟨some ⟨n3, 0⟩, 1, 1⟩ fun s10 =>
  chk c1 (Ks.mk [.sl] x2) <|
  app 1 x2 ⟨some ⟨n9, 0⟩, 1, 1⟩ fun s11 =>
  st c0 [.sl s10] <|
  st c1 [.sl s11] <|
  ld [.sl] c0 fun (x12 : Sl) =>
  ld [.int .i64] c2 fun (x13 : Int) =>
  R (decide (((x12.len : Nat) : Int) < x13))) <|
  new [.bool is] fun n14 =>
  chk c1 (Ks.mk [.sl] x2) <|
  chk c0 (Ks.mk [.sl] x1) <|
  new [.int .i64 sock] fun n15 =>
  chk c1 (Ks.mk [.sl] x2) <|
  chk c0 (Ks.mk [.sl] x1) <|
  app 1 x1 ⟨some ⟨n15, 0⟩, 1, 1⟩ fun s16 =>
  chk c1 (Ks.mk [.sl] x2) <|
  app 1 x2 ⟨some ⟨n14, 0⟩, 1, 1⟩ fun s17 =>
  st c0 [.sl s16] <|
  st c1 [.sl s17] <|
  ld [.sl] c0 fun (x18 : Sl) =>
  ld [.int .i64] c2 fun (x19 : Int) =>
  R (decide (((x18.len : Nat) : Int) < x19))
theorem sem_canterlaw19_told_c1 (sock : Int) (is : Bool) (c0 : Pt) (c1 : Pt) (c2 : Pt) (R : Rs.T [.lf .bool] → WP) : Same (semF Try.prog Try.f56 (.s .o (.s (.d (.f 0 [2] (.f 1 [0] (.f 4 [3] (.f 5 [1] (.wa 2 [9] (.wa 3 [8, 10] (.w 6 [13] (.w 7 [12, 14] (.w 8 [2, 11] (.w 9 [3, 15] .fin)))) (.w 6 [13] (.w 3 [8, 10] (.w 7 [12, 14] (.w 8 [2, 11] (.w 9 [3, 15] .fin)))))) (.w 6 [13] (.w 2 [9] (.w 3 [8, 10] (.w 7 [12, 14] (.w 8 [2, 11] (.w 9 [3, 15] .fin)))))))))))) (.s .o .o))) [.lf (.int .i64 sock), .lf (.bool is), .lf (.ptr (some c0)), .lf (.ptr (some c1)), .lf (.ptr (some c2))] [.lf .bool] R) (fun w => W_canterlaw19_told_c1 sock is c0 c1 c2 R w) := ⟨by kernel_rfl⟩
theorem call_canterlaw19_told_c1 (sock : Int) (is : Bool) (c0 : Pt) (c1 : Pt) (c2 : Pt) (R : Rs.T [.lf .bool] → WP) (w : World) (h : W_canterlaw19_told_c1 sock is c0 c1 c2 R w) :
    CallX Try.prog N_canterlaw19_told_c1 ([.lf (.int .i64 sock), .lf (.bool is), .lf (.ptr (some c0)), .lf (.ptr (some c1)), .lf (.ptr (some c2))].map V1.enc) w fun v w' => ∃ x, v = (retTV (Rs.mk [.lf .bool] x)).enc ∧ R x w' :=
  callX_of_semF Try.func56 (by kernel_rfl) (by kernel_rfl) (sem_canterlaw19_told_c1 sock is c0 c1 c2 R) h


/-- (*canter/lists.Lists).All -/
def W_lists_Lists_All (l : Option Pt) (R : Rs.T [.lf .fn] → WP) : WP :=
  new [.ptr l] fun n1 =>
  R (.mk (.func N_lists_Lists_All_c1) [] [V1.enc (.lf (.ptr (some ⟨n1, 0⟩)))])
theorem sem_lists_Lists_All (l : Option Pt) (R : Rs.T [.lf .fn] → WP) : Same (semF Try.prog Try.f55 (.s .o (.s .o .o)) [.lf (.ptr l)] [.lf .fn] R) (fun w => W_lists_Lists_All l R w) := ⟨by kernel_rfl⟩
theorem call_lists_Lists_All (l : Option Pt) (R : Rs.T [.lf .fn] → WP) (w : World) (h : W_lists_Lists_All l R w) :
    CallX Try.prog N_lists_Lists_All ([.lf (.ptr l)].map V1.enc) w fun v w' => ∃ x, v = (retTV (Rs.mk [.lf .fn] x)).enc ∧ R x w' :=
  callX_of_semF Try.func55 (by kernel_rfl) (by kernel_rfl) (sem_lists_Lists_All l R) h


/-- (*canter/lists.Lists).All$1 -/
def W_lists_Lists_All_c1 (yield : Fv) (c0 : Pt) (R : Rs.T [] → WP) : WP :=
  ld [.ptr] c0 fun (x1 : Option Pt) =>
  ite' x1.isNone (
  R ()) <|
  ld [.ptr] c0 fun (x2 : Option Pt) =>
  deref x2 fun q3 =>
  ld [.sl] q3 fun (x4 : Sl) =>
  drw <|
  ld [.ptr] c0 fun (x5 : Option Pt) =>
  ld [.ptr] c0 fun (x6 : Option Pt) =>
  deref x5 fun q7 =>
  deref x6 fun q8 =>
  ld [.sl] q7 fun (x9 : Sl) =>
  ld [.sl] ⟨q8.b, q8.o + 1⟩ fun (x10 : Sl) =>
  new [.sl x9, .sl x10] fun n11 =>
  call Try.prog N_slices_Concat_sintint [.lf (.sl ⟨some ⟨n11, 0⟩, 2, 2⟩)] [.lf .sl] fun (r12 : Sl) =>
  loop [.int .i64] (0:Int) fun J13 (y14 : Int) =>
  ite' (decide (y14 < ((r12.len : Nat) : Int))) (
  idx r12 y14 1 fun q15 =>
  ld [.int .i64] q15 fun (x16 : Int) =>
  callv Try.prog yield [.lf (.int .i64 x16), .lf (.bool (decide (y14 < ((x4.len : Nat) : Int))))] [.lf .bool] fun (r17 : Bool) =>
  ite' (!r17) (
  R ()) <|
  J13 (IntKind.i64.wrap (y14 + (1:Int)))) <|
  R ()
theorem sem_lists_Lists_All_c1 (yield : Fv) (c0 : Pt) (R : Rs.T [] → WP) : Same (semF Try.prog Try.f73 (.s (.s .o (.s .o .o)) (.s .o (.s (.d (.f 0 [1] (.f 4 [1] (.f 11 [] (.f 1 [13] (.f 5 [17] (.f 2 [14] (.f 6 [18] (.f 3 [15] (.f 7 [19] (.w 8 [16, 20] (.w 9 [21] (.f 10 [22] .fin))))))))))))) (.b (.l [(24, .lf (.int .i64))] (.s .o (.s (.s .o .o) (.s (.b (.s .o (.s .o (.s .o .o)))) .o)))))))) [.lf (.fn yield), .lf (.ptr (some c0))] [] R) (fun w => W_lists_Lists_All_c1 yield c0 R w) := ⟨by kernel_rfl⟩
theorem call_lists_Lists_All_c1 (yield : Fv) (c0 : Pt) (R : Rs.T [] → WP) (w : World) (h : W_lists_Lists_All_c1 yield c0 R w) :
    CallX Try.prog N_lists_Lists_All_c1 ([.lf (.fn yield), .lf (.ptr (some c0))].map V1.enc) w fun v w' => ∃ x, v = (retTV (Rs.mk [] x)).enc ∧ R x w' :=
  callX_of_semF Try.func73 (by kernel_rfl) (by kernel_rfl) (sem_lists_Lists_All_c1 yield c0 R) h


/-- (*canter/lists.Lists).Head -/
def W_lists_Lists_Head (n0 : Nat) (l : Option Pt) (R : Rs.T [.lf (.int .i64), .lf .bool, .lf .bool] → WP) : WP :=
  new [.int .i64 (0:Int)] fun n1 =>
  new [.bool false] fun n2 =>
  new [.bool false] fun n3 =>
  join [] (fun J4 =>
  call Try.prog N_lists_Lists_All [.lf (.ptr l)] [.lf .fn] fun (r6 : Fv) =>
  rangeF Try.prog r6 [.lf (.int .i64), .lf .bool] (fun (v7 : Int × Bool) mid8 next9 jump10 =>
  mid8 <|
  st ⟨n1, 0⟩ [.int .i64 v7.1] <|
  st ⟨n2, 0⟩ [.bool v7.2] <|
  st ⟨n3, 0⟩ [.bool true] <|
  jump10 1) fun i11 => isBy 0 i11 (J4 ()) <|
  isBy 1 i11 (ld [.int .i64] ⟨n1, 0⟩ fun (x12 : Int) =>
  ld [.bool] ⟨n2, 0⟩ fun (x13 : Bool) =>
  ld [.bool] ⟨n3, 0⟩ fun (x14 : Bool) =>
  leave n0 <| R (x12, x13, x14)) <|
  wno) fun (y5 : Unit) =>
  st ⟨n1, 0⟩ [.int .i64 (0:Int)] <|
  st ⟨n2, 0⟩ [.bool false] <|
  st ⟨n3, 0⟩ [.bool false] <|
  ld [.int .i64] ⟨n1, 0⟩ fun (x15 : Int) =>
  ld [.bool] ⟨n2, 0⟩ fun (x16 : Bool) =>
  ld [.bool] ⟨n3, 0⟩ fun (x17 : Bool) =>
  leave n0 <| R (x15, x16, x17)
theorem sem_lists_Lists_Head (l : Option Pt) (R : Rs.T [.lf (.int .i64), .lf .bool, .lf .bool] → WP) : Same (semF Try.prog Try.f35 (.s .o (.j [] (.s .o (.b (.r [.lf (.int .i64), .lf .bool] (.s .o .o) (.b (.s .o .o))))) (.s .o .o))) [.lf (.ptr l)] [.lf (.int .i64), .lf .bool, .lf .bool] R) (fun w => W_lists_Lists_Head w.heap.size l R w) := ⟨by kernel_rfl⟩
theorem call_lists_Lists_Head (l : Option Pt) (R : Rs.T [.lf (.int .i64), .lf .bool, .lf .bool] → WP) (w : World) (h : W_lists_Lists_Head w.heap.size l R w) :
    CallX Try.prog N_lists_Lists_Head ([.lf (.ptr l)].map V1.enc) w fun v w' => ∃ x, v = (retTV (Rs.mk [.lf (.int .i64), .lf .bool, .lf .bool] x)).enc ∧ R x w' :=
  callX_of_semF Try.func35 (by kernel_rfl) (by kernel_rfl) (sem_lists_Lists_Head l R) h


/-- (*canter/lists.Lists).Place -/
def W_lists_Lists_Place (n0 : Nat) (l : Option Pt) (sock : Int) (R : Rs.T [.lf (.int .i64)] → WP) : WP :=
  new [.int .i64 sock] fun n1 =>
  new [.int .i64 (0:Int)] fun n2 =>
  call Try.prog N_lists_Lists_All [.lf (.ptr l)] [.lf .fn] fun (r3 : Fv) =>
  rangeF Try.prog r3 [.lf (.int .i64), .lf .bool] (fun (v4 : Int × Bool) mid5 next6 jump7 =>
  mid5 <|
  ld [.int .i64] ⟨n1, 0⟩ fun (x8 : Int) =>
  ite' (v4.1 != x8) (
  next6) <|
  ite' v4.2 (
  st ⟨n2, 0⟩ [.int .i64 (1:Int)] <|
  jump7 1) <|
  st ⟨n2, 0⟩ [.int .i64 (2:Int)] <|
  jump7 1) fun i9 => isBy 0 i9 (st ⟨n2, 0⟩ [.int .i64 (0:Int)] <|
  ld [.int .i64] ⟨n2, 0⟩ fun (x10 : Int) =>
  leave n0 <| R x10) <|
  isBy 1 i9 (ld [.int .i64] ⟨n2, 0⟩ fun (x11 : Int) =>
  leave n0 <| R x11) <|
  wno
theorem sem_lists_Lists_Place (l : Option Pt) (sock : Int) (R : Rs.T [.lf (.int .i64)] → WP) : Same (semF Try.prog Try.f28 (.s .o (.s (.s .o (.b (.r [.lf (.int .i64), .lf .bool] (.s .o .o) (.b (.s (.s .o (.s .o .o)) (.s (.s .o (.s (.s .o .o) .o)) (.s .o .o))))))) (.s .o .o))) [.lf (.ptr l), .lf (.int .i64 sock)] [.lf (.int .i64)] R) (fun w => W_lists_Lists_Place w.heap.size l sock R w) := ⟨by kernel_rfl⟩
theorem call_lists_Lists_Place (l : Option Pt) (sock : Int) (R : Rs.T [.lf (.int .i64)] → WP) (w : World) (h : W_lists_Lists_Place w.heap.size l sock R w) :
    CallX Try.prog N_lists_Lists_Place ([.lf (.ptr l), .lf (.int .i64 sock)].map V1.enc) w fun v w' => ∃ x, v = (retTV (Rs.mk [.lf (.int .i64)] x)).enc ∧ R x w' :=
  callX_of_semF Try.func28 (by kernel_rfl) (by kernel_rfl) (sem_lists_Lists_Place l sock R) h


/-- (*canter/lists.Lists).Push -/
def W_lists_Lists_Push (l : Option Pt) (sock : Int) (fresh : Bool) (R : Rs.T [.lf (.int .i64)] → WP) : WP :=
  ite' l.isNone (
  R (2:Int)) <|
  ite' ((decide (sock < (0:Int))) || (decide (sock ≥ (8:Int)))) (
  R (8:Int)) <|
  call Try.prog N_lists_Lists_Place [.lf (.ptr l), .lf (.int .i64 sock)] [.lf (.int .i64)] fun (r1 : Int) =>
  ite' (r1 != (0:Int)) (
  R (6:Int)) <|
  ite' fresh (
  deref l fun q2 =>
  ld [.sl] q2 fun (x3 : Sl) =>
  new [.int .i64 sock] fun n4 =>
  app 1 x3 ⟨some ⟨n4, 0⟩, 1, 1⟩ fun s5 =>
  deref l fun q6 =>
  st q6 [.sl s5] <|
  R (0:Int)) <|
  deref l fun q7 =>
  ld [.sl] ⟨q7.b, q7.o + 1⟩ fun (x8 : Sl) =>
  new [.int .i64 sock] fun n9 =>
  app 1 x8 ⟨some ⟨n9, 0⟩, 1, 1⟩ fun s10 =>
  deref l fun q11 =>
  st ⟨q11.b, q11.o + 1⟩ [.sl s10] <|
  R (0:Int)
theorem sem_lists_Lists_Push (l : Option Pt) (sock : Int) (fresh : Bool) (R : Rs.T [.lf (.int .i64)] → WP) : Same (semF Try.prog Try.f24 (.s .o (.s (.b (.s .o (.s (.s .o .o) (.s .o (.s (.s .o .o) (.s .o (.s (.s .o .o) (.s .o (.s .o .o))))))))) (.s .o .o))) [.lf (.ptr l), .lf (.int .i64 sock), .lf (.bool fresh)] [.lf (.int .i64)] R) (fun w => W_lists_Lists_Push l sock fresh R w) := ⟨by kernel_rfl⟩
theorem call_lists_Lists_Push (l : Option Pt) (sock : Int) (fresh : Bool) (R : Rs.T [.lf (.int .i64)] → WP) (w : World) (h : W_lists_Lists_Push l sock fresh R w) :
    CallX Try.prog N_lists_Lists_Push ([.lf (.ptr l), .lf (.int .i64 sock), .lf (.bool fresh)].map V1.enc) w fun v w' => ∃ x, v = (retTV (Rs.mk [.lf (.int .i64)] x)).enc ∧ R x w' :=
  callX_of_semF Try.func24 (by kernel_rfl) (by kernel_rfl) (sem_lists_Lists_Push l sock fresh R) h


/-- (*canter/lists.Lists).Remove -/
def W_lists_Lists_Remove (l : Option Pt) (sock : Int) (R : Rs.T [.lf .bool] → WP) : WP :=
  new [.int .i64 sock] fun n1 =>
  ld [.int .i64] ⟨n1, 0⟩ fun (x2 : Int) =>
  call Try.prog N_lists_Lists_Place [.lf (.ptr l), .lf (.int .i64 x2)] [.lf (.int .i64)] fun (r3 : Int) =>
  ite' (r3 == (0:Int)) (
  R false) <|
  drw <|
  deref l fun q4 =>
  deref l fun q5 =>
  ld [.sl] q4 fun (x6 : Sl) =>
  ld [.sl] ⟨q5.b, q5.o + 1⟩ fun (x7 : Sl) =>
  call Try.prog N_slices_DeleteFunc_sintint [.lf (.sl x6), .lf (.fn (.mk (.func N_lists_Lists_Remove_c1) [] [V1.enc (.lf (.ptr (some ⟨n1, 0⟩)))]))] [.lf .sl] fun (r8 : Sl) =>
  chk ⟨q5.b, q5.o + 1⟩ (Ks.mk [.sl] x7) <|
  call Try.prog N_slices_DeleteFunc_sintint [.lf (.sl x7), .lf (.fn (.mk (.func N_lists_Lists_Remove_c1) [] [V1.enc (.lf (.ptr (some ⟨n1, 0⟩)))]))] [.lf .sl] fun (r9 : Sl) =>
  deref l fun q10 =>
  st q10 [.sl r8] <|
  deref l fun q11 =>
  st ⟨q11.b, q11.o + 1⟩ [.sl r9] <|
  R true
theorem sem_lists_Lists_Remove (l : Option Pt) (sock : Int) (R : Rs.T [.lf .bool] → WP) : Same (semF Try.prog Try.f26 (.s .o (.s (.s .o (.s (.s .o .o) .o)) (.s .o (.s (.d (.f 0 [0] (.f 1 [0] (.f 2 [0] (.f 6 [5] (.f 8 [0] (.f 12 [5] (.f 3 [13] (.f 9 [19] (.f 4 [14] (.f 10 [20] (.f 5 [15] (.f 11 [21] (.w 7 [16, 17] (.w 13 [22, 23] (.f 14 [11] (.f 15 [25] (.w 16 [18, 26] (.f 17 [12] (.f 18 [27] (.w 19 [24, 28] .fin))))))))))))))))))))) (.s .o .o))))) [.lf (.ptr l), .lf (.int .i64 sock)] [.lf .bool] R) (fun w => W_lists_Lists_Remove l sock R w) := ⟨by kernel_rfl⟩
theorem call_lists_Lists_Remove (l : Option Pt) (sock : Int) (R : Rs.T [.lf .bool] → WP) (w : World) (h : W_lists_Lists_Remove l sock R w) :
    CallX Try.prog N_lists_Lists_Remove ([.lf (.ptr l), .lf (.int .i64 sock)].map V1.enc) w fun v w' => ∃ x, v = (retTV (Rs.mk [.lf .bool] x)).enc ∧ R x w' :=
  callX_of_semF Try.func26 (by kernel_rfl) (by kernel_rfl) (sem_lists_Lists_Remove l sock R) h


/-- (*canter/lists.Lists).Remove$1 -/
def W_lists_Lists_Remove_c1 (s : Int) (c0 : Pt) (R : Rs.T [.lf .bool] → WP) : WP :=
  ld [.int .i64] c0 fun (x1 : Int) =>
  R (s == x1)
theorem sem_lists_Lists_Remove_c1 (s : Int) (c0 : Pt) (R : Rs.T [.lf .bool] → WP) : Same (semF Try.prog Try.f57 (.s .o (.s .o .o)) [.lf (.int .i64 s), .lf (.ptr (some c0))] [.lf .bool] R) (fun w => W_lists_Lists_Remove_c1 s c0 R w) := ⟨by kernel_rfl⟩
theorem call_lists_Lists_Remove_c1 (s : Int) (c0 : Pt) (R : Rs.T [.lf .bool] → WP) (w : World) (h : W_lists_Lists_Remove_c1 s c0 R w) :
    CallX Try.prog N_lists_Lists_Remove_c1 ([.lf (.int .i64 s), .lf (.ptr (some c0))].map V1.enc) w fun v w' => ∃ x, v = (retTV (Rs.mk [.lf .bool] x)).enc ∧ R x w' :=
  callX_of_semF Try.func57 (by kernel_rfl) (by kernel_rfl) (sem_lists_Lists_Remove_c1 s c0 R) h


/-- canter/lists.New -/
def W_lists_New  (R : Rs.T [.lf .ptr] → WP) : WP :=
  new [.sl ⟨none, 0, 0⟩, .sl ⟨none, 0, 0⟩] fun n1 =>
  R (some ⟨n1, 0⟩)
theorem sem_lists_New  (R : Rs.T [.lf .ptr] → WP) : Same (semF Try.prog Try.f22 (.s .o (.s .o .o)) [] [.lf .ptr] R) (fun w => W_lists_New  R w) := ⟨by kernel_rfl⟩
theorem call_lists_New  (R : Rs.T [.lf .ptr] → WP) (w : World) (h : W_lists_New  R w) :
    CallX Try.prog N_lists_New ([].map V1.enc) w fun v w' => ∃ x, v = (retTV (Rs.mk [.lf .ptr] x)).enc ∧ R x w' :=
  callX_of_semF Try.func22 (by kernel_rfl) (by kernel_rfl) (sem_lists_New  R) h


/-- slices.Concat[[]int,int] -/
def W_slices_Concat_sintint (slices : Sl) (R : Rs.T [.lf .sl] → WP) : WP :=
  loop [.int .i64, .int .i64] ((0:Int), (0:Int)) fun J1 (y2 : Int × Int) =>
  ite' (decide (y2.2 < ((slices.len : Nat) : Int))) (
  idx slices y2.2 1 fun q3 =>
  ld [.sl] q3 fun (x4 : Sl) =>
  ite' (decide ((IntKind.i64.wrap (y2.1 + ((x4.len : Nat) : Int))) < (0:Int))) (
  wno) <|
  J1 ((IntKind.i64.wrap (y2.1 + ((x4.len : Nat) : Int))), (IntKind.i64.wrap (y2.2 + (1:Int))))) <|
  call Try.prog N_slices_Grow_sintint [.lf (.sl ⟨none, 0, 0⟩), .lf (.int .i64 y2.1)] [.lf .sl] fun (r5 : Sl) =>
  loop [.sl, .int .i64] (r5, (0:Int)) fun J6 (y7 : Sl × Int) =>
  ite' (decide (y7.2 < ((slices.len : Nat) : Int))) (
  idx slices y7.2 1 fun q8 =>
  ld [.sl] q8 fun (x9 : Sl) =>
  app 1 y7.1 x9 fun s10 =>
  J6 (s10, (IntKind.i64.wrap (y7.2 + (1:Int))))) <|
  R y7.1
theorem sem_slices_Concat_sintint (slices : Sl) (R : Rs.T [.lf .sl] → WP) : Same (semF Try.prog Try.f74 (.s .o (.s .o (.s (.s .o (.b (.l [(3, .lf (.int .i64)), (11, .lf (.int .i64))] (.s .o (.s (.s .o .o) (.s (.b (.s .o (.s .o (.s .o (.s .o .o))))) .o)))))) (.s .o (.s (.s .o (.b (.l [(6, .lf .sl), (27, .lf (.int .i64))] (.s .o (.s (.s .o .o) (.s (.b (.s .o .o)) .o)))))) (.s .o .o)))))) [.lf (.sl slices)] [.lf .sl] R) (fun w => W_slices_Concat_sintint slices R w) := ⟨by kernel_rfl⟩
theorem call_slices_Concat_sintint (slices : Sl) (R : Rs.T [.lf .sl] → WP) (w : World) (h : W_slices_Concat_sintint slices R w) :
    CallX Try.prog N_slices_Concat_sintint ([.lf (.sl slices)].map V1.enc) w fun v w' => ∃ x, v = (retTV (Rs.mk [.lf .sl] x)).enc ∧ R x w' :=
  callX_of_semF Try.func74 (by kernel_rfl) (by kernel_rfl) (sem_slices_Concat_sintint slices R) h


/-- slices.DeleteFunc[[]int,int] -/
def W_slices_DeleteFunc_sintint (s : Sl) (del : Fv) (R : Rs.T [.lf .sl] → WP) : WP :=
  call Try.prog N_slices_IndexFunc_sintint [.lf (.sl s), .lf (.fn del)] [.lf (.int .i64)] fun (r1 : Int) =>
  ite' (r1 == (-1:Int)) (
  R s) <|
  loop [.int .i64, .int .i64] (r1, (IntKind.i64.wrap (r1 + (1:Int)))) fun J2 (y3 : Int × Int) =>
  ite' (decide (y3.2 < ((s.len : Nat) : Int))) (
  idx s y3.2 1 fun q4 =>
  ld [.int .i64] q4 fun (x5 : Int) =>
  callv Try.prog del [.lf (.int .i64 x5)] [.lf .bool] fun (r6 : Bool) =>
  ite' (!r6) (
  idx s y3.1 1 fun q7 =>
  st q7 [.int .i64 x5] <|
  J2 ((IntKind.i64.wrap (y3.1 + (1:Int))), (IntKind.i64.wrap (y3.2 + (1:Int))))) <|
  J2 (y3.1, (IntKind.i64.wrap (y3.2 + (1:Int))))) <|
  slc s (some y3.1) none none 1 fun s8 =>
  clr [.int .i64 (0:Int)] s8 <|
  slc s none (some y3.1) none 1 fun s9 =>
  R s9
theorem sem_slices_DeleteFunc_sintint (s : Sl) (del : Fv) (R : Rs.T [.lf .sl] → WP) : Same (semF Try.prog Try.f58 (.s .o (.s .o (.s (.s .o (.s (.s .o .o) .o)) (.s (.s .o (.b (.l [(5, .lf (.int .i64)), (6, .lf (.int .i64))] (.s (.s .o (.s .o .o)) (.s (.b (.s .o (.s .o (.s (.s .o .o) .o)))) .o))))) (.s .o (.s .o .o)))))) [.lf (.sl s), .lf (.fn del)] [.lf .sl] R) (fun w => W_slices_DeleteFunc_sintint s del R w) := ⟨by kernel_rfl⟩
theorem call_slices_DeleteFunc_sintint (s : Sl) (del : Fv) (R : Rs.T [.lf .sl] → WP) (w : World) (h : W_slices_DeleteFunc_sintint s del R w) :
    CallX Try.prog N_slices_DeleteFunc_sintint ([.lf (.sl s), .lf (.fn del)].map V1.enc) w fun v w' => ∃ x, v = (retTV (Rs.mk [.lf .sl] x)).enc ∧ R x w' :=
  callX_of_semF Try.func58 (by kernel_rfl) (by kernel_rfl) (sem_slices_DeleteFunc_sintint s del R) h


/-- slices.Grow[[]int,int] -/
def W_slices_Grow_sintint (s : Sl) (n : Int) (R : Rs.T [.lf .sl] → WP) : WP :=
  join [] (fun J1 =>
  ite' (decide (n < (0:Int))) (
  wno) <|
  J1 ()) fun (y2 : Unit) =>
  ite' (decide ((IntKind.i64.wrap (n - (IntKind.i64.wrap (((s.cp : Nat) : Int) - ((s.len : Nat) : Int))))) > (0:Int))) (
  slc s none (some ((s.cp : Nat) : Int)) none 1 fun s3 =>
  appz [.int .i64 (0:Int)] 1 s3 (IntKind.i64.wrap (n - (IntKind.i64.wrap (((s.cp : Nat) : Int) - ((s.len : Nat) : Int))))) fun s4 =>
  slc s4 none (some ((s.len : Nat) : Int)) none 1 fun s5 =>
  R s5) <|
  R s
theorem sem_slices_Grow_sintint (s : Sl) (n : Int) (R : Rs.T [.lf .sl] → WP) : Same (semF Try.prog Try.f80 (.s .o (.j [] (.s .o (.s .o .o)) (.s (.s .o (.s .o (.s .o .o))) (.s .o .o)))) [.lf (.sl s), .lf (.int .i64 n)] [.lf .sl] R) (fun w => W_slices_Grow_sintint s n R w) := ⟨by kernel_rfl⟩
theorem call_slices_Grow_sintint (s : Sl) (n : Int) (R : Rs.T [.lf .sl] → WP) (w : World) (h : W_slices_Grow_sintint s n R w) :
    CallX Try.prog N_slices_Grow_sintint ([.lf (.sl s), .lf (.int .i64 n)].map V1.enc) w fun v w' => ∃ x, v = (retTV (Rs.mk [.lf .sl] x)).enc ∧ R x w' :=
  callX_of_semF Try.func80 (by kernel_rfl) (by kernel_rfl) (sem_slices_Grow_sintint s n R) h

/-- slices.IndexFunc[[]int,int] -/
def W_slices_IndexFunc_sintint (s : Sl) (f : Fv) (R : Rs.T [.lf (.int .i64)] → WP) : WP :=
  loop [.int .i64] (0:Int) fun J1 (y2 : Int) =>
  ite' (decide (y2 < ((s.len : Nat) : Int))) (
  idx s y2 1 fun q3 =>
  ld [.int .i64] q3 fun (x4 : Int) =>
  callv Try.prog f [.lf (.int .i64 x4)] [.lf .bool] fun (r5 : Bool) =>
  ite' r5 (
  R y2) <|
  J1 (IntKind.i64.wrap (y2 + (1:Int)))) <|
  R (-1:Int)
theorem sem_slices_IndexFunc_sintint (s : Sl) (f : Fv) (R : Rs.T [.lf (.int .i64)] → WP) : Same (semF Try.prog Try.f75 (.s .o (.s (.s .o (.b (.l [(8, .lf (.int .i64))] (.s .o (.s (.s .o .o) (.s (.b (.s .o (.s .o (.s (.s .o .o) .o)))) .o)))))) (.s .o .o))) [.lf (.sl s), .lf (.fn f)] [.lf (.int .i64)] R) (fun w => W_slices_IndexFunc_sintint s f R w) := ⟨by kernel_rfl⟩
theorem call_slices_IndexFunc_sintint (s : Sl) (f : Fv) (R : Rs.T [.lf (.int .i64)] → WP) (w : World) (h : W_slices_IndexFunc_sintint s f R w) :
    CallX Try.prog N_slices_IndexFunc_sintint ([.lf (.sl s), .lf (.fn f)].map V1.enc) w fun v w' => ∃ x, v = (retTV (Rs.mk [.lf (.int .i64)] x)).enc ∧ R x w' :=
  callX_of_semF Try.func75 (by kernel_rfl) (by kernel_rfl) (sem_slices_IndexFunc_sintint s f R) h



end Go.X
